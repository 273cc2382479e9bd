/-
  Texts that the proof of EditDiffs leans on, part 7: contracts of functions, and plain laws.
-/
import Derived.Test.YtjokcagggmjgmaaGreatMEditDiffs6
/-! DifE -/
namespace Go.Proofs.YtjokcagggmjgmaaGreat
open Go.RowKit
set_option linter.unusedVariables false
set_option linter.unusedSimpArgs false
set_option maxRecDepth 100000

set_option maxHeartbeats 8000000 in
theorem even_node (W w : World) (B k n ba bb sa sc : Nat) (pre : List Nat) (ka kc : List (Nat × Nat × List En)) (d : List Ch) (hW : W.heap.size ≤ B)
    (c3 : W.cell? ⟨ba, 3, none⟩ = some (.pointer (some ⟨sa, 0, none⟩))) (hsa : SlR W sa k (ka.map kb)) (hka : Kd k n pre (ka.map kl)) (hna : ∀ x ∈ ka, Nd W k x.2.1 x.2.2)
    (c4 : W.cell? ⟨bb, 3, none⟩ = some (.pointer (some ⟨sc, 0, none⟩))) (hsc : SlR W sc k (kc.map kb)) (hkc : Kd k n pre (kc.map kl)) (hnc : ∀ x ∈ kc, Nd W k x.2.1 x.2.2)
    (hi : InvT W B d w) (hN : d.length + (cat (ka.map kl)).length + (cat (kc.map kl)).length ≤ 10000)
    (ih : ∀ (ra rb : Option Nat) (lx ly : List En) (w' : World) (d' : List Ch), RtN W k ra lx → RtN W k rb ly → lx.length + ly.length < (cat (ka.map kl)).length + (cat (kc.map kl)).length → InvT W B d' w' → d'.length + lx.length + ly.length ≤ 10000 → Calls Tryz.prog 78 #[SV B, pv ra, pv rb] w' fun e w'' => StP W B (d' ++ changesL lx ly) w' e w'') :
    Calls Tryz.prog 128 #[SV B, .pointer (some ⟨ba, 0, none⟩), .pointer (some ⟨bb, 0, none⟩)] w fun e w' => StP W B (d ++ changesL (cat (ka.map kl)) (cat (kc.map kl))) w e w' := by
  have HKZ := Lib.hid (And.intro hka.kz hkc.kz)
  have HNA := Lib.hid hna
  have HNC := Lib.hid hnc
  have HIH := Lib.hid ih
  have HD := Lib.hid hN
  have HFA := Lib.hid (fun (i t : Nat) (w' : World) (hb : Below W.heap.size W w') (h1 : ∀ q (h : q < ka.length), q < i → ka[q].1 < t) (h2 : ∀ q (h : q < ka.length), i ≤ q → t ≤ ka[q].1) => (show Calls Tryz.prog 139 #[.pointer (some ⟨ba, 0, none⟩), .int .i64 (t : Nat)] w' fun e w'' => e = .returned (.tuple #[frA (frO ka i), frK (frO ka i)]) ∧ Below w'.heap.size w' w'' from by
    have := nfrom_any w' ba sa k (ka.map kb) (t : Nat) (Below.keeps hb _ _ c3) (hsa.below hb)
    rw [nfromV_eq, fromI_at (i := i) (fun q h hq => by have := h1 q (by simpa using h) hq; rw [List.getElem_map]; exact this) (fun q h hq => by have := h2 q (by simpa using h) hq; rw [List.getElem_map]; exact this)] at this
    exact this))
  have HFC := Lib.hid (fun (i t : Nat) (w' : World) (hb : Below W.heap.size W w') (h1 : ∀ q (h : q < kc.length), q < i → kc[q].1 < t) (h2 : ∀ q (h : q < kc.length), i ≤ q → t ≤ kc[q].1) => (show Calls Tryz.prog 139 #[.pointer (some ⟨bb, 0, none⟩), .int .i64 (t : Nat)] w' fun e w'' => e = .returned (.tuple #[frA (frO kc i), frK (frO kc i)]) ∧ Below w'.heap.size w' w'' from by
    have := nfrom_any w' bb sc k (kc.map kb) (t : Nat) (Below.keeps hb _ _ c4) (hsc.below hb)
    rw [nfromV_eq, fromI_at (i := i) (fun q h hq => by have := h1 q (by simpa using h) hq; rw [List.getElem_map]; exact this) (fun q h hq => by have := h2 q (by simpa using h) hq; rw [List.getElem_map]; exact this)] at this
    exact this))
  have HLT := Lib.hid (And.intro (FromK.of c3 hsa).lt (FromK.of c4 hsc).lt)
  have HSZ := Lib.hid (show (∀ i (h : i < ka.length), ka[i].2.2.length + ([] : List En).length < (cat (ka.map kl)).length + (cat (kc.map kl)).length) ∧ (∀ j (h : j < kc.length), ([] : List En).length + kc[j].2.2.length < (cat (ka.map kl)).length + (cat (kc.map kl)).length) ∧ (∀ i j (h : i < ka.length) (h' : j < kc.length), ka[i].2.2.length + kc[j].2.2.length < (cat (ka.map kl)).length + (cat (kc.map kl)).length) from by
    have h1 : ∀ i (h : i < ka.length), ka[i].2.2.length < (cat (ka.map kl)).length := fun i h => hka.kid_lt (x := kl ka[i]) (List.mem_map_of_mem (List.getElem_mem h))
    have h2 : ∀ i (h : i < kc.length), kc[i].2.2.length < (cat (kc.map kl)).length := fun i h => hkc.kid_lt (x := kl kc[i]) (List.mem_map_of_mem (List.getElem_mem h))
    refine ⟨fun i h => ?_, fun j h => ?_, fun i j h h' => ?_⟩
    · have := h1 i h; simp only [List.length_nil]; omega
    · have := h2 j h; simp only [List.length_nil]; omega
    · have := h1 i h; have := h2 j h'; omega)
  have HRM := Lib.hid (show ∀ i j, (cat ((ka.map kl).take i)).length ≤ (cat (ka.map kl)).length ∧ (cat ((kc.map kl).take j)).length ≤ (cat (kc.map kl)).length from fun i j => ⟨cat_take_le _ _, cat_take_le _ _⟩)
  have hbx : Below w.heap.size w (w.alloc (.cells #[.func (.func 77) #[] #[.pointer (some ⟨B, 0, none⟩)]] 122)) := (by repeat (first | exact Below.refl _ _ | (refine Below.drew ?_) | (refine below_drewN' ?_ _) | (refine below_alloc' ?_ _) | (refine Below.setCell ?_ (by first | exact Nat.le_refl _ | (simp; done) | (simp; omega)) _)))
  obtain ⟨sb, hsb⟩ : ∃ sb, w.heap.size = sb := ⟨_, rfl⟩
  have HSB := Lib.hid (show sb ≠ B from fun e => by
    have := lt_of_block (Exists.choose_spec (InvT.blkB hi))
    omega)
  have HS00 := Lib.hid (alloc_blk w (.cells #[.func (.func 77) #[] #[.pointer (some ⟨B, 0, none⟩)]] 122))
  have HI0 := Lib.hid (hi.step hbx)
  have HK0 := Lib.hid (show Kp B w _ from Kp.of hbx)
  have HEN := Lib.hid (fun w' (hb : Below W.heap.size W w') => ent_node w' ba sa (Below.keeps hb _ _ c3))
  clear hW c3 hsa hka hna c4 hsc hkc hnc hi hN ih hbx
  go_enter Tryz.func128, Tryz.ntmps128
  go_wp2_with fail
  rw [hsb] at HS00
  clear hsb
  generalize w.alloc (.cells #[.func (.func 77) #[] #[.pointer (some ⟨B, 0, none⟩)]] 122) = w0 at *
  have HS1 := Lib.hid HS00.out
  refine wp_scope_jumps2 0 (fun a' w' => ∃ (t i j : Nat) (u4 u5 u6 u7 u8 u9 u11 u12 u13 u14 u15 u16 u17 u18 u19 u20 u21 u22 u23 u24 u25 u26 u27 u28 u29 u30 u31 u32 u33 u34 u35 u36 u37 u38 u39 u40 u41 u42 u43 u44 u45 u46 u47 u48 u49 u50 u51 u52 u53 u54 u55 u56 u57 u58 u59 u60 u61 u62 u63 u64 u65 u66 u67 u68 u69 u70 u71 u72 u73 u74 u75 u76 u77 u78 u79 u80 u81 u82 u83 u84 u85 u86 u87 u88 u89 u90 u91 u92 u93 u94 u95 : Value), a' = { tmps := #[SV B, .pointer (some ⟨ba, 0, none⟩), .pointer (some ⟨bb, 0, none⟩), .pointer (some ⟨sb, 0, none⟩), u4, u5, u6, u7, u8, u9, .int .i64 (t : Nat), u11, u12, u13, u14, u15, u16, u17, u18, u19, u20, u21, u22, u23, u24, u25, u26, u27, u28, u29, u30, u31, u32, u33, u34, u35, u36, u37, u38, u39, u40, u41, u42, u43, u44, u45, u46, u47, u48, u49, u50, u51, u52, u53, u54, u55, u56, u57, u58, u59, u60, u61, u62, u63, u64, u65, u66, u67, u68, u69, u70, u71, u72, u73, u74, u75, u76, u77, u78, u79, u80, u81, u82, u83, u84, u85, u86, u87, u88, u89, u90, u91, u92, u93, u94, u95], defers := [] } ∧ EvI W B k n pre ka kc d w0 w' t i j) (fun a' _ => 65537 - (intOf (a'.tmps.getD 10 undef)).toNat) rfl ?_ ?_
  · intro a' w' hJ
    obtain ⟨t, i, j, u4, u5, u6, u7, u8, u9, u11, u12, u13, u14, u15, u16, u17, hJ⟩ := hJ
    obtain ⟨u18, u19, u20, u21, u22, u23, u24, u25, u26, u27, u28, u29, u30, u31, u32, u33, hJ⟩ := hJ
    obtain ⟨u34, u35, u36, u37, u38, u39, u40, u41, u42, u43, u44, u45, u46, u47, u48, u49, hJ⟩ := hJ
    obtain ⟨u50, u51, u52, u53, u54, u55, u56, u57, u58, u59, u60, u61, u62, u63, u64, u65, hJ⟩ := hJ
    obtain ⟨u66, u67, u68, u69, u70, u71, u72, u73, u74, u75, u76, u77, u78, u79, u80, u81, hJ⟩ := hJ
    obtain ⟨u82, u83, u84, u85, u86, u87, u88, u89, u90, u91, u92, u93, u94, u95, hJ⟩ := hJ
    obtain ⟨rfl, hJ⟩ := hJ
    obtain hJ := hJ
    have HR := Lib.hid hJ
    have HAT := Lib.hid (And.intro hJ.a1 (And.intro hJ.a2 (And.intro hJ.b1 hJ.b2)))
    by_cases hi : i < ka.length
    · by_cases hj : j < kc.length
      · obtain ⟨A, hA⟩ : ∃ A, ka[i].1 = A := ⟨_, rfl⟩
        obtain ⟨Ba, hB⟩ : ∃ Ba, ka[i].2.1 = Ba := ⟨_, rfl⟩
        have hAt := hJ.a2 i hi (Nat.le_refl _)
        have hAl := HLT.out.1 i hi
        rw [hA] at hAt hAl
        obtain ⟨A2, hA2⟩ : ∃ A, kc[j].1 = A := ⟨_, rfl⟩
        obtain ⟨Bc, hB2⟩ : ∃ Bc, kc[j].2.1 = Bc := ⟨_, rfl⟩
        have hAt2 := hJ.b2 j hj (Nat.le_refl _)
        have hAl2 := HLT.out.2 j hj
        rw [hA2] at hAt2 hAl2
        rcases Nat.lt_trichotomy A A2 with hc | hc | hc
        · have g1 : (A : Int) < (A2 : Int) := by omega
          have HNXT := Lib.hid (show ∀ w'', InvT W B (d ++ changesL (cat ((ka.map kl).take i)) (cat ((kc.map kl).take j)) ++ changesL (ka[i].2.2) ([])) w'' → Kp B w0 w'' → EvI W B k n pre ka kc d w0 w'' (A + 1) (i + 1) (j) from fun w'' hv hk => by
            have := HR.out.left HKZ.out.1 HKZ.out.2 hi (fun _ => by omega) hv hk
            rw [hA] at this
            exact this)
          have HBO := Lib.hid (show ∀ w'', InvT W B (d ++ changesL (cat ((ka.map kl).take i)) (cat ((kc.map kl).take j))) w'' → Kp B w0 w'' → Calls Tryz.prog 78 #[SV B, .pointer (some ⟨Ba, 0, none⟩), .pointer none] w'' fun e w3 => StP W B (d ++ changesL (cat ((ka.map kl).take i)) (cat ((kc.map kl).take j)) ++ changesL (ka[i].2.2) ([])) w'' e w3 from fun w'' hv hk => by
            have := HIH.out (some ka[i].2.1) (none) (ka[i].2.2) ([]) w'' _ (HNA.out ka[i] (List.getElem_mem hi)) (rfl) (HSZ.out.1 i hi) hv (by
              have h1 := changes_len (HKZ.out.1.take i).et (HKZ.out.2.take j).et
              have h2 := HD.out
              have r1 := cat_room' hi
              have q1 := HRM.out i j
              rw [List.length_append]
              (try simp only [List.length_nil])
              omega)
            simp only [pv_some, pv_none, hB] at this
            exact this)
          have HW := Lib.hid (show wrap64 ((A : Int) + 1) = ((A + 1 : Nat) : Int) from wrap_succ (by omega))
          have HMU := Lib.hid (show 65537 - (intOf (.int .i64 ((A + 1 : Nat) : Int))).toNat < 65537 - (intOf (.int .i64 (t : Nat))).toNat from by rw [intOf_nat, intOf_nat]; omega)
          clear hAt hAl hAt2 hAl2 hc
          clear hJ
          go_wp2_with fail
          refine (HFA.out _ _ _ HR.out.inv.bel HAT.out.1 HAT.out.2.1).mono ?_
          rintro e w5 ⟨rfl, hb5⟩
          have HR1 := Lib.hid (HR.out.bel hb5)
          clear hb5
          rw [frO_some hi, frA_some, frK_some]
          rw [hA, hB]
          go_wp2_with fail
          refine (HFC.out _ _ _ HR1.out.inv.bel HAT.out.2.2.1 HAT.out.2.2.2).mono ?_
          rintro e w6 ⟨rfl, hb6⟩
          have HR2 := Lib.hid (HR1.out.bel hb6)
          clear hb6
          rw [frO_some hj, frA_some, frK_some]
          rw [hA2, hB2]
          have hsblk := HR2.out.kp.keep sb _ _ _ HS1.out HSB.out (by decide)
          have ksx := cell_of_one hsblk
          have hslx := lt_of_block hsblk
          clear hsblk
          clear hA hB hA2 hB2
          go_wp2_with fail
          refine (HBO.out _ HR2.out.inv HR2.out.kp).mono ?_
          rintro e w7 ⟨rfl, hi7, hk7⟩
          have HF := Lib.hid (HNXT.out _ hi7 (HR2.out.kp.trans hk7))
          clear hi7 hk7
          go_wp2_with fail
          go_step3
          rw [HW.out]
          refine ⟨rfl, ⟨A + 1, i + 1, j, _, _, _, _, _, _, _, _, _, _, _, _, _, _, _, _, _, _, _, _, _, _, _, _, _, _, _, _, _, _, _, _, _, _, _, _, _, _, _, _, _, _, _, _, _, _, _, _, _, _, _, _, _, _, _, _, _, _, _, _, _, _, _, _, _, _, _, _, _, _, _, _, _, _, _, _, _, _, _, _, _, _, _, _, _, _, _, _, _, _, _, rfl, HF.out⟩, ?_⟩
          exact HMU.out
        · have g1 : ¬ (A : Int) < (A2 : Int) := by omega
          have g2 : ¬ (A2 : Int) < (A : Int) := by omega
          have HNXT := Lib.hid (show ∀ w'', InvT W B (d ++ changesL (cat ((ka.map kl).take i)) (cat ((kc.map kl).take j)) ++ changesL (ka[i].2.2) (kc[j].2.2)) w'' → Kp B w0 w'' → EvI W B k n pre ka kc d w0 w'' (A + 1) (i + 1) (j + 1) from fun w'' hv hk => by
            have := HR.out.both HKZ.out.1 HKZ.out.2 hi hj (by omega) hv hk
            rw [hA] at this
            exact this)
          have HBO := Lib.hid (show ∀ w'', InvT W B (d ++ changesL (cat ((ka.map kl).take i)) (cat ((kc.map kl).take j))) w'' → Kp B w0 w'' → Calls Tryz.prog 78 #[SV B, .pointer (some ⟨Ba, 0, none⟩), .pointer (some ⟨Bc, 0, none⟩)] w'' fun e w3 => StP W B (d ++ changesL (cat ((ka.map kl).take i)) (cat ((kc.map kl).take j)) ++ changesL (ka[i].2.2) (kc[j].2.2)) w'' e w3 from fun w'' hv hk => by
            have := HIH.out (some ka[i].2.1) (some kc[j].2.1) (ka[i].2.2) (kc[j].2.2) w'' _ (HNA.out ka[i] (List.getElem_mem hi)) (HNC.out kc[j] (List.getElem_mem hj)) (HSZ.out.2.2 i j hi hj) hv (by
              have h1 := changes_len (HKZ.out.1.take i).et (HKZ.out.2.take j).et
              have h2 := HD.out
              have r1 := cat_room' hi
              have r2 := cat_room' hj
              have q1 := HRM.out i j
              rw [List.length_append]
              (try simp only [List.length_nil])
              omega)
            simp only [pv_some, pv_none, hB, hB2] at this
            exact this)
          have HW := Lib.hid (show wrap64 ((A : Int) + 1) = ((A + 1 : Nat) : Int) from wrap_succ (by omega))
          have HMU := Lib.hid (show 65537 - (intOf (.int .i64 ((A + 1 : Nat) : Int))).toNat < 65537 - (intOf (.int .i64 (t : Nat))).toNat from by rw [intOf_nat, intOf_nat]; omega)
          clear hAt hAl hAt2 hAl2 hc
          clear hJ
          go_wp2_with fail
          refine (HFA.out _ _ _ HR.out.inv.bel HAT.out.1 HAT.out.2.1).mono ?_
          rintro e w5 ⟨rfl, hb5⟩
          have HR1 := Lib.hid (HR.out.bel hb5)
          clear hb5
          rw [frO_some hi, frA_some, frK_some]
          rw [hA, hB]
          go_wp2_with fail
          refine (HFC.out _ _ _ HR1.out.inv.bel HAT.out.2.2.1 HAT.out.2.2.2).mono ?_
          rintro e w6 ⟨rfl, hb6⟩
          have HR2 := Lib.hid (HR1.out.bel hb6)
          clear hb6
          rw [frO_some hj, frA_some, frK_some]
          rw [hA2, hB2]
          have hsblk := HR2.out.kp.keep sb _ _ _ HS1.out HSB.out (by decide)
          have ksx := cell_of_one hsblk
          have hslx := lt_of_block hsblk
          clear hsblk
          clear hA hB hA2 hB2
          go_wp2_with fail
          refine (HBO.out _ HR2.out.inv HR2.out.kp).mono ?_
          rintro e w7 ⟨rfl, hi7, hk7⟩
          have HF := Lib.hid (HNXT.out _ hi7 (HR2.out.kp.trans hk7))
          clear hi7 hk7
          go_wp2_with fail
          go_step3
          rw [HW.out]
          refine ⟨rfl, ⟨A + 1, i + 1, j + 1, _, _, _, _, _, _, _, _, _, _, _, _, _, _, _, _, _, _, _, _, _, _, _, _, _, _, _, _, _, _, _, _, _, _, _, _, _, _, _, _, _, _, _, _, _, _, _, _, _, _, _, _, _, _, _, _, _, _, _, _, _, _, _, _, _, _, _, _, _, _, _, _, _, _, _, _, _, _, _, _, _, _, _, _, _, _, _, _, _, _, _, rfl, HF.out⟩, ?_⟩
          exact HMU.out
        · have g1 : ¬ (A : Int) < (A2 : Int) := by omega
          have g2 : (A2 : Int) < (A : Int) := by omega
          have HNXT := Lib.hid (show ∀ w'', InvT W B (d ++ changesL (cat ((ka.map kl).take i)) (cat ((kc.map kl).take j)) ++ changesL ([]) (kc[j].2.2)) w'' → Kp B w0 w'' → EvI W B k n pre ka kc d w0 w'' (A2 + 1) (i) (j + 1) from fun w'' hv hk => by
            have := HR.out.right HKZ.out.1 HKZ.out.2 hj (fun _ => by omega) hv hk
            rw [hA2] at this
            exact this)
          have HBO := Lib.hid (show ∀ w'', InvT W B (d ++ changesL (cat ((ka.map kl).take i)) (cat ((kc.map kl).take j))) w'' → Kp B w0 w'' → Calls Tryz.prog 78 #[SV B, .pointer none, .pointer (some ⟨Bc, 0, none⟩)] w'' fun e w3 => StP W B (d ++ changesL (cat ((ka.map kl).take i)) (cat ((kc.map kl).take j)) ++ changesL ([]) (kc[j].2.2)) w'' e w3 from fun w'' hv hk => by
            have := HIH.out (none) (some kc[j].2.1) ([]) (kc[j].2.2) w'' _ (rfl) (HNC.out kc[j] (List.getElem_mem hj)) (HSZ.out.2.1 j hj) hv (by
              have h1 := changes_len (HKZ.out.1.take i).et (HKZ.out.2.take j).et
              have h2 := HD.out
              have r2 := cat_room' hj
              have q1 := HRM.out i j
              rw [List.length_append]
              (try simp only [List.length_nil])
              omega)
            simp only [pv_some, pv_none, hB2] at this
            exact this)
          have HW := Lib.hid (show wrap64 ((A2 : Int) + 1) = ((A2 + 1 : Nat) : Int) from wrap_succ (by omega))
          have HMU := Lib.hid (show 65537 - (intOf (.int .i64 ((A2 + 1 : Nat) : Int))).toNat < 65537 - (intOf (.int .i64 (t : Nat))).toNat from by rw [intOf_nat, intOf_nat]; omega)
          clear hAt hAl hAt2 hAl2 hc
          clear hJ
          go_wp2_with fail
          refine (HFA.out _ _ _ HR.out.inv.bel HAT.out.1 HAT.out.2.1).mono ?_
          rintro e w5 ⟨rfl, hb5⟩
          have HR1 := Lib.hid (HR.out.bel hb5)
          clear hb5
          rw [frO_some hi, frA_some, frK_some]
          rw [hA, hB]
          go_wp2_with fail
          refine (HFC.out _ _ _ HR1.out.inv.bel HAT.out.2.2.1 HAT.out.2.2.2).mono ?_
          rintro e w6 ⟨rfl, hb6⟩
          have HR2 := Lib.hid (HR1.out.bel hb6)
          clear hb6
          rw [frO_some hj, frA_some, frK_some]
          rw [hA2, hB2]
          have hsblk := HR2.out.kp.keep sb _ _ _ HS1.out HSB.out (by decide)
          have ksx := cell_of_one hsblk
          have hslx := lt_of_block hsblk
          clear hsblk
          clear hA hB hA2 hB2
          go_wp2_with fail
          refine (HBO.out _ HR2.out.inv HR2.out.kp).mono ?_
          rintro e w7 ⟨rfl, hi7, hk7⟩
          have HF := Lib.hid (HNXT.out _ hi7 (HR2.out.kp.trans hk7))
          clear hi7 hk7
          go_wp2_with fail
          go_step3
          rw [HW.out]
          refine ⟨rfl, ⟨A2 + 1, i, j + 1, _, _, _, _, _, _, _, _, _, _, _, _, _, _, _, _, _, _, _, _, _, _, _, _, _, _, _, _, _, _, _, _, _, _, _, _, _, _, _, _, _, _, _, _, _, _, _, _, _, _, _, _, _, _, _, _, _, _, _, _, _, _, _, _, _, _, _, _, _, _, _, _, _, _, _, _, _, _, _, _, _, _, _, _, _, _, _, _, _, _, _, rfl, HF.out⟩, ?_⟩
          exact HMU.out
      · obtain ⟨A, hA⟩ : ∃ A, ka[i].1 = A := ⟨_, rfl⟩
        obtain ⟨Ba, hB⟩ : ∃ Ba, ka[i].2.1 = Ba := ⟨_, rfl⟩
        have hAt := hJ.a2 i hi (Nat.le_refl _)
        have hAl := HLT.out.1 i hi
        rw [hA] at hAt hAl
        have HNXT := Lib.hid (show ∀ w'', InvT W B (d ++ changesL (cat ((ka.map kl).take i)) (cat ((kc.map kl).take j)) ++ changesL (ka[i].2.2) ([])) w'' → Kp B w0 w'' → EvI W B k n pre ka kc d w0 w'' (A + 1) (i + 1) (j) from fun w'' hv hk => by
          have := HR.out.left HKZ.out.1 HKZ.out.2 hi (fun h => absurd h hj) hv hk
          rw [hA] at this
          exact this)
        have HBO := Lib.hid (show ∀ w'', InvT W B (d ++ changesL (cat ((ka.map kl).take i)) (cat ((kc.map kl).take j))) w'' → Kp B w0 w'' → Calls Tryz.prog 78 #[SV B, .pointer (some ⟨Ba, 0, none⟩), .pointer none] w'' fun e w3 => StP W B (d ++ changesL (cat ((ka.map kl).take i)) (cat ((kc.map kl).take j)) ++ changesL (ka[i].2.2) ([])) w'' e w3 from fun w'' hv hk => by
          have := HIH.out (some ka[i].2.1) (none) (ka[i].2.2) ([]) w'' _ (HNA.out ka[i] (List.getElem_mem hi)) (rfl) (HSZ.out.1 i hi) hv (by
            have h1 := changes_len (HKZ.out.1.take i).et (HKZ.out.2.take j).et
            have h2 := HD.out
            have r1 := cat_room' hi
            have q1 := HRM.out i j
            rw [List.length_append]
            (try simp only [List.length_nil])
            omega)
          simp only [pv_some, pv_none, hB] at this
          exact this)
        have HW := Lib.hid (show wrap64 ((A : Int) + 1) = ((A + 1 : Nat) : Int) from wrap_succ (by omega))
        have HMU := Lib.hid (show 65537 - (intOf (.int .i64 ((A + 1 : Nat) : Int))).toNat < 65537 - (intOf (.int .i64 (t : Nat))).toNat from by rw [intOf_nat, intOf_nat]; omega)
        clear hAt hAl
        clear hJ
        go_wp2_with fail
        refine (HFA.out _ _ _ HR.out.inv.bel HAT.out.1 HAT.out.2.1).mono ?_
        rintro e w5 ⟨rfl, hb5⟩
        have HR1 := Lib.hid (HR.out.bel hb5)
        clear hb5
        rw [frO_some hi, frA_some, frK_some]
        rw [hA, hB]
        go_wp2_with fail
        refine (HFC.out _ _ _ HR1.out.inv.bel HAT.out.2.2.1 HAT.out.2.2.2).mono ?_
        rintro e w6 ⟨rfl, hb6⟩
        have HR2 := Lib.hid (HR1.out.bel hb6)
        clear hb6
        rw [frO_none hj, frA_none, frK_none]
        have hsblk := HR2.out.kp.keep sb _ _ _ HS1.out HSB.out (by decide)
        have ksx := cell_of_one hsblk
        have hslx := lt_of_block hsblk
        clear hsblk
        clear hA hB hj
        go_wp2_with fail
        refine (HBO.out _ HR2.out.inv HR2.out.kp).mono ?_
        rintro e w7 ⟨rfl, hi7, hk7⟩
        have HF := Lib.hid (HNXT.out _ hi7 (HR2.out.kp.trans hk7))
        clear hi7 hk7
        go_wp2_with fail
        go_step3
        rw [HW.out]
        refine ⟨rfl, ⟨A + 1, i + 1, j, _, _, _, _, _, _, _, _, _, _, _, _, _, _, _, _, _, _, _, _, _, _, _, _, _, _, _, _, _, _, _, _, _, _, _, _, _, _, _, _, _, _, _, _, _, _, _, _, _, _, _, _, _, _, _, _, _, _, _, _, _, _, _, _, _, _, _, _, _, _, _, _, _, _, _, _, _, _, _, _, _, _, _, _, _, _, _, _, _, _, _, rfl, HF.out⟩, ?_⟩
        exact HMU.out
    · by_cases hj : j < kc.length
      · obtain ⟨A2, hA2⟩ : ∃ A, kc[j].1 = A := ⟨_, rfl⟩
        obtain ⟨Bc, hB2⟩ : ∃ Bc, kc[j].2.1 = Bc := ⟨_, rfl⟩
        have hAt2 := hJ.b2 j hj (Nat.le_refl _)
        have hAl2 := HLT.out.2 j hj
        rw [hA2] at hAt2 hAl2
        have HNXT := Lib.hid (show ∀ w'', InvT W B (d ++ changesL (cat ((ka.map kl).take i)) (cat ((kc.map kl).take j)) ++ changesL ([]) (kc[j].2.2)) w'' → Kp B w0 w'' → EvI W B k n pre ka kc d w0 w'' (A2 + 1) (i) (j + 1) from fun w'' hv hk => by
          have := HR.out.right HKZ.out.1 HKZ.out.2 hj (fun h => absurd h hi) hv hk
          rw [hA2] at this
          exact this)
        have HBO := Lib.hid (show ∀ w'', InvT W B (d ++ changesL (cat ((ka.map kl).take i)) (cat ((kc.map kl).take j))) w'' → Kp B w0 w'' → Calls Tryz.prog 78 #[SV B, .pointer none, .pointer (some ⟨Bc, 0, none⟩)] w'' fun e w3 => StP W B (d ++ changesL (cat ((ka.map kl).take i)) (cat ((kc.map kl).take j)) ++ changesL ([]) (kc[j].2.2)) w'' e w3 from fun w'' hv hk => by
          have := HIH.out (none) (some kc[j].2.1) ([]) (kc[j].2.2) w'' _ (rfl) (HNC.out kc[j] (List.getElem_mem hj)) (HSZ.out.2.1 j hj) hv (by
            have h1 := changes_len (HKZ.out.1.take i).et (HKZ.out.2.take j).et
            have h2 := HD.out
            have r2 := cat_room' hj
            have q1 := HRM.out i j
            rw [List.length_append]
            (try simp only [List.length_nil])
            omega)
          simp only [pv_some, pv_none, hB2] at this
          exact this)
        have HW := Lib.hid (show wrap64 ((A2 : Int) + 1) = ((A2 + 1 : Nat) : Int) from wrap_succ (by omega))
        have HMU := Lib.hid (show 65537 - (intOf (.int .i64 ((A2 + 1 : Nat) : Int))).toNat < 65537 - (intOf (.int .i64 (t : Nat))).toNat from by rw [intOf_nat, intOf_nat]; omega)
        clear hAt2 hAl2
        clear hJ
        go_wp2_with fail
        refine (HFA.out _ _ _ HR.out.inv.bel HAT.out.1 HAT.out.2.1).mono ?_
        rintro e w5 ⟨rfl, hb5⟩
        have HR1 := Lib.hid (HR.out.bel hb5)
        clear hb5
        rw [frO_none hi, frA_none, frK_none]
        go_wp2_with fail
        refine (HFC.out _ _ _ HR1.out.inv.bel HAT.out.2.2.1 HAT.out.2.2.2).mono ?_
        rintro e w6 ⟨rfl, hb6⟩
        have HR2 := Lib.hid (HR1.out.bel hb6)
        clear hb6
        rw [frO_some hj, frA_some, frK_some]
        rw [hA2, hB2]
        have hsblk := HR2.out.kp.keep sb _ _ _ HS1.out HSB.out (by decide)
        have ksx := cell_of_one hsblk
        have hslx := lt_of_block hsblk
        clear hsblk
        clear hA2 hB2 hi
        go_wp2_with fail
        refine (HBO.out _ HR2.out.inv HR2.out.kp).mono ?_
        rintro e w7 ⟨rfl, hi7, hk7⟩
        have HF := Lib.hid (HNXT.out _ hi7 (HR2.out.kp.trans hk7))
        clear hi7 hk7
        go_wp2_with fail
        go_step3
        rw [HW.out]
        refine ⟨rfl, ⟨A2 + 1, i, j + 1, _, _, _, _, _, _, _, _, _, _, _, _, _, _, _, _, _, _, _, _, _, _, _, _, _, _, _, _, _, _, _, _, _, _, _, _, _, _, _, _, _, _, _, _, _, _, _, _, _, _, _, _, _, _, _, _, _, _, _, _, _, _, _, _, _, _, _, _, _, _, _, _, _, _, _, _, _, _, _, _, _, _, _, _, _, _, _, _, _, _, _, rfl, HF.out⟩, ?_⟩
        exact HMU.out
      · have e1 : (ka.map kl).take i = ka.map kl := List.take_of_length_le (by rw [List.length_map]; omega)
        have e2 : (kc.map kl).take j = kc.map kl := List.take_of_length_le (by rw [List.length_map]; omega)
        have HE := Lib.hid (And.intro e1 e2)
        clear e1 e2
        clear hJ
        go_wp2_with fail
        refine (HFA.out _ _ _ HR.out.inv.bel HAT.out.1 HAT.out.2.1).mono ?_
        rintro e w5 ⟨rfl, hb5⟩
        have HR1 := Lib.hid (HR.out.bel hb5)
        clear hb5
        rw [frO_none hi, frA_none, frK_none]
        go_wp2_with fail
        refine (HFC.out _ _ _ HR1.out.inv.bel HAT.out.2.2.1 HAT.out.2.2.2).mono ?_
        rintro e w6 ⟨rfl, hb6⟩
        have HR2 := Lib.hid (HR1.out.bel hb6)
        clear hb6
        rw [frO_none hj, frA_none, frK_none]
        have hsblk := HR2.out.kp.keep sb _ _ _ HS1.out HSB.out (by decide)
        have ksx := cell_of_one hsblk
        have hslx := lt_of_block hsblk
        clear hsblk
        clear hi hj
        go_wp2_with fail
        simp only [Exit.jump]
        go_end0
        have := HR2.out.inv
        rw [HE.out.1, HE.out.2] at this
        exact ⟨rfl, this, HK0.out.trans HR2.out.kp⟩
  · intro Q' hR
    have hR := Lib.hid hR
    go_wp2_with fail
    refine (HEN.out _ HI0.out.bel).mono ?_
    rintro e wE ⟨rfl, hbE⟩
    have HIE := Lib.hid (And.intro (HI0.out.step hbE) (Kp.of (B := B) hbE))
    clear hbE
    go_wp2_with fail
    go_step3
    simp only [Exit.then]
    rename_i hK
    refine hK _ _ ?_
    refine hR.out _ _ ?_
    have e0 : changesL (cat ((ka.map kl).take 0)) (cat ((kc.map kl).take 0)) = [] := rfl
    have e1 := HIE.out.1.step (w' := wE.alloc (.cells #[.slice none 0 0, .int .u64 0] 51)) (by repeat (first | exact Below.refl _ _ | (refine Below.drew ?_) | (refine below_drewN' ?_ _) | (refine below_alloc' ?_ _) | (refine Below.setCell ?_ (by first | exact Nat.le_refl _ | (simp; done) | (simp; omega)) _)))
    have e2 := HIE.out.2.trans (Kp.of (B := B) (w' := wE.alloc (.cells #[.slice none 0 0, .int .u64 0] 51)) (by repeat (first | exact Below.refl _ _ | (refine Below.drew ?_) | (refine below_drewN' ?_ _) | (refine below_alloc' ?_ _) | (refine Below.setCell ?_ (by first | exact Nat.le_refl _ | (simp; done) | (simp; omega)) _))))
    exact ⟨0, 0, 0, _, _, _, _, _, _, _, _, _, _, _, _, _, _, _, _, _, _, _, _, _, _, _, _, _, _, _, _, _, _, _, _, _, _, _, _, _, _, _, _, _, _, _, _, _, _, _, _, _, _, _, _, _, _, _, _, _, _, _, _, _, _, _, _, _, _, _, _, _, _, _, _, _, _, _, _, _, _, _, _, _, _, _, _, _, _, _, _, _, _, _, rfl, ⟨by rw [e0, List.append_nil]; exact e1, e2, Nat.zero_le _, Nat.zero_le _, (fun q _ h => by omega), (fun q _ _ => Nat.zero_le _), (fun q _ h => by omega), (fun q _ _ => Nat.zero_le _)⟩⟩
end Go.Proofs.YtjokcagggmjgmaaGreat
/-! DifF -/
namespace Go.Proofs.YtjokcagggmjgmaaGreat
open Go.RowKit
set_option linter.unusedVariables false
set_option linter.unusedSimpArgs false
set_option maxRecDepth 100000

set_option maxHeartbeats 4000000 in
theorem even_leaf (W w : World) (B k ba bb x y : Nat) (p : List Nat) (d : List Ch) (hW : W.heap.size ≤ B) (ha : Hd W ba (-1) p x (.pointer none) (Sm.of x)) (hb : Hd W bb (-1) p y (.pointer none) (Sm.of y)) (hp : p.length = k) (ho : ∀ c ∈ p, c < 2 ^ 64) (k1 : 1 ≤ k) (k16 : k ≤ 16) (hi : InvT W B d w) (hN : d.length ≤ 10000) :
    Calls Tryz.prog 128 #[SV B, .pointer (some ⟨ba, 0, none⟩), .pointer (some ⟨bb, 0, none⟩)] w fun e w' => StP W B (d ++ changesL [⟨p, x⟩] [⟨p, y⟩]) w e w' := by
  have HEA := Lib.hid (fun w' (h : Below W.heap.size W w') => ent_leaf w' ba k x (-1) p (Sm.of x) (ha.keep h) hp k1 k16)
  have HEB := Lib.hid (fun w' (h : Below W.heap.size W w') => ent_leaf w' bb k y (-1) p (Sm.of y) (hb.keep h) hp k1 k16)
  have HCH := Lib.hid (chg_one_one p x y hp ho)
  have HTL := Lib.hid (fun (w' : World) (c : Ch) (u : Value) (h : InvT W B d w') (hu : PtNew w' u c.p) => dTell_any W w' B d c u hW h hu hN)
  have hbx : Below w.heap.size w (w.alloc (.cells #[.func (.func 77) #[] #[.pointer (some ⟨B, 0, none⟩)]] 122)) := (by repeat (first | exact Below.refl _ _ | (refine Below.drew ?_) | (refine below_drewN' ?_ _) | (refine below_alloc' ?_ _) | (refine Below.setCell ?_ (by first | exact Nat.le_refl _ | (simp; done) | (simp; omega)) _)))
  obtain ⟨sb, hsb⟩ : ∃ sb, w.heap.size = sb := ⟨_, rfl⟩
  have HS00 := Lib.hid (alloc_blk w (.cells #[.func (.func 77) #[] #[.pointer (some ⟨B, 0, none⟩)]] 122))
  have HI0 := Lib.hid (hi.step hbx)
  have HK0 := Lib.hid (show Kp B w _ from Kp.of hbx)
  clear hW ha hb hp ho k1 k16 hi hN hbx
  go_enter Tryz.func128, Tryz.ntmps128
  go_wp2_with fail
  rw [hsb] at HS00
  clear hsb
  generalize w.alloc (.cells #[.func (.func 77) #[] #[.pointer (some ⟨B, 0, none⟩)]] 122) = w0 at *
  refine wp_scope_straight ?_
  go_wp2_with fail
  refine (HEA.out _ HI0.out.bel).mono ?_
  rintro e w1 ⟨u1, rfl, hpt1, hb1⟩
  obtain ⟨A1, c1, rfl, _⟩ := RdU.point hpt1.rd
  have H1 := Lib.hid (And.intro hpt1 hb1)
  clear hpt1 hb1
  go_wp2_with fail
  have hbe : Below w1.heap.size w1 (w1.alloc (.cells #[.slice A1 p.length c1, .int .u64 (x : Nat)] 51)) := (by repeat (first | exact Below.refl _ _ | (refine Below.drew ?_) | (refine below_drewN' ?_ _) | (refine below_alloc' ?_ _) | (refine Below.setCell ?_ (by first | exact Nat.le_refl _ | (simp; done) | (simp; omega)) _)))
  have HB1 := Lib.hid hbe
  have HE1 := Lib.hid (alloc_blk w1 (.cells #[.slice A1 p.length c1, .int .u64 (x : Nat)] 51))
  have HI1 := Lib.hid ((HI0.out.step H1.out.2).step hbe)
  have HS1 := Lib.hid ((hbe.block sb (Nat.lt_of_lt_of_le (lt_of_block HS00.out) H1.out.2.size)).trans ((H1.out.2.block sb (lt_of_block HS00.out)).trans HS00.out))
  have HP1 := Lib.hid (H1.out.1.below hbe)
  have HK1 := Lib.hid ((HK0.out.trans (Kp.of (B := B) H1.out.2)).trans (Kp.of hbe))
  obtain ⟨e1, he1⟩ : ∃ e1, w1.heap.size = e1 := ⟨_, rfl⟩
  rw [he1] at HE1 ⊢
  clear hbe he1 HB1
  generalize w1.alloc (.cells #[.slice A1 p.length c1, .int .u64 (x : Nat)] 51) = w2 at *
  refine (HEB.out _ HI1.out.bel).mono ?_
  rintro e w3 ⟨u2, rfl, hpt2, hb2⟩
  obtain ⟨A2, c2, rfl, _⟩ := RdU.point hpt2.rd
  have ks := cell_of_one ((hb2.block sb (lt_of_block HS1.out)).trans HS1.out)
  have hq1 := (hb2.block e1 (lt_of_block HE1.out)).trans HE1.out
  have q0 : w3.cell? ⟨e1, 0, none⟩ = some (.slice A1 p.length c1) := by simp [World.cell?, hq1]
  have q1 : w3.cell? ⟨e1, 1, none⟩ = some (.int .u64 (x : Nat)) := by simp [World.cell?, hq1]
  have hle := lt_of_block hq1
  have hls := World.block_lt_of_cell? w3 _ ks
  have HI3 := Lib.hid (HI1.out.step hb2)
  have HP3 := Lib.hid (HP1.out.below hb2)
  have HK3 := Lib.hid (HK1.out.trans (Kp.of (B := B) hb2))
  clear hpt2 hb2 hq1
  by_cases hxy : x = y
  · have hxy2 : ((x : Int) != (y : Int)) = false := by simp [hxy]
    have HE := Lib.hid (show changesL [⟨p, x⟩] [⟨p, y⟩] = [] from by rw [HCH.out, if_pos hxy])
    subst hxy
    go_wp2_with fail
    simp only [Exit.noGoto]
    go_end0
    rw [HE.out, List.append_nil]
    exact ⟨rfl, HI3.out.step (by repeat (first | exact Below.refl _ _ | (refine Below.drew ?_) | (refine below_drewN' ?_ _) | (refine below_alloc' ?_ _) | (refine Below.setCell ?_ (by first | exact Nat.le_refl _ | (simp; done) | (simp; omega)) _))), HK3.out.trans (Kp.of (by repeat (first | exact Below.refl _ _ | (refine Below.drew ?_) | (refine below_drewN' ?_ _) | (refine below_alloc' ?_ _) | (refine Below.setCell ?_ (by first | exact Nat.le_refl _ | (simp; done) | (simp; omega)) _))))⟩
  · have hxy2 : ((x : Int) != (y : Int)) = true := by simp; omega
    have hxy3 : ¬ (x : Int) = (y : Int) := by omega
    have HE := Lib.hid (show changesL [⟨p, x⟩] [⟨p, y⟩] = [⟨p, true, true, x, y⟩] from by rw [HCH.out, if_neg hxy])
    clear hxy
    go_wp2_with fail
    refine (HTL.out _ ⟨p, true, true, x, y⟩ (.slice A1 p.length c1) (HI3.out.step (by repeat (first | exact Below.refl _ _ | (refine Below.drew ?_) | (refine below_drewN' ?_ _) | (refine below_alloc' ?_ _) | (refine Below.setCell ?_ (by first | exact Nat.le_refl _ | (simp; done) | (simp; omega)) _)))) (HP3.out.below (by repeat (first | exact Below.refl _ _ | (refine Below.drew ?_) | (refine below_drewN' ?_ _) | (refine below_alloc' ?_ _) | (refine Below.setCell ?_ (by first | exact Nat.le_refl _ | (simp; done) | (simp; omega)) _))))).mono ?_
    rintro e w5 ⟨rfl, hi5, hk5⟩
    have HF := Lib.hid (And.intro hi5 ((HK3.out.trans (Kp.of (B := B) (by repeat (first | exact Below.refl _ _ | (refine Below.drew ?_) | (refine below_drewN' ?_ _) | (refine below_alloc' ?_ _) | (refine Below.setCell ?_ (by first | exact Nat.le_refl _ | (simp; done) | (simp; omega)) _))))).trans hk5))
    clear hi5 hk5
    go_wp2_with fail
    simp only [Exit.noGoto]
    go_end0
    rw [HE.out]
    exact ⟨rfl, HF.out⟩
end Go.Proofs.YtjokcagggmjgmaaGreat
/-! NdU -/
namespace Go.Proofs.YtjokcagggmjgmaaGreat
open Go.RowKit
set_option linter.unusedVariables false

theorem point_uniq {w : World} {v : Value} {p q : List Nat} (h : RdU w v (pti p)) (g : RdU w v (pti q)) : p = q := by
  obtain ⟨A, c, rfl, hx⟩ := RdU.point h
  obtain ⟨A', c', e, hy⟩ := RdU.point g
  injection e with e1 e2 _
  subst e1
  refine List.ext_getElem e2 fun j h1 h2 => ?_
  obtain ⟨b, o, ha, hc⟩ := hx (by omega)
  obtain ⟨b', o', ha', hc'⟩ := hy (by omega)
  rw [ha] at ha'
  injection ha' with ha'
  injection ha' with e3 e4
  subst e3 e4
  have := (hc j h1).symm.trans (hc' j h2)
  injection this with this
  injection this with _ this
  exact Int.ofNat.inj this
theorem pv_inj {a b : Option Nat} (h : pv a = pv b) : a = b := by
  cases a with
  | none => cases b with
    | none => rfl
    | some y => simp [pv] at h
  | some x => cases b with
    | none => simp [pv] at h
    | some y => simp [pv] at h; rw [h]
theorem RdK.uniq {w : World} {v : Value} {l m : List Cl} (h : RdK w v l) (g : RdK w v m) : l = m := by
  obtain ⟨A, c, rfl, _, hx⟩ := h
  obtain ⟨A', c', e, _, hy⟩ := g
  injection e with e1 e2 _
  subst e1
  refine List.ext_getElem e2 fun j h1 h2 => ?_
  obtain ⟨b, o, ha, hc⟩ := hx (by omega)
  obtain ⟨b', o', ha', hc'⟩ := hy (by omega)
  rw [ha] at ha'
  injection ha' with ha'
  injection ha' with e3 e4
  subst e3 e4
  obtain ⟨a1, a2, a3⟩ := hc j h1
  obtain ⟨b1, b2, b3⟩ := hc' j h2
  have q1 := a1.symm.trans b1
  have q2 := a2.symm.trans b2
  have q3 := a3.symm.trans b3
  injection q1 with q1
  injection q1 with _ q1
  injection q2 with q2
  injection q3 with q3
  injection q3 with q3
  have q1 := Int.ofNat.inj q1
  have q2 := pv_inj q2
  cases h5 : l[j]
  cases h6 : m[j]
  rw [h5, h6] at q1 q2 q3
  simp only at q1 q2 q3
  rw [q1, q2, q3]
theorem SlR.uniq {w : World} {b k k' : Nat} {l m : List (Nat × Nat)} (h : SlR w b k l) (g : SlR w b k' m) : l = m := by
  have e0 := h.c0.symm.trans g.c0
  injection e0 with e0
  injection e0 with _ e0
  have e0 : k = k' := Int.ofNat.inj e0
  subst e0
  obtain ⟨v, h1, h2⟩ := h.c2
  obtain ⟨v', g1, g2⟩ := g.c2
  have e1 := h1.symm.trans g1
  injection e1 with e1
  subst e1
  have e2 := congrArg hasL (h2.uniq g2)
  rw [has_lay h.rw', has_lay g.rw'] at e2
  refine List.map_inj_right (f := takenC) (fun x y e => ?_) |>.1 e2
  unfold takenC at e
  injection e with e3 e4 _
  injection e4 with e4
  exact Prod.ext e3 e4
theorem Nd.uniq {w : World} {k : Nat} {b : Nat} {l : List En} (h : Nd w k b l) : ∀ {k' : Nat} {m : List En}, Nd w k' b m → l = m := by
  induction h with
  | leaf b p v h hp ho hv =>
    intro k' m g
    cases g with
    | leaf _ p' v' h' hp' ho' hv' =>
      obtain ⟨u, q1, q2⟩ := h.c1
      obtain ⟨u', q1', q2'⟩ := h'.c1
      have e1 := q1.symm.trans q1'
      injection e1 with e1
      subst e1
      have e2 := point_uniq q2 q2'
      have e3 := h.c2.symm.trans h'.c2
      injection e3 with e3
      injection e3 with _ e3
      have e3 : v = v' := Int.ofNat.inj e3
      rw [e2, e3]
    | node _ s n pre ks h' hs hkd hn =>
      have e1 := h.c3.symm.trans h'.c3
      injection e1 with e1
      injection e1 with e1
      cases e1
  | node b s n pre ks h hs hkd hn ih =>
    intro k' m g
    generalize hm : m = m' at g
    cases g with
    | leaf _ p' v' h' hp' ho' hv' =>
      have e1 := h.c3.symm.trans h'.c3
      injection e1 with e1
      injection e1 with e1
      cases e1
    | node _ s' n' pre' ks' h' hs' hkd' hn' =>
      subst hm
      have e1 := h.c3.symm.trans h'.c3
      injection e1 with e1
      injection e1 with e1
      injection e1 with e1
      injection e1 with e1
      subst e1
      have e2 := hs.uniq hs'
      have hl := congrArg List.length e2
      rw [List.length_map, List.length_map] at hl
      have e3 : ks.map kl = ks'.map kl := by
        refine List.ext_getElem (by rw [List.length_map, List.length_map]; exact hl) fun j h1 h2 => ?_
        rw [List.length_map] at h1 h2
        have e4 : (ks.map kb)[j]? = (ks'.map kb)[j]? := by rw [e2]
        rw [List.getElem?_map, List.getElem?_map, List.getElem?_eq_getElem h1, List.getElem?_eq_getElem h2] at e4
        simp only [Option.map_some, Option.some.injEq] at e4
        have e5 : ks[j].1 = ks'[j].1 := congrArg (fun x : Nat × Nat => x.1) e4
        have e6 : ks[j].2.1 = ks'[j].2.1 := congrArg (fun x : Nat × Nat => x.2) e4
        rw [List.getElem_map, List.getElem_map]
        have e7 := ih ks[j] (List.getElem_mem h1) (k' := k') (m := ks'[j].2.2) (by rw [e6]; exact hn' ks'[j] (List.getElem_mem h2))
        show (ks[j].1, ks[j].2.2) = (ks'[j].1, ks'[j].2.2)
        rw [e5, e7]
      rw [e3]
theorem RtN.uniq {w : World} {k k' : Nat} {r : Option Nat} {l m : List En} (h : RtN w k r l) (g : RtN w k' r m) : l = m := by
  cases r with
  | none => obtain rfl : l = [] := h; obtain rfl : m = [] := g; rfl
  | some b => exact Nd.uniq h g
end Go.Proofs.YtjokcagggmjgmaaGreat
/-! DifG -/
namespace Go.Proofs.YtjokcagggmjgmaaGreat
open Go.RowKit
set_option linter.unusedVariables false
set_option linter.unusedSimpArgs false
set_option maxRecDepth 100000

theorem both_same (W w : World) (B k : Nat) (r : Option Nat) (la lb : List En) (d : List Ch) (ha : RtN W k r la) (hb : RtN W k r lb) (hi : InvT W B d w) :
    Calls Tryz.prog 78 #[SV B, pv r, pv r] w fun e w' => StP W B (d ++ changesL la lb) w e w' := by
  obtain rfl : la = lb := ha.uniq hb
  have HE := Lib.hid (chg_self ha.et)
  have HI := Lib.hid hi
  have heq := fun w' (h : Below W.heap.size W w') => (show (binOp .eql 103 (pv r) (pv r)).run Tryz.prog w' = .ok (.bool true) w' from by have := root_eql (ha.below h) (ha.below h); rw [decide_eq_true rfl] at this; exact this)
  obtain ⟨q, hq⟩ := pv_ex r
  rw [hq] at heq ⊢
  have he := heq (((w.alloc (.cells #[.func (.func 77) #[] #[.pointer (some ⟨B, 0, none⟩)]] 122)).alloc (.cells #[.pointer q] 103)).alloc (.cells #[.pointer q] 103)) (hi.bel.trans (((by repeat (first | exact Below.refl _ _ | (refine Below.drew ?_) | (refine below_drewN' ?_ _) | (refine below_alloc' ?_ _) | (refine Below.setCell ?_ (by first | exact Nat.le_refl _ | (simp; done) | (simp; omega)) _))) : Below w.heap.size w _).mono hi.bel.size))
  clear heq ha hb hi hq
  go_enter Tryz.func78, Tryz.ntmps78
  go_wp2_with fail
  go_end0
  rw [HE.out, List.append_nil]
  exact ⟨rfl, HI.out.step (by repeat (first | exact Below.refl _ _ | (refine Below.drew ?_) | (refine below_drewN' ?_ _) | (refine below_alloc' ?_ _) | (refine Below.setCell ?_ (by first | exact Nat.le_refl _ | (simp; done) | (simp; omega)) _))), Kp.of (by repeat (first | exact Below.refl _ _ | (refine Below.drew ?_) | (refine below_drewN' ?_ _) | (refine below_alloc' ?_ _) | (refine Below.setCell ?_ (by first | exact Nat.le_refl _ | (simp; done) | (simp; omega)) _)))⟩
theorem both_come (W w : World) (B k b : Nat) (lb : List En) (d : List Ch) (hW : W.heap.size ≤ B) (k1 : 1 ≤ k) (k16 : k ≤ 16) (hb : Nd W k b lb) (hi : InvT W B d w) (hN : d.length + lb.length ≤ 10000) :
    Calls Tryz.prog 78 #[SV B, .pointer none, .pointer (some ⟨b, 0, none⟩)] w fun e w' => StP W B (d ++ changesL [] lb) w e w' := by
  have HE := Lib.hid (chg_come hb.et)
  have HI := Lib.hid hi
  have HA := Lib.hid (fun w' (h : InvT W B d w') => dAll_any W w' B k (some b) lb d _ _ as_come hW hb k1 k16 h hN)
  have he := fun w' => (show (binOp .eql 103 (.pointer none) (.pointer (some ⟨b, 0, none⟩))).run Tryz.prog w' = .ok (.bool false) w' from rfl)
  clear hb hi hW hN k1 k16
  go_enter Tryz.func78, Tryz.ntmps78
  go_wp2_with fail
  refine (HA.out _ (HI.out.step (by repeat (first | exact Below.refl _ _ | (refine Below.drew ?_) | (refine below_drewN' ?_ _) | (refine below_alloc' ?_ _) | (refine Below.setCell ?_ (by first | exact Nat.le_refl _ | (simp; done) | (simp; omega)) _))))).mono ?_
  rintro e w1 ⟨rfl, hi1, hk1⟩
  have HF := Lib.hid (And.intro hi1 ((Kp.of (B := B) ((by repeat (first | exact Below.refl _ _ | (refine Below.drew ?_) | (refine below_drewN' ?_ _) | (refine below_alloc' ?_ _) | (refine Below.setCell ?_ (by first | exact Nat.le_refl _ | (simp; done) | (simp; omega)) _))) : Below w.heap.size w _)).trans hk1))
  clear hi1 hk1
  go_wp2_with fail
  go_end0
  rw [HE.out]
  exact ⟨rfl, HF.out⟩
theorem both_gone (W w : World) (B k b : Nat) (la : List En) (d : List Ch) (hW : W.heap.size ≤ B) (k1 : 1 ≤ k) (k16 : k ≤ 16) (hb : Nd W k b la) (hi : InvT W B d w) (hN : d.length + la.length ≤ 10000) :
    Calls Tryz.prog 78 #[SV B, .pointer (some ⟨b, 0, none⟩), .pointer none] w fun e w' => StP W B (d ++ changesL la []) w e w' := by
  have HE := Lib.hid (chg_gone hb.et)
  have HI := Lib.hid hi
  have HA := Lib.hid (fun w' (h : InvT W B d w') => dAll_any W w' B k (some b) la d _ _ as_gone hW hb k1 k16 h hN)
  have he := fun w' => (show (binOp .eql 103 (.pointer (some ⟨b, 0, none⟩)) (.pointer none)).run Tryz.prog w' = .ok (.bool false) w' from rfl)
  clear hb hi hW hN k1 k16
  go_enter Tryz.func78, Tryz.ntmps78
  go_wp2_with fail
  refine (HA.out _ (HI.out.step (by repeat (first | exact Below.refl _ _ | (refine Below.drew ?_) | (refine below_drewN' ?_ _) | (refine below_alloc' ?_ _) | (refine Below.setCell ?_ (by first | exact Nat.le_refl _ | (simp; done) | (simp; omega)) _))))).mono ?_
  rintro e w1 ⟨rfl, hi1, hk1⟩
  have HF := Lib.hid (And.intro hi1 ((Kp.of (B := B) ((by repeat (first | exact Below.refl _ _ | (refine Below.drew ?_) | (refine below_drewN' ?_ _) | (refine below_alloc' ?_ _) | (refine Below.setCell ?_ (by first | exact Nat.le_refl _ | (simp; done) | (simp; omega)) _))) : Below w.heap.size w _)).trans hk1))
  clear hi1 hk1
  go_wp2_with fail
  go_end0
  rw [HE.out]
  exact ⟨rfl, HF.out⟩
end Go.Proofs.YtjokcagggmjgmaaGreat
/-! Pause -/
namespace Go.Proofs.YtjokcagggmjgmaaGreat
open Go.RowKit
set_option linter.unusedVariables false

/-- the world gets a name -/
theorem stayC {P : Program} {c : Code} {Q : Exit → Act → World → Prop} {a : Act} {W : World} (h : ∀ w', w' = W → Code.wp P c Q a w') : Code.wp P c Q a W := h W rfl
theorem stayK {K : Act → World → Prop} {a : Act} {W : World} (h : ∀ w', w' = W → K a w') : K a W := h W rfl
theorem stayE {K : Act → World → Prop} {Q : Exit → Act → World → Prop} {a : Act} {W : World} (h : ∀ w', w' = W → Exit.then K Q .normal a w') : Exit.then K Q .normal a W := h W rfl
end Go.Proofs.YtjokcagggmjgmaaGreat
/-! DifI -/
namespace Go.Proofs.YtjokcagggmjgmaaGreat
open Go.RowKit
set_option linter.unusedVariables false
set_option linter.unusedSimpArgs false
set_option maxRecDepth 100000

/-- both, of what is smaller -/
def BoIH (W : World) (B k N : Nat) : Prop := ∀ (ra rb : Option Nat) (lx ly : List En) (w' : World) (d' : List Ch), RtN W k ra lx → RtN W k rb ly → lx.length + ly.length < N → InvT W B d' w' → d'.length + lx.length + ly.length ≤ 10000 → Calls Tryz.prog 78 #[SV B, pv ra, pv rb] w' fun e w'' => StP W B (d' ++ changesL lx ly) w' e w''
theorem cov_eq {l : List En} {p : List Nat} {c : Bool} (h : cov l p = c) : c = true ↔ Zb.cutN p (lev l) = preL l := by
  rw [← h]; unfold cov; simp
theorem even_any (W w : World) (B k ba bb : Nat) (la lb : List En) (d : List Ch) (hW : W.heap.size ≤ B) (k1 : 1 ≤ k) (k16 : k ≤ 16) (ha : Nd W k ba la) (hb : Nd W k bb lb) (hlv : lev la = lev lb) (hcv : cov la (preL lb) = true) (hi : InvT W B d w) (hN : d.length + la.length + lb.length ≤ 10000)
    (ih : BoIH W B k (la.length + lb.length)) :
    Calls Tryz.prog 128 #[SV B, .pointer (some ⟨ba, 0, none⟩), .pointer (some ⟨bb, 0, none⟩)] w fun e w' => StP W B (d ++ changesL la lb) w e w' := by
  have hc := (cov_eq hcv).1 rfl
  cases ha with
  | leaf _ p x h hp ho hv =>
    generalize hm : lb = lb' at hb
    cases hb with
    | leaf _ q y h' hp' ho' hv' =>
      subst hm
      rw [lev_one, preL_one, preL_one, Zb.cutN_zero] at hc
      have hc : q = p := hc
      subst hc
      exact even_leaf W w B k ba bb x y q d hW h h' hp ho k1 k16 hi (by omega)
    | node _ s n pre ks h' hs hkd hn =>
      subst hm
      rw [lev_one, hkd.lev] at hlv
      omega
  | node _ s n pre ks h hs hkd hn =>
    generalize hm : lb = lb' at hb
    cases hb with
    | leaf _ q y h' hp' ho' hv' =>
      subst hm
      rw [lev_one, hkd.lev] at hlv
      omega
    | node _ s' n' pre' ks' h' hs' hkd' hn' =>
      subst hm
      rw [hkd.lev, hkd'.lev] at hlv
      have e : n' = n := by omega
      subst e
      have hq := hkd'.preLen.2.2
      rw [hkd.lev, hkd'.preL, hkd.preL, hq] at hc
      subst hc
      exact even_node W w B k n' ba bb s s' pre' ks ks' d hW h.c3 hs hkd hn h'.c3 hs' hkd' hn' hi hN ih
theorem lev_pos_node {W : World} {k b : Nat} {l : List En} (h : Nd W k b l) (hl : 0 < lev l) : ∃ (s n : Nat) (pre : List Nat) (ks : List (Nat × Nat × List En)), l = cat (ks.map kl) ∧ W.cell? ⟨b, 3, none⟩ = some (.pointer (some ⟨s, 0, none⟩)) ∧ SlR W s k (ks.map kb) ∧ Kd k n pre (ks.map kl) ∧ (∀ x ∈ ks, Nd W k x.2.1 x.2.2) ∧ lev l = n + 1 ∧ preL l = pre := by
  cases h with
  | leaf _ p v h hp ho hv => rw [lev_one] at hl; omega
  | node _ s n pre ks h hs hkd hn => exact ⟨s, n, pre, ks, rfl, h.c3, hs, hkd, hn, hkd.lev, hkd.preL⟩
/-- what a node covers lies below one of its addresses -/
theorem cov_below {W : World} {k ba bb n : Nat} {la lb : List En} {pre : List Nat} (ha : Nd W k ba la) (hb : Nd W k bb lb) (hn : n < 64) (hla : lev la = n + 1) (hpa : preL la = pre) (hlt : lev lb < lev la) (hcv : cov la (preL lb) = true) : Below1 k n pre (Zb.addr (preL lb) n) lb := by
  have hc := (cov_eq hcv).1 rfl
  rw [hla, hpa] at hc
  refine ⟨hb.et, hn, fun e he => ?_, fun e he => ?_⟩
  · have h1 := hb.cut e he
    rw [← hc, ← h1, cut_cut2 (k := k) (hb.et.ok e he) (by omega)]
  · have h1 := hb.cut e he
    rw [← h1]
    exact (Zb.addr_cut e.p (lev lb) n (by omega)).symm
/-- neither covers the other one: the order of the prefixes is that of all -/
theorem apart_any {W : World} {k ba bb : Nat} {la lb : List En} (ha : Nd W k ba la) (hb : Nd W k bb lb) (h : (lev lb ≤ lev la ∧ cov la (preL lb) = false) ∨ (lev la ≤ lev lb ∧ cov lb (preL la) = false)) :
    (Zb.cmp (preL la) (preL lb) < 0 → changesL la lb = la.map goneC ++ lb.map comeC) ∧ (¬ Zb.cmp (preL la) (preL lb) < 0 → changesL la lb = lb.map comeC ++ la.map goneC) := by
  obtain ⟨a1, a2, a3⟩ := ha.pre_ok
  obtain ⟨b1, b2, b3⟩ := hb.pre_ok
  have hex : ∃ n, lev la ≤ n ∧ lev lb ≤ n ∧ Zb.cutN (preL la) n ≠ Zb.cutN (preL lb) n := by
    rcases h with ⟨h1, h2⟩ | ⟨h1, h2⟩
    · refine ⟨lev la, Nat.le_refl _, h1, fun e => ?_⟩
      rw [a3] at e
      have := (cov_eq h2).2 e.symm
      cases this
    · refine ⟨lev lb, h1, Nat.le_refl _, fun e => ?_⟩
      rw [b3] at e
      have := (cov_eq h2).2 e
      cases this
  obtain ⟨n, n1, n2, hne⟩ := hex
  have key : ∀ x ∈ la, ∀ y ∈ lb, ((pkey (preL la) < pkey (preL lb) ↔ x.key < y.key) ∧ (pkey (preL la) < pkey (preL lb) ∨ pkey (preL lb) < pkey (preL la))) ∧ ((pkey (preL lb) < pkey (preL la) ↔ y.key < x.key)) := fun x hx y hy => by
    have e1 : Zb.cutN (preL la) n = Zb.cutN x.p n := by rw [← ha.cut x hx]; exact cut_cut2 (k := k) (ha.et.ok x hx) n1
    have e2 : Zb.cutN (preL lb) n = Zb.cutN y.p n := by rw [← hb.cut y hy]; exact cut_cut2 (k := k) (hb.et.ok y hy) n2
    exact ⟨apart_order (k := k) a1 b1 (ha.et.len x hx) (hb.et.len y hy) a2 b2 (ha.et.ok x hx) (hb.et.ok y hy) e1 e2 hne,
      (apart_order (k := k) b1 a1 (hb.et.len y hy) (ha.et.len x hx) b2 a2 (hb.et.ok y hy) (ha.et.ok x hx) e2 e1 (fun e => hne e.symm)).1⟩
  refine ⟨fun hz => chg_before ha.et hb.et fun x hx y hy => ?_, fun hz => chg_behind ha.et hb.et fun y hy x hx => ?_⟩
  · exact (key x hx y hy).1.1.1 ((cmp_neg _ _).1 hz)
  · have h1 := key x hx y hy
    have h2 : ¬ pkey (preL la) < pkey (preL lb) := fun e => hz ((cmp_neg _ _).2 e)
    exact h1.2.1 (h1.1.2.resolve_left h2)
theorem both1_any (W w : World) (B sb bx : Nat) (q q2 : Option Addr) (D : List Ch) (hs : w.heap[sb]? = some (.cells #[.func (.func 77) #[] #[.pointer (some ⟨B, 0, none⟩)]] 122 (0, 0))) (hb : w.heap[bx]? = some (.cells #[.pointer q2] 103 (0, 0)))
    (h : Calls Tryz.prog 78 #[SV B, .pointer q, .pointer q2] w fun e w' => StP W B D w e w') : Calls Tryz.prog 130 #[.pointer q, .pointer (some ⟨sb, 0, none⟩), .pointer (some ⟨bx, 0, none⟩)] w fun e w' => StP W B D w e w' := by
  have H := Lib.hid h
  have k1 := cell_of_one hs
  have k2 := cell_of_one hb
  have l1 := lt_of_block hs
  have l2 := lt_of_block hb
  clear hs hb h
  go_enter Tryz.func130, Tryz.ntmps130
  go_wp2_with fail
  refine H.out.mono ?_
  rintro e w1 ⟨rfl, hi, hk⟩
  have HF := Lib.hid (And.intro hi hk)
  clear hi hk
  go_wp2_with fail
  go_end0
  exact ⟨rfl, HF.out⟩
theorem both2_any (W w : World) (B sb ab : Nat) (q q2 : Option Addr) (D : List Ch) (hs : w.heap[sb]? = some (.cells #[.func (.func 77) #[] #[.pointer (some ⟨B, 0, none⟩)]] 122 (0, 0))) (hb : w.heap[ab]? = some (.cells #[.pointer q2] 103 (0, 0)))
    (h : Calls Tryz.prog 78 #[SV B, .pointer q2, .pointer q] w fun e w' => StP W B D w e w') : Calls Tryz.prog 131 #[.pointer q, .pointer (some ⟨sb, 0, none⟩), .pointer (some ⟨ab, 0, none⟩)] w fun e w' => StP W B D w e w' := by
  have H := Lib.hid h
  have k1 := cell_of_one hs
  have k2 := cell_of_one hb
  have l1 := lt_of_block hs
  have l2 := lt_of_block hb
  clear hs hb h
  go_enter Tryz.func131, Tryz.ntmps131
  go_wp2_with fail
  refine H.out.mono ?_
  rintro e w1 ⟨rfl, hi, hk⟩
  have HF := Lib.hid (And.intro hi hk)
  clear hi hk
  go_wp2_with fail
  go_end0
  exact ⟨rfl, HF.out⟩
end Go.Proofs.YtjokcagggmjgmaaGreat
/-! DifS -/
namespace Go.Proofs.YtjokcagggmjgmaaGreat
open Go.RowKit
set_option linter.unusedVariables false
set_option linter.unusedSimpArgs false
set_option maxRecDepth 100000

/-- where both stands: its three boxes -/
structure BoS (W w0 : World) (B sb ab bx ba bb : Nat) (d : List Ch) (w : World) : Prop where
  bel : Below W.heap.size W w
  inv : InvT W B d w
  kp : Kp B w0 w
  hs : w.heap[sb]? = some (.cells #[.func (.func 77) #[] #[.pointer (some ⟨B, 0, none⟩)]] 122 (0, 0))
  ha : w.heap[ab]? = some (.cells #[.pointer (some ⟨ba, 0, none⟩)] 103 (0, 0))
  hb : w.heap[bx]? = some (.cells #[.pointer (some ⟨bb, 0, none⟩)] 103 (0, 0))
theorem BoS.step {W w0 w w' : World} {B sb ab bx ba bb : Nat} {d : List Ch} (h : BoS W w0 B sb ab bx ba bb d w) (hb : Below w.heap.size w w') : BoS W w0 B sb ab bx ba bb d w' :=
  ⟨h.bel.trans (hb.mono h.bel.size), h.inv.step hb, h.kp.trans (Kp.of hb), (hb.block _ (lt_of_block h.hs)).trans h.hs, (hb.block _ (lt_of_block h.ha)).trans h.ha, (hb.block _ (lt_of_block h.hb)).trans h.hb⟩
theorem BoS.go {W w0 w w' : World} {B sb ab bx ba bb : Nat} {d d' : List Ch} (h : BoS W w0 B sb ab bx ba bb d w) (hn : sb ≠ B ∧ ab ≠ B ∧ bx ≠ B) (hi : InvT W B d' w') (hk : Kp B w w') : BoS W w0 B sb ab bx ba bb d' w' :=
  ⟨hi.bel, hi, h.kp.trans hk, hk.keep _ _ _ _ h.hs hn.1 (by decide), hk.keep _ _ _ _ h.ha hn.2.1 (by decide), hk.keep _ _ _ _ h.hb hn.2.2 (by decide)⟩
set_option maxHeartbeats 4000000 in
theorem bes_gone (W w0 w : World) (B k ba bb sb ab bx : Nat) (la lb : List En) (d : List Ch) (hW : W.heap.size ≤ B) (k1 : 1 ≤ k) (k16 : k ≤ 16) (ha : Nd W k ba la) (hb : Nd W k bb lb) (hlt : lev lb < lev la) (hcv : cov la (preL lb) = true) (hs : BoS W w0 B sb ab bx ba bb d w) (hn : sb ≠ B ∧ ab ≠ B ∧ bx ≠ B) (hN : d.length + la.length + lb.length ≤ 10000)
    (ih : BoIH W B k (la.length + lb.length)) :
    Calls Tryz.prog 129 #[SV B, .pointer (some ⟨ba, 0, none⟩), .func (.func 126) #[] #[], .int .i64 (Zb.addr (preL lb) (lev la - 1) : Nat), .func (.func 130) #[] #[.pointer (some ⟨sb, 0, none⟩), .pointer (some ⟨bx, 0, none⟩)]] w fun e w' => StP W B (d ++ changesL la lb) w e w' := by
  obtain ⟨s, n, pre, ks, hla, c3, hsl, hk, hnk, hl, hp⟩ := lev_pos_node ha (by omega)
  have hn64 : n < 64 := hk.n64
  have hbl := cov_below ha hb hn64 hl hp hlt hcv
  have hadr : Zb.addr (preL lb) n < 65536 := by
    have h1 := Zb.addr_lt (preL lb) n
    rw [hb.pre_ok.1] at h1
    have h2 : 2 ^ k ≤ 2 ^ 16 := Nat.pow_le_pow_right (by omega) k16
    omega
  have e : lev la - 1 = n := by omega
  rw [e]
  subst hla
  refine beside_any W w B k n ba s (Zb.addr (preL lb) n) pre ks lb d 126 130 goneC #[.pointer (some ⟨sb, 0, none⟩), .pointer (some ⟨bx, 0, none⟩)] changesL as_gone (side_gone k) (enters_func (Tryz.func130) (by kernel_rfl) (by kernel_rfl)) hW c3 hsl hk hnk k1 k16 hbl hadr hs.inv (by omega) ?_
  intro r lx w' d' hr hlx hi' hkp hN'
  obtain ⟨q, hq⟩ := pv_ex r
  have hs' := hs.go hn hi' hkp
  have h9 := ih r (some bb) lx lb w' d' hr hb (by omega) hi' (by omega)
  rw [hq] at h9 ⊢
  exact both1_any W w' B sb bx q _ _ hs'.hs hs'.hb h9
set_option maxHeartbeats 4000000 in
theorem bes_come (W w0 w : World) (B k ba bb sb ab bx : Nat) (la lb : List En) (d : List Ch) (hW : W.heap.size ≤ B) (k1 : 1 ≤ k) (k16 : k ≤ 16) (ha : Nd W k ba la) (hb : Nd W k bb lb) (hlt : lev la < lev lb) (hcv : cov lb (preL la) = true) (hs : BoS W w0 B sb ab bx ba bb d w) (hn : sb ≠ B ∧ ab ≠ B ∧ bx ≠ B) (hN : d.length + la.length + lb.length ≤ 10000)
    (ih : BoIH W B k (la.length + lb.length)) :
    Calls Tryz.prog 129 #[SV B, .pointer (some ⟨bb, 0, none⟩), .func (.func 125) #[] #[], .int .i64 (Zb.addr (preL la) (lev lb - 1) : Nat), .func (.func 131) #[] #[.pointer (some ⟨sb, 0, none⟩), .pointer (some ⟨ab, 0, none⟩)]] w fun e w' => StP W B (d ++ changesL la lb) w e w' := by
  obtain ⟨s, n, pre, ks, hla, c3, hsl, hk, hnk, hl, hp⟩ := lev_pos_node hb (by omega)
  have hn64 : n < 64 := hk.n64
  have hbl := cov_below hb ha hn64 hl hp hlt hcv
  have hadr : Zb.addr (preL la) n < 65536 := by
    have h1 := Zb.addr_lt (preL la) n
    rw [ha.pre_ok.1] at h1
    have h2 : 2 ^ k ≤ 2 ^ 16 := Nat.pow_le_pow_right (by omega) k16
    omega
  have e : lev lb - 1 = n := by omega
  rw [e]
  subst hla
  refine beside_any W w B k n bb s (Zb.addr (preL la) n) pre ks la d 125 131 comeC #[.pointer (some ⟨sb, 0, none⟩), .pointer (some ⟨ab, 0, none⟩)] (fun a b => changesL b a) as_come (side_come k) (enters_func (Tryz.func131) (by kernel_rfl) (by kernel_rfl)) hW c3 hsl hk hnk k1 k16 hbl hadr hs.inv (by omega) ?_
  intro r lx w' d' hr hlx hi' hkp hN'
  obtain ⟨q, hq⟩ := pv_ex r
  have hs' := hs.go hn hi' hkp
  have h9 := ih (some ba) r la lx w' d' ha hr (by omega) hi' (by omega)
  rw [hq] at h9 ⊢
  exact both2_any W w' B sb ab q _ _ hs'.hs hs'.ha h9
end Go.Proofs.YtjokcagggmjgmaaGreat
/-! DifH -/
namespace Go.Proofs.YtjokcagggmjgmaaGreat
open Go.RowKit
set_option linter.unusedVariables false
set_option linter.unusedSimpArgs false
set_option maxRecDepth 100000

set_option maxHeartbeats 32000000 in
theorem both_eq (W w : World) (B k ba bb : Nat) (la lb : List En) (d : List Ch) (hW : W.heap.size ≤ B) (k1 : 1 ≤ k) (k16 : k ≤ 16) (ha : Nd W k ba la) (hb : Nd W k bb lb) (hne : ba ≠ bb) (hi : InvT W B d w) (hN : d.length + la.length + lb.length ≤ 10000) (ih : BoIH W B k (la.length + lb.length)) (hlv : lev la = lev lb) :
    Calls Tryz.prog 78 #[SV B, .pointer (some ⟨ba, 0, none⟩), .pointer (some ⟨bb, 0, none⟩)] w fun e w' => StP W B (d ++ changesL la lb) w e w' := by
  obtain ⟨vA, kpA, hhA⟩ := ha.hd
  obtain ⟨vB, kpB, hhB⟩ := hb.hd
  obtain ⟨pA1, pA2, pA3⟩ := ha.pre_ok
  obtain ⟨pB1, pB2, pB3⟩ := hb.pre_ok
  obtain ⟨uA, cA1, cA2⟩ := hhA.c1
  obtain ⟨uB, cB1, cB2⟩ := hhB.c1
  have hLA := fun w' (h : Below W.heap.size W w') => nlev_any w' ba _ (Below.keeps h _ _ hhA.c0)
  have hLB := fun w' (h : Below W.heap.size W w') => nlev_any w' bb _ (Below.keeps h _ _ hhB.c0)
  obtain ⟨lvA, hlA⟩ : ∃ lv : Int, (lev la : Int) - 1 = lv := ⟨_, rfl⟩
  obtain ⟨lvB, hlB⟩ : ∃ lv : Int, (lev lb : Int) - 1 = lv := ⟨_, rfl⟩
  rw [hlA] at hLA
  rw [hlB] at hLB
  have HLA := Lib.hid hLA
  have HLB := Lib.hid hLB
  have HPA := Lib.hid (fun w' (h : Below W.heap.size W w') => npref_any w' ba (preL la) uA (Below.keeps h _ _ cA1) (cA2.below h) (by omega) (by omega))
  have HPB := Lib.hid (fun w' (h : Below W.heap.size W w') => npref_any w' bb (preL lb) uB (Below.keeps h _ _ cB1) (cB2.below h) (by omega) (by omega))
  have HCA := Lib.hid (fun w' u (h : Below W.heap.size W w') (hu : RdU w' u (pti (preL lb))) => ncov_any w' k ba la (preL lb) u (ha.bel h) hu pB1 pB2 k1 k16)
  have HCB := Lib.hid (fun w' u (h : Below W.heap.size W w') (hu : RdU w' u (pti (preL la))) => ncov_any w' k bb lb (preL la) u (hb.bel h) hu pA1 pA2 k1 k16)
  obtain ⟨prA, hprA⟩ : ∃ p, preL la = p := ⟨_, rfl⟩
  obtain ⟨prB, hprB⟩ : ∃ p, preL lb = p := ⟨_, rfl⟩
  rw [hprA] at HPA HCB
  rw [hprB] at HPB HCA
  have HI := Lib.hid hi
  have hE := fun (h1 : lev la = lev lb) (h2 : cov la (preL lb) = true) (w' : World) (h : InvT W B d w') => even_any W w' B k ba bb la lb d hW k1 k16 ha hb h1 h2 h hN ih
  have hORD := apart_any ha hb
  have HAB := Lib.hid (And.intro ha hb)
  have HD := Lib.hid (And.intro hW (And.intro k1 (And.intro k16 hN)))
  have HLV := Lib.hid (And.intro hlA hlB)
  have HPR := Lib.hid (And.intro hprA hprB)
  have hbx : Below w.heap.size w (((w.alloc (.cells #[.func (.func 77) #[] #[.pointer (some ⟨B, 0, none⟩)]] 122)).alloc (.cells #[.pointer (some ⟨ba, 0, none⟩)] 103)).alloc (.cells #[.pointer (some ⟨bb, 0, none⟩)] 103)) := (by repeat (first | exact Below.refl _ _ | (refine Below.drew ?_) | (refine below_drewN' ?_ _) | (refine below_alloc' ?_ _) | (refine Below.setCell ?_ (by first | exact Nat.le_refl _ | (simp; done) | (simp; omega)) _)))
  have he := node_other (ha.bel (hi.bel.trans (hbx.mono hi.bel.size))) (hb.bel (hi.bel.trans (hbx.mono hi.bel.size))) hne
  have HBX := Lib.hid hbx
  have HALA := Lib.hid (fun (w' : World) (d' : List Ch) (h : InvT W B d' w') (hl : d'.length + la.length ≤ 10000) => dAll_any W w' B k (some ba) la d' _ _ as_gone hW ha k1 k16 h hl)
  have HALB := Lib.hid (fun (w' : World) (d' : List Ch) (h : InvT W B d' w') (hl : d'.length + lb.length ≤ 10000) => dAll_any W w' B k (some bb) lb d' _ _ as_come hW hb k1 k16 h hl)
  have L1 := Lib.hid (show d.length + la.length ≤ 10000 from by omega)
  have L2 := Lib.hid (show (d ++ la.map goneC).length + lb.length ≤ 10000 from by rw [List.length_append, List.length_map]; omega)
  have L3 := Lib.hid (show d.length + lb.length ≤ 10000 from by omega)
  have L4 := Lib.hid (show (d ++ lb.map comeC).length + la.length ≤ 10000 from by rw [List.length_append, List.length_map]; omega)
  have HCMP := Lib.hid (fun (w' : World) (u v : Value) (hu : RdU w' u (pti (preL la))) (hv : RdU w' v (pti (preL lb))) => zCmp_any (preL la) (preL lb) u v w' hu hv (by rw [pA1, pB1]) (by omega) (by omega) pA2 pB2)
  obtain ⟨z, hz0⟩ : ∃ z, Zb.cmp (preL la) (preL lb) = z := ⟨_, rfl⟩
  rw [hz0] at HCMP hORD
  rw [hprA, hprB] at HCMP
  rw [hprA, hprB] at hORD
  rw [hprB] at hE
  have hc0 : lvA = lvB := by omega
  have HCM := Lib.hid (show lvA = lvB ∧ (lvA == lvB) = true from ⟨hc0, by simp [hc0]⟩)
  have HG1 := Lib.hid (show ¬ lvA > lvB ∧ decide (lvA > lvB) = false from ⟨by omega, by simp [hc0]⟩)
  have HG2 := Lib.hid (show ¬ lvB > lvA ∧ decide (lvB > lvA) = false from ⟨by omega, by simp [hc0]⟩)
  clear hc0
  obtain ⟨cv, hcv⟩ : ∃ cv, cov la prB = cv := ⟨_, rfl⟩
  rw [hcv] at HCA hORD hE
  have HEV := Lib.hid (fun (h : cv = true) => hE hlv h)
  have HOR := Lib.hid (fun (h : cv = false) => hORD (Or.inl ⟨Nat.le_of_eq hlv.symm, h⟩))
  clear hcv
  clear hlv ha hb hne hi hN hW k1 k16 hhA hhB pA1 pA2 pA3 pB1 pB2 pB3 cA1 cA2 cB1 cB2 hLA hLB hlA hlB hprA hprB hbx hE hORD ih hz0
  go_enter Tryz.func78, Tryz.ntmps78
  go_wp2_with fail
  have hBl := Exists.choose_spec (InvT.blkB HI.out)
  have HBS := Lib.hid (lt_of_block hBl)
  have hs0 : (((w.alloc (.cells #[.func (.func 77) #[] #[.pointer (some ⟨B, 0, none⟩)]] 122)).alloc (.cells #[.pointer (some ⟨ba, 0, none⟩)] 103)).alloc (.cells #[.pointer (some ⟨bb, 0, none⟩)] 103)).heap[w.heap.size]? = some (.cells #[.func (.func 77) #[] #[.pointer (some ⟨B, 0, none⟩)]] 122 (0, 0)) := (((by repeat (first | exact Below.refl _ _ | (refine Below.drew ?_) | (refine below_drewN' ?_ _) | (refine below_alloc' ?_ _) | (refine Below.setCell ?_ (by first | exact Nat.le_refl _ | (simp; done) | (simp; omega)) _))) : Below (w.alloc (.cells #[.func (.func 77) #[] #[.pointer (some ⟨B, 0, none⟩)]] 122)).heap.size (w.alloc (.cells #[.func (.func 77) #[] #[.pointer (some ⟨B, 0, none⟩)]] 122)) _).block _ (by simp)).trans (alloc_blk _ _)
  have ha0 : (((w.alloc (.cells #[.func (.func 77) #[] #[.pointer (some ⟨B, 0, none⟩)]] 122)).alloc (.cells #[.pointer (some ⟨ba, 0, none⟩)] 103)).alloc (.cells #[.pointer (some ⟨bb, 0, none⟩)] 103)).heap[w.heap.size + 1]? = some (.cells #[.pointer (some ⟨ba, 0, none⟩)] 103 (0, 0)) := (((by repeat (first | exact Below.refl _ _ | (refine Below.drew ?_) | (refine below_drewN' ?_ _) | (refine below_alloc' ?_ _) | (refine Below.setCell ?_ (by first | exact Nat.le_refl _ | (simp; done) | (simp; omega)) _))) : Below ((w.alloc (.cells #[.func (.func 77) #[] #[.pointer (some ⟨B, 0, none⟩)]] 122)).alloc (.cells #[.pointer (some ⟨ba, 0, none⟩)] 103)).heap.size ((w.alloc (.cells #[.func (.func 77) #[] #[.pointer (some ⟨B, 0, none⟩)]] 122)).alloc (.cells #[.pointer (some ⟨ba, 0, none⟩)] 103)) _).block _ (by simp)).trans (by have := alloc_blk (w.alloc (.cells #[.func (.func 77) #[] #[.pointer (some ⟨B, 0, none⟩)]] 122)) (.cells #[.pointer (some ⟨ba, 0, none⟩)] 103); simpa using this)
  have hb0 : (((w.alloc (.cells #[.func (.func 77) #[] #[.pointer (some ⟨B, 0, none⟩)]] 122)).alloc (.cells #[.pointer (some ⟨ba, 0, none⟩)] 103)).alloc (.cells #[.pointer (some ⟨bb, 0, none⟩)] 103)).heap[w.heap.size + 1 + 1]? = some (.cells #[.pointer (some ⟨bb, 0, none⟩)] 103 (0, 0)) := by have := alloc_blk ((w.alloc (.cells #[.func (.func 77) #[] #[.pointer (some ⟨B, 0, none⟩)]] 122)).alloc (.cells #[.pointer (some ⟨ba, 0, none⟩)] 103)) (.cells #[.pointer (some ⟨bb, 0, none⟩)] 103); simpa using this
  have HBW0 := Lib.hid (HI.out.bel.trans (HBX.out.mono HI.out.bel.size))
  have HIX := Lib.hid (HI.out.step HBX.out)
  have HKX := Lib.hid (Kp.of (B := B) HBX.out)
  obtain ⟨sb, hsb⟩ : ∃ sb, w.heap.size = sb := ⟨_, rfl⟩
  obtain ⟨ab, hab⟩ : ∃ ab, w.heap.size + 1 = ab := ⟨_, rfl⟩
  obtain ⟨bx, hbxx⟩ : ∃ bx, w.heap.size + 1 + 1 = bx := ⟨_, rfl⟩
  have HNB := Lib.hid (show sb ≠ B ∧ ab ≠ B ∧ bx ≠ B from by have := HBS.out; omega)
  rw [hsb] at hs0
  rw [hab] at ha0
  rw [hbxx] at hb0
  rw [hbxx, hab, hsb]
  clear hsb hab hbxx he HBX hBl
  generalize ((w.alloc (.cells #[.func (.func 77) #[] #[.pointer (some ⟨B, 0, none⟩)]] 122)).alloc (.cells #[.pointer (some ⟨ba, 0, none⟩)] 103)).alloc (.cells #[.pointer (some ⟨bb, 0, none⟩)] 103) = wx at *
  have HS := Lib.hid (show BoS W w B sb ab bx ba bb d wx from ⟨HBW0.out, HIX.out, HKX.out, hs0, ha0, hb0⟩)
  clear hs0 ha0 hb0 HBW0 HIX HKX HBS
  have HN3 := HNB
  clear HNB
  have hcmp := HCM.out.1
  have hcmpb := HCM.out.2
  have HBW := Lib.hid HS.out.bel
  have kA := cell_of_one HS.out.ha
  have kB := cell_of_one HS.out.hb
  have kS := cell_of_one HS.out.hs
  have lA := lt_of_block HS.out.ha
  have lB := lt_of_block HS.out.hb
  have lS := lt_of_block HS.out.hs
  refine wp_region_vals 10 [fun z9 _ => z9 = .pointer (some ⟨ba, 0, none⟩),
    fun z9 _ => z9 = .int .i64 lvA,
    fun z9 _ => z9 = .pointer (some ⟨bb, 0, none⟩),
    fun z9 _ => z9 = .int .i64 lvB,
    fun z9 _ => z9 = .bool true,
    fun z9 _ => z9 = .bool true,
    fun z9 _ => z9 = .pointer (some ⟨ba, 0, none⟩),
    fun z9 _ => z9 = .pointer (some ⟨bb, 0, none⟩),
    fun v9 w9 => PtNew w9 v9 prB,
    fun z9 _ => z9 = .bool cv]
    (by kernel_rfl) (by kernel_rfl) (by kernel_rfl) (by kernel_rfl) ?_ ?_ ?_
  · intro V hV v w1 w2 h hb
    simp only [List.mem_cons, List.not_mem_nil, or_false] at hV
    rcases hV with rfl | rfl | rfl | rfl | rfl | rfl | rfl | rfl | rfl | rfl
    all_goals first | exact h | (exact PtNew.below h hb)
  · intro iq oq hiq hoq
    match iq, hiq with
    | 0, _ =>
    obtain rfl := Option.some.inj hoq
    intro a1 w1 K hk hK
    have e4 : a1.tmps.getD 4 undef = .pointer (some ⟨ab, 0, none⟩) := hk.same 4 (by simp)
    have c0 : w1.cell? ⟨ab, 0, none⟩ = some (.pointer (some ⟨ba, 0, none⟩)) := Below.keeps hk.ext _ _ (by simp [go_sem, kA, kB, hcmp, hcmpb])
    have c1 : w1.cell? ⟨bx, 0, none⟩ = some (.pointer (some ⟨bb, 0, none⟩)) := Below.keeps hk.ext _ _ (by simp [go_sem, kA, kB, hcmp, hcmpb])
    simp [Region.wanted, Oper.wp, Act.eval, go_sem, e4, c0, c1, kA, kB, hcmp, hcmpb]
    exact hK _ _ (Below.refl _ _) rfl
    | 1, _ =>
    obtain rfl := Option.some.inj hoq
    intro a1 w1 K hk hK
    have d51 : a1.tmps.getD 51 undef = .pointer (some ⟨ba, 0, none⟩) := hk.deps ⟨0, .data⟩ (by simp) rfl _ _ rfl rfl
    simp [Region.wanted, Oper.wp, Act.eval, go_sem, d51, kA, kB, hcmp, hcmpb]
    refine (HLA.out _ (HBW.out.trans ((below_trans (by repeat (first | exact Below.refl _ _ | (refine Below.drew ?_) | (refine below_drewN' ?_ _) | (refine below_alloc' ?_ _) | (refine Below.setCell ?_ (by first | exact Nat.le_refl _ | (simp; done) | (simp; omega)) _))) hk.ext).mono HBW.out.size))).mono ?_
    rintro e w9 ⟨rfl, hw9⟩
    exact hK _ _ (by rw [hw9]; exact Below.refl _ _) rfl
    | 2, _ =>
    obtain rfl := Option.some.inj hoq
    intro a1 w1 K hk hK
    have e5 : a1.tmps.getD 5 undef = .pointer (some ⟨bx, 0, none⟩) := hk.same 5 (by simp)
    have c0 : w1.cell? ⟨ab, 0, none⟩ = some (.pointer (some ⟨ba, 0, none⟩)) := Below.keeps hk.ext _ _ (by simp [go_sem, kA, kB, hcmp, hcmpb])
    have c1 : w1.cell? ⟨bx, 0, none⟩ = some (.pointer (some ⟨bb, 0, none⟩)) := Below.keeps hk.ext _ _ (by simp [go_sem, kA, kB, hcmp, hcmpb])
    simp [Region.wanted, Oper.wp, Act.eval, go_sem, e5, c0, c1, kA, kB, hcmp, hcmpb]
    exact hK _ _ (Below.refl _ _) rfl
    | 3, _ =>
    obtain rfl := Option.some.inj hoq
    intro a1 w1 K hk hK
    have d53 : a1.tmps.getD 53 undef = .pointer (some ⟨bb, 0, none⟩) := hk.deps ⟨2, .data⟩ (by simp) rfl _ _ rfl rfl
    simp [Region.wanted, Oper.wp, Act.eval, go_sem, d53, kA, kB, hcmp, hcmpb]
    refine (HLB.out _ (HBW.out.trans ((below_trans (by repeat (first | exact Below.refl _ _ | (refine Below.drew ?_) | (refine below_drewN' ?_ _) | (refine below_alloc' ?_ _) | (refine Below.setCell ?_ (by first | exact Nat.le_refl _ | (simp; done) | (simp; omega)) _))) hk.ext).mono HBW.out.size))).mono ?_
    rintro e w9 ⟨rfl, hw9⟩
    exact hK _ _ (by rw [hw9]; exact Below.refl _ _) rfl
    | 4, _ =>
    obtain rfl := Option.some.inj hoq
    intro a1 w1 K hk hK
    have d52 : a1.tmps.getD 52 undef = .int .i64 lvA := hk.deps ⟨1, .data⟩ (by simp) rfl _ _ rfl rfl
    have d54 : a1.tmps.getD 54 undef = .int .i64 lvB := hk.deps ⟨3, .data⟩ (by simp) rfl _ _ rfl rfl
    simp [Region.wanted, Oper.wp, Act.eval, go_sem, d52, d54, kA, kB, hcmp, hcmpb]
    exact hK _ _ (Below.refl _ _) rfl
    | 5, _ =>
    obtain rfl := Option.some.inj hoq
    intro a1 w1 K hk hK
    have d55 : a1.tmps.getD 55 undef = .bool true := hk.deps ⟨4, .data⟩ (by simp) rfl _ _ rfl rfl
    simp [Region.wanted, Oper.wp, Act.eval, go_sem, d55, kA, kB, hcmp, hcmpb]
    exact hK _ _ (Below.refl _ _) rfl
    | 6, _ =>
    obtain rfl := Option.some.inj hoq
    intro a1 w1 K hk hK
    have e4 : a1.tmps.getD 4 undef = .pointer (some ⟨ab, 0, none⟩) := hk.same 4 (by simp)
    have gd : a1.tmps[56]? = some (.bool true) := getD_bool (hk.deps ⟨5, .guard⟩ (by simp) rfl _ _ rfl rfl)
    have c0 : w1.cell? ⟨ab, 0, none⟩ = some (.pointer (some ⟨ba, 0, none⟩)) := Below.keeps hk.ext _ _ (by simp [go_sem, kA, kB, hcmp, hcmpb])
    have c1 : w1.cell? ⟨bx, 0, none⟩ = some (.pointer (some ⟨bb, 0, none⟩)) := Below.keeps hk.ext _ _ (by simp [go_sem, kA, kB, hcmp, hcmpb])
    simp [Region.wanted, Oper.wp, Act.eval, go_sem, e4, gd, yielded, c0, c1, kA, kB, hcmp, hcmpb]
    exact hK _ _ (Below.refl _ _) rfl
    | 7, _ =>
    obtain rfl := Option.some.inj hoq
    intro a1 w1 K hk hK
    have e5 : a1.tmps.getD 5 undef = .pointer (some ⟨bx, 0, none⟩) := hk.same 5 (by simp)
    have gd : a1.tmps[56]? = some (.bool true) := getD_bool (hk.deps ⟨5, .guard⟩ (by simp) rfl _ _ rfl rfl)
    have c0 : w1.cell? ⟨ab, 0, none⟩ = some (.pointer (some ⟨ba, 0, none⟩)) := Below.keeps hk.ext _ _ (by simp [go_sem, kA, kB, hcmp, hcmpb])
    have c1 : w1.cell? ⟨bx, 0, none⟩ = some (.pointer (some ⟨bb, 0, none⟩)) := Below.keeps hk.ext _ _ (by simp [go_sem, kA, kB, hcmp, hcmpb])
    simp [Region.wanted, Oper.wp, Act.eval, go_sem, e5, gd, yielded, c0, c1, kA, kB, hcmp, hcmpb]
    exact hK _ _ (Below.refl _ _) rfl
    | 8, _ =>
    obtain rfl := Option.some.inj hoq
    intro a1 w1 K hk hK
    have d58 : a1.tmps.getD 58 undef = .pointer (some ⟨bb, 0, none⟩) := hk.deps ⟨7, .data⟩ (by simp) rfl _ _ rfl rfl
    have gd : a1.tmps[56]? = some (.bool true) := getD_bool (hk.deps ⟨5, .guard⟩ (by simp) rfl _ _ rfl rfl)
    simp [Region.wanted, Oper.wp, Act.eval, go_sem, d58, gd, yielded, kA, kB, hcmp, hcmpb]
    refine (HPB.out _ (HBW.out.trans ((below_trans (by repeat (first | exact Below.refl _ _ | (refine Below.drew ?_) | (refine below_drewN' ?_ _) | (refine below_alloc' ?_ _) | (refine Below.setCell ?_ (by first | exact Nat.le_refl _ | (simp; done) | (simp; omega)) _))) hk.ext).mono HBW.out.size))).mono ?_
    rintro e w9 ⟨u9, rfl, h9, hb9⟩
    exact hK _ _ hb9 h9
    | 9, _ =>
    obtain rfl := Option.some.inj hoq
    intro a1 w1 K hk hK
    have d57 : a1.tmps.getD 57 undef = .pointer (some ⟨ba, 0, none⟩) := hk.deps ⟨6, .data⟩ (by simp) rfl _ _ rfl rfl
    have D59 : PtNew w1 (a1.tmps.getD 59 undef) prB := hk.deps ⟨8, .data⟩ (by simp) rfl _ _ rfl rfl
    have gd : a1.tmps[56]? = some (.bool true) := getD_bool (hk.deps ⟨5, .guard⟩ (by simp) rfl _ _ rfl rfl)
    obtain ⟨A9, c9, eP, _⟩ := RdU.point D59.rd
    have ePx : a1.tmps[59]?.getD undef = .slice A9 prB.length c9 := by rw [← eP]; simp
    rw [eP] at D59
    simp [Region.wanted, Oper.wp, Act.eval, go_sem, d57, eP, ePx, gd, yielded, kA, kB]
    refine (HCA.out _ _ (HBW.out.trans ((below_trans (by repeat (first | exact Below.refl _ _ | (refine Below.drew ?_) | (refine below_drewN' ?_ _) | (refine below_alloc' ?_ _) | (refine Below.setCell ?_ (by first | exact Nat.le_refl _ | (simp; done) | (simp; omega)) _))) hk.ext).mono HBW.out.size)) D59.rd).mono ?_
    rintro e w9 ⟨rfl, hw9⟩
    exact hK _ _ (by rw [hw9]; exact Below.refl _ _) rfl
  · intro vs w3 hl hb3 hv
    match vs, hl with
    | [v0, v1, v2, v3, v4, v5, v6, v7, v8, v9], _ =>
    obtain rfl : v0 = .pointer (some ⟨ba, 0, none⟩) := hv 0 (by omega)
    obtain rfl : v1 = .int .i64 lvA := hv 1 (by omega)
    obtain rfl : v2 = .pointer (some ⟨bb, 0, none⟩) := hv 2 (by omega)
    obtain rfl : v3 = .int .i64 lvB := hv 3 (by omega)
    obtain rfl : v4 = .bool true := hv 4 (by omega)
    obtain rfl : v5 = .bool true := hv 5 (by omega)
    obtain rfl : v6 = .pointer (some ⟨ba, 0, none⟩) := hv 6 (by omega)
    obtain rfl : v7 = .pointer (some ⟨bb, 0, none⟩) := hv 7 (by omega)
    have q8 : PtNew w3 v8 prB := hv 8 (by omega)
    obtain rfl : v9 = .bool cv := hv 9 (by omega)
    clear hv
    simp only [putAll, List.take_succ_cons, List.take_zero, List.drop_succ_cons, List.drop_zero, Act.put, List.setIfInBounds_toArray, List.set_cons_succ, List.set_cons_zero]
    have HS2 := Lib.hid (HS.out.step hb3)
    clear hb3 HS HBW kA kB kS lA lB lS
    have HS := Lib.hid HS2.out
    clear HS2
    clear q8
    clear hcmp hcmpb HCM
    cases cv with
    | true =>
      have HBW := Lib.hid HS.out.bel
      have kA := cell_of_one HS.out.ha
      have kB := cell_of_one HS.out.hb
      have kS := cell_of_one HS.out.hs
      have lA := lt_of_block HS.out.ha
      have lB := lt_of_block HS.out.hb
      have lS := lt_of_block HS.out.hs
      have HV := Lib.hid (HEV.out rfl _ HS.out.inv)
      go_wp2_with fail
      refine HV.out.mono ?_
      rintro e w7 ⟨rfl, hi7, hk7⟩
      have HF := Lib.hid (And.intro hi7 (HS.out.kp.trans hk7))
      clear hi7 hk7
      go_wp2_with fail
      go_end0
      exact ⟨rfl, HF.out⟩
    | false =>
      have HORD := Lib.hid (HOR.out rfl)
      clear HOR HEV
      have hg := HG1.out.1
      have hgb := HG1.out.2
      have HBW := Lib.hid HS.out.bel
      have kA := cell_of_one HS.out.ha
      have kB := cell_of_one HS.out.hb
      have kS := cell_of_one HS.out.hs
      have lA := lt_of_block HS.out.ha
      have lB := lt_of_block HS.out.hb
      have lS := lt_of_block HS.out.hs
      go_wp2_with fail
      go_quiet ((go_at_call 103; first | with_reducible exact Calls.quiet_of_same (HLA.out _ (below_drewN' HBW.out _)) | with_reducible exact Calls.quiet_of_same (HLB.out _ (below_drewN' HBW.out _))))
      go_wp2_with fail
      refine stayC ?_
      intro wq hwq
      have HS2 := Lib.hid (HS.out.step (show Below _ _ wq from by rw [hwq]; exact (by repeat (first | exact Below.refl _ _ | (refine below_drewN' ?_ _)))))
      clear hwq HS HBW kA kB kS lA lB lS
      have HS := Lib.hid HS2.out
      clear HS2
      clear hg hgb
      have hg := HG2.out.1
      have hgb := HG2.out.2
      have HBW := Lib.hid HS.out.bel
      have kA := cell_of_one HS.out.ha
      have kB := cell_of_one HS.out.hb
      have kS := cell_of_one HS.out.hs
      have lA := lt_of_block HS.out.ha
      have lB := lt_of_block HS.out.hb
      have lS := lt_of_block HS.out.hs
      go_quiet ((go_at_call 103; first | with_reducible exact Calls.quiet_of_same (HLA.out _ (below_drewN' HBW.out _)) | with_reducible exact Calls.quiet_of_same (HLB.out _ (below_drewN' HBW.out _))))
      go_wp2_with fail
      refine stayC ?_
      intro wq hwq
      have HS2 := Lib.hid (HS.out.step (show Below _ _ wq from by rw [hwq]; exact (by repeat (first | exact Below.refl _ _ | (refine below_drewN' ?_ _)))))
      clear hwq HS HBW kA kB kS lA lB lS
      have HS := Lib.hid HS2.out
      clear HS2
      clear hg hgb
      go_wp2_with fail
      have HBW := Lib.hid HS.out.bel
      have kA := cell_of_one HS.out.ha
      have kB := cell_of_one HS.out.hb
      have kS := cell_of_one HS.out.hs
      have lA := lt_of_block HS.out.ha
      have lB := lt_of_block HS.out.hb
      have lS := lt_of_block HS.out.hs
      refine wp_region_vals 9 [fun z9 _ => z9 = .pointer (some ⟨ba, 0, none⟩),
        fun v9 w9 => PtNew w9 v9 prA,
        fun z9 _ => z9 = .pointer (some ⟨bb, 0, none⟩),
        fun v9 w9 => PtNew w9 v9 prB,
        fun z9 _ => z9 = .tuple #[.int .i64 z, .int .i64 0],
        fun z9 _ => z9 = .tuple #[.int .i64 z, .int .i64 0],
        fun z9 _ => z9 = .int .i64 z,
        fun z9 _ => z9 = .int .i64 0,
        fun z9 _ => z9 = .int .i64 z]
        (by kernel_rfl) (by kernel_rfl) (by kernel_rfl) (by kernel_rfl) ?_ ?_ ?_
      · intro V hV v w1 w2 h hb
        simp only [List.mem_cons, List.not_mem_nil, or_false] at hV
        rcases hV with rfl | rfl | rfl | rfl | rfl | rfl | rfl | rfl | rfl
        all_goals first | exact h | (exact PtNew.below h hb)
      · intro iq oq hiq hoq
        match iq, hiq with
        | 0, _ =>
        obtain rfl := Option.some.inj hoq
        intro a1 w1 K hk hK
        have e4 : a1.tmps.getD 4 undef = .pointer (some ⟨ab, 0, none⟩) := hk.same 4 (by simp)
        have c0 : w1.cell? ⟨ab, 0, none⟩ = some (.pointer (some ⟨ba, 0, none⟩)) := Below.keeps hk.ext _ _ (by simp [go_sem, kA, kB])
        have c1 : w1.cell? ⟨bx, 0, none⟩ = some (.pointer (some ⟨bb, 0, none⟩)) := Below.keeps hk.ext _ _ (by simp [go_sem, kA, kB])
        simp [Region.wanted, Oper.wp, Act.eval, go_sem, e4, c0, c1, kA, kB]
        exact hK _ _ (Below.refl _ _) rfl
        | 1, _ =>
        obtain rfl := Option.some.inj hoq
        intro a1 w1 K hk hK
        have d13 : a1.tmps.getD 13 undef = .pointer (some ⟨ba, 0, none⟩) := hk.deps ⟨0, .data⟩ (by simp) rfl _ _ rfl rfl
        simp [Region.wanted, Oper.wp, Act.eval, go_sem, d13, kA, kB]
        refine (HPA.out _ (HBW.out.trans ((below_trans (by repeat (first | exact Below.refl _ _ | (refine Below.drew ?_) | (refine below_drewN' ?_ _) | (refine below_alloc' ?_ _) | (refine Below.setCell ?_ (by first | exact Nat.le_refl _ | (simp; done) | (simp; omega)) _))) hk.ext).mono HBW.out.size))).mono ?_
        rintro e w9 ⟨u9, rfl, h9, hb9⟩
        exact hK _ _ hb9 h9
        | 2, _ =>
        obtain rfl := Option.some.inj hoq
        intro a1 w1 K hk hK
        have e5 : a1.tmps.getD 5 undef = .pointer (some ⟨bx, 0, none⟩) := hk.same 5 (by simp)
        have c0 : w1.cell? ⟨ab, 0, none⟩ = some (.pointer (some ⟨ba, 0, none⟩)) := Below.keeps hk.ext _ _ (by simp [go_sem, kA, kB])
        have c1 : w1.cell? ⟨bx, 0, none⟩ = some (.pointer (some ⟨bb, 0, none⟩)) := Below.keeps hk.ext _ _ (by simp [go_sem, kA, kB])
        simp [Region.wanted, Oper.wp, Act.eval, go_sem, e5, c0, c1, kA, kB]
        exact hK _ _ (Below.refl _ _) rfl
        | 3, _ =>
        obtain rfl := Option.some.inj hoq
        intro a1 w1 K hk hK
        have d15 : a1.tmps.getD 15 undef = .pointer (some ⟨bb, 0, none⟩) := hk.deps ⟨2, .data⟩ (by simp) rfl _ _ rfl rfl
        simp [Region.wanted, Oper.wp, Act.eval, go_sem, d15, kA, kB]
        refine (HPB.out _ (HBW.out.trans ((below_trans (by repeat (first | exact Below.refl _ _ | (refine Below.drew ?_) | (refine below_drewN' ?_ _) | (refine below_alloc' ?_ _) | (refine Below.setCell ?_ (by first | exact Nat.le_refl _ | (simp; done) | (simp; omega)) _))) hk.ext).mono HBW.out.size))).mono ?_
        rintro e w9 ⟨u9, rfl, h9, hb9⟩
        exact hK _ _ hb9 h9
        | 4, _ =>
        obtain rfl := Option.some.inj hoq
        intro a1 w1 K hk hK
        have D14 : PtNew w1 (a1.tmps.getD 14 undef) prA := hk.deps ⟨1, .data⟩ (by simp) rfl _ _ rfl rfl
        have D16 : PtNew w1 (a1.tmps.getD 16 undef) prB := hk.deps ⟨3, .data⟩ (by simp) rfl _ _ rfl rfl
        obtain ⟨AP, cP, eP, _⟩ := RdU.point D14.rd
        have ePx : a1.tmps[14]?.getD undef = .slice AP prA.length cP := by rw [← eP]; simp
        rw [eP] at D14
        obtain ⟨AQ, cQ, eQ, _⟩ := RdU.point D16.rd
        have eQx : a1.tmps[16]?.getD undef = .slice AQ prB.length cQ := by rw [← eQ]; simp
        rw [eQ] at D16
        simp [Region.wanted, Oper.wp, Act.eval, go_sem, eP, ePx, eQ, eQx, kA, kB]
        refine (HCMP.out _ _ _ D14.rd D16.rd).mono ?_
        rintro e w9 ⟨rfl, hw9⟩
        exact hK _ _ (by rw [hw9]; exact Below.refl _ _) rfl
        | 5, _ =>
        obtain rfl := Option.some.inj hoq
        intro a1 w1 K hk hK
        have d17 : a1.tmps.getD 17 undef = .tuple #[.int .i64 z, .int .i64 0] := hk.deps ⟨4, .data⟩ (by simp) rfl _ _ rfl rfl
        simp [Region.wanted, Oper.wp, Act.eval, go_sem, d17, kA, kB]
        exact hK _ _ (Below.refl _ _) rfl
        | 6, _ =>
        obtain rfl := Option.some.inj hoq
        intro a1 w1 K hk hK
        have d12 : a1.tmps.getD 12 undef = .tuple #[.int .i64 z, .int .i64 0] := hk.deps ⟨5, .data⟩ (by simp) rfl _ _ rfl rfl
        simp [Region.wanted, Oper.wp, Act.eval, go_sem, d12, kA, kB]
        exact hK _ _ (Below.refl _ _) rfl
        | 7, _ =>
        obtain rfl := Option.some.inj hoq
        intro a1 w1 K hk hK
        have d12 : a1.tmps.getD 12 undef = .tuple #[.int .i64 z, .int .i64 0] := hk.deps ⟨5, .data⟩ (by simp) rfl _ _ rfl rfl
        simp [Region.wanted, Oper.wp, Act.eval, go_sem, d12, kA, kB]
        exact hK _ _ (Below.refl _ _) rfl
        | 8, _ =>
        obtain rfl := Option.some.inj hoq
        intro a1 w1 K hk hK
        have d18 : a1.tmps.getD 18 undef = .int .i64 z := hk.deps ⟨6, .data⟩ (by simp) rfl _ _ rfl rfl
        simp [Region.wanted, Oper.wp, Act.eval, go_sem, d18, kA, kB]
        exact hK _ _ (Below.refl _ _) rfl
      · intro vs w3 hl hb3 hv
        match vs, hl with
        | [v0, v1, v2, v3, v4, v5, v6, v7, v8], _ =>
        obtain rfl : v0 = .pointer (some ⟨ba, 0, none⟩) := hv 0 (by omega)
        have q1 : PtNew w3 v1 prA := hv 1 (by omega)
        obtain rfl : v2 = .pointer (some ⟨bb, 0, none⟩) := hv 2 (by omega)
        have q3 : PtNew w3 v3 prB := hv 3 (by omega)
        obtain rfl : v4 = .tuple #[.int .i64 z, .int .i64 0] := hv 4 (by omega)
        obtain rfl : v5 = .tuple #[.int .i64 z, .int .i64 0] := hv 5 (by omega)
        obtain rfl : v6 = .int .i64 z := hv 6 (by omega)
        obtain rfl : v7 = .int .i64 0 := hv 7 (by omega)
        obtain rfl : v8 = .int .i64 z := hv 8 (by omega)
        clear hv
        simp only [putAll, List.take_succ_cons, List.take_zero, List.drop_succ_cons, List.drop_zero, Act.put, List.setIfInBounds_toArray, List.set_cons_succ, List.set_cons_zero]
        have HS2 := Lib.hid (HS.out.step hb3)
        clear hb3 HS HBW kA kB kS lA lB lS
        have HS := Lib.hid HS2.out
        clear HS2
        clear q1 q3
        by_cases hz : z < 0
        · have HE := Lib.hid (HORD.out.1 (by omega))
          have HBW := Lib.hid HS.out.bel
          have kA := cell_of_one HS.out.ha
          have kB := cell_of_one HS.out.hb
          have kS := cell_of_one HS.out.hs
          have lA := lt_of_block HS.out.ha
          have lB := lt_of_block HS.out.hb
          have lS := lt_of_block HS.out.hs
          go_wp2_with fail
          refine (HALA.out _ _ HS.out.inv L1.out).mono ?_
          rintro e w7 ⟨rfl, hi7, hk7⟩
          have HS2 := Lib.hid (HS.out.go HN3.out hi7 hk7)
          clear hi7 hk7 HBW kA kB kS lA lB lS
          have kA := cell_of_one HS2.out.ha
          have kB := cell_of_one HS2.out.hb
          have kS := cell_of_one HS2.out.hs
          have lA := lt_of_block HS2.out.ha
          have lB := lt_of_block HS2.out.hb
          have lS := lt_of_block HS2.out.hs
          go_wp2_with fail
          refine (HALB.out _ _ HS2.out.inv L2.out).mono ?_
          rintro e w8 ⟨rfl, hi8, hk8⟩
          have HF := Lib.hid (And.intro hi8 (HS2.out.kp.trans hk8))
          clear hi8 hk8
          go_wp2_with fail
          go_end0
          rw [HE.out, ← List.append_assoc]
          exact ⟨rfl, HF.out⟩
        · have HE := Lib.hid (HORD.out.2 (by omega))
          have HBW := Lib.hid HS.out.bel
          have kA := cell_of_one HS.out.ha
          have kB := cell_of_one HS.out.hb
          have kS := cell_of_one HS.out.hs
          have lA := lt_of_block HS.out.ha
          have lB := lt_of_block HS.out.hb
          have lS := lt_of_block HS.out.hs
          go_wp2_with fail
          refine (HALB.out _ _ HS.out.inv L3.out).mono ?_
          rintro e w7 ⟨rfl, hi7, hk7⟩
          have HS2 := Lib.hid (HS.out.go HN3.out hi7 hk7)
          clear hi7 hk7 HBW kA kB kS lA lB lS
          have kA := cell_of_one HS2.out.ha
          have kB := cell_of_one HS2.out.hb
          have kS := cell_of_one HS2.out.hs
          have lA := lt_of_block HS2.out.ha
          have lB := lt_of_block HS2.out.hb
          have lS := lt_of_block HS2.out.hs
          go_wp2_with fail
          refine (HALA.out _ _ HS2.out.inv L4.out).mono ?_
          rintro e w8 ⟨rfl, hi8, hk8⟩
          have HF := Lib.hid (And.intro hi8 (HS2.out.kp.trans hk8))
          clear hi8 hk8
          go_wp2_with fail
          go_end0
          rw [HE.out, ← List.append_assoc]
          exact ⟨rfl, HF.out⟩
end Go.Proofs.YtjokcagggmjgmaaGreat
/-! DifJ -/
namespace Go.Proofs.YtjokcagggmjgmaaGreat
open Go.RowKit
set_option linter.unusedVariables false
set_option linter.unusedSimpArgs false
set_option maxRecDepth 100000

set_option maxHeartbeats 32000000 in
theorem both_gt (W w : World) (B k ba bb : Nat) (la lb : List En) (d : List Ch) (hW : W.heap.size ≤ B) (k1 : 1 ≤ k) (k16 : k ≤ 16) (ha : Nd W k ba la) (hb : Nd W k bb lb) (hne : ba ≠ bb) (hi : InvT W B d w) (hN : d.length + la.length + lb.length ≤ 10000) (ih : BoIH W B k (la.length + lb.length)) (hlv : lev lb < lev la) :
    Calls Tryz.prog 78 #[SV B, .pointer (some ⟨ba, 0, none⟩), .pointer (some ⟨bb, 0, none⟩)] w fun e w' => StP W B (d ++ changesL la lb) w e w' := by
  obtain ⟨vA, kpA, hhA⟩ := ha.hd
  obtain ⟨vB, kpB, hhB⟩ := hb.hd
  obtain ⟨pA1, pA2, pA3⟩ := ha.pre_ok
  obtain ⟨pB1, pB2, pB3⟩ := hb.pre_ok
  obtain ⟨uA, cA1, cA2⟩ := hhA.c1
  obtain ⟨uB, cB1, cB2⟩ := hhB.c1
  have hLA := fun w' (h : Below W.heap.size W w') => nlev_any w' ba _ (Below.keeps h _ _ hhA.c0)
  have hLB := fun w' (h : Below W.heap.size W w') => nlev_any w' bb _ (Below.keeps h _ _ hhB.c0)
  obtain ⟨lvA, hlA⟩ : ∃ lv : Int, (lev la : Int) - 1 = lv := ⟨_, rfl⟩
  obtain ⟨lvB, hlB⟩ : ∃ lv : Int, (lev lb : Int) - 1 = lv := ⟨_, rfl⟩
  rw [hlA] at hLA
  rw [hlB] at hLB
  have HLA := Lib.hid hLA
  have HLB := Lib.hid hLB
  have HPA := Lib.hid (fun w' (h : Below W.heap.size W w') => npref_any w' ba (preL la) uA (Below.keeps h _ _ cA1) (cA2.below h) (by omega) (by omega))
  have HPB := Lib.hid (fun w' (h : Below W.heap.size W w') => npref_any w' bb (preL lb) uB (Below.keeps h _ _ cB1) (cB2.below h) (by omega) (by omega))
  have HCA := Lib.hid (fun w' u (h : Below W.heap.size W w') (hu : RdU w' u (pti (preL lb))) => ncov_any w' k ba la (preL lb) u (ha.bel h) hu pB1 pB2 k1 k16)
  have HCB := Lib.hid (fun w' u (h : Below W.heap.size W w') (hu : RdU w' u (pti (preL la))) => ncov_any w' k bb lb (preL la) u (hb.bel h) hu pA1 pA2 k1 k16)
  obtain ⟨prA, hprA⟩ : ∃ p, preL la = p := ⟨_, rfl⟩
  obtain ⟨prB, hprB⟩ : ∃ p, preL lb = p := ⟨_, rfl⟩
  rw [hprA] at HPA HCB
  rw [hprB] at HPB HCA
  have HI := Lib.hid hi
  have hE := fun (h1 : lev la = lev lb) (h2 : cov la (preL lb) = true) (w' : World) (h : InvT W B d w') => even_any W w' B k ba bb la lb d hW k1 k16 ha hb h1 h2 h hN ih
  have hORD := apart_any ha hb
  have HAB := Lib.hid (And.intro ha hb)
  have HD := Lib.hid (And.intro hW (And.intro k1 (And.intro k16 hN)))
  have HLV := Lib.hid (And.intro hlA hlB)
  have HPR := Lib.hid (And.intro hprA hprB)
  have hbx : Below w.heap.size w (((w.alloc (.cells #[.func (.func 77) #[] #[.pointer (some ⟨B, 0, none⟩)]] 122)).alloc (.cells #[.pointer (some ⟨ba, 0, none⟩)] 103)).alloc (.cells #[.pointer (some ⟨bb, 0, none⟩)] 103)) := (by repeat (first | exact Below.refl _ _ | (refine Below.drew ?_) | (refine below_drewN' ?_ _) | (refine below_alloc' ?_ _) | (refine Below.setCell ?_ (by first | exact Nat.le_refl _ | (simp; done) | (simp; omega)) _)))
  have he := node_other (ha.bel (hi.bel.trans (hbx.mono hi.bel.size))) (hb.bel (hi.bel.trans (hbx.mono hi.bel.size))) hne
  have HBX := Lib.hid hbx
  have HALA := Lib.hid (fun (w' : World) (d' : List Ch) (h : InvT W B d' w') (hl : d'.length + la.length ≤ 10000) => dAll_any W w' B k (some ba) la d' _ _ as_gone hW ha k1 k16 h hl)
  have HALB := Lib.hid (fun (w' : World) (d' : List Ch) (h : InvT W B d' w') (hl : d'.length + lb.length ≤ 10000) => dAll_any W w' B k (some bb) lb d' _ _ as_come hW hb k1 k16 h hl)
  have L1 := Lib.hid (show d.length + la.length ≤ 10000 from by omega)
  have L2 := Lib.hid (show (d ++ la.map goneC).length + lb.length ≤ 10000 from by rw [List.length_append, List.length_map]; omega)
  have L3 := Lib.hid (show d.length + lb.length ≤ 10000 from by omega)
  have L4 := Lib.hid (show (d ++ lb.map comeC).length + la.length ≤ 10000 from by rw [List.length_append, List.length_map]; omega)
  have HCMP := Lib.hid (fun (w' : World) (u v : Value) (hu : RdU w' u (pti (preL la))) (hv : RdU w' v (pti (preL lb))) => zCmp_any (preL la) (preL lb) u v w' hu hv (by rw [pA1, pB1]) (by omega) (by omega) pA2 pB2)
  obtain ⟨z, hz0⟩ : ∃ z, Zb.cmp (preL la) (preL lb) = z := ⟨_, rfl⟩
  rw [hz0] at HCMP hORD
  rw [hprA, hprB] at HCMP
  rw [hprA, hprB] at hORD
  rw [hprB] at hE
  obtain ⟨adr, hadr⟩ : ∃ a, Zb.addr (preL lb) (lev la - 1) = a := ⟨_, rfl⟩
  have hADR := fun (w' : World) (u : Value) (hu : RdU w' u (pti (preL lb))) => zAddr_any (preL lb) (lev la - 1) u w' hu (by rw [pB1]; omega) (by rw [pB1]; omega) pB2 (by obtain ⟨s, n, pre, ks, h1, h2, h3, h4, h5, h6, h7⟩ := lev_pos_node ha (by omega); have := h4.n64; omega)
  rw [hadr] at hADR
  rw [show ((lev la - 1 : Nat) : Int) = lvA from by omega] at hADR
  have HADR := Lib.hid hADR
  rw [hprB] at HADR
  clear hADR
  have HG0 := Lib.hid (show ¬ lvA = lvB ∧ (lvA == lvB) = false from ⟨by omega, by simp; omega⟩)
  have HCM := Lib.hid (show lvA > lvB ∧ decide (lvA > lvB) = true from ⟨by omega, by simp; omega⟩)
  have HG2 := Lib.hid (show ¬ lvB > lvA ∧ decide (lvB > lvA) = false from ⟨by omega, by simp; omega⟩)
  obtain ⟨cv, hcv⟩ : ∃ cv, cov la prB = cv := ⟨_, rfl⟩
  have hbes := fun (h : cv = true) (w' : World) (sb ab bx : Nat) (hs : BoS W w B sb ab bx ba bb d w') (hn : sb ≠ B ∧ ab ≠ B ∧ bx ≠ B) => bes_gone W w w' B k ba bb sb ab bx la lb d hW k1 k16 ha hb hlv (by rw [hprB, hcv, h]) hs hn hN ih
  rw [hadr] at hbes
  rw [hcv] at HCA hORD
  have HBES := Lib.hid hbes
  have HOR := Lib.hid (fun (h : cv = false) => hORD (Or.inl ⟨Nat.le_of_lt hlv, h⟩))
  clear hadr
  clear hlv ha hb hne hi hN hW k1 k16 hhA hhB pA1 pA2 pA3 pB1 pB2 pB3 cA1 cA2 cB1 cB2 hLA hLB hlA hlB hprA hprB hbx hE hORD ih hz0 hcv hbes
  go_enter Tryz.func78, Tryz.ntmps78
  go_wp2_with fail
  have hBl := Exists.choose_spec (InvT.blkB HI.out)
  have HBS := Lib.hid (lt_of_block hBl)
  have hs0 : (((w.alloc (.cells #[.func (.func 77) #[] #[.pointer (some ⟨B, 0, none⟩)]] 122)).alloc (.cells #[.pointer (some ⟨ba, 0, none⟩)] 103)).alloc (.cells #[.pointer (some ⟨bb, 0, none⟩)] 103)).heap[w.heap.size]? = some (.cells #[.func (.func 77) #[] #[.pointer (some ⟨B, 0, none⟩)]] 122 (0, 0)) := (((by repeat (first | exact Below.refl _ _ | (refine Below.drew ?_) | (refine below_drewN' ?_ _) | (refine below_alloc' ?_ _) | (refine Below.setCell ?_ (by first | exact Nat.le_refl _ | (simp; done) | (simp; omega)) _))) : Below (w.alloc (.cells #[.func (.func 77) #[] #[.pointer (some ⟨B, 0, none⟩)]] 122)).heap.size (w.alloc (.cells #[.func (.func 77) #[] #[.pointer (some ⟨B, 0, none⟩)]] 122)) _).block _ (by simp)).trans (alloc_blk _ _)
  have ha0 : (((w.alloc (.cells #[.func (.func 77) #[] #[.pointer (some ⟨B, 0, none⟩)]] 122)).alloc (.cells #[.pointer (some ⟨ba, 0, none⟩)] 103)).alloc (.cells #[.pointer (some ⟨bb, 0, none⟩)] 103)).heap[w.heap.size + 1]? = some (.cells #[.pointer (some ⟨ba, 0, none⟩)] 103 (0, 0)) := (((by repeat (first | exact Below.refl _ _ | (refine Below.drew ?_) | (refine below_drewN' ?_ _) | (refine below_alloc' ?_ _) | (refine Below.setCell ?_ (by first | exact Nat.le_refl _ | (simp; done) | (simp; omega)) _))) : Below ((w.alloc (.cells #[.func (.func 77) #[] #[.pointer (some ⟨B, 0, none⟩)]] 122)).alloc (.cells #[.pointer (some ⟨ba, 0, none⟩)] 103)).heap.size ((w.alloc (.cells #[.func (.func 77) #[] #[.pointer (some ⟨B, 0, none⟩)]] 122)).alloc (.cells #[.pointer (some ⟨ba, 0, none⟩)] 103)) _).block _ (by simp)).trans (by have := alloc_blk (w.alloc (.cells #[.func (.func 77) #[] #[.pointer (some ⟨B, 0, none⟩)]] 122)) (.cells #[.pointer (some ⟨ba, 0, none⟩)] 103); simpa using this)
  have hb0 : (((w.alloc (.cells #[.func (.func 77) #[] #[.pointer (some ⟨B, 0, none⟩)]] 122)).alloc (.cells #[.pointer (some ⟨ba, 0, none⟩)] 103)).alloc (.cells #[.pointer (some ⟨bb, 0, none⟩)] 103)).heap[w.heap.size + 1 + 1]? = some (.cells #[.pointer (some ⟨bb, 0, none⟩)] 103 (0, 0)) := by have := alloc_blk ((w.alloc (.cells #[.func (.func 77) #[] #[.pointer (some ⟨B, 0, none⟩)]] 122)).alloc (.cells #[.pointer (some ⟨ba, 0, none⟩)] 103)) (.cells #[.pointer (some ⟨bb, 0, none⟩)] 103); simpa using this
  have HBW0 := Lib.hid (HI.out.bel.trans (HBX.out.mono HI.out.bel.size))
  have HIX := Lib.hid (HI.out.step HBX.out)
  have HKX := Lib.hid (Kp.of (B := B) HBX.out)
  obtain ⟨sb, hsb⟩ : ∃ sb, w.heap.size = sb := ⟨_, rfl⟩
  obtain ⟨ab, hab⟩ : ∃ ab, w.heap.size + 1 = ab := ⟨_, rfl⟩
  obtain ⟨bx, hbxx⟩ : ∃ bx, w.heap.size + 1 + 1 = bx := ⟨_, rfl⟩
  have HNB := Lib.hid (show sb ≠ B ∧ ab ≠ B ∧ bx ≠ B from by have := HBS.out; omega)
  rw [hsb] at hs0
  rw [hab] at ha0
  rw [hbxx] at hb0
  rw [hbxx, hab, hsb]
  clear hsb hab hbxx he HBX hBl
  generalize ((w.alloc (.cells #[.func (.func 77) #[] #[.pointer (some ⟨B, 0, none⟩)]] 122)).alloc (.cells #[.pointer (some ⟨ba, 0, none⟩)] 103)).alloc (.cells #[.pointer (some ⟨bb, 0, none⟩)] 103) = wx at *
  have HS := Lib.hid (show BoS W w B sb ab bx ba bb d wx from ⟨HBW0.out, HIX.out, HKX.out, hs0, ha0, hb0⟩)
  clear hs0 ha0 hb0 HBW0 HIX HKX HBS
  have HN3 := HNB
  clear HNB
  have hg := HG0.out.1
  have hgb := HG0.out.2
  have HBW := Lib.hid HS.out.bel
  have kA := cell_of_one HS.out.ha
  have kB := cell_of_one HS.out.hb
  have kS := cell_of_one HS.out.hs
  have lA := lt_of_block HS.out.ha
  have lB := lt_of_block HS.out.hb
  have lS := lt_of_block HS.out.hs
  go_wp2_with fail
  go_quiet ((go_at_call 103; first | with_reducible exact Calls.quiet_of_same (HLA.out _ (below_drewN' HBW.out _)) | with_reducible exact Calls.quiet_of_same (HLB.out _ (below_drewN' HBW.out _))))
  go_wp2_with fail
  refine stayC ?_
  intro wq hwq
  have HS2 := Lib.hid (HS.out.step (show Below _ _ wq from by rw [hwq]; exact (by repeat (first | exact Below.refl _ _ | (refine below_drewN' ?_ _)))))
  clear hwq HS HBW kA kB kS lA lB lS
  have HS := Lib.hid HS2.out
  clear HS2
  clear hg hgb HG0
  go_wp2_with fail
  have hcmp := HCM.out.1
  have hcmpb := HCM.out.2
  have HBW := Lib.hid HS.out.bel
  have kA := cell_of_one HS.out.ha
  have kB := cell_of_one HS.out.hb
  have kS := cell_of_one HS.out.hs
  have lA := lt_of_block HS.out.ha
  have lB := lt_of_block HS.out.hb
  have lS := lt_of_block HS.out.hs
  refine wp_region_vals 10 [fun z9 _ => z9 = .pointer (some ⟨ba, 0, none⟩),
    fun z9 _ => z9 = .int .i64 lvA,
    fun z9 _ => z9 = .pointer (some ⟨bb, 0, none⟩),
    fun z9 _ => z9 = .int .i64 lvB,
    fun z9 _ => z9 = .bool true,
    fun z9 _ => z9 = .bool true,
    fun z9 _ => z9 = .pointer (some ⟨ba, 0, none⟩),
    fun z9 _ => z9 = .pointer (some ⟨bb, 0, none⟩),
    fun v9 w9 => PtNew w9 v9 prB,
    fun z9 _ => z9 = .bool cv]
    (by kernel_rfl) (by kernel_rfl) (by kernel_rfl) (by kernel_rfl) ?_ ?_ ?_
  · intro V hV v w1 w2 h hb
    simp only [List.mem_cons, List.not_mem_nil, or_false] at hV
    rcases hV with rfl | rfl | rfl | rfl | rfl | rfl | rfl | rfl | rfl | rfl
    all_goals first | exact h | (exact PtNew.below h hb)
  · intro iq oq hiq hoq
    match iq, hiq with
    | 0, _ =>
    obtain rfl := Option.some.inj hoq
    intro a1 w1 K hk hK
    have e4 : a1.tmps.getD 4 undef = .pointer (some ⟨ab, 0, none⟩) := hk.same 4 (by simp)
    have c0 : w1.cell? ⟨ab, 0, none⟩ = some (.pointer (some ⟨ba, 0, none⟩)) := Below.keeps hk.ext _ _ (by simp [go_sem, kA, kB, hcmp, hcmpb])
    have c1 : w1.cell? ⟨bx, 0, none⟩ = some (.pointer (some ⟨bb, 0, none⟩)) := Below.keeps hk.ext _ _ (by simp [go_sem, kA, kB, hcmp, hcmpb])
    simp [Region.wanted, Oper.wp, Act.eval, go_sem, e4, c0, c1, kA, kB, hcmp, hcmpb]
    exact hK _ _ (Below.refl _ _) rfl
    | 1, _ =>
    obtain rfl := Option.some.inj hoq
    intro a1 w1 K hk hK
    have d67 : a1.tmps.getD 67 undef = .pointer (some ⟨ba, 0, none⟩) := hk.deps ⟨0, .data⟩ (by simp) rfl _ _ rfl rfl
    simp [Region.wanted, Oper.wp, Act.eval, go_sem, d67, kA, kB, hcmp, hcmpb]
    refine (HLA.out _ (HBW.out.trans ((below_trans (by repeat (first | exact Below.refl _ _ | (refine Below.drew ?_) | (refine below_drewN' ?_ _) | (refine below_alloc' ?_ _) | (refine Below.setCell ?_ (by first | exact Nat.le_refl _ | (simp; done) | (simp; omega)) _))) hk.ext).mono HBW.out.size))).mono ?_
    rintro e w9 ⟨rfl, hw9⟩
    exact hK _ _ (by rw [hw9]; exact Below.refl _ _) rfl
    | 2, _ =>
    obtain rfl := Option.some.inj hoq
    intro a1 w1 K hk hK
    have e5 : a1.tmps.getD 5 undef = .pointer (some ⟨bx, 0, none⟩) := hk.same 5 (by simp)
    have c0 : w1.cell? ⟨ab, 0, none⟩ = some (.pointer (some ⟨ba, 0, none⟩)) := Below.keeps hk.ext _ _ (by simp [go_sem, kA, kB, hcmp, hcmpb])
    have c1 : w1.cell? ⟨bx, 0, none⟩ = some (.pointer (some ⟨bb, 0, none⟩)) := Below.keeps hk.ext _ _ (by simp [go_sem, kA, kB, hcmp, hcmpb])
    simp [Region.wanted, Oper.wp, Act.eval, go_sem, e5, c0, c1, kA, kB, hcmp, hcmpb]
    exact hK _ _ (Below.refl _ _) rfl
    | 3, _ =>
    obtain rfl := Option.some.inj hoq
    intro a1 w1 K hk hK
    have d69 : a1.tmps.getD 69 undef = .pointer (some ⟨bb, 0, none⟩) := hk.deps ⟨2, .data⟩ (by simp) rfl _ _ rfl rfl
    simp [Region.wanted, Oper.wp, Act.eval, go_sem, d69, kA, kB, hcmp, hcmpb]
    refine (HLB.out _ (HBW.out.trans ((below_trans (by repeat (first | exact Below.refl _ _ | (refine Below.drew ?_) | (refine below_drewN' ?_ _) | (refine below_alloc' ?_ _) | (refine Below.setCell ?_ (by first | exact Nat.le_refl _ | (simp; done) | (simp; omega)) _))) hk.ext).mono HBW.out.size))).mono ?_
    rintro e w9 ⟨rfl, hw9⟩
    exact hK _ _ (by rw [hw9]; exact Below.refl _ _) rfl
    | 4, _ =>
    obtain rfl := Option.some.inj hoq
    intro a1 w1 K hk hK
    have d68 : a1.tmps.getD 68 undef = .int .i64 lvA := hk.deps ⟨1, .data⟩ (by simp) rfl _ _ rfl rfl
    have d70 : a1.tmps.getD 70 undef = .int .i64 lvB := hk.deps ⟨3, .data⟩ (by simp) rfl _ _ rfl rfl
    simp [Region.wanted, Oper.wp, Act.eval, go_sem, d68, d70, kA, kB, hcmp, hcmpb]
    exact hK _ _ (Below.refl _ _) rfl
    | 5, _ =>
    obtain rfl := Option.some.inj hoq
    intro a1 w1 K hk hK
    have d71 : a1.tmps.getD 71 undef = .bool true := hk.deps ⟨4, .data⟩ (by simp) rfl _ _ rfl rfl
    simp [Region.wanted, Oper.wp, Act.eval, go_sem, d71, kA, kB, hcmp, hcmpb]
    exact hK _ _ (Below.refl _ _) rfl
    | 6, _ =>
    obtain rfl := Option.some.inj hoq
    intro a1 w1 K hk hK
    have e4 : a1.tmps.getD 4 undef = .pointer (some ⟨ab, 0, none⟩) := hk.same 4 (by simp)
    have gd : a1.tmps[72]? = some (.bool true) := getD_bool (hk.deps ⟨5, .guard⟩ (by simp) rfl _ _ rfl rfl)
    have c0 : w1.cell? ⟨ab, 0, none⟩ = some (.pointer (some ⟨ba, 0, none⟩)) := Below.keeps hk.ext _ _ (by simp [go_sem, kA, kB, hcmp, hcmpb])
    have c1 : w1.cell? ⟨bx, 0, none⟩ = some (.pointer (some ⟨bb, 0, none⟩)) := Below.keeps hk.ext _ _ (by simp [go_sem, kA, kB, hcmp, hcmpb])
    simp [Region.wanted, Oper.wp, Act.eval, go_sem, e4, gd, yielded, c0, c1, kA, kB, hcmp, hcmpb]
    exact hK _ _ (Below.refl _ _) rfl
    | 7, _ =>
    obtain rfl := Option.some.inj hoq
    intro a1 w1 K hk hK
    have e5 : a1.tmps.getD 5 undef = .pointer (some ⟨bx, 0, none⟩) := hk.same 5 (by simp)
    have gd : a1.tmps[72]? = some (.bool true) := getD_bool (hk.deps ⟨5, .guard⟩ (by simp) rfl _ _ rfl rfl)
    have c0 : w1.cell? ⟨ab, 0, none⟩ = some (.pointer (some ⟨ba, 0, none⟩)) := Below.keeps hk.ext _ _ (by simp [go_sem, kA, kB, hcmp, hcmpb])
    have c1 : w1.cell? ⟨bx, 0, none⟩ = some (.pointer (some ⟨bb, 0, none⟩)) := Below.keeps hk.ext _ _ (by simp [go_sem, kA, kB, hcmp, hcmpb])
    simp [Region.wanted, Oper.wp, Act.eval, go_sem, e5, gd, yielded, c0, c1, kA, kB, hcmp, hcmpb]
    exact hK _ _ (Below.refl _ _) rfl
    | 8, _ =>
    obtain rfl := Option.some.inj hoq
    intro a1 w1 K hk hK
    have d74 : a1.tmps.getD 74 undef = .pointer (some ⟨bb, 0, none⟩) := hk.deps ⟨7, .data⟩ (by simp) rfl _ _ rfl rfl
    have gd : a1.tmps[72]? = some (.bool true) := getD_bool (hk.deps ⟨5, .guard⟩ (by simp) rfl _ _ rfl rfl)
    simp [Region.wanted, Oper.wp, Act.eval, go_sem, d74, gd, yielded, kA, kB, hcmp, hcmpb]
    refine (HPB.out _ (HBW.out.trans ((below_trans (by repeat (first | exact Below.refl _ _ | (refine Below.drew ?_) | (refine below_drewN' ?_ _) | (refine below_alloc' ?_ _) | (refine Below.setCell ?_ (by first | exact Nat.le_refl _ | (simp; done) | (simp; omega)) _))) hk.ext).mono HBW.out.size))).mono ?_
    rintro e w9 ⟨u9, rfl, h9, hb9⟩
    exact hK _ _ hb9 h9
    | 9, _ =>
    obtain rfl := Option.some.inj hoq
    intro a1 w1 K hk hK
    have d73 : a1.tmps.getD 73 undef = .pointer (some ⟨ba, 0, none⟩) := hk.deps ⟨6, .data⟩ (by simp) rfl _ _ rfl rfl
    have D75 : PtNew w1 (a1.tmps.getD 75 undef) prB := hk.deps ⟨8, .data⟩ (by simp) rfl _ _ rfl rfl
    have gd : a1.tmps[72]? = some (.bool true) := getD_bool (hk.deps ⟨5, .guard⟩ (by simp) rfl _ _ rfl rfl)
    obtain ⟨A9, c9, eP, _⟩ := RdU.point D75.rd
    have ePx : a1.tmps[75]?.getD undef = .slice A9 prB.length c9 := by rw [← eP]; simp
    rw [eP] at D75
    simp [Region.wanted, Oper.wp, Act.eval, go_sem, d73, eP, ePx, gd, yielded, kA, kB]
    refine (HCA.out _ _ (HBW.out.trans ((below_trans (by repeat (first | exact Below.refl _ _ | (refine Below.drew ?_) | (refine below_drewN' ?_ _) | (refine below_alloc' ?_ _) | (refine Below.setCell ?_ (by first | exact Nat.le_refl _ | (simp; done) | (simp; omega)) _))) hk.ext).mono HBW.out.size)) D75.rd).mono ?_
    rintro e w9 ⟨rfl, hw9⟩
    exact hK _ _ (by rw [hw9]; exact Below.refl _ _) rfl
  · intro vs w3 hl hb3 hv
    match vs, hl with
    | [v0, v1, v2, v3, v4, v5, v6, v7, v8, v9], _ =>
    obtain rfl : v0 = .pointer (some ⟨ba, 0, none⟩) := hv 0 (by omega)
    obtain rfl : v1 = .int .i64 lvA := hv 1 (by omega)
    obtain rfl : v2 = .pointer (some ⟨bb, 0, none⟩) := hv 2 (by omega)
    obtain rfl : v3 = .int .i64 lvB := hv 3 (by omega)
    obtain rfl : v4 = .bool true := hv 4 (by omega)
    obtain rfl : v5 = .bool true := hv 5 (by omega)
    obtain rfl : v6 = .pointer (some ⟨ba, 0, none⟩) := hv 6 (by omega)
    obtain rfl : v7 = .pointer (some ⟨bb, 0, none⟩) := hv 7 (by omega)
    have q8 : PtNew w3 v8 prB := hv 8 (by omega)
    obtain rfl : v9 = .bool cv := hv 9 (by omega)
    clear hv
    simp only [putAll, List.take_succ_cons, List.take_zero, List.drop_succ_cons, List.drop_zero, Act.put, List.setIfInBounds_toArray, List.set_cons_succ, List.set_cons_zero]
    have HS2 := Lib.hid (HS.out.step hb3)
    clear hb3 HS HBW kA kB kS lA lB lS
    have HS := Lib.hid HS2.out
    clear HS2
    clear q8
    clear hcmp hcmpb HCM
    cases cv with
    | true =>
      go_wp2_with fail
      have HBW := Lib.hid HS.out.bel
      have kA := cell_of_one HS.out.ha
      have kB := cell_of_one HS.out.hb
      have kS := cell_of_one HS.out.hs
      have lA := lt_of_block HS.out.ha
      have lB := lt_of_block HS.out.hb
      have lS := lt_of_block HS.out.hs
      refine wp_region_vals 9 [fun z9 _ => z9 = .pointer (some ⟨bb, 0, none⟩),
        fun v9 w9 => PtNew w9 v9 prB,
        fun z9 _ => z9 = .pointer (some ⟨ba, 0, none⟩),
        fun z9 _ => z9 = .int .i64 lvA,
        fun z9 _ => z9 = .tuple #[.int .i64 (adr : Nat), .int .i64 0],
        fun z9 _ => z9 = .tuple #[.int .i64 (adr : Nat), .int .i64 0],
        fun z9 _ => z9 = .int .i64 (adr : Nat),
        fun z9 _ => z9 = .int .i64 0,
        fun z9 _ => z9 = .int .i64 (adr : Nat)]
        (by kernel_rfl) (by kernel_rfl) (by kernel_rfl) (by kernel_rfl) ?_ ?_ ?_
      · intro V hV v w1 w2 h hb
        simp only [List.mem_cons, List.not_mem_nil, or_false] at hV
        rcases hV with rfl | rfl | rfl | rfl | rfl | rfl | rfl | rfl | rfl
        all_goals first | exact h | (exact PtNew.below h hb)
      · intro iq oq hiq hoq
        match iq, hiq with
        | 0, _ =>
        obtain rfl := Option.some.inj hoq
        intro a1 w1 K hk hK
        have e5 : a1.tmps.getD 5 undef = .pointer (some ⟨bx, 0, none⟩) := hk.same 5 (by simp)
        have c0 : w1.cell? ⟨ab, 0, none⟩ = some (.pointer (some ⟨ba, 0, none⟩)) := Below.keeps hk.ext _ _ (by simp [go_sem, kA, kB])
        have c1 : w1.cell? ⟨bx, 0, none⟩ = some (.pointer (some ⟨bb, 0, none⟩)) := Below.keeps hk.ext _ _ (by simp [go_sem, kA, kB])
        simp [Region.wanted, Oper.wp, Act.eval, go_sem, e5, c0, c1, kA, kB]
        exact hK _ _ (Below.refl _ _) rfl
        | 1, _ =>
        obtain rfl := Option.some.inj hoq
        intro a1 w1 K hk hK
        have d79 : a1.tmps.getD 79 undef = .pointer (some ⟨bb, 0, none⟩) := hk.deps ⟨0, .data⟩ (by simp) rfl _ _ rfl rfl
        simp [Region.wanted, Oper.wp, Act.eval, go_sem, d79, kA, kB]
        refine (HPB.out _ (HBW.out.trans ((below_trans (by repeat (first | exact Below.refl _ _ | (refine Below.drew ?_) | (refine below_drewN' ?_ _) | (refine below_alloc' ?_ _) | (refine Below.setCell ?_ (by first | exact Nat.le_refl _ | (simp; done) | (simp; omega)) _))) hk.ext).mono HBW.out.size))).mono ?_
        rintro e w9 ⟨u9, rfl, h9, hb9⟩
        exact hK _ _ hb9 h9
        | 2, _ =>
        obtain rfl := Option.some.inj hoq
        intro a1 w1 K hk hK
        have e4 : a1.tmps.getD 4 undef = .pointer (some ⟨ab, 0, none⟩) := hk.same 4 (by simp)
        have c0 : w1.cell? ⟨ab, 0, none⟩ = some (.pointer (some ⟨ba, 0, none⟩)) := Below.keeps hk.ext _ _ (by simp [go_sem, kA, kB])
        have c1 : w1.cell? ⟨bx, 0, none⟩ = some (.pointer (some ⟨bb, 0, none⟩)) := Below.keeps hk.ext _ _ (by simp [go_sem, kA, kB])
        simp [Region.wanted, Oper.wp, Act.eval, go_sem, e4, c0, c1, kA, kB]
        exact hK _ _ (Below.refl _ _) rfl
        | 3, _ =>
        obtain rfl := Option.some.inj hoq
        intro a1 w1 K hk hK
        have d81 : a1.tmps.getD 81 undef = .pointer (some ⟨ba, 0, none⟩) := hk.deps ⟨2, .data⟩ (by simp) rfl _ _ rfl rfl
        simp [Region.wanted, Oper.wp, Act.eval, go_sem, d81, kA, kB]
        refine (HLA.out _ (HBW.out.trans ((below_trans (by repeat (first | exact Below.refl _ _ | (refine Below.drew ?_) | (refine below_drewN' ?_ _) | (refine below_alloc' ?_ _) | (refine Below.setCell ?_ (by first | exact Nat.le_refl _ | (simp; done) | (simp; omega)) _))) hk.ext).mono HBW.out.size))).mono ?_
        rintro e w9 ⟨rfl, hw9⟩
        exact hK _ _ (by rw [hw9]; exact Below.refl _ _) rfl
        | 4, _ =>
        obtain rfl := Option.some.inj hoq
        intro a1 w1 K hk hK
        have D80 : PtNew w1 (a1.tmps.getD 80 undef) prB := hk.deps ⟨1, .data⟩ (by simp) rfl _ _ rfl rfl
        have d82 : a1.tmps.getD 82 undef = .int .i64 lvA := hk.deps ⟨3, .data⟩ (by simp) rfl _ _ rfl rfl
        obtain ⟨AP, cP, eP, _⟩ := RdU.point D80.rd
        have ePx : a1.tmps[80]?.getD undef = .slice AP prB.length cP := by rw [← eP]; simp
        rw [eP] at D80
        simp [Region.wanted, Oper.wp, Act.eval, go_sem, d82, eP, ePx, kA, kB]
        refine (HADR.out _ _ D80.rd).mono ?_
        rintro e w9 ⟨rfl, hw9⟩
        exact hK _ _ (by rw [hw9]; exact Below.refl _ _) rfl
        | 5, _ =>
        obtain rfl := Option.some.inj hoq
        intro a1 w1 K hk hK
        have d83 : a1.tmps.getD 83 undef = .tuple #[.int .i64 (adr : Nat), .int .i64 0] := hk.deps ⟨4, .data⟩ (by simp) rfl _ _ rfl rfl
        simp [Region.wanted, Oper.wp, Act.eval, go_sem, d83, kA, kB]
        exact hK _ _ (Below.refl _ _) rfl
        | 6, _ =>
        obtain rfl := Option.some.inj hoq
        intro a1 w1 K hk hK
        have d78 : a1.tmps.getD 78 undef = .tuple #[.int .i64 (adr : Nat), .int .i64 0] := hk.deps ⟨5, .data⟩ (by simp) rfl _ _ rfl rfl
        simp [Region.wanted, Oper.wp, Act.eval, go_sem, d78, kA, kB]
        exact hK _ _ (Below.refl _ _) rfl
        | 7, _ =>
        obtain rfl := Option.some.inj hoq
        intro a1 w1 K hk hK
        have d78 : a1.tmps.getD 78 undef = .tuple #[.int .i64 (adr : Nat), .int .i64 0] := hk.deps ⟨5, .data⟩ (by simp) rfl _ _ rfl rfl
        simp [Region.wanted, Oper.wp, Act.eval, go_sem, d78, kA, kB]
        exact hK _ _ (Below.refl _ _) rfl
        | 8, _ =>
        obtain rfl := Option.some.inj hoq
        intro a1 w1 K hk hK
        have d84 : a1.tmps.getD 84 undef = .int .i64 (adr : Nat) := hk.deps ⟨6, .data⟩ (by simp) rfl _ _ rfl rfl
        simp [Region.wanted, Oper.wp, Act.eval, go_sem, d84, kA, kB]
        exact hK _ _ (Below.refl _ _) rfl
      · intro vs w3 hl hb3 hv
        match vs, hl with
        | [v0, v1, v2, v3, v4, v5, v6, v7, v8], _ =>
        obtain rfl : v0 = .pointer (some ⟨bb, 0, none⟩) := hv 0 (by omega)
        have q1 : PtNew w3 v1 prB := hv 1 (by omega)
        obtain rfl : v2 = .pointer (some ⟨ba, 0, none⟩) := hv 2 (by omega)
        obtain rfl : v3 = .int .i64 lvA := hv 3 (by omega)
        obtain rfl : v4 = .tuple #[.int .i64 (adr : Nat), .int .i64 0] := hv 4 (by omega)
        obtain rfl : v5 = .tuple #[.int .i64 (adr : Nat), .int .i64 0] := hv 5 (by omega)
        obtain rfl : v6 = .int .i64 (adr : Nat) := hv 6 (by omega)
        obtain rfl : v7 = .int .i64 0 := hv 7 (by omega)
        obtain rfl : v8 = .int .i64 (adr : Nat) := hv 8 (by omega)
        clear hv
        simp only [putAll, List.take_succ_cons, List.take_zero, List.drop_succ_cons, List.drop_zero, Act.put, List.setIfInBounds_toArray, List.set_cons_succ, List.set_cons_zero]
        have HS2 := Lib.hid (HS.out.step hb3)
        clear hb3 HS HBW kA kB kS lA lB lS
        have HS := Lib.hid HS2.out
        clear HS2
        clear q1
        have HBW := Lib.hid HS.out.bel
        have kA := cell_of_one HS.out.ha
        have kB := cell_of_one HS.out.hb
        have kS := cell_of_one HS.out.hs
        have lA := lt_of_block HS.out.ha
        have lB := lt_of_block HS.out.hb
        have lS := lt_of_block HS.out.hs
        have HBS := Lib.hid (HBES.out (by first | trivial | rfl) _ _ _ _ HS.out HN3.out)
        go_wp2_with fail
        refine HBS.out.mono ?_
        rintro e w7 ⟨rfl, hi7, hk7⟩
        have HF := Lib.hid (And.intro hi7 (HS.out.kp.trans hk7))
        clear hi7 hk7
        go_wp2_with fail
        go_end0
        exact ⟨rfl, HF.out⟩
    | false =>
      have HORD := Lib.hid (HOR.out rfl)
      clear HOR
      have hg := HG2.out.1
      have hgb := HG2.out.2
      have HBW := Lib.hid HS.out.bel
      have kA := cell_of_one HS.out.ha
      have kB := cell_of_one HS.out.hb
      have kS := cell_of_one HS.out.hs
      have lA := lt_of_block HS.out.ha
      have lB := lt_of_block HS.out.hb
      have lS := lt_of_block HS.out.hs
      go_wp2_with fail
      go_quiet ((go_at_call 103; first | with_reducible exact Calls.quiet_of_same (HLA.out _ (below_drewN' HBW.out _)) | with_reducible exact Calls.quiet_of_same (HLB.out _ (below_drewN' HBW.out _))))
      go_wp2_with fail
      refine stayC ?_
      intro wq hwq
      have HS2 := Lib.hid (HS.out.step (show Below _ _ wq from by rw [hwq]; exact (by repeat (first | exact Below.refl _ _ | (refine below_drewN' ?_ _)))))
      clear hwq HS HBW kA kB kS lA lB lS
      have HS := Lib.hid HS2.out
      clear HS2
      clear hg hgb HG2
      go_wp2_with fail
      have HBW := Lib.hid HS.out.bel
      have kA := cell_of_one HS.out.ha
      have kB := cell_of_one HS.out.hb
      have kS := cell_of_one HS.out.hs
      have lA := lt_of_block HS.out.ha
      have lB := lt_of_block HS.out.hb
      have lS := lt_of_block HS.out.hs
      refine wp_region_vals 9 [fun z9 _ => z9 = .pointer (some ⟨ba, 0, none⟩),
        fun v9 w9 => PtNew w9 v9 prA,
        fun z9 _ => z9 = .pointer (some ⟨bb, 0, none⟩),
        fun v9 w9 => PtNew w9 v9 prB,
        fun z9 _ => z9 = .tuple #[.int .i64 z, .int .i64 0],
        fun z9 _ => z9 = .tuple #[.int .i64 z, .int .i64 0],
        fun z9 _ => z9 = .int .i64 z,
        fun z9 _ => z9 = .int .i64 0,
        fun z9 _ => z9 = .int .i64 z]
        (by kernel_rfl) (by kernel_rfl) (by kernel_rfl) (by kernel_rfl) ?_ ?_ ?_
      · intro V hV v w1 w2 h hb
        simp only [List.mem_cons, List.not_mem_nil, or_false] at hV
        rcases hV with rfl | rfl | rfl | rfl | rfl | rfl | rfl | rfl | rfl
        all_goals first | exact h | (exact PtNew.below h hb)
      · intro iq oq hiq hoq
        match iq, hiq with
        | 0, _ =>
        obtain rfl := Option.some.inj hoq
        intro a1 w1 K hk hK
        have e4 : a1.tmps.getD 4 undef = .pointer (some ⟨ab, 0, none⟩) := hk.same 4 (by simp)
        have c0 : w1.cell? ⟨ab, 0, none⟩ = some (.pointer (some ⟨ba, 0, none⟩)) := Below.keeps hk.ext _ _ (by simp [go_sem, kA, kB])
        have c1 : w1.cell? ⟨bx, 0, none⟩ = some (.pointer (some ⟨bb, 0, none⟩)) := Below.keeps hk.ext _ _ (by simp [go_sem, kA, kB])
        simp [Region.wanted, Oper.wp, Act.eval, go_sem, e4, c0, c1, kA, kB]
        exact hK _ _ (Below.refl _ _) rfl
        | 1, _ =>
        obtain rfl := Option.some.inj hoq
        intro a1 w1 K hk hK
        have d13 : a1.tmps.getD 13 undef = .pointer (some ⟨ba, 0, none⟩) := hk.deps ⟨0, .data⟩ (by simp) rfl _ _ rfl rfl
        simp [Region.wanted, Oper.wp, Act.eval, go_sem, d13, kA, kB]
        refine (HPA.out _ (HBW.out.trans ((below_trans (by repeat (first | exact Below.refl _ _ | (refine Below.drew ?_) | (refine below_drewN' ?_ _) | (refine below_alloc' ?_ _) | (refine Below.setCell ?_ (by first | exact Nat.le_refl _ | (simp; done) | (simp; omega)) _))) hk.ext).mono HBW.out.size))).mono ?_
        rintro e w9 ⟨u9, rfl, h9, hb9⟩
        exact hK _ _ hb9 h9
        | 2, _ =>
        obtain rfl := Option.some.inj hoq
        intro a1 w1 K hk hK
        have e5 : a1.tmps.getD 5 undef = .pointer (some ⟨bx, 0, none⟩) := hk.same 5 (by simp)
        have c0 : w1.cell? ⟨ab, 0, none⟩ = some (.pointer (some ⟨ba, 0, none⟩)) := Below.keeps hk.ext _ _ (by simp [go_sem, kA, kB])
        have c1 : w1.cell? ⟨bx, 0, none⟩ = some (.pointer (some ⟨bb, 0, none⟩)) := Below.keeps hk.ext _ _ (by simp [go_sem, kA, kB])
        simp [Region.wanted, Oper.wp, Act.eval, go_sem, e5, c0, c1, kA, kB]
        exact hK _ _ (Below.refl _ _) rfl
        | 3, _ =>
        obtain rfl := Option.some.inj hoq
        intro a1 w1 K hk hK
        have d15 : a1.tmps.getD 15 undef = .pointer (some ⟨bb, 0, none⟩) := hk.deps ⟨2, .data⟩ (by simp) rfl _ _ rfl rfl
        simp [Region.wanted, Oper.wp, Act.eval, go_sem, d15, kA, kB]
        refine (HPB.out _ (HBW.out.trans ((below_trans (by repeat (first | exact Below.refl _ _ | (refine Below.drew ?_) | (refine below_drewN' ?_ _) | (refine below_alloc' ?_ _) | (refine Below.setCell ?_ (by first | exact Nat.le_refl _ | (simp; done) | (simp; omega)) _))) hk.ext).mono HBW.out.size))).mono ?_
        rintro e w9 ⟨u9, rfl, h9, hb9⟩
        exact hK _ _ hb9 h9
        | 4, _ =>
        obtain rfl := Option.some.inj hoq
        intro a1 w1 K hk hK
        have D14 : PtNew w1 (a1.tmps.getD 14 undef) prA := hk.deps ⟨1, .data⟩ (by simp) rfl _ _ rfl rfl
        have D16 : PtNew w1 (a1.tmps.getD 16 undef) prB := hk.deps ⟨3, .data⟩ (by simp) rfl _ _ rfl rfl
        obtain ⟨AP, cP, eP, _⟩ := RdU.point D14.rd
        have ePx : a1.tmps[14]?.getD undef = .slice AP prA.length cP := by rw [← eP]; simp
        rw [eP] at D14
        obtain ⟨AQ, cQ, eQ, _⟩ := RdU.point D16.rd
        have eQx : a1.tmps[16]?.getD undef = .slice AQ prB.length cQ := by rw [← eQ]; simp
        rw [eQ] at D16
        simp [Region.wanted, Oper.wp, Act.eval, go_sem, eP, ePx, eQ, eQx, kA, kB]
        refine (HCMP.out _ _ _ D14.rd D16.rd).mono ?_
        rintro e w9 ⟨rfl, hw9⟩
        exact hK _ _ (by rw [hw9]; exact Below.refl _ _) rfl
        | 5, _ =>
        obtain rfl := Option.some.inj hoq
        intro a1 w1 K hk hK
        have d17 : a1.tmps.getD 17 undef = .tuple #[.int .i64 z, .int .i64 0] := hk.deps ⟨4, .data⟩ (by simp) rfl _ _ rfl rfl
        simp [Region.wanted, Oper.wp, Act.eval, go_sem, d17, kA, kB]
        exact hK _ _ (Below.refl _ _) rfl
        | 6, _ =>
        obtain rfl := Option.some.inj hoq
        intro a1 w1 K hk hK
        have d12 : a1.tmps.getD 12 undef = .tuple #[.int .i64 z, .int .i64 0] := hk.deps ⟨5, .data⟩ (by simp) rfl _ _ rfl rfl
        simp [Region.wanted, Oper.wp, Act.eval, go_sem, d12, kA, kB]
        exact hK _ _ (Below.refl _ _) rfl
        | 7, _ =>
        obtain rfl := Option.some.inj hoq
        intro a1 w1 K hk hK
        have d12 : a1.tmps.getD 12 undef = .tuple #[.int .i64 z, .int .i64 0] := hk.deps ⟨5, .data⟩ (by simp) rfl _ _ rfl rfl
        simp [Region.wanted, Oper.wp, Act.eval, go_sem, d12, kA, kB]
        exact hK _ _ (Below.refl _ _) rfl
        | 8, _ =>
        obtain rfl := Option.some.inj hoq
        intro a1 w1 K hk hK
        have d18 : a1.tmps.getD 18 undef = .int .i64 z := hk.deps ⟨6, .data⟩ (by simp) rfl _ _ rfl rfl
        simp [Region.wanted, Oper.wp, Act.eval, go_sem, d18, kA, kB]
        exact hK _ _ (Below.refl _ _) rfl
      · intro vs w3 hl hb3 hv
        match vs, hl with
        | [v0, v1, v2, v3, v4, v5, v6, v7, v8], _ =>
        obtain rfl : v0 = .pointer (some ⟨ba, 0, none⟩) := hv 0 (by omega)
        have q1 : PtNew w3 v1 prA := hv 1 (by omega)
        obtain rfl : v2 = .pointer (some ⟨bb, 0, none⟩) := hv 2 (by omega)
        have q3 : PtNew w3 v3 prB := hv 3 (by omega)
        obtain rfl : v4 = .tuple #[.int .i64 z, .int .i64 0] := hv 4 (by omega)
        obtain rfl : v5 = .tuple #[.int .i64 z, .int .i64 0] := hv 5 (by omega)
        obtain rfl : v6 = .int .i64 z := hv 6 (by omega)
        obtain rfl : v7 = .int .i64 0 := hv 7 (by omega)
        obtain rfl : v8 = .int .i64 z := hv 8 (by omega)
        clear hv
        simp only [putAll, List.take_succ_cons, List.take_zero, List.drop_succ_cons, List.drop_zero, Act.put, List.setIfInBounds_toArray, List.set_cons_succ, List.set_cons_zero]
        have HS2 := Lib.hid (HS.out.step hb3)
        clear hb3 HS HBW kA kB kS lA lB lS
        have HS := Lib.hid HS2.out
        clear HS2
        clear q1 q3
        by_cases hz : z < 0
        · have HE := Lib.hid (HORD.out.1 (by omega))
          have HBW := Lib.hid HS.out.bel
          have kA := cell_of_one HS.out.ha
          have kB := cell_of_one HS.out.hb
          have kS := cell_of_one HS.out.hs
          have lA := lt_of_block HS.out.ha
          have lB := lt_of_block HS.out.hb
          have lS := lt_of_block HS.out.hs
          go_wp2_with fail
          refine (HALA.out _ _ HS.out.inv L1.out).mono ?_
          rintro e w7 ⟨rfl, hi7, hk7⟩
          have HS2 := Lib.hid (HS.out.go HN3.out hi7 hk7)
          clear hi7 hk7 HBW kA kB kS lA lB lS
          have kA := cell_of_one HS2.out.ha
          have kB := cell_of_one HS2.out.hb
          have kS := cell_of_one HS2.out.hs
          have lA := lt_of_block HS2.out.ha
          have lB := lt_of_block HS2.out.hb
          have lS := lt_of_block HS2.out.hs
          go_wp2_with fail
          refine (HALB.out _ _ HS2.out.inv L2.out).mono ?_
          rintro e w8 ⟨rfl, hi8, hk8⟩
          have HF := Lib.hid (And.intro hi8 (HS2.out.kp.trans hk8))
          clear hi8 hk8
          go_wp2_with fail
          go_end0
          rw [HE.out, ← List.append_assoc]
          exact ⟨rfl, HF.out⟩
        · have HE := Lib.hid (HORD.out.2 (by omega))
          have HBW := Lib.hid HS.out.bel
          have kA := cell_of_one HS.out.ha
          have kB := cell_of_one HS.out.hb
          have kS := cell_of_one HS.out.hs
          have lA := lt_of_block HS.out.ha
          have lB := lt_of_block HS.out.hb
          have lS := lt_of_block HS.out.hs
          go_wp2_with fail
          refine (HALB.out _ _ HS.out.inv L3.out).mono ?_
          rintro e w7 ⟨rfl, hi7, hk7⟩
          have HS2 := Lib.hid (HS.out.go HN3.out hi7 hk7)
          clear hi7 hk7 HBW kA kB kS lA lB lS
          have kA := cell_of_one HS2.out.ha
          have kB := cell_of_one HS2.out.hb
          have kS := cell_of_one HS2.out.hs
          have lA := lt_of_block HS2.out.ha
          have lB := lt_of_block HS2.out.hb
          have lS := lt_of_block HS2.out.hs
          go_wp2_with fail
          refine (HALA.out _ _ HS2.out.inv L4.out).mono ?_
          rintro e w8 ⟨rfl, hi8, hk8⟩
          have HF := Lib.hid (And.intro hi8 (HS2.out.kp.trans hk8))
          clear hi8 hk8
          go_wp2_with fail
          go_end0
          rw [HE.out, ← List.append_assoc]
          exact ⟨rfl, HF.out⟩
end Go.Proofs.YtjokcagggmjgmaaGreat
/-! DifM -/
namespace Go.Proofs.YtjokcagggmjgmaaGreat
open Go.RowKit
set_option linter.unusedVariables false
set_option linter.unusedSimpArgs false
set_option maxRecDepth 100000

set_option maxHeartbeats 32000000 in
theorem both_lt (W w : World) (B k ba bb : Nat) (la lb : List En) (d : List Ch) (hW : W.heap.size ≤ B) (k1 : 1 ≤ k) (k16 : k ≤ 16) (ha : Nd W k ba la) (hb : Nd W k bb lb) (hne : ba ≠ bb) (hi : InvT W B d w) (hN : d.length + la.length + lb.length ≤ 10000) (ih : BoIH W B k (la.length + lb.length)) (hlv : lev la < lev lb) :
    Calls Tryz.prog 78 #[SV B, .pointer (some ⟨ba, 0, none⟩), .pointer (some ⟨bb, 0, none⟩)] w fun e w' => StP W B (d ++ changesL la lb) w e w' := by
  obtain ⟨vA, kpA, hhA⟩ := ha.hd
  obtain ⟨vB, kpB, hhB⟩ := hb.hd
  obtain ⟨pA1, pA2, pA3⟩ := ha.pre_ok
  obtain ⟨pB1, pB2, pB3⟩ := hb.pre_ok
  obtain ⟨uA, cA1, cA2⟩ := hhA.c1
  obtain ⟨uB, cB1, cB2⟩ := hhB.c1
  have hLA := fun w' (h : Below W.heap.size W w') => nlev_any w' ba _ (Below.keeps h _ _ hhA.c0)
  have hLB := fun w' (h : Below W.heap.size W w') => nlev_any w' bb _ (Below.keeps h _ _ hhB.c0)
  obtain ⟨lvA, hlA⟩ : ∃ lv : Int, (lev la : Int) - 1 = lv := ⟨_, rfl⟩
  obtain ⟨lvB, hlB⟩ : ∃ lv : Int, (lev lb : Int) - 1 = lv := ⟨_, rfl⟩
  rw [hlA] at hLA
  rw [hlB] at hLB
  have HLA := Lib.hid hLA
  have HLB := Lib.hid hLB
  have HPA := Lib.hid (fun w' (h : Below W.heap.size W w') => npref_any w' ba (preL la) uA (Below.keeps h _ _ cA1) (cA2.below h) (by omega) (by omega))
  have HPB := Lib.hid (fun w' (h : Below W.heap.size W w') => npref_any w' bb (preL lb) uB (Below.keeps h _ _ cB1) (cB2.below h) (by omega) (by omega))
  have HCA := Lib.hid (fun w' u (h : Below W.heap.size W w') (hu : RdU w' u (pti (preL lb))) => ncov_any w' k ba la (preL lb) u (ha.bel h) hu pB1 pB2 k1 k16)
  have HCB := Lib.hid (fun w' u (h : Below W.heap.size W w') (hu : RdU w' u (pti (preL la))) => ncov_any w' k bb lb (preL la) u (hb.bel h) hu pA1 pA2 k1 k16)
  obtain ⟨prA, hprA⟩ : ∃ p, preL la = p := ⟨_, rfl⟩
  obtain ⟨prB, hprB⟩ : ∃ p, preL lb = p := ⟨_, rfl⟩
  rw [hprA] at HPA HCB
  rw [hprB] at HPB HCA
  have HI := Lib.hid hi
  have hE := fun (h1 : lev la = lev lb) (h2 : cov la (preL lb) = true) (w' : World) (h : InvT W B d w') => even_any W w' B k ba bb la lb d hW k1 k16 ha hb h1 h2 h hN ih
  have hORD := apart_any ha hb
  have HAB := Lib.hid (And.intro ha hb)
  have HD := Lib.hid (And.intro hW (And.intro k1 (And.intro k16 hN)))
  have HLV := Lib.hid (And.intro hlA hlB)
  have HPR := Lib.hid (And.intro hprA hprB)
  have hbx : Below w.heap.size w (((w.alloc (.cells #[.func (.func 77) #[] #[.pointer (some ⟨B, 0, none⟩)]] 122)).alloc (.cells #[.pointer (some ⟨ba, 0, none⟩)] 103)).alloc (.cells #[.pointer (some ⟨bb, 0, none⟩)] 103)) := (by repeat (first | exact Below.refl _ _ | (refine Below.drew ?_) | (refine below_drewN' ?_ _) | (refine below_alloc' ?_ _) | (refine Below.setCell ?_ (by first | exact Nat.le_refl _ | (simp; done) | (simp; omega)) _)))
  have he := node_other (ha.bel (hi.bel.trans (hbx.mono hi.bel.size))) (hb.bel (hi.bel.trans (hbx.mono hi.bel.size))) hne
  have HBX := Lib.hid hbx
  have HALA := Lib.hid (fun (w' : World) (d' : List Ch) (h : InvT W B d' w') (hl : d'.length + la.length ≤ 10000) => dAll_any W w' B k (some ba) la d' _ _ as_gone hW ha k1 k16 h hl)
  have HALB := Lib.hid (fun (w' : World) (d' : List Ch) (h : InvT W B d' w') (hl : d'.length + lb.length ≤ 10000) => dAll_any W w' B k (some bb) lb d' _ _ as_come hW hb k1 k16 h hl)
  have L1 := Lib.hid (show d.length + la.length ≤ 10000 from by omega)
  have L2 := Lib.hid (show (d ++ la.map goneC).length + lb.length ≤ 10000 from by rw [List.length_append, List.length_map]; omega)
  have L3 := Lib.hid (show d.length + lb.length ≤ 10000 from by omega)
  have L4 := Lib.hid (show (d ++ lb.map comeC).length + la.length ≤ 10000 from by rw [List.length_append, List.length_map]; omega)
  have HCMP := Lib.hid (fun (w' : World) (u v : Value) (hu : RdU w' u (pti (preL la))) (hv : RdU w' v (pti (preL lb))) => zCmp_any (preL la) (preL lb) u v w' hu hv (by rw [pA1, pB1]) (by omega) (by omega) pA2 pB2)
  obtain ⟨z, hz0⟩ : ∃ z, Zb.cmp (preL la) (preL lb) = z := ⟨_, rfl⟩
  rw [hz0] at HCMP hORD
  rw [hprA, hprB] at HCMP
  rw [hprA, hprB] at hORD
  rw [hprB] at hE
  obtain ⟨adr, hadr⟩ : ∃ a, Zb.addr (preL la) (lev lb - 1) = a := ⟨_, rfl⟩
  have hADR := fun (w' : World) (u : Value) (hu : RdU w' u (pti (preL la))) => zAddr_any (preL la) (lev lb - 1) u w' hu (by rw [pA1]; omega) (by rw [pA1]; omega) pA2 (by obtain ⟨s, n, pre, ks, h1, h2, h3, h4, h5, h6, h7⟩ := lev_pos_node hb (by omega); have := h4.n64; omega)
  rw [hadr] at hADR
  rw [show ((lev lb - 1 : Nat) : Int) = lvB from by omega] at hADR
  have HADR := Lib.hid hADR
  rw [hprA] at HADR
  clear hADR
  have HG0 := Lib.hid (show ¬ lvA = lvB ∧ (lvA == lvB) = false from ⟨by omega, by simp; omega⟩)
  have HG1 := Lib.hid (show ¬ lvA > lvB ∧ decide (lvA > lvB) = false from ⟨by omega, by simp; omega⟩)
  have HCM := Lib.hid (show lvB > lvA ∧ decide (lvB > lvA) = true from ⟨by omega, by simp; omega⟩)
  obtain ⟨cv, hcv⟩ : ∃ cv, cov lb prA = cv := ⟨_, rfl⟩
  have hbes := fun (h : cv = true) (w' : World) (sb ab bx : Nat) (hs : BoS W w B sb ab bx ba bb d w') (hn : sb ≠ B ∧ ab ≠ B ∧ bx ≠ B) => bes_come W w w' B k ba bb sb ab bx la lb d hW k1 k16 ha hb hlv (by rw [hprA, hcv, h]) hs hn hN ih
  rw [hadr] at hbes
  rw [hcv] at HCB hORD
  have HBES := Lib.hid hbes
  have HOR := Lib.hid (fun (h : cv = false) => hORD (Or.inr ⟨Nat.le_of_lt hlv, h⟩))
  clear hadr
  clear hlv ha hb hne hi hN hW k1 k16 hhA hhB pA1 pA2 pA3 pB1 pB2 pB3 cA1 cA2 cB1 cB2 hLA hLB hlA hlB hprA hprB hbx hE hORD ih hz0 hcv hbes
  go_enter Tryz.func78, Tryz.ntmps78
  go_wp2_with fail
  have hBl := Exists.choose_spec (InvT.blkB HI.out)
  have HBS := Lib.hid (lt_of_block hBl)
  have hs0 : (((w.alloc (.cells #[.func (.func 77) #[] #[.pointer (some ⟨B, 0, none⟩)]] 122)).alloc (.cells #[.pointer (some ⟨ba, 0, none⟩)] 103)).alloc (.cells #[.pointer (some ⟨bb, 0, none⟩)] 103)).heap[w.heap.size]? = some (.cells #[.func (.func 77) #[] #[.pointer (some ⟨B, 0, none⟩)]] 122 (0, 0)) := (((by repeat (first | exact Below.refl _ _ | (refine Below.drew ?_) | (refine below_drewN' ?_ _) | (refine below_alloc' ?_ _) | (refine Below.setCell ?_ (by first | exact Nat.le_refl _ | (simp; done) | (simp; omega)) _))) : Below (w.alloc (.cells #[.func (.func 77) #[] #[.pointer (some ⟨B, 0, none⟩)]] 122)).heap.size (w.alloc (.cells #[.func (.func 77) #[] #[.pointer (some ⟨B, 0, none⟩)]] 122)) _).block _ (by simp)).trans (alloc_blk _ _)
  have ha0 : (((w.alloc (.cells #[.func (.func 77) #[] #[.pointer (some ⟨B, 0, none⟩)]] 122)).alloc (.cells #[.pointer (some ⟨ba, 0, none⟩)] 103)).alloc (.cells #[.pointer (some ⟨bb, 0, none⟩)] 103)).heap[w.heap.size + 1]? = some (.cells #[.pointer (some ⟨ba, 0, none⟩)] 103 (0, 0)) := (((by repeat (first | exact Below.refl _ _ | (refine Below.drew ?_) | (refine below_drewN' ?_ _) | (refine below_alloc' ?_ _) | (refine Below.setCell ?_ (by first | exact Nat.le_refl _ | (simp; done) | (simp; omega)) _))) : Below ((w.alloc (.cells #[.func (.func 77) #[] #[.pointer (some ⟨B, 0, none⟩)]] 122)).alloc (.cells #[.pointer (some ⟨ba, 0, none⟩)] 103)).heap.size ((w.alloc (.cells #[.func (.func 77) #[] #[.pointer (some ⟨B, 0, none⟩)]] 122)).alloc (.cells #[.pointer (some ⟨ba, 0, none⟩)] 103)) _).block _ (by simp)).trans (by have := alloc_blk (w.alloc (.cells #[.func (.func 77) #[] #[.pointer (some ⟨B, 0, none⟩)]] 122)) (.cells #[.pointer (some ⟨ba, 0, none⟩)] 103); simpa using this)
  have hb0 : (((w.alloc (.cells #[.func (.func 77) #[] #[.pointer (some ⟨B, 0, none⟩)]] 122)).alloc (.cells #[.pointer (some ⟨ba, 0, none⟩)] 103)).alloc (.cells #[.pointer (some ⟨bb, 0, none⟩)] 103)).heap[w.heap.size + 1 + 1]? = some (.cells #[.pointer (some ⟨bb, 0, none⟩)] 103 (0, 0)) := by have := alloc_blk ((w.alloc (.cells #[.func (.func 77) #[] #[.pointer (some ⟨B, 0, none⟩)]] 122)).alloc (.cells #[.pointer (some ⟨ba, 0, none⟩)] 103)) (.cells #[.pointer (some ⟨bb, 0, none⟩)] 103); simpa using this
  have HBW0 := Lib.hid (HI.out.bel.trans (HBX.out.mono HI.out.bel.size))
  have HIX := Lib.hid (HI.out.step HBX.out)
  have HKX := Lib.hid (Kp.of (B := B) HBX.out)
  obtain ⟨sb, hsb⟩ : ∃ sb, w.heap.size = sb := ⟨_, rfl⟩
  obtain ⟨ab, hab⟩ : ∃ ab, w.heap.size + 1 = ab := ⟨_, rfl⟩
  obtain ⟨bx, hbxx⟩ : ∃ bx, w.heap.size + 1 + 1 = bx := ⟨_, rfl⟩
  have HNB := Lib.hid (show sb ≠ B ∧ ab ≠ B ∧ bx ≠ B from by have := HBS.out; omega)
  rw [hsb] at hs0
  rw [hab] at ha0
  rw [hbxx] at hb0
  rw [hbxx, hab, hsb]
  clear hsb hab hbxx he HBX hBl
  generalize ((w.alloc (.cells #[.func (.func 77) #[] #[.pointer (some ⟨B, 0, none⟩)]] 122)).alloc (.cells #[.pointer (some ⟨ba, 0, none⟩)] 103)).alloc (.cells #[.pointer (some ⟨bb, 0, none⟩)] 103) = wx at *
  have HS := Lib.hid (show BoS W w B sb ab bx ba bb d wx from ⟨HBW0.out, HIX.out, HKX.out, hs0, ha0, hb0⟩)
  clear hs0 ha0 hb0 HBW0 HIX HKX HBS
  have HN3 := HNB
  clear HNB
  have hg := HG0.out.1
  have hgb := HG0.out.2
  have HBW := Lib.hid HS.out.bel
  have kA := cell_of_one HS.out.ha
  have kB := cell_of_one HS.out.hb
  have kS := cell_of_one HS.out.hs
  have lA := lt_of_block HS.out.ha
  have lB := lt_of_block HS.out.hb
  have lS := lt_of_block HS.out.hs
  go_wp2_with fail
  go_quiet ((go_at_call 103; first | with_reducible exact Calls.quiet_of_same (HLA.out _ (below_drewN' HBW.out _)) | with_reducible exact Calls.quiet_of_same (HLB.out _ (below_drewN' HBW.out _))))
  go_wp2_with fail
  refine stayC ?_
  intro wq hwq
  have HS2 := Lib.hid (HS.out.step (show Below _ _ wq from by rw [hwq]; exact (by repeat (first | exact Below.refl _ _ | (refine below_drewN' ?_ _)))))
  clear hwq HS HBW kA kB kS lA lB lS
  have HS := Lib.hid HS2.out
  clear HS2
  clear hg hgb HG0
  go_wp2_with fail
  have hg := HG1.out.1
  have hgb := HG1.out.2
  have HBW := Lib.hid HS.out.bel
  have kA := cell_of_one HS.out.ha
  have kB := cell_of_one HS.out.hb
  have kS := cell_of_one HS.out.hs
  have lA := lt_of_block HS.out.ha
  have lB := lt_of_block HS.out.hb
  have lS := lt_of_block HS.out.hs
  go_quiet ((go_at_call 103; first | with_reducible exact Calls.quiet_of_same (HLA.out _ (below_drewN' HBW.out _)) | with_reducible exact Calls.quiet_of_same (HLB.out _ (below_drewN' HBW.out _))))
  go_wp2_with fail
  refine stayC ?_
  intro wq hwq
  have HS2 := Lib.hid (HS.out.step (show Below _ _ wq from by rw [hwq]; exact (by repeat (first | exact Below.refl _ _ | (refine below_drewN' ?_ _)))))
  clear hwq HS HBW kA kB kS lA lB lS
  have HS := Lib.hid HS2.out
  clear HS2
  clear hg hgb HG1
  go_wp2_with fail
  have hcmp := HCM.out.1
  have hcmpb := HCM.out.2
  have HBW := Lib.hid HS.out.bel
  have kA := cell_of_one HS.out.ha
  have kB := cell_of_one HS.out.hb
  have kS := cell_of_one HS.out.hs
  have lA := lt_of_block HS.out.ha
  have lB := lt_of_block HS.out.hb
  have lS := lt_of_block HS.out.hs
  refine wp_region_vals 10 [fun z9 _ => z9 = .pointer (some ⟨bb, 0, none⟩),
    fun z9 _ => z9 = .int .i64 lvB,
    fun z9 _ => z9 = .pointer (some ⟨ba, 0, none⟩),
    fun z9 _ => z9 = .int .i64 lvA,
    fun z9 _ => z9 = .bool true,
    fun z9 _ => z9 = .bool true,
    fun z9 _ => z9 = .pointer (some ⟨bb, 0, none⟩),
    fun z9 _ => z9 = .pointer (some ⟨ba, 0, none⟩),
    fun v9 w9 => PtNew w9 v9 prA,
    fun z9 _ => z9 = .bool cv]
    (by kernel_rfl) (by kernel_rfl) (by kernel_rfl) (by kernel_rfl) ?_ ?_ ?_
  · intro V hV v w1 w2 h hb
    simp only [List.mem_cons, List.not_mem_nil, or_false] at hV
    rcases hV with rfl | rfl | rfl | rfl | rfl | rfl | rfl | rfl | rfl | rfl
    all_goals first | exact h | (exact PtNew.below h hb)
  · intro iq oq hiq hoq
    match iq, hiq with
    | 0, _ =>
    obtain rfl := Option.some.inj hoq
    intro a1 w1 K hk hK
    have e5 : a1.tmps.getD 5 undef = .pointer (some ⟨bx, 0, none⟩) := hk.same 5 (by simp)
    have c0 : w1.cell? ⟨ab, 0, none⟩ = some (.pointer (some ⟨ba, 0, none⟩)) := Below.keeps hk.ext _ _ (by simp [go_sem, kA, kB, hcmp, hcmpb])
    have c1 : w1.cell? ⟨bx, 0, none⟩ = some (.pointer (some ⟨bb, 0, none⟩)) := Below.keeps hk.ext _ _ (by simp [go_sem, kA, kB, hcmp, hcmpb])
    simp [Region.wanted, Oper.wp, Act.eval, go_sem, e5, c0, c1, kA, kB, hcmp, hcmpb]
    exact hK _ _ (Below.refl _ _) rfl
    | 1, _ =>
    obtain rfl := Option.some.inj hoq
    intro a1 w1 K hk hK
    have d92 : a1.tmps.getD 92 undef = .pointer (some ⟨bb, 0, none⟩) := hk.deps ⟨0, .data⟩ (by simp) rfl _ _ rfl rfl
    simp [Region.wanted, Oper.wp, Act.eval, go_sem, d92, kA, kB, hcmp, hcmpb]
    refine (HLB.out _ (HBW.out.trans ((below_trans (by repeat (first | exact Below.refl _ _ | (refine Below.drew ?_) | (refine below_drewN' ?_ _) | (refine below_alloc' ?_ _) | (refine Below.setCell ?_ (by first | exact Nat.le_refl _ | (simp; done) | (simp; omega)) _))) hk.ext).mono HBW.out.size))).mono ?_
    rintro e w9 ⟨rfl, hw9⟩
    exact hK _ _ (by rw [hw9]; exact Below.refl _ _) rfl
    | 2, _ =>
    obtain rfl := Option.some.inj hoq
    intro a1 w1 K hk hK
    have e4 : a1.tmps.getD 4 undef = .pointer (some ⟨ab, 0, none⟩) := hk.same 4 (by simp)
    have c0 : w1.cell? ⟨ab, 0, none⟩ = some (.pointer (some ⟨ba, 0, none⟩)) := Below.keeps hk.ext _ _ (by simp [go_sem, kA, kB, hcmp, hcmpb])
    have c1 : w1.cell? ⟨bx, 0, none⟩ = some (.pointer (some ⟨bb, 0, none⟩)) := Below.keeps hk.ext _ _ (by simp [go_sem, kA, kB, hcmp, hcmpb])
    simp [Region.wanted, Oper.wp, Act.eval, go_sem, e4, c0, c1, kA, kB, hcmp, hcmpb]
    exact hK _ _ (Below.refl _ _) rfl
    | 3, _ =>
    obtain rfl := Option.some.inj hoq
    intro a1 w1 K hk hK
    have d94 : a1.tmps.getD 94 undef = .pointer (some ⟨ba, 0, none⟩) := hk.deps ⟨2, .data⟩ (by simp) rfl _ _ rfl rfl
    simp [Region.wanted, Oper.wp, Act.eval, go_sem, d94, kA, kB, hcmp, hcmpb]
    refine (HLA.out _ (HBW.out.trans ((below_trans (by repeat (first | exact Below.refl _ _ | (refine Below.drew ?_) | (refine below_drewN' ?_ _) | (refine below_alloc' ?_ _) | (refine Below.setCell ?_ (by first | exact Nat.le_refl _ | (simp; done) | (simp; omega)) _))) hk.ext).mono HBW.out.size))).mono ?_
    rintro e w9 ⟨rfl, hw9⟩
    exact hK _ _ (by rw [hw9]; exact Below.refl _ _) rfl
    | 4, _ =>
    obtain rfl := Option.some.inj hoq
    intro a1 w1 K hk hK
    have d93 : a1.tmps.getD 93 undef = .int .i64 lvB := hk.deps ⟨1, .data⟩ (by simp) rfl _ _ rfl rfl
    have d95 : a1.tmps.getD 95 undef = .int .i64 lvA := hk.deps ⟨3, .data⟩ (by simp) rfl _ _ rfl rfl
    simp [Region.wanted, Oper.wp, Act.eval, go_sem, d93, d95, kA, kB, hcmp, hcmpb]
    exact hK _ _ (Below.refl _ _) rfl
    | 5, _ =>
    obtain rfl := Option.some.inj hoq
    intro a1 w1 K hk hK
    have d96 : a1.tmps.getD 96 undef = .bool true := hk.deps ⟨4, .data⟩ (by simp) rfl _ _ rfl rfl
    simp [Region.wanted, Oper.wp, Act.eval, go_sem, d96, kA, kB, hcmp, hcmpb]
    exact hK _ _ (Below.refl _ _) rfl
    | 6, _ =>
    obtain rfl := Option.some.inj hoq
    intro a1 w1 K hk hK
    have e5 : a1.tmps.getD 5 undef = .pointer (some ⟨bx, 0, none⟩) := hk.same 5 (by simp)
    have gd : a1.tmps[97]? = some (.bool true) := getD_bool (hk.deps ⟨5, .guard⟩ (by simp) rfl _ _ rfl rfl)
    have c0 : w1.cell? ⟨ab, 0, none⟩ = some (.pointer (some ⟨ba, 0, none⟩)) := Below.keeps hk.ext _ _ (by simp [go_sem, kA, kB, hcmp, hcmpb])
    have c1 : w1.cell? ⟨bx, 0, none⟩ = some (.pointer (some ⟨bb, 0, none⟩)) := Below.keeps hk.ext _ _ (by simp [go_sem, kA, kB, hcmp, hcmpb])
    simp [Region.wanted, Oper.wp, Act.eval, go_sem, e5, gd, yielded, c0, c1, kA, kB, hcmp, hcmpb]
    exact hK _ _ (Below.refl _ _) rfl
    | 7, _ =>
    obtain rfl := Option.some.inj hoq
    intro a1 w1 K hk hK
    have e4 : a1.tmps.getD 4 undef = .pointer (some ⟨ab, 0, none⟩) := hk.same 4 (by simp)
    have gd : a1.tmps[97]? = some (.bool true) := getD_bool (hk.deps ⟨5, .guard⟩ (by simp) rfl _ _ rfl rfl)
    have c0 : w1.cell? ⟨ab, 0, none⟩ = some (.pointer (some ⟨ba, 0, none⟩)) := Below.keeps hk.ext _ _ (by simp [go_sem, kA, kB, hcmp, hcmpb])
    have c1 : w1.cell? ⟨bx, 0, none⟩ = some (.pointer (some ⟨bb, 0, none⟩)) := Below.keeps hk.ext _ _ (by simp [go_sem, kA, kB, hcmp, hcmpb])
    simp [Region.wanted, Oper.wp, Act.eval, go_sem, e4, gd, yielded, c0, c1, kA, kB, hcmp, hcmpb]
    exact hK _ _ (Below.refl _ _) rfl
    | 8, _ =>
    obtain rfl := Option.some.inj hoq
    intro a1 w1 K hk hK
    have d99 : a1.tmps.getD 99 undef = .pointer (some ⟨ba, 0, none⟩) := hk.deps ⟨7, .data⟩ (by simp) rfl _ _ rfl rfl
    have gd : a1.tmps[97]? = some (.bool true) := getD_bool (hk.deps ⟨5, .guard⟩ (by simp) rfl _ _ rfl rfl)
    simp [Region.wanted, Oper.wp, Act.eval, go_sem, d99, gd, yielded, kA, kB, hcmp, hcmpb]
    refine (HPA.out _ (HBW.out.trans ((below_trans (by repeat (first | exact Below.refl _ _ | (refine Below.drew ?_) | (refine below_drewN' ?_ _) | (refine below_alloc' ?_ _) | (refine Below.setCell ?_ (by first | exact Nat.le_refl _ | (simp; done) | (simp; omega)) _))) hk.ext).mono HBW.out.size))).mono ?_
    rintro e w9 ⟨u9, rfl, h9, hb9⟩
    exact hK _ _ hb9 h9
    | 9, _ =>
    obtain rfl := Option.some.inj hoq
    intro a1 w1 K hk hK
    have d98 : a1.tmps.getD 98 undef = .pointer (some ⟨bb, 0, none⟩) := hk.deps ⟨6, .data⟩ (by simp) rfl _ _ rfl rfl
    have D100 : PtNew w1 (a1.tmps.getD 100 undef) prA := hk.deps ⟨8, .data⟩ (by simp) rfl _ _ rfl rfl
    have gd : a1.tmps[97]? = some (.bool true) := getD_bool (hk.deps ⟨5, .guard⟩ (by simp) rfl _ _ rfl rfl)
    obtain ⟨A9, c9, eP, _⟩ := RdU.point D100.rd
    have ePx : a1.tmps[100]?.getD undef = .slice A9 prA.length c9 := by rw [← eP]; simp
    rw [eP] at D100
    simp [Region.wanted, Oper.wp, Act.eval, go_sem, d98, eP, ePx, gd, yielded, kA, kB]
    refine (HCB.out _ _ (HBW.out.trans ((below_trans (by repeat (first | exact Below.refl _ _ | (refine Below.drew ?_) | (refine below_drewN' ?_ _) | (refine below_alloc' ?_ _) | (refine Below.setCell ?_ (by first | exact Nat.le_refl _ | (simp; done) | (simp; omega)) _))) hk.ext).mono HBW.out.size)) D100.rd).mono ?_
    rintro e w9 ⟨rfl, hw9⟩
    exact hK _ _ (by rw [hw9]; exact Below.refl _ _) rfl
  · intro vs w3 hl hb3 hv
    match vs, hl with
    | [v0, v1, v2, v3, v4, v5, v6, v7, v8, v9], _ =>
    obtain rfl : v0 = .pointer (some ⟨bb, 0, none⟩) := hv 0 (by omega)
    obtain rfl : v1 = .int .i64 lvB := hv 1 (by omega)
    obtain rfl : v2 = .pointer (some ⟨ba, 0, none⟩) := hv 2 (by omega)
    obtain rfl : v3 = .int .i64 lvA := hv 3 (by omega)
    obtain rfl : v4 = .bool true := hv 4 (by omega)
    obtain rfl : v5 = .bool true := hv 5 (by omega)
    obtain rfl : v6 = .pointer (some ⟨bb, 0, none⟩) := hv 6 (by omega)
    obtain rfl : v7 = .pointer (some ⟨ba, 0, none⟩) := hv 7 (by omega)
    have q8 : PtNew w3 v8 prA := hv 8 (by omega)
    obtain rfl : v9 = .bool cv := hv 9 (by omega)
    clear hv
    simp only [putAll, List.take_succ_cons, List.take_zero, List.drop_succ_cons, List.drop_zero, Act.put, List.setIfInBounds_toArray, List.set_cons_succ, List.set_cons_zero]
    have HS2 := Lib.hid (HS.out.step hb3)
    clear hb3 HS HBW kA kB kS lA lB lS
    have HS := Lib.hid HS2.out
    clear HS2
    clear q8
    clear hcmp hcmpb HCM
    cases cv with
    | true =>
      go_wp2_with fail
      have HBW := Lib.hid HS.out.bel
      have kA := cell_of_one HS.out.ha
      have kB := cell_of_one HS.out.hb
      have kS := cell_of_one HS.out.hs
      have lA := lt_of_block HS.out.ha
      have lB := lt_of_block HS.out.hb
      have lS := lt_of_block HS.out.hs
      refine wp_region_vals 9 [fun z9 _ => z9 = .pointer (some ⟨ba, 0, none⟩),
        fun v9 w9 => PtNew w9 v9 prA,
        fun z9 _ => z9 = .pointer (some ⟨bb, 0, none⟩),
        fun z9 _ => z9 = .int .i64 lvB,
        fun z9 _ => z9 = .tuple #[.int .i64 (adr : Nat), .int .i64 0],
        fun z9 _ => z9 = .tuple #[.int .i64 (adr : Nat), .int .i64 0],
        fun z9 _ => z9 = .int .i64 (adr : Nat),
        fun z9 _ => z9 = .int .i64 0,
        fun z9 _ => z9 = .int .i64 (adr : Nat)]
        (by kernel_rfl) (by kernel_rfl) (by kernel_rfl) (by kernel_rfl) ?_ ?_ ?_
      · intro V hV v w1 w2 h hb
        simp only [List.mem_cons, List.not_mem_nil, or_false] at hV
        rcases hV with rfl | rfl | rfl | rfl | rfl | rfl | rfl | rfl | rfl
        all_goals first | exact h | (exact PtNew.below h hb)
      · intro iq oq hiq hoq
        match iq, hiq with
        | 0, _ =>
        obtain rfl := Option.some.inj hoq
        intro a1 w1 K hk hK
        have e4 : a1.tmps.getD 4 undef = .pointer (some ⟨ab, 0, none⟩) := hk.same 4 (by simp)
        have c0 : w1.cell? ⟨ab, 0, none⟩ = some (.pointer (some ⟨ba, 0, none⟩)) := Below.keeps hk.ext _ _ (by simp [go_sem, kA, kB])
        have c1 : w1.cell? ⟨bx, 0, none⟩ = some (.pointer (some ⟨bb, 0, none⟩)) := Below.keeps hk.ext _ _ (by simp [go_sem, kA, kB])
        simp [Region.wanted, Oper.wp, Act.eval, go_sem, e4, c0, c1, kA, kB]
        exact hK _ _ (Below.refl _ _) rfl
        | 1, _ =>
        obtain rfl := Option.some.inj hoq
        intro a1 w1 K hk hK
        have d104 : a1.tmps.getD 104 undef = .pointer (some ⟨ba, 0, none⟩) := hk.deps ⟨0, .data⟩ (by simp) rfl _ _ rfl rfl
        simp [Region.wanted, Oper.wp, Act.eval, go_sem, d104, kA, kB]
        refine (HPA.out _ (HBW.out.trans ((below_trans (by repeat (first | exact Below.refl _ _ | (refine Below.drew ?_) | (refine below_drewN' ?_ _) | (refine below_alloc' ?_ _) | (refine Below.setCell ?_ (by first | exact Nat.le_refl _ | (simp; done) | (simp; omega)) _))) hk.ext).mono HBW.out.size))).mono ?_
        rintro e w9 ⟨u9, rfl, h9, hb9⟩
        exact hK _ _ hb9 h9
        | 2, _ =>
        obtain rfl := Option.some.inj hoq
        intro a1 w1 K hk hK
        have e5 : a1.tmps.getD 5 undef = .pointer (some ⟨bx, 0, none⟩) := hk.same 5 (by simp)
        have c0 : w1.cell? ⟨ab, 0, none⟩ = some (.pointer (some ⟨ba, 0, none⟩)) := Below.keeps hk.ext _ _ (by simp [go_sem, kA, kB])
        have c1 : w1.cell? ⟨bx, 0, none⟩ = some (.pointer (some ⟨bb, 0, none⟩)) := Below.keeps hk.ext _ _ (by simp [go_sem, kA, kB])
        simp [Region.wanted, Oper.wp, Act.eval, go_sem, e5, c0, c1, kA, kB]
        exact hK _ _ (Below.refl _ _) rfl
        | 3, _ =>
        obtain rfl := Option.some.inj hoq
        intro a1 w1 K hk hK
        have d106 : a1.tmps.getD 106 undef = .pointer (some ⟨bb, 0, none⟩) := hk.deps ⟨2, .data⟩ (by simp) rfl _ _ rfl rfl
        simp [Region.wanted, Oper.wp, Act.eval, go_sem, d106, kA, kB]
        refine (HLB.out _ (HBW.out.trans ((below_trans (by repeat (first | exact Below.refl _ _ | (refine Below.drew ?_) | (refine below_drewN' ?_ _) | (refine below_alloc' ?_ _) | (refine Below.setCell ?_ (by first | exact Nat.le_refl _ | (simp; done) | (simp; omega)) _))) hk.ext).mono HBW.out.size))).mono ?_
        rintro e w9 ⟨rfl, hw9⟩
        exact hK _ _ (by rw [hw9]; exact Below.refl _ _) rfl
        | 4, _ =>
        obtain rfl := Option.some.inj hoq
        intro a1 w1 K hk hK
        have D105 : PtNew w1 (a1.tmps.getD 105 undef) prA := hk.deps ⟨1, .data⟩ (by simp) rfl _ _ rfl rfl
        have d107 : a1.tmps.getD 107 undef = .int .i64 lvB := hk.deps ⟨3, .data⟩ (by simp) rfl _ _ rfl rfl
        obtain ⟨AP, cP, eP, _⟩ := RdU.point D105.rd
        have ePx : a1.tmps[105]?.getD undef = .slice AP prA.length cP := by rw [← eP]; simp
        rw [eP] at D105
        simp [Region.wanted, Oper.wp, Act.eval, go_sem, d107, eP, ePx, kA, kB]
        refine (HADR.out _ _ D105.rd).mono ?_
        rintro e w9 ⟨rfl, hw9⟩
        exact hK _ _ (by rw [hw9]; exact Below.refl _ _) rfl
        | 5, _ =>
        obtain rfl := Option.some.inj hoq
        intro a1 w1 K hk hK
        have d108 : a1.tmps.getD 108 undef = .tuple #[.int .i64 (adr : Nat), .int .i64 0] := hk.deps ⟨4, .data⟩ (by simp) rfl _ _ rfl rfl
        simp [Region.wanted, Oper.wp, Act.eval, go_sem, d108, kA, kB]
        exact hK _ _ (Below.refl _ _) rfl
        | 6, _ =>
        obtain rfl := Option.some.inj hoq
        intro a1 w1 K hk hK
        have d103 : a1.tmps.getD 103 undef = .tuple #[.int .i64 (adr : Nat), .int .i64 0] := hk.deps ⟨5, .data⟩ (by simp) rfl _ _ rfl rfl
        simp [Region.wanted, Oper.wp, Act.eval, go_sem, d103, kA, kB]
        exact hK _ _ (Below.refl _ _) rfl
        | 7, _ =>
        obtain rfl := Option.some.inj hoq
        intro a1 w1 K hk hK
        have d103 : a1.tmps.getD 103 undef = .tuple #[.int .i64 (adr : Nat), .int .i64 0] := hk.deps ⟨5, .data⟩ (by simp) rfl _ _ rfl rfl
        simp [Region.wanted, Oper.wp, Act.eval, go_sem, d103, kA, kB]
        exact hK _ _ (Below.refl _ _) rfl
        | 8, _ =>
        obtain rfl := Option.some.inj hoq
        intro a1 w1 K hk hK
        have d109 : a1.tmps.getD 109 undef = .int .i64 (adr : Nat) := hk.deps ⟨6, .data⟩ (by simp) rfl _ _ rfl rfl
        simp [Region.wanted, Oper.wp, Act.eval, go_sem, d109, kA, kB]
        exact hK _ _ (Below.refl _ _) rfl
      · intro vs w3 hl hb3 hv
        match vs, hl with
        | [v0, v1, v2, v3, v4, v5, v6, v7, v8], _ =>
        obtain rfl : v0 = .pointer (some ⟨ba, 0, none⟩) := hv 0 (by omega)
        have q1 : PtNew w3 v1 prA := hv 1 (by omega)
        obtain rfl : v2 = .pointer (some ⟨bb, 0, none⟩) := hv 2 (by omega)
        obtain rfl : v3 = .int .i64 lvB := hv 3 (by omega)
        obtain rfl : v4 = .tuple #[.int .i64 (adr : Nat), .int .i64 0] := hv 4 (by omega)
        obtain rfl : v5 = .tuple #[.int .i64 (adr : Nat), .int .i64 0] := hv 5 (by omega)
        obtain rfl : v6 = .int .i64 (adr : Nat) := hv 6 (by omega)
        obtain rfl : v7 = .int .i64 0 := hv 7 (by omega)
        obtain rfl : v8 = .int .i64 (adr : Nat) := hv 8 (by omega)
        clear hv
        simp only [putAll, List.take_succ_cons, List.take_zero, List.drop_succ_cons, List.drop_zero, Act.put, List.setIfInBounds_toArray, List.set_cons_succ, List.set_cons_zero]
        have HS2 := Lib.hid (HS.out.step hb3)
        clear hb3 HS HBW kA kB kS lA lB lS
        have HS := Lib.hid HS2.out
        clear HS2
        clear q1
        have HBW := Lib.hid HS.out.bel
        have kA := cell_of_one HS.out.ha
        have kB := cell_of_one HS.out.hb
        have kS := cell_of_one HS.out.hs
        have lA := lt_of_block HS.out.ha
        have lB := lt_of_block HS.out.hb
        have lS := lt_of_block HS.out.hs
        have HBS := Lib.hid (HBES.out (by first | trivial | rfl) _ _ _ _ HS.out HN3.out)
        go_wp2_with fail
        refine HBS.out.mono ?_
        rintro e w7 ⟨rfl, hi7, hk7⟩
        have HF := Lib.hid (And.intro hi7 (HS.out.kp.trans hk7))
        clear hi7 hk7
        go_wp2_with fail
        go_end0
        exact ⟨rfl, HF.out⟩
    | false =>
      have HORD := Lib.hid (HOR.out rfl)
      clear HOR
      go_wp2_with fail
      have HBW := Lib.hid HS.out.bel
      have kA := cell_of_one HS.out.ha
      have kB := cell_of_one HS.out.hb
      have kS := cell_of_one HS.out.hs
      have lA := lt_of_block HS.out.ha
      have lB := lt_of_block HS.out.hb
      have lS := lt_of_block HS.out.hs
      refine wp_region_vals 9 [fun z9 _ => z9 = .pointer (some ⟨ba, 0, none⟩),
        fun v9 w9 => PtNew w9 v9 prA,
        fun z9 _ => z9 = .pointer (some ⟨bb, 0, none⟩),
        fun v9 w9 => PtNew w9 v9 prB,
        fun z9 _ => z9 = .tuple #[.int .i64 z, .int .i64 0],
        fun z9 _ => z9 = .tuple #[.int .i64 z, .int .i64 0],
        fun z9 _ => z9 = .int .i64 z,
        fun z9 _ => z9 = .int .i64 0,
        fun z9 _ => z9 = .int .i64 z]
        (by kernel_rfl) (by kernel_rfl) (by kernel_rfl) (by kernel_rfl) ?_ ?_ ?_
      · intro V hV v w1 w2 h hb
        simp only [List.mem_cons, List.not_mem_nil, or_false] at hV
        rcases hV with rfl | rfl | rfl | rfl | rfl | rfl | rfl | rfl | rfl
        all_goals first | exact h | (exact PtNew.below h hb)
      · intro iq oq hiq hoq
        match iq, hiq with
        | 0, _ =>
        obtain rfl := Option.some.inj hoq
        intro a1 w1 K hk hK
        have e4 : a1.tmps.getD 4 undef = .pointer (some ⟨ab, 0, none⟩) := hk.same 4 (by simp)
        have c0 : w1.cell? ⟨ab, 0, none⟩ = some (.pointer (some ⟨ba, 0, none⟩)) := Below.keeps hk.ext _ _ (by simp [go_sem, kA, kB])
        have c1 : w1.cell? ⟨bx, 0, none⟩ = some (.pointer (some ⟨bb, 0, none⟩)) := Below.keeps hk.ext _ _ (by simp [go_sem, kA, kB])
        simp [Region.wanted, Oper.wp, Act.eval, go_sem, e4, c0, c1, kA, kB]
        exact hK _ _ (Below.refl _ _) rfl
        | 1, _ =>
        obtain rfl := Option.some.inj hoq
        intro a1 w1 K hk hK
        have d13 : a1.tmps.getD 13 undef = .pointer (some ⟨ba, 0, none⟩) := hk.deps ⟨0, .data⟩ (by simp) rfl _ _ rfl rfl
        simp [Region.wanted, Oper.wp, Act.eval, go_sem, d13, kA, kB]
        refine (HPA.out _ (HBW.out.trans ((below_trans (by repeat (first | exact Below.refl _ _ | (refine Below.drew ?_) | (refine below_drewN' ?_ _) | (refine below_alloc' ?_ _) | (refine Below.setCell ?_ (by first | exact Nat.le_refl _ | (simp; done) | (simp; omega)) _))) hk.ext).mono HBW.out.size))).mono ?_
        rintro e w9 ⟨u9, rfl, h9, hb9⟩
        exact hK _ _ hb9 h9
        | 2, _ =>
        obtain rfl := Option.some.inj hoq
        intro a1 w1 K hk hK
        have e5 : a1.tmps.getD 5 undef = .pointer (some ⟨bx, 0, none⟩) := hk.same 5 (by simp)
        have c0 : w1.cell? ⟨ab, 0, none⟩ = some (.pointer (some ⟨ba, 0, none⟩)) := Below.keeps hk.ext _ _ (by simp [go_sem, kA, kB])
        have c1 : w1.cell? ⟨bx, 0, none⟩ = some (.pointer (some ⟨bb, 0, none⟩)) := Below.keeps hk.ext _ _ (by simp [go_sem, kA, kB])
        simp [Region.wanted, Oper.wp, Act.eval, go_sem, e5, c0, c1, kA, kB]
        exact hK _ _ (Below.refl _ _) rfl
        | 3, _ =>
        obtain rfl := Option.some.inj hoq
        intro a1 w1 K hk hK
        have d15 : a1.tmps.getD 15 undef = .pointer (some ⟨bb, 0, none⟩) := hk.deps ⟨2, .data⟩ (by simp) rfl _ _ rfl rfl
        simp [Region.wanted, Oper.wp, Act.eval, go_sem, d15, kA, kB]
        refine (HPB.out _ (HBW.out.trans ((below_trans (by repeat (first | exact Below.refl _ _ | (refine Below.drew ?_) | (refine below_drewN' ?_ _) | (refine below_alloc' ?_ _) | (refine Below.setCell ?_ (by first | exact Nat.le_refl _ | (simp; done) | (simp; omega)) _))) hk.ext).mono HBW.out.size))).mono ?_
        rintro e w9 ⟨u9, rfl, h9, hb9⟩
        exact hK _ _ hb9 h9
        | 4, _ =>
        obtain rfl := Option.some.inj hoq
        intro a1 w1 K hk hK
        have D14 : PtNew w1 (a1.tmps.getD 14 undef) prA := hk.deps ⟨1, .data⟩ (by simp) rfl _ _ rfl rfl
        have D16 : PtNew w1 (a1.tmps.getD 16 undef) prB := hk.deps ⟨3, .data⟩ (by simp) rfl _ _ rfl rfl
        obtain ⟨AP, cP, eP, _⟩ := RdU.point D14.rd
        have ePx : a1.tmps[14]?.getD undef = .slice AP prA.length cP := by rw [← eP]; simp
        rw [eP] at D14
        obtain ⟨AQ, cQ, eQ, _⟩ := RdU.point D16.rd
        have eQx : a1.tmps[16]?.getD undef = .slice AQ prB.length cQ := by rw [← eQ]; simp
        rw [eQ] at D16
        simp [Region.wanted, Oper.wp, Act.eval, go_sem, eP, ePx, eQ, eQx, kA, kB]
        refine (HCMP.out _ _ _ D14.rd D16.rd).mono ?_
        rintro e w9 ⟨rfl, hw9⟩
        exact hK _ _ (by rw [hw9]; exact Below.refl _ _) rfl
        | 5, _ =>
        obtain rfl := Option.some.inj hoq
        intro a1 w1 K hk hK
        have d17 : a1.tmps.getD 17 undef = .tuple #[.int .i64 z, .int .i64 0] := hk.deps ⟨4, .data⟩ (by simp) rfl _ _ rfl rfl
        simp [Region.wanted, Oper.wp, Act.eval, go_sem, d17, kA, kB]
        exact hK _ _ (Below.refl _ _) rfl
        | 6, _ =>
        obtain rfl := Option.some.inj hoq
        intro a1 w1 K hk hK
        have d12 : a1.tmps.getD 12 undef = .tuple #[.int .i64 z, .int .i64 0] := hk.deps ⟨5, .data⟩ (by simp) rfl _ _ rfl rfl
        simp [Region.wanted, Oper.wp, Act.eval, go_sem, d12, kA, kB]
        exact hK _ _ (Below.refl _ _) rfl
        | 7, _ =>
        obtain rfl := Option.some.inj hoq
        intro a1 w1 K hk hK
        have d12 : a1.tmps.getD 12 undef = .tuple #[.int .i64 z, .int .i64 0] := hk.deps ⟨5, .data⟩ (by simp) rfl _ _ rfl rfl
        simp [Region.wanted, Oper.wp, Act.eval, go_sem, d12, kA, kB]
        exact hK _ _ (Below.refl _ _) rfl
        | 8, _ =>
        obtain rfl := Option.some.inj hoq
        intro a1 w1 K hk hK
        have d18 : a1.tmps.getD 18 undef = .int .i64 z := hk.deps ⟨6, .data⟩ (by simp) rfl _ _ rfl rfl
        simp [Region.wanted, Oper.wp, Act.eval, go_sem, d18, kA, kB]
        exact hK _ _ (Below.refl _ _) rfl
      · intro vs w3 hl hb3 hv
        match vs, hl with
        | [v0, v1, v2, v3, v4, v5, v6, v7, v8], _ =>
        obtain rfl : v0 = .pointer (some ⟨ba, 0, none⟩) := hv 0 (by omega)
        have q1 : PtNew w3 v1 prA := hv 1 (by omega)
        obtain rfl : v2 = .pointer (some ⟨bb, 0, none⟩) := hv 2 (by omega)
        have q3 : PtNew w3 v3 prB := hv 3 (by omega)
        obtain rfl : v4 = .tuple #[.int .i64 z, .int .i64 0] := hv 4 (by omega)
        obtain rfl : v5 = .tuple #[.int .i64 z, .int .i64 0] := hv 5 (by omega)
        obtain rfl : v6 = .int .i64 z := hv 6 (by omega)
        obtain rfl : v7 = .int .i64 0 := hv 7 (by omega)
        obtain rfl : v8 = .int .i64 z := hv 8 (by omega)
        clear hv
        simp only [putAll, List.take_succ_cons, List.take_zero, List.drop_succ_cons, List.drop_zero, Act.put, List.setIfInBounds_toArray, List.set_cons_succ, List.set_cons_zero]
        have HS2 := Lib.hid (HS.out.step hb3)
        clear hb3 HS HBW kA kB kS lA lB lS
        have HS := Lib.hid HS2.out
        clear HS2
        clear q1 q3
        by_cases hz : z < 0
        · have HE := Lib.hid (HORD.out.1 (by omega))
          have HBW := Lib.hid HS.out.bel
          have kA := cell_of_one HS.out.ha
          have kB := cell_of_one HS.out.hb
          have kS := cell_of_one HS.out.hs
          have lA := lt_of_block HS.out.ha
          have lB := lt_of_block HS.out.hb
          have lS := lt_of_block HS.out.hs
          go_wp2_with fail
          refine (HALA.out _ _ HS.out.inv L1.out).mono ?_
          rintro e w7 ⟨rfl, hi7, hk7⟩
          have HS2 := Lib.hid (HS.out.go HN3.out hi7 hk7)
          clear hi7 hk7 HBW kA kB kS lA lB lS
          have kA := cell_of_one HS2.out.ha
          have kB := cell_of_one HS2.out.hb
          have kS := cell_of_one HS2.out.hs
          have lA := lt_of_block HS2.out.ha
          have lB := lt_of_block HS2.out.hb
          have lS := lt_of_block HS2.out.hs
          go_wp2_with fail
          refine (HALB.out _ _ HS2.out.inv L2.out).mono ?_
          rintro e w8 ⟨rfl, hi8, hk8⟩
          have HF := Lib.hid (And.intro hi8 (HS2.out.kp.trans hk8))
          clear hi8 hk8
          go_wp2_with fail
          go_end0
          rw [HE.out, ← List.append_assoc]
          exact ⟨rfl, HF.out⟩
        · have HE := Lib.hid (HORD.out.2 (by omega))
          have HBW := Lib.hid HS.out.bel
          have kA := cell_of_one HS.out.ha
          have kB := cell_of_one HS.out.hb
          have kS := cell_of_one HS.out.hs
          have lA := lt_of_block HS.out.ha
          have lB := lt_of_block HS.out.hb
          have lS := lt_of_block HS.out.hs
          go_wp2_with fail
          refine (HALB.out _ _ HS.out.inv L3.out).mono ?_
          rintro e w7 ⟨rfl, hi7, hk7⟩
          have HS2 := Lib.hid (HS.out.go HN3.out hi7 hk7)
          clear hi7 hk7 HBW kA kB kS lA lB lS
          have kA := cell_of_one HS2.out.ha
          have kB := cell_of_one HS2.out.hb
          have kS := cell_of_one HS2.out.hs
          have lA := lt_of_block HS2.out.ha
          have lB := lt_of_block HS2.out.hb
          have lS := lt_of_block HS2.out.hs
          go_wp2_with fail
          refine (HALA.out _ _ HS2.out.inv L4.out).mono ?_
          rintro e w8 ⟨rfl, hi8, hk8⟩
          have HF := Lib.hid (And.intro hi8 (HS2.out.kp.trans hk8))
          clear hi8 hk8
          go_wp2_with fail
          go_end0
          rw [HE.out, ← List.append_assoc]
          exact ⟨rfl, HF.out⟩
end Go.Proofs.YtjokcagggmjgmaaGreat
/-! DifL -/
namespace Go.Proofs.YtjokcagggmjgmaaGreat
open Go.RowKit
set_option linter.unusedVariables false
set_option linter.unusedSimpArgs false
set_option maxRecDepth 100000

theorem both_any (W : World) (B k : Nat) (hW : W.heap.size ≤ B) (k1 : 1 ≤ k) (k16 : k ≤ 16) : ∀ N, BoIH W B k N := by
  intro N
  induction N using Nat.strongRecOn with
  | ind N IH =>
    intro ra rb lx ly w' d' ha hb hlt hi hN
    cases ra with
    | none =>
      cases rb with
      | none => exact both_same W w' B k none lx ly d' ha hb hi
      | some b =>
        have e : lx = [] := ha
        subst e
        exact both_come W w' B k b ly d' hW k1 k16 hb hi (by simpa using hN)
    | some a =>
      cases rb with
      | none =>
        have e : ly = [] := hb
        subst e
        exact both_gone W w' B k a lx d' hW k1 k16 ha hi (by simpa using hN)
      | some b =>
        by_cases hab : a = b
        · subst hab
          exact both_same W w' B k (some a) lx ly d' ha hb hi
        · have ih := IH (lx.length + ly.length) hlt
          rcases Nat.lt_trichotomy (lev lx) (lev ly) with h | h | h
          · exact both_lt W w' B k a b lx ly d' hW k1 k16 ha hb hab hi hN ih h
          · exact both_eq W w' B k a b lx ly d' hW k1 k16 ha hb hab hi hN ih h
          · exact both_gt W w' B k a b lx ly d' hW k1 k16 ha hb hab hi hN ih h
end Go.Proofs.YtjokcagggmjgmaaGreat
/-! DifN -/
namespace Go.Proofs.YtjokcagggmjgmaaGreat
open Go.RowKit
set_option linter.unusedVariables false
set_option linter.unusedSimpArgs false
set_option maxRecDepth 100000

theorem dcheck_any (w : World) (a b k : Nat) (la lb : List En) (ha : TrR w a k la) (hb : TrR w b k lb) :
    Calls Tryz.prog 76 #[.pointer (some ⟨a, 0, none⟩), .pointer (some ⟨b, 0, none⟩)] w fun e w' => e = .returned (.int .i64 0) ∧ w' = w := by
  have HK1 := Lib.hid (tk_any w a k ha.c0)
  have HK2 := Lib.hid (tk_any w b k hb.c0)
  clear ha hb
  go_enter Tryz.func76, Tryz.ntmps76
  go_wp2_with fail
  refine (HK1.out).mono ?_
  rintro e w1 ⟨rfl, hw⟩
  obtain rfl := hw.symm
  clear hw
  go_wp2_with fail
  refine (HK2.out).mono ?_
  rintro e w1 ⟨rfl, hw⟩
  obtain rfl := hw.symm
  clear hw
  go_wp2_with fail
  go_ret
  exact ⟨rfl, rfl⟩
/-- what Changes hands back -/
def ChgP (W : World) (d : List Ch) (e : Ending) (w' : World) : Prop := ∃ v, e = .returned (.tuple #[v, .int .i64 0]) ∧ OwnC (PtNew w') W w' v d ∧ Below W.heap.size W w'
set_option maxHeartbeats 4000000 in
theorem changes_any (w : World) (a b k : Nat) (la lb : List En) (ha : TrR w a k la) (hb : TrR w b k lb) (hN : la.length + lb.length ≤ 10000) :
    Calls Tryz.prog 38 #[.pointer (some ⟨a, 0, none⟩), .pointer (some ⟨b, 0, none⟩)] w fun e w' => ChgP w (changesL la lb) e w' := by
  have HCK := Lib.hid (dcheck_any w a b k la lb ha hb)
  obtain ⟨ra, hra, hla⟩ := ha.c1
  obtain ⟨rb, hrb, hlb⟩ := hb.c1
  have HBO := Lib.hid (fun (w' : World) (h : InvT w w.heap.size [] w') => both_any w w.heap.size k (Nat.le_refl _) ha.k1 ha.k16 _ ra rb la lb w' [] hla hlb (Nat.lt_succ_self _) h (by simpa using hN))
  obtain ⟨q1, hq1⟩ := pv_ex ra
  obtain ⟨q2, hq2⟩ := pv_ex rb
  rw [hq1, hq2] at HBO
  rw [hq1] at hra
  rw [hq2] at hrb
  have HR1 := Lib.hid (fun (w' : World) (h : Below w.heap.size w w') => troot_any w' a q1 (Below.keeps h _ _ hra))
  have HR2 := Lib.hid (fun (w' : World) (h : Below w.heap.size w w') => troot_any w' b q2 (Below.keeps h _ _ hrb))
  have H0 := Lib.hid (show InvT w w.heap.size [] (w.alloc (.cells #[.slice none 0 0] 23)) from ⟨_, alloc_blk _ _, OwnC.nil _ _ _, (by repeat (first | exact Below.refl _ _ | (refine Below.drew ?_) | (refine below_drewN' ?_ _) | (refine below_alloc' ?_ _) | (refine Below.setCell ?_ (by first | exact Nat.le_refl _ | (simp; done) | (simp; omega)) _)))⟩)
  clear ha hb hra hrb hla hlb hq1 hq2 hN
  go_enter Tryz.func38, Tryz.ntmps38
  go_wp2_with fail
  refine (HCK.out).mono ?_
  rintro e w1 ⟨rfl, hw⟩
  obtain rfl := hw.symm
  clear hw
  go_wp2_with fail
  refine (HR1.out _ (by repeat (first | exact Below.refl _ _ | (refine Below.drew ?_) | (refine below_drewN' ?_ _) | (refine below_alloc' ?_ _) | (refine Below.setCell ?_ (by first | exact Nat.le_refl _ | (simp; done) | (simp; omega)) _)))).mono ?_
  rintro e w1 ⟨rfl, hw⟩
  obtain rfl := hw.symm
  clear hw
  go_wp2_with fail
  refine (HR2.out _ (by repeat (first | exact Below.refl _ _ | (refine Below.drew ?_) | (refine below_drewN' ?_ _) | (refine below_alloc' ?_ _) | (refine Below.setCell ?_ (by first | exact Nat.le_refl _ | (simp; done) | (simp; omega)) _)))).mono ?_
  rintro e w1 ⟨rfl, hw⟩
  obtain rfl := hw.symm
  clear hw
  go_wp2_with fail
  refine (HBO.out _ H0.out).mono ?_
  rintro e w1 ⟨rfl, ⟨vo, hblk, hown, hb⟩, _⟩
  rw [List.nil_append] at hown
  have HF := Lib.hid (And.intro hown hb)
  have kb := cell_of_one hblk
  have hl := lt_of_block hblk
  clear hown hb hblk H0
  go_wp2_with fail
  refine bodyPost_ret (v := .tuple #[vo, .int .i64 0]) (by simp [results, Tryz.results38, go_sem]) rfl ?_
  exact ⟨_, rfl, HF.out⟩
theorem OwnC.shapeC {Pt : Value → List Nat → Prop} {W w : World} {v : Value} {l : List Ch} (h : OwnC Pt W w v l) : ∃ A c, v = .slice A l.length c := by
  obtain ⟨cs, ⟨h1, h2⟩, h3⟩ := h
  rcases h2 with ⟨rfl, h0⟩ | ⟨g, cap, cur, rfl, _⟩
  · refine ⟨none, 0, ?_⟩
    have : l.length = 0 := by simpa using h0
    rw [this]
  · exact ⟨_, _, rfl⟩
theorem count_any (w : World) (a b k : Nat) (la lb : List En) (ha : TrR w a k la) (hb : TrR w b k lb) (hN : la.length + lb.length ≤ 10000) :
    Calls Tryz.prog 72 #[.pointer (some ⟨a, 0, none⟩), .pointer (some ⟨b, 0, none⟩)] w fun e w' => e = .returned (.tuple #[.int .i64 ((changesL la lb).length : Nat), .int .i64 0]) ∧ Below w.heap.size w w' := by
  have HC := Lib.hid (changes_any w a b k la lb ha hb hN)
  have HL := Lib.hid (Nat.le_trans (changes_len ha.et hb.et) hN)
  obtain ⟨n, hn⟩ : ∃ n, (changesL la lb).length = n := ⟨_, rfl⟩
  rw [hn] at HL
  have HN := Lib.hid hn
  clear ha hb hN hn
  go_enter Tryz.func72, Tryz.ntmps72
  go_wp2_with fail
  refine (HC.out).mono ?_
  rintro e w1 ⟨v, rfl, hown, hb⟩
  have HB := Lib.hid hb
  obtain ⟨A, c, rfl⟩ := hown.shapeC
  clear hown hb
  rw [HN.out]
  go_wp2_with fail
  refine bodyPost_ret (v := .tuple #[.int .i64 (n : Nat), .int .i64 0]) (by simp [results, Tryz.results72, go_sem]) rfl ?_
  rw [HN.out]
  exact ⟨rfl, HB.out⟩
theorem same_any (w : World) (a b k : Nat) (la lb : List En) (ha : TrR w a k la) (hb : TrR w b k lb) (hN : la.length + lb.length ≤ 10000) :
    Calls Tryz.prog 34 #[.pointer (some ⟨a, 0, none⟩), .pointer (some ⟨b, 0, none⟩)] w fun e w' => e = .returned (.bool (decide (changesL la lb = []))) ∧ Below w.heap.size w w' := by
  have HC := Lib.hid (count_any w a b k la lb ha hb hN)
  obtain ⟨n, hn⟩ : ∃ n, (changesL la lb).length = n := ⟨_, rfl⟩
  rw [hn] at HC
  have HN := Lib.hid (show decide (changesL la lb = []) = decide (n = 0) from by rw [← hn]; congr 1; rw [List.length_eq_zero_iff])
  clear ha hb hN hn
  go_enter Tryz.func34, Tryz.ntmps34
  go_wp2_with fail
  refine (HC.out).mono ?_
  rintro e w1 ⟨rfl, hb⟩
  have HB := Lib.hid hb
  clear hb
  by_cases h0 : n = 0
  · subst h0
    go_wp2_with fail
    go_ret
    rw [HN.out]
    exact ⟨rfl, HB.out⟩
  · have h1 : ((n : Int) == 0) = false := by simp; omega
    go_wp2_with fail
    go_ret
    rw [HN.out]
    refine ⟨?_, HB.out⟩
    simp [h0]
end Go.Proofs.YtjokcagggmjgmaaGreat
/-! FitD -/
namespace Go.Proofs.YtjokcagggmjgmaaGreat
open Go.RowKit
set_option linter.unusedVariables false
set_option linter.unusedSimpArgs false
set_option maxRecDepth 100000

theorem doL_append (e : List En) (a b : List Ch) : doL e (a ++ b) = doL (doL e a) b := by
  induction a generalizing e with
  | nil => rfl
  | cons c a ih => exact ih _
def DoP (W : World) (t k : Nat) (in_ : List En) (l : List Ch) (e : Ending) (w' : World) : Prop := Below W.heap.size W w' ∧
  ((rightL k l = false ∧ e = .returned (.tuple #[.pointer none, .int .i64 9])) ∨ (rightL k l = true ∧ fitsL in_ l = false ∧ e = .returned (.tuple #[.pointer none, .int .i64 7])) ∨
   (rightL k l = true ∧ fitsL in_ l = true ∧ ∃ g, e = .returned (.tuple #[.pointer (some ⟨g, 0, none⟩), .int .i64 0]) ∧ TrR w' g k (doL in_ l) ∧ (l = [] → g = t) ∧ (l ≠ [] → W.heap.size ≤ g)))
/-- what stands ahead of the change j -/
structure DoI (w wr : World) (t k : Nat) (in_ : List En) (l : List Ch) (j g : Nat) : Prop where
  jl : j ≤ l.length
  tr : TrR wr g k (doL in_ (l.take j))
  z : j = 0 → g = t
  s : 0 < j → w.heap.size ≤ g
  fit : fitsL (doL in_ (l.take j)) (l.drop j) = true
  bel : Below w.heap.size w wr
theorem Rt.drop {k : Nat} {l : List Ch} (h : Rt k l) (j : Nat) : Rt k (l.drop j) :=
  ⟨fun c hc => h.len c (List.mem_of_mem_drop hc), fun c hc => h.right c (List.mem_of_mem_drop hc), List.Pairwise.sublist (List.drop_sublist j l) h.asc, fun c hc => h.ok c (List.mem_of_mem_drop hc)⟩
theorem do_take (in_ : List En) (l : List Ch) (j : Nat) (h : j < l.length) : doL in_ (l.take (j + 1)) = if l[j].has then insE l[j].p l[j].new (doL in_ (l.take j)) else delE l[j].p (doL in_ (l.take j)) := by
  rw [← List.take_append_getElem h, doL_append]; rfl
theorem DoI.head {w wr : World} {t k : Nat} {in_ : List En} {l : List Ch} {j g : Nat} (h : DoI w wr t k in_ l j g) (hr : Rt k l) (hlt : j < l.length) :
    (getE (doL in_ (l.take j)) l[j].p).isSome = l[j].had ∧ (getE (doL in_ (l.take j)) l[j].p).getD 0 = l[j].old ∧ fitsL (doL in_ (l.take (j + 1))) (l.drop (j + 1)) = true := by
  have hd := h.fit
  have hrd := hr.drop j
  rw [← List.getElem_cons_drop hlt] at hd hrd
  obtain ⟨f1, f2⟩ := fits_get hd (List.mem_cons_self ..)
  refine ⟨f1, f2, ?_⟩
  rw [do_take in_ l j hlt]
  exact fits_tail h.tr.et hrd hd
set_option maxHeartbeats 2000000 in
theorem eDo_any (w : World) (t k : Nat) (in_ : List En) (l : List Ch) (v : Value) (ht : TrR w t k in_) (hl : RdC w v l) (hn : l.length ≤ 1000) (ho : OkC l) (hv : ∀ c ∈ l, c.new < 2 ^ 64) :
    Calls Tryz.prog 17 #[.pointer (some ⟨t, 0, none⟩), v] w fun e w' => DoP w t k in_ l e w' := by
  have HC := Lib.hid (echeck_any w t k in_ l v ht hl hn ho)
  have HF := Lib.hid (fun w' (hb : Below w.heap.size w w') (h : rightL k l = true) => efits_any w' t k in_ l v (ht.bel hb) (hl.below hb) hn (right_pts ho h).len ho)
  have HRT := Lib.hid (fun h : rightL k l = true => right_pts ho h)
  have HD := Lib.hid (And.intro hn (And.intro hv ht))
  obtain ⟨A, cc, rfl, hx⟩ := hl
  have HX := Lib.hid hx
  clear hx hn ho ht hv
  by_cases hr : rightL k l = true
  · have HDR := Lib.hid (show rightL k l = true from hr)
    replace HRT := Lib.hid (HRT.out hr)
    replace HF := Lib.hid (fun w' hb => HF.out w' hb hr)
    rw [hr] at HC
    clear hr
    by_cases hf : fitsL in_ l = true
    · have HDF := Lib.hid (show fitsL in_ l = true from hf)
      rw [hf] at HF
      clear hf
      go_enter Tryz.func17, Tryz.ntmps17
      go_wp2_with fail
      refine HC.out.mono ?_
      rintro e w2 ⟨rfl, hb2⟩
      have HF2 := Lib.hid hb2
      clear hb2
      go_wp2_with fail
      refine (HF.out _ HF2.out).mono ?_
      rintro e w3 ⟨rfl, hb3⟩
      replace HF2 := Lib.hid (HF2.out.trans (hb3.mono HF2.out.size))
      clear hb3
      go_wp2_with fail
      go_loopw [0, 8, 23] (fun tv _ iv wr => ∃ (j g : Nat), tv = .pointer (some ⟨g, 0, none⟩) ∧ iv = .int .i64 (j : Nat) ∧ DoI w wr t k in_ l j g) (fun _ _ iv _ => l.length - (intOf iv).toNat)
      case atStart => exact ⟨0, t, rfl, rfl, ⟨Nat.zero_le _, HD.out.2.2.bel HF2.out, fun _ => rfl, fun h => absurd h (Nat.lt_irrefl 0), by rw [List.take_zero, List.drop_zero]; exact HDF.out, HF2.out⟩⟩
      case round =>
        obtain ⟨j, g, rfl, rfl, hI⟩ := hrel
        have HI := Lib.hid hI
        by_cases hlt : j < l.length
        · have h3 : (j : Int) < (l.length : Int) := by omega
          have h5 : (0 : Int) ≤ (j : Int) := by omega
          have HW := Lib.hid (show wrap64 ((j : Int) + 1) = ((j + 1 : Nat) : Int) by have := HD.out.1; unfold wrap64; omega)
          obtain ⟨b2, o2, rfl, hc⟩ := HX.out (by omega)
          obtain ⟨u, k0, ku, k1, k2, k3, k4⟩ := (hc j hlt).keep (Below.keeps hI.bel)
          have hmem := List.getElem_mem hlt
          have HH := Lib.hid (hI.head HRT.out hlt)
          have HTK := Lib.hid (do_take in_ l j hlt)
          have HPU := Lib.hid (fun W (hb : Below wr.heap.size wr W) => tput_any W g k l[j].new l[j].p _ u (hI.tr.bel hb) (ku.below hb) (HRT.out.len _ hmem) (HRT.out.ok _ hmem) (HD.out.2.1 _ hmem))
          have HDE := Lib.hid (fun W (hb : Below wr.heap.size wr W) => tdel_any W g k l[j].p _ u (hI.tr.bel hb) (ku.below hb) (HRT.out.len _ hmem) (HRT.out.ok _ hmem))
          have HRI := Lib.hid (right_parts (HRT.out.right _ hmem))
          have hlb := World.block_lt_of_cell? wr _ k0
          obtain ⟨Au, cu, rfl, zz⟩ := RdU.point ku
          generalize hcj : l[j] = c at *
          clear hc hI hmem ku zz hcj
          obtain ⟨p, had, has, old, new⟩ := c
          simp only at *
          cases has with
          | true =>
            go_wp2_with fail
            refine (HPU.out _ (by repeat (first | exact Below.refl _ _ | (refine Below.drew ?_) | (refine below_drewN' ?_ _) | (refine below_alloc' ?_ _) | (refine Below.setCell ?_ (by first | exact Nat.le_refl _ | (simp; done) | (simp; omega)) _)))).mono ?_
            rintro e w4 ⟨g2, rfl, ht2, hb4, hs1, hs2⟩
            have HN := Lib.hid (show DoI w w4 t k in_ l (j + 1) g2 from by
              have hbw : Below wr.heap.size wr w4 := below_trans (by repeat (first | exact Below.refl _ _ | (refine Below.drew ?_) | (refine below_drewN' ?_ _) | (refine below_alloc' ?_ _) | (refine Below.setCell ?_ (by first | exact Nat.le_refl _ | (simp; done) | (simp; omega)) _))) hb4
              refine ⟨by omega, by rw [HTK.out]; exact ht2, fun h => by omega, fun _ => ?_, HH.out.2.2, HI.out.bel.trans (hbw.mono HI.out.bel.size)⟩
              have hne : getE (doL in_ (l.take j)) p ≠ some new := by
                intro h
                have h1 := HH.out.1
                have h2 := HH.out.2.1
                have h4 := HRI.out.2.2.2
                rw [h] at h1 h2
                simp only [Option.isSome_some, Option.getD_some] at h1 h2
                subst h1 h2
                simp at h4
              have := hs2 hne
              have h9 := HI.out.bel.size
              have h8 : wr.heap.size ≤ (wr.alloc (.cells #[.slice Au p.length cu, .bool had, .bool true, .int .u64 (old : Nat), .int .u64 (new : Nat)] 83)).heap.size := by simp
              omega)
            clear ht2 hb4 hs1 hs2
            go_wp2_with fail
            go_roundw
            case rel => exact ⟨j + 1, g2, rfl, (by first | rw [HW.out] | rfl | simp), HN.out⟩
            case measure => (first | (rw [intOf_of' HW.out, intOf_of' rfl]; omega) | (simp [intOf]; omega) | (simp [intOf] <;> omega))
          | false =>
            go_wp2_with fail
            refine (HDE.out _ (by repeat (first | exact Below.refl _ _ | (refine Below.drew ?_) | (refine below_drewN' ?_ _) | (refine below_alloc' ?_ _) | (refine Below.setCell ?_ (by first | exact Nat.le_refl _ | (simp; done) | (simp; omega)) _)))).mono ?_
            rintro e w4 ⟨hb4, hcase⟩
            rcases hcase with ⟨h1, _⟩ | ⟨x, g2, h1, rfl, ht2, hs⟩
            · exact absurd h1 (by
                intro h
                have h1 := HH.out.1
                have h4 := HRI.out.1
                rw [h] at h1
                simp only [Option.isSome_none] at h1
                subst h1
                simp at h4)
            have HN := Lib.hid (show DoI w w4 t k in_ l (j + 1) g2 from by
              have hbw : Below wr.heap.size wr w4 := below_trans (by repeat (first | exact Below.refl _ _ | (refine Below.drew ?_) | (refine below_drewN' ?_ _) | (refine below_alloc' ?_ _) | (refine Below.setCell ?_ (by first | exact Nat.le_refl _ | (simp; done) | (simp; omega)) _))) hb4
              refine ⟨by omega, by rw [HTK.out]; exact ht2, fun h => by omega, fun _ => ?_, HH.out.2.2, HI.out.bel.trans (hbw.mono HI.out.bel.size)⟩
              have h9 := HI.out.bel.size
              have h8 : wr.heap.size ≤ (wr.alloc (.cells #[.slice Au p.length cu, .bool had, .bool false, .int .u64 (old : Nat), .int .u64 (new : Nat)] 83)).heap.size := by simp
              omega)
            clear ht2 hb4 hs h1
            go_wp2_with fail
            go_roundw
            case rel => exact ⟨j + 1, g2, rfl, (by first | rw [HW.out] | rfl | simp), HN.out⟩
            case measure => (first | (rw [intOf_of' HW.out, intOf_of' rfl]; omega) | (simp [intOf]; omega) | (simp [intOf] <;> omega))
        · have h3 : ¬ (j : Int) < (l.length : Int) := by omega
          have HJ := Lib.hid (show j = l.length by have := hI.jl; omega)
          clear hI
          go_wp2_with fail
          go_ret2
          refine ⟨HI.out.bel, .inr (.inr ⟨HDR.out, HDF.out, g, rfl, ?_, fun h => HI.out.z (by rw [HJ.out, h]; rfl), fun h => HI.out.s (by rw [HJ.out]; exact List.length_pos_iff.2 h)⟩)⟩
          have := HI.out.tr
          rw [HJ.out, List.take_length] at this
          exact this
    · have hf' : fitsL in_ l = false := by simpa using hf
      have HDF := Lib.hid (show fitsL in_ l = false from hf')
      rw [hf'] at HF
      clear hf hf'
      go_enter Tryz.func17, Tryz.ntmps17
      go_wp2_with fail
      refine HC.out.mono ?_
      rintro e w2 ⟨rfl, hb2⟩
      have HF2 := Lib.hid hb2
      clear hb2
      go_wp2_with fail
      refine (HF.out _ HF2.out).mono ?_
      rintro e w3 ⟨rfl, hb3⟩
      replace HF2 := Lib.hid (HF2.out.trans (hb3.mono HF2.out.size))
      clear hb3
      go_wp2_with fail
      go_ret2
      exact ⟨HF2.out, .inr (.inl ⟨HDR.out, HDF.out, rfl⟩)⟩
  · have hr' : rightL k l = false := by simpa using hr
    have HDR := Lib.hid (show rightL k l = false from hr')
    rw [hr'] at HC
    clear hr hr'
    go_enter Tryz.func17, Tryz.ntmps17
    go_wp2_with fail
    refine HC.out.mono ?_
    rintro e w2 ⟨rfl, hb2⟩
    have HF2 := Lib.hid hb2
    clear hb2
    go_wp2_with fail
    go_ret2
    exact ⟨HF2.out, .inl ⟨HDR.out, rfl⟩⟩
end Go.Proofs.YtjokcagggmjgmaaGreat
/-! OwnN -/
namespace Go.Proofs.YtjokcagggmjgmaaGreat
open Go.RowKit
set_option linter.unusedVariables false
set_option linter.unusedSimpArgs false

/-- a point in a row of numbers, or none -/
def PtN (w : World) (u : Value) (p : List Nat) : Prop := PtNew w u p ∨ (p = [] ∧ ∃ A c, u = .slice A 0 c)
theorem PtN.rd {w : World} {u : Value} {p : List Nat} (h : PtN w u p) : RdU w u (pti p) := by
  rcases h with h | ⟨rfl, A, c, rfl⟩
  · exact h.rd
  · exact RdU.nil _ _ _
theorem PtN.below {w w' : World} {u : Value} {p : List Nat} (h : PtN w u p) (hb : Below w.heap.size w w') : PtN w' u p := h.imp (·.below hb) id
theorem PtN.keepBlock {w w' : World} {u : Value} {p : List Nat} (h : PtN w u p) (hk : ∀ (b : Nat) (cur : Array Value) (fr : Nat × Nat), w.heap[b]? = some (Obj.cells cur 49 fr) → w'.heap[b]? = w.heap[b]?) : PtN w' u p := h.imp (·.keepBlock hk) id
theorem PtN.shape {w : World} {u : Value} {p : List Nat} (h : PtN w u p) : ∃ A n c, u = .slice A n c := by
  rcases h with ⟨_, b, o, c', cur, fr, e, _⟩ | ⟨_, A, c, e⟩
  · exact ⟨_, _, _, e⟩
  · exact ⟨_, _, _, e⟩
def CloneN (W : World) (p : List Nat) (e : Ending) (w' : World) : Prop := ∃ u, e = .returned u ∧ PtN w' u p ∧ Below W.heap.size W w'
set_option maxRecDepth 8000 in
set_option maxHeartbeats 1000000 in
theorem clone0_any (p : List Nat) (v : Value) (w : World) (hv : RdU w v (pti p)) (h40 : p.length ≤ 40) :
    Calls Tryz.prog 106 #[v] w fun e w' => CloneN w p e w' := by
  by_cases h1 : 1 ≤ p.length
  · refine (clone_any p v w hv h1 h40).mono ?_
    rintro e w' ⟨u, h1, h2, h3⟩
    exact ⟨u, h1, .inl h2, h3⟩
  · obtain rfl : p = [] := List.length_eq_zero_iff.1 (by omega)
    obtain ⟨A, c, rfl, hx⟩ := RdU.point hv
    clear hx hv h40 h1
    cases A with
    | none =>
      have he : ∀ w : World, (binOp .eql 48 (.slice none 0 c) (.slice none 0 0)).run Tryz.prog w = .ok (.bool true) w := fun _ => rfl
      simp only [List.length_nil]
      go_enter Tryz.func106, Tryz.ntmps106
      go_wp2_with fail
      go_ret
      exact ⟨_, rfl, .inr ⟨rfl, _, _, rfl⟩, Below.refl _ _⟩
    | some a =>
      have he : ∀ w : World, (binOp .eql 48 (.slice (some a) 0 c) (.slice none 0 0)).run Tryz.prog w = .ok (.bool false) w := fun _ => rfl
      have hba : Below w.heap.size w (w.alloc (.cells #[] 49)) := below_alloc' (Below.refl _ _) _
      obtain ⟨v', w', hrun, r1, r2⟩ := run_append_lit (P := Tryz.prog) (w.alloc (.cells #[] 49)) w.heap.size 48 48 49 _ 1 8 Tryz.underlying48 u64Info rfl (by omega) w.heap.size (World.ownsRow_lit w #[] 0 (Nat.le_refl _) (by simp [maxLen]) (by simp)) (.slice (some a) 0 c) 0 [] ⟨rfl, by simp, some a, c, rfl, (fun h => by cases h), fun ad had j u hj => by simp at hj⟩ (by simp [maxLen]) (by omega) hba.size
      have HR := Lib.hid (show (∃ A c, v' = .slice A 0 c) ∧ Below w.heap.size w w' from ⟨by
        rcases r1.2 with ⟨h, _⟩ | ⟨g, cap, cur, h, _⟩
        · exact ⟨_, _, h⟩
        · exact ⟨_, _, h⟩, hba.trans (r2.mono hba.size)⟩)
      clear r1 r2 hba
      simp only [List.length_nil]
      go_enter Tryz.func106, Tryz.ntmps106
      go_wp2_with ((at_builtin; refine wpList_append_run rfl (.tmp 5) (.tmp 6) rfl hrun ?_))
      go_ret
      exact ⟨v', rfl, .inr ⟨rfl, HR.out.1⟩, HR.out.2⟩
/-- what own hands back -/
def OwnN (W : World) (c : Ch) (e : Ending) (w' : World) : Prop := ∃ A n cc, e = .returned (AgC (.slice A n cc) c) ∧ PtN w' (.slice A n cc) c.p ∧ Below W.heap.size W w'
set_option maxRecDepth 8000 in
set_option maxHeartbeats 1000000 in
theorem own0_any (c : Ch) (v : Value) (w : World) (hv : RdU w v (pti c.p)) (h40 : c.p.length ≤ 40) :
    Calls Tryz.prog 60 #[AgC v c] w fun e w' => OwnN w c e w' := by
  have HC := Lib.hid (fun (w' : World) (h : RdU w' v (pti c.p)) => clone0_any c.p v w' h h40)
  have HV := Lib.hid hv
  obtain ⟨A, cc, rfl, hx⟩ := RdU.point hv
  clear hx hv h40
  unfold AgC
  go_enter Tryz.func60, Tryz.ntmps60
  go_wp2_with fail
  refine (HC.out _ (HV.out.below (by repeat (first | exact Below.refl _ _ | assumption | (refine Below.drew ?_) | (refine below_drewN' ?_ _) | (refine below_alloc' ?_ _))))).mono ?_
  rintro e w1 ⟨u, rfl, hu, hb1⟩
  have ht : ∃ A' n' c', u = .slice A' n' c' := hu.shape
  obtain ⟨A', n', c', rfl⟩ := ht
  have hsz : w.heap.size + 1 + 1 ≤ w1.heap.size := by have := hb1.size; simpa using this
  have r0 : w1.cell? ⟨w.heap.size, 0, none⟩ = some (.slice A c.p.length cc) := Below.keeps hb1 _ _ (by simp [go_sem])
  have r1 : w1.cell? ⟨w.heap.size, 1, none⟩ = some (.bool c.had) := Below.keeps hb1 _ _ (by simp [go_sem])
  have r2 : w1.cell? ⟨w.heap.size, 2, none⟩ = some (.bool c.has) := Below.keeps hb1 _ _ (by simp [go_sem])
  have r3 : w1.cell? ⟨w.heap.size, 3, none⟩ = some (.int .u64 (c.old : Nat)) := Below.keeps hb1 _ _ (by simp [go_sem])
  have r4 : w1.cell? ⟨w.heap.size, 4, none⟩ = some (.int .u64 (c.new : Nat)) := Below.keeps hb1 _ _ (by simp [go_sem])
  have s0 : w1.cell? ⟨w.heap.size + 1, 0, none⟩ = some (.slice none 0 0) := Below.keeps hb1 _ _ (by simp [go_sem])
  have s1 : w1.cell? ⟨w.heap.size + 1, 1, none⟩ = some (.bool false) := Below.keeps hb1 _ _ (by simp [go_sem])
  have s2 : w1.cell? ⟨w.heap.size + 1, 2, none⟩ = some (.bool false) := Below.keeps hb1 _ _ (by simp [go_sem])
  have s3 : w1.cell? ⟨w.heap.size + 1, 3, none⟩ = some (.int .u64 0) := Below.keeps hb1 _ _ (by simp [go_sem])
  have s4 : w1.cell? ⟨w.heap.size + 1, 4, none⟩ = some (.int .u64 0) := Below.keeps hb1 _ _ (by simp [go_sem])
  have rf : ∀ k, w1.frozen? ⟨w.heap.size, k, none⟩ = false := by intro k; rw [hb1.frozen (by first | (simp; done) | (simp; omega))]; simp [go_sem]
  have sf : ∀ k, w1.frozen? ⟨w.heap.size + 1, k, none⟩ = false := by intro k; rw [hb1.frozen (by first | (simp; done) | (simp; omega))]; simp [go_sem]
  have rl : w.heap.size < w1.heap.size := by omega
  have sl : w.heap.size + 1 < w1.heap.size := by omega
  have HB1 := Lib.hid (show Below w.heap.size w w1 from (show Below w.heap.size w _ from below_alloc' (below_alloc' (Below.refl _ _) (.cells #[.slice A c.p.length cc, .bool c.had, .bool c.has, .int .u64 (c.old : Nat), .int .u64 (c.new : Nat)] 83)) Zcells).trans (hb1.mono (by simp; omega)))
  have HK1 := Lib.hid (show ∀ (b : Nat) (cur : Array Value) (fr : Nat × Nat), w1.heap[b]? = some (Obj.cells cur 49 fr) → b ≠ w.heap.size ∧ b ≠ w.heap.size + 1 from fun b cur fr hb => by
    have e1 : w1.heap[w.heap.size]? = some (.cells #[.slice A c.p.length cc, .bool c.had, .bool c.has, .int .u64 (c.old : Nat), .int .u64 (c.new : Nat)] 83) := by
      rw [hb1.block _ (by simp; omega), Below.heap_alloc _ _ _ (by simp), heap_alloc_new]
    have e2 : w1.heap[w.heap.size + 1]? = some Zcells := by
      rw [hb1.block _ (by simp)]
      have := heap_alloc_new (w.alloc (.cells #[.slice A c.p.length cc, .bool c.had, .bool c.has, .int .u64 (c.old : Nat), .int .u64 (c.new : Nat)] 83)) Zcells
      rw [World.size_alloc] at this
      exact this
    constructor
    · intro e; subst e; rw [e1] at hb; injection hb with hb; injection hb with _ h1 _; exact absurd h1 (by decide)
    · intro e; subst e; rw [e2] at hb; injection hb with hb; unfold Zcells at hb; injection hb with _ h1 _; exact absurd h1 (by decide))
  have HU := Lib.hid hu
  clear hb1 hu
  go_wp2_with fail
  have hb1 := HB1.out
  refine bodyPost_ret (v := AgC (.slice A' n' c') c) (by simp [results, Tryz.results60, go_sem, AgC, r0, r1, r2, r3, r4, s0, s1, s2, s3, s4, rf, sf, rl, sl]) rfl ⟨_, _, _, rfl, HU.out.keepBlock (fun b cur fr hb => ?_), (by (repeat (refine Below.setCell ?_ (by first | exact Nat.le_refl _ | (simp; done) | (simp; omega) | omega) _)); exact (by repeat (first | exact Below.refl _ _ | assumption | (refine Below.drew ?_) | (refine below_drewN' ?_ _) | (refine below_alloc' ?_ _))))⟩
  obtain ⟨n1, n2⟩ := HK1.out b cur fr hb
  repeat rw [Below.heap_setCell _ _ _ _ (by first | exact n1 | exact n2)]
end Go.Proofs.YtjokcagggmjgmaaGreat
/-! UndoF -/
namespace Go.Proofs.YtjokcagggmjgmaaGreat
open Go.RowKit
set_option linter.unusedVariables false
set_option linter.unusedSimpArgs false
set_option maxRecDepth 100000

/-- block g: a row of changes with room for n, the first ones are m -/
def ChRow (Pt : Value → List Nat → Prop) (w : World) (g n : Nat) (m : List Ch) : Prop := ∃ cur, w.heap[g]? = some (.cells cur 83 (0, 0)) ∧ cur.size = n * 5 ∧ m.length ≤ n ∧
  ∀ j (h : j < m.length), ∃ u, cur[j * 5]? = some u ∧ Pt u m[j].p ∧ cur[j * 5 + 1]? = some (.bool m[j].had) ∧ cur[j * 5 + 2]? = some (.bool m[j].has) ∧ cur[j * 5 + 3]? = some (.int .u64 (m[j].old : Nat)) ∧ cur[j * 5 + 4]? = some (.int .u64 (m[j].new : Nat))
variable {Pt Qt : Value → List Nat → Prop}
theorem ChRow.lt {w : World} {g n : Nat} {m : List Ch} (h : ChRow Pt w g n m) : g < w.heap.size := let ⟨_, h1, _⟩ := h; kr_lt h1
theorem ChRow.stays {w w' : World} {g n : Nat} {m : List Ch} (h : ChRow Pt w g n m) (hk : w'.heap[g]? = w.heap[g]?) : ChRow Pt w' g n m := let ⟨cur, h1, h2⟩ := h; ⟨cur, hk.trans h1, h2⟩
theorem ChRow.mono {w : World} {g n : Nat} {m : List Ch} (h : ChRow Pt w g n m) (hk : ∀ u p, Pt u p → Qt u p) : ChRow Qt w g n m := by
  obtain ⟨cur, h1, h2, h3, h4⟩ := h
  exact ⟨cur, h1, h2, h3, fun j hj => let ⟨u, a, b, c⟩ := h4 j hj; ⟨u, a, hk _ _ b, c⟩⟩
theorem ChRow.room {w : World} {g n : Nat} {m : List Ch} (h : ChRow Pt w g n m) (j : Nat) (hj : j < n * 5) : ∃ v, w.cell? ⟨g, j, none⟩ = some v := by
  obtain ⟨cur, h1, h2, h3⟩ := h
  exact ⟨cur[j]'(by omega), by simp [World.cell?, h1, h2, hj]⟩
theorem ChRow.thaw {w : World} {g n : Nat} {m : List Ch} (h : ChRow Pt w g n m) (j : Nat) : w.frozen? ⟨g, j, none⟩ = false := by
  obtain ⟨cur, h1, h2, h3⟩ := h
  simp [World.frozen?, h1]
theorem ChRow.rd {w : World} {g n : Nat} {m : List Ch} (h : ChRow Pt w g n m) (hp : ∀ u p, Pt u p → RdU w u (pti p)) : RdC w (.slice (some ⟨g, 0, none⟩) m.length n) m := by
  obtain ⟨cur, h1, h2, h3, h4⟩ := h
  refine ⟨_, n, rfl, fun _ => ⟨g, 0, rfl, fun j hj => ?_⟩⟩
  obtain ⟨u, a0, a1, a2, a3, a4, a5⟩ := h4 j hj
  rw [Nat.zero_add]
  exact ⟨u, by simp [World.cell?, h1, a0], hp _ _ a1, by simp [World.cell?, h1, a2], by simp [World.cell?, h1, a3], by simp [World.cell?, h1, a4], by simp [World.cell?, h1, a5]⟩
theorem ChRow.put {w : World} {g n j : Nat} {m : List Ch} (h : ChRow Pt w g n m) (hj : j = m.length) (hn : m.length < n) (c : Ch) (u : Value) (hu : Pt u c.p) :
    ChRow Pt (((((w.setCell ⟨g, j * 5, none⟩ u).setCell ⟨g, j * 5 + 1, none⟩ (.bool c.had)).setCell ⟨g, j * 5 + 2, none⟩ (.bool c.has)).setCell ⟨g, j * 5 + 3, none⟩ (.int .u64 (c.old : Nat))).setCell ⟨g, j * 5 + 4, none⟩ (.int .u64 (c.new : Nat))) g n (m ++ [c]) := by
  subst hj
  obtain ⟨cur, h1, h2, h3, h4⟩ := h
  refine ⟨_, kr_set (kr_set (kr_set (kr_set (kr_set h1)))), by simpa using h2, by rw [List.length_append, List.length_singleton]; omega, fun i hi => ?_⟩
  rw [List.length_append, List.length_singleton] at hi
  by_cases e : i = m.length
  · subst e
    refine ⟨u, ?_⟩
    have hg : (m ++ [c])[m.length]'(by simp) = c := by simp
    rw [hg]
    have s : ∀ (a : Array Value) (t : Nat), a.size = n * 5 → t < 5 → m.length * 5 + t < a.size := fun a t h1 h2 => by omega
    refine ⟨?_, hu, ?_, ?_, ?_, ?_⟩ <;> simp [Array.getElem?_setIfInBounds, h2] <;> omega
  · have hl : i < m.length := by omega
    obtain ⟨v, a0, a1, a2, a3, a4, a5⟩ := h4 i hl
    rw [List.getElem_append_left hl]
    refine ⟨v, ?_, a1, ?_, ?_, ?_, ?_⟩
    all_goals
      rw [Array.getElem?_setIfInBounds_ne (by omega), Array.getElem?_setIfInBounds_ne (by omega), Array.getElem?_setIfInBounds_ne (by omega), Array.getElem?_setIfInBounds_ne (by omega), Array.getElem?_setIfInBounds_ne (by omega)]
      assumption
theorem chgInfo5 : (Tryz.prog.info? 83).map (fun i => (i.zero, i.size, i.bytes)) = some (some (.agg #[.slice none 0 0, .bool false, .bool false, .int .u64 0, .int .u64 0]), 5, 48) := by kernel_rfl
theorem wpList_make_C {w : World} {ops : Array Oper} {rest : List Oper} {o : Oper} {a : Act} {Q : Exit → Act → World → Prop} (hg : o.guard = none) (l c : Operand) (hop : o.op = .makeSlice 23 l c) (n : Nat)
    (hl : a.eval l = .int .i64 ((n : Nat) : Int)) (hc : a.eval c = .int .i64 ((n : Nat) : Int)) (hn : n ≤ 1000)
    (hK : ∀ w', ChRow Pt w' w.heap.size n [] → Below w.heap.size w w' → wpList Tryz.prog ops Q rest (a.put o.dst (.slice (some ⟨w.heap.size, 0, none⟩) n n)) w') : wpList Tryz.prog ops Q (o :: rest) a w := by
  obtain ⟨i, hi, hz0, hz1, hz2⟩ := info_parts chgInfo5
  refine wpList_make_full w hg l c 23 hop w.heap.size 83 i _ 5 Tryz.underlying23 hi hz0 hz1 .i64 .i64 _ _ n hl hc rfl rfl (by rw [hz2]; omega) (by simp only [maxLen]; omega) (Nat.le_refl _) fun w' hown hgr => hK w' ?_ ((Below.refl _ _).grown hgr (Nat.le_refl _) (fun k h => by cases h))
  obtain ⟨h1, h2⟩ := hown
  rcases h2 with ⟨h2, _⟩ | ⟨g, cap, cur, e, q2, q3, q4, q5, q6, q7⟩
  · cases h2
  · injection e with e1 e2 e3
    injection e1 with e1
    injection e1 with e1
    subst e1 e3
    exact ⟨cur, q3, q6, Nat.zero_le _, fun j hj => absurd hj (by simp)⟩
/-- a list of changes is handed back -/
def RetCh (W : World) (l : List Ch) (e : Ending) (w' : World) : Prop := ∃ v, e = .returned v ∧ RdC w' v l ∧ Below W.heap.size W w'
theorem undo_take (l : List Ch) (j : Nat) (h : j < l.length) : undoL (l.take (j + 1)) = undoL (l.take j) ++ [undoC l[j]] := by
  unfold undoL
  rw [← List.take_append_getElem h, List.map_append]; rfl
set_option maxHeartbeats 4000000 in
theorem eUndo_any (w : World) (l : List Ch) (v : Value) (hl : RdC w v l) (hn : l.length ≤ 1000) (h40 : ∀ c ∈ l, c.p.length ≤ 40) :
    Calls Tryz.prog 20 #[v] w fun e w' => RetCh w (undoL l) e w' := by
  obtain ⟨A, cc, rfl, hx⟩ := hl
  have HX := Lib.hid hx
  have HD := Lib.hid (And.intro hn h40)
  clear hx hn h40
  go_enter Tryz.func20, Tryz.ntmps20
  go_wp2_with ((at_make; refine wpList_make_C (Pt := PtN w) rfl _ _ rfl l.length rfl rfl HD.out.1 ?_))
  intro w1 hrow hb1
  have hbw : Below w.heap.size w w1 := hb1
  obtain ⟨R, hR⟩ : ∃ R, w.heap.size = R := ⟨_, rfl⟩
  have HR := Lib.hid (And.intro (hR ▸ (hrow.mono (Qt := PtN w1) fun u p h => h.below hb1) : ChRow (PtN w1) w1 R l.length []) hb1)
  have HRR := Lib.hid hR
  clear hbw
  rw [hR]
  clear hrow hb1 hR
  go_wp2_with fail
  go_loopw [4, 5, 11] (fun _ _ iv wr => ∃ j : Nat, j ≤ l.length ∧ iv = .int .i64 (j : Nat) ∧ ChRow (PtN wr) wr R l.length (undoL (l.take j)) ∧ Below w.heap.size w wr) (fun _ _ iv _ => l.length - (intOf iv).toNat)
  case atStart => exact ⟨0, Nat.zero_le _, rfl, HR.out.1, HR.out.2⟩
  case round =>
    obtain ⟨j, hj, rfl, hrow, hb⟩ := hrel
    have HB := Lib.hid (And.intro hrow hb)
    by_cases hlt : j < l.length
    · have h3 : (j : Int) < (l.length : Int) := by omega
      have h5 : (0 : Int) ≤ (j : Int) := by omega
      have HW := Lib.hid (show wrap64 ((j : Int) + 1) = ((j + 1 : Nat) : Int) by have := HD.out.1; unfold wrap64; omega)
      obtain ⟨b2, o2, rfl, hc⟩ := HX.out (by omega)
      obtain ⟨u, k0, ku, k1, k2, k3, k4⟩ := (hc j hlt).keep (Below.keeps hb)
      have HOW := Lib.hid (fun W (hb : Below wr.heap.size wr W) => own0_any l[j] u W (ku.below hb) (HD.out.2 _ (List.getElem_mem hlt)))
      have HTK := Lib.hid (undo_take l j hlt)
      have hlb := World.block_lt_of_cell? wr _ k0
      obtain ⟨Au, cu, rfl, zz⟩ := RdU.point ku
      generalize l[j] = c at *
      obtain ⟨p, had, has, old, new⟩ := c
      unfold AgC at HOW
      simp only at *
      clear hc zz ku hrow
      have hlR := HB.out.1.lt
      go_wp2_with fail
      refine (HOW.out _ (by repeat (first | exact Below.refl _ _ | (refine Below.drew ?_) | (refine below_drewN' ?_ _) | (refine below_alloc' ?_ _) | (refine Below.setCell ?_ (by first | exact Nat.le_refl _ | (simp; done) | (simp; omega)) _)))).mono ?_
      rintro e w4 ⟨A', n', c', rfl, hpt, hb4⟩
      unfold AgC
      have hbr4 : Below wr.heap.size wr w4 := below_trans (by repeat (first | exact Below.refl _ _ | (refine Below.drew ?_) | (refine below_drewN' ?_ _) | (refine below_alloc' ?_ _) | (refine Below.setCell ?_ (by first | exact Nat.le_refl _ | (simp; done) | (simp; omega)) _))) hb4
      have hblk := (hb4.block wr.heap.size (by simp)).trans (alloc_blk _ _)
      have q0 : w4.cell? ⟨wr.heap.size, 0, none⟩ = some (.slice Au p.length cu) := by simp [World.cell?, hblk]
      have q1 : w4.cell? ⟨wr.heap.size, 1, none⟩ = some (.bool had) := by simp [World.cell?, hblk]
      have q2 : w4.cell? ⟨wr.heap.size, 2, none⟩ = some (.bool has) := by simp [World.cell?, hblk]
      have q3 : w4.cell? ⟨wr.heap.size, 3, none⟩ = some (.int .u64 (old : Nat)) := by simp [World.cell?, hblk]
      have q4 : w4.cell? ⟨wr.heap.size, 4, none⟩ = some (.int .u64 (new : Nat)) := by simp [World.cell?, hblk]
      have qf : ∀ k, w4.frozen? ⟨wr.heap.size, k, none⟩ = false := by intro k; simp [World.frozen?, hblk]
      have hrow4 : ChRow (PtN w4) w4 R l.length (undoL (l.take j)) := (HB.out.1.stays (hbr4.block R hlR)).mono fun u p h => h.below hbr4
      have hBl := kr_lt hblk
      have H4 := Lib.hid (And.intro hrow4 (And.intro hpt (And.intro hbr4 hblk)))
      clear hrow4 hpt hbr4 hb4 hblk hb k0 k1 k2 k3 k4
      simp only []
      go_step
      go_step
      go_step
      refine stayK ?_
      intro w5 hw5
      have hB5 : w5.heap[wr.heap.size]? = some (.cells #[.slice A' n' c', .bool had, .bool has, .int .u64 (old : Nat), .int .u64 (new : Nat)] 83 (0, 0)) := by
        rw [hw5]
        have h := kr_set (k := 4) (u := .int .u64 (new : Nat)) (kr_set (k := 3) (u := .int .u64 (old : Nat)) (kr_set (k := 2) (u := .bool has) (kr_set (k := 1) (u := .bool had) (kr_set (k := 0) (u := .slice A' n' c') H4.out.2.2.2))))
        simpa using h
      have hbel5 : Below wr.heap.size wr w5 := by
        rw [hw5]
        exact ((((H4.out.2.2.1.setCell (p := ⟨wr.heap.size, 0, none⟩) (Nat.le_refl _) _).setCell (p := ⟨wr.heap.size, 1, none⟩) (Nat.le_refl _) _).setCell (p := ⟨wr.heap.size, 2, none⟩) (Nat.le_refl _) _).setCell (p := ⟨wr.heap.size, 3, none⟩) (Nat.le_refl _) _).setCell (p := ⟨wr.heap.size, 4, none⟩) (Nat.le_refl _) _
      have hfar : ∀ b, b ≠ wr.heap.size → w5.heap[b]? = w4.heap[b]? := by
        intro b hb
        rw [hw5, kr_far hb, kr_far hb, kr_far hb, kr_far hb, kr_far hb]
      clear q0 q1 q2 q3 q4 qf hw5
      have q0 : w5.cell? ⟨wr.heap.size, 0, none⟩ = some (.slice A' n' c') := by simp [World.cell?, hB5]
      have q1 : w5.cell? ⟨wr.heap.size, 1, none⟩ = some (.bool had) := by simp [World.cell?, hB5]
      have q2 : w5.cell? ⟨wr.heap.size, 2, none⟩ = some (.bool has) := by simp [World.cell?, hB5]
      have q3 : w5.cell? ⟨wr.heap.size, 3, none⟩ = some (.int .u64 (old : Nat)) := by simp [World.cell?, hB5]
      have q4 : w5.cell? ⟨wr.heap.size, 4, none⟩ = some (.int .u64 (new : Nat)) := by simp [World.cell?, hB5]
      have qf : ∀ k, w5.frozen? ⟨wr.heap.size, k, none⟩ = false := by intro k; simp [World.frozen?, hB5]
      replace hBl := kr_lt hB5
      have H5 := Lib.hid (And.intro hB5 (And.intro hfar hbel5))
      clear hB5 hfar hbel5
      iterate 55 go_step
      refine stayE ?_
      intro w6 hw6
      have hB6 : w6.heap[wr.heap.size]? = some (.cells #[.slice A' n' c', .bool has, .bool had, .int .u64 (new : Nat), .int .u64 (old : Nat)] 83 (0, 0)) := by
        rw [hw6]
        have h := kr_set (k := 4) (u := .int .u64 (old : Nat)) (kr_set (k := 3) (u := .int .u64 (new : Nat)) (kr_set (k := 2) (u := .bool had) (kr_set (k := 1) (u := .bool has) H5.out.1)))
        simpa using h
      have hfar : ∀ b, b ≠ wr.heap.size → w6.heap[b]? = w4.heap[b]? := by
        intro b hb
        rw [hw6, kr_far hb, kr_far hb, kr_far hb, kr_far hb, H5.out.2.1 b hb]
      have hbel : Below wr.heap.size wr w6 := by
        rw [hw6]
        exact (((H5.out.2.2.setCell (p := ⟨wr.heap.size, 1, none⟩) (Nat.le_refl _) _).setCell (p := ⟨wr.heap.size, 2, none⟩) (Nat.le_refl _) _).setCell (p := ⟨wr.heap.size, 3, none⟩) (Nat.le_refl _) _).setCell (p := ⟨wr.heap.size, 4, none⟩) (Nat.le_refl _) _
      clear q0 q1 q2 q3 q4 qf hw6
      have q0 : w6.cell? ⟨wr.heap.size, 0, none⟩ = some (.slice A' n' c') := by simp [World.cell?, hB6]
      have q1 : w6.cell? ⟨wr.heap.size, 1, none⟩ = some (.bool has) := by simp [World.cell?, hB6]
      have q2 : w6.cell? ⟨wr.heap.size, 2, none⟩ = some (.bool had) := by simp [World.cell?, hB6]
      have q3 : w6.cell? ⟨wr.heap.size, 3, none⟩ = some (.int .u64 (new : Nat)) := by simp [World.cell?, hB6]
      have q4 : w6.cell? ⟨wr.heap.size, 4, none⟩ = some (.int .u64 (old : Nat)) := by simp [World.cell?, hB6]
      have hrow6 : ChRow (PtN w6) w6 R l.length (undoL (l.take j)) := (H4.out.1.stays (hfar R (by omega))).mono fun u p h => h.keepBlock fun b cur fr hb => by
        rw [hfar b (by
          intro e
          rw [e, H4.out.2.2.2] at hb
          injection hb with hb
          injection hb with _ hb _
          revert hb; decide)]
      have hpt6 : PtN w6 (.slice A' n' c') p := H4.out.2.1.keepBlock fun b cur fr hb => by
        rw [hfar b (by
          intro e
          rw [e, H4.out.2.2.2] at hb
          injection hb with hb
          injection hb with _ hb _
          revert hb; decide)]
      have hlen : (undoL (l.take j)).length = j := by unfold undoL; rw [List.length_map, List.length_take]; omega
      obtain ⟨x0, r0⟩ := hrow6.room (j * 5) (by omega)
      obtain ⟨x1, r1⟩ := hrow6.room (j * 5 + 1) (by omega)
      obtain ⟨x2, r2⟩ := hrow6.room (j * 5 + 2) (by omega)
      obtain ⟨x3, r3⟩ := hrow6.room (j * 5 + 3) (by omega)
      obtain ⟨x4, r4⟩ := hrow6.room (j * 5 + 4) (by omega)
      have rf : ∀ k, w6.frozen? ⟨R, k, none⟩ = false := fun k => hrow6.thaw k
      have hRl := hrow6.lt
      have H6 := Lib.hid (And.intro hrow6 (And.intro hpt6 (And.intro hbel hlen)))
      clear hrow6 hpt6 hbel hlen hB6 hfar hBl
      go_wp2_with fail
      go_roundw
      case rel =>
        refine ⟨j + 1, by omega, (by first | rw [HW.out] | rfl | simp), ?_, ?_⟩
        · rw [HTK.out]
          have h1 := H6.out.1.put (by rw [H6.out.2.2.2]) (by rw [H6.out.2.2.2]; exact hlt) (undoC ⟨p, had, has, old, new⟩) (.slice A' n' c') H6.out.2.1
          refine h1.mono fun u p h => h.keepBlock fun b cur fr hb => ?_
          have hne : b ≠ R := by
            intro e
            obtain ⟨c2, h2, _⟩ := H6.out.1
            rw [e, h2] at hb
            injection hb with hb
            injection hb with _ hb _
            revert hb; decide
          rw [kr_far hne, kr_far hne, kr_far hne, kr_far hne, kr_far hne]
        · have hle : w.heap.size ≤ R := Nat.le_of_eq HRR.out
          exact (((((HB.out.2.trans (H6.out.2.2.1.mono HB.out.2.size)).setCell (p := ⟨R, _, none⟩) hle _).setCell (p := ⟨R, _, none⟩) hle _).setCell (p := ⟨R, _, none⟩) hle _).setCell (p := ⟨R, _, none⟩) hle _).setCell (p := ⟨R, _, none⟩) hle _
      case measure => (first | (rw [intOf_of' HW.out, intOf_of' rfl]; omega) | (simp [intOf]; omega) | (simp [intOf] <;> omega))
    · have h3 : ¬ (j : Int) < (l.length : Int) := by omega
      have e : l.take j = l := List.take_of_length_le (by omega)
      rw [e] at HB
      clear hb hrow
      go_wp2_with fail
      go_ret
      have h1 := HB.out.1.rd fun u p h => h.rd
      rw [show (undoL l).length = l.length by unfold undoL; simp] at h1
      exact ⟨_, rfl, h1, HB.out.2⟩
end Go.Proofs.YtjokcagggmjgmaaGreat
