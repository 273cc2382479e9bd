/-
  Texts that the proof of DigestIs leans on, part 5: contracts of functions, and plain laws.
-/
import Derived.Test.YtjokcagggmjgmaaMDigestIs4
/-! DigC -/
namespace Go.Proofs.Ytjokcagggmjgmaa
open Go.RowKit
set_option linter.unusedVariables false
set_option linter.unusedSimpArgs false
set_option maxRecDepth 100000

theorem pti_len (p : List Nat) : (pti p).length = p.length := by unfold pti; rw [List.length_map]
theorem rShape_v {k : Nat} {l : List En} (h : Tn k l) (w : World) (v : Value) (hv : RdE w v l) (he : EtS k l) (lvv : Int) (pr pll : List Nat) (h1 : (shL l).lv = lvv) (h2 : (shL l).pre = pr) (h3 : (shL l).pl = pll) :
    Calls Try.prog 36 #[v] w fun e w' => ∃ (Au : Option Addr) (cu : Nat) (Ap : Option Addr) (cp : Nat) (dn : Bool) (vv : Int), e = .returned (.agg #[.int .i64 lvv, .slice Au pr.length cu, .slice Ap pll.length cp, .bool dn, .int .u64 vv]) ∧
      (0 < pr.length → ∃ b o, Au = some ⟨b, o, none⟩ ∧ ∀ j (h : j < pr.length), w'.cell? ⟨b, o + j, none⟩ = some (.int .u64 (pr[j] : Nat))) ∧ (0 < pll.length → ∃ b o, Ap = some ⟨b, o, none⟩ ∧ ∀ j (h : j < pll.length), w'.cell? ⟨b, o + j, none⟩ = some (.int .i64 (pll[j] : Nat))) ∧ Below w.heap.size w w' := by
  refine (rShape_nd h w w v hv (Below.refl _ _) he).mono ?_
  rintro e w1 ⟨x, rfl, hx1, hb1⟩
  obtain ⟨u, plv, rfl, hu, hplv⟩ := hx1.rd hb1
  obtain ⟨Au, cu, rfl, hxu⟩ := hu.slice
  obtain ⟨Ap, cp, rfl, hxp⟩ := hplv
  subst h1 h2 h3
  refine ⟨Au, cu, Ap, cp, _, _, by rw [pti_len, List.length_map], fun h0 => ?_, fun h0 => ?_, hb1⟩
  · obtain ⟨b, o, h4, h5⟩ := hxu (by rw [pti_len]; exact h0)
    refine ⟨b, o, h4, fun j hj => ?_⟩
    have := h5 j (by rw [pti_len]; exact hj)
    simp only [pti, List.getElem_map] at this
    exact this
  · obtain ⟨b, o, h4, h5⟩ := hxp (by rw [List.length_map]; exact h0)
    refine ⟨b, o, h4, fun j hj => ?_⟩
    have := h5 j (by rw [List.length_map]; exact hj)
    rw [List.getElem_map] at this
    exact this
set_option maxHeartbeats 4000000 in
theorem rnode_one (w : World) (k : Nat) (e0 : En) (v : Value) (hv : RdE w v [e0]) (he : EtS k [e0]) (htn : Tn k [e0]) :
    Calls Try.prog 12 #[v] w fun e w' => e = .returned (.int .u64 (digL [e0])) ∧ Below w.heap.size w w' := by
  obtain ⟨lvv, hlv⟩ : ∃ z, (shL [e0]).lv = z := ⟨_, rfl⟩
  obtain ⟨pr, hpr⟩ : ∃ z, (shL [e0]).pre = z := ⟨_, rfl⟩
  obtain ⟨pll, hpll⟩ : ∃ z, (shL [e0]).pl = z := ⟨_, rfl⟩
  have HSH := Lib.hid (rShape_v htn w v hv he lvv pr pll hlv hpr hpll)
  have hpr2 : pr = e0.p := by rw [← hpr, htn.sh_pre, preL_one]
  have hlv2 : lvv = -1 := by rw [← hlv, htn.sh_lv, lev_one]; rfl
  obtain ⟨n1, hn1⟩ : ∃ n : Nat, n = 0 := ⟨_, rfl⟩
  have HWV := Lib.hid (show IntKind.u64.wrap (wrap64 (lvv + 1)) = (n1 : Int) by rw [hlv2, hn1, IntKind.wrap_u64]; unfold wrap64; omega)
  have HPL := Lib.hid (show pr.length ≤ 40 by rw [hpr2, he.et.len e0 (List.mem_singleton.2 rfl)]; exact he.k40)
  obtain ⟨dh, hdh⟩ : ∃ d, pr.foldl (fun h c => stirI h ((c : Nat) : Int)) (stirI basisI (n1 : Nat)) = d := ⟨_, rfl⟩
  have HDH := Lib.hid hdh
  have hd1 : digL [e0] = stirI dh (e0.v : Nat) := by rw [dig_one, ← hdh, hn1, hpr2]; rfl
  rw [hd1]
  obtain ⟨A, c, rfl, _, hx⟩ := hv
  obtain ⟨b0, o0, rfl, hc⟩ := hx (by simp)
  obtain ⟨u0, k0, ku0, k1⟩ := hc 0 (by simp)
  simp only [Nat.zero_mul, Nat.add_zero, List.getElem_cons_zero] at k0 ku0 k1
  have HV0 := Lib.hid k1
  simp only [List.length_singleton] at HSH ⊢
  clear hc hx k0 ku0 k1 hn1 hlv hpr hpll htn he hpr2 hlv2 hdh hd1
  go_enter Try.func12, Try.ntmps12
  go_wp2_with fail
  refine (HSH.out).mono ?_
  rintro e w1 ⟨Au, cu, Ap, cp, dn, vv, rfl, hxu, hxp, hb1⟩
  have HB1 := Lib.hid hb1
  have HXU := Lib.hid hxu
  have HXP := Lib.hid hxp
  clear hxu hxp hb1
  go_wp2_with fail
  rw [HWV.out]
  refine (rStir_any _ _ _).mono ?_
  rintro e w2 ⟨rfl, hw2⟩
  obtain rfl := hw2.symm
  clear hw2
  have hst : stirI 14695981039346656037 (n1 : Nat) = stirI basisI (n1 : Nat) := rfl
  rw [hst]
  obtain ⟨h0, hh0⟩ : ∃ h, stirI basisI (n1 : Nat) = h := ⟨_, rfl⟩
  rw [hh0]
  have HH0 := Lib.hid hh0
  clear hst hh0
  have HBX := Lib.hid (show (w1.alloc (.cells #[.int .i64 lvv, .slice Au pr.length cu, .slice Ap pll.length cp, .bool dn, .int .u64 vv] 73)).heap[w1.heap.size]? = some (.cells #[.int .i64 lvv, .slice Au pr.length cu, .slice Ap pll.length cp, .bool dn, .int .u64 vv] 73 (0, 0)) from alloc_blk _ _)
  have HB2 := Lib.hid (show Below w.heap.size w (w1.alloc (.cells #[.int .i64 lvv, .slice Au pr.length cu, .slice Ap pll.length cp, .bool dn, .int .u64 vv] 73)) from below_alloc' HB1.out _)
  have HB12 := Lib.hid (show Below w1.heap.size w1 (w1.alloc (.cells #[.int .i64 lvv, .slice Au pr.length cu, .slice Ap pll.length cp, .bool dn, .int .u64 vv] 73)) from (by repeat (first | exact Below.refl _ _ | (refine Below.drew ?_) | (refine below_drewN' ?_ _) | (refine below_alloc' ?_ _) | (refine Below.setCell ?_ (by first | exact Nat.le_refl _ | (simp; done) | (simp; omega)) _))))
  go_wp2_with fail
  go_loopw [4, 5] (fun hv iv wr => ∃ j : Nat, j ≤ pr.length ∧ iv = .int .i64 (j : Nat) ∧ hv = .int .u64 ((pr.take j).foldl (fun h c => stirI h (c : Nat)) h0) ∧ Below (w1.alloc (.cells #[.int .i64 lvv, .slice Au pr.length cu, .slice Ap pll.length cp, .bool dn, .int .u64 vv] 73)).heap.size (w1.alloc (.cells #[.int .i64 lvv, .slice Au pr.length cu, .slice Ap pll.length cp, .bool dn, .int .u64 vv] 73)) wr) (fun _ iv _ => pr.length - (intOf iv).toNat)
  case atStart => exact ⟨0, Nat.zero_le _, rfl, rfl, (by repeat (first | exact Below.refl _ _ | (refine Below.drew ?_) | (refine below_drewN' ?_ _) | (refine below_alloc' ?_ _) | (refine Below.setCell ?_ (by first | exact Nat.le_refl _ | (simp; done) | (simp; omega)) _)))⟩
  case round =>
    obtain ⟨j, hj, rfl, rfl, hb⟩ := hrel
    have HJ := Lib.hid hb
    have hblk := (hb.block _ (lt_of_block HBX.out)).trans HBX.out
    have hxl := lt_of_block hblk
    have x1 : wr.cell? ⟨w1.heap.size, 1, none⟩ = some (.slice Au pr.length cu) := by simp [World.cell?, hblk]
    have x2 : wr.cell? ⟨w1.heap.size, 2, none⟩ = some (.slice Ap pll.length cp) := by simp [World.cell?, hblk]
    by_cases hlt : j < pr.length
    · have h3 : (j : Int) < (pr.length : Int) := by omega
      have h5 : (0 : Int) ≤ (j : Int) := by omega
      have HW := Lib.hid (show wrap64 ((j : Int) + 1) = ((j + 1 : Nat) : Int) by have := HPL.out; unfold wrap64; omega)
      obtain ⟨bk, ofs, rfl, hc⟩ := HXU.out (by omega)
      have k0 := Below.keeps hb _ _ (Below.keeps HB12.out _ _ (hc j hlt))
      have hbl := World.block_lt_of_cell? wr _ k0
      have HTK := Lib.hid (show (pr.take (j + 1)).foldl (fun h c => stirI h ((c : Nat) : Int)) h0 = stirI ((pr.take j).foldl (fun h c => stirI h ((c : Nat) : Int)) h0) (pr[j] : Nat) by rw [← List.take_append_getElem hlt, List.foldl_append]; rfl)
      generalize (pr.take j).foldl (fun h c => stirI h ((c : Nat) : Int)) h0 = hj at *
      generalize pr[j] = x at *
      clear hc hb hblk x2
      go_wp2_with fail
      refine (rStir_any _ _ _).mono ?_
      rintro e w2 ⟨rfl, hw2⟩
      obtain rfl := hw2.symm
      clear hw2
      go_wp2_with fail
      go_roundw
      case rel => exact ⟨j + 1, by omega, (by first | rw [HW.out] | rfl | simp), by rw [HTK.out], HJ.out⟩
      case measure => (first | (rw [intOf_of' HW.out, intOf_of' rfl]; omega) | (simp [intOf]; omega) | (simp [intOf] <;> omega))
    · have h3 : ¬ (j : Int) < (pr.length : Int) := by omega
      have e : pr.take j = pr := List.take_of_length_le (by omega)
      rw [e]
      have hdd : pr.foldl (fun h c => stirI h ((c : Nat) : Int)) h0 = dh := by rw [← HH0.out]; exact HDH.out
      rw [hdd]
      have HBR := Lib.hid (HB2.out.trans (hb.mono HB2.out.size))
      have HBR1 := Lib.hid (HB12.out.trans (hb.mono HB12.out.size))
      clear hb e hdd
      have v1 := Below.keeps HBR.out _ _ HV0.out
      have vl := World.block_lt_of_cell? wr _ v1
      go_wp2_with fail
      refine (rStir_any _ _ _).mono ?_
      rintro e w2 ⟨rfl, hw2⟩
      obtain rfl := hw2.symm
      clear hw2
      go_wp2_with fail
      go_ret
      exact ⟨rfl, HBR.out⟩
set_option maxHeartbeats 4000000 in
theorem rnode_more (w : World) (k n : Nat) (pre : List Nat) (ks : List (Nat × List En)) (l : List En) (v : Value) (hlk : l = cat ks) (hv : RdE w v l) (he : EtS k l) (hkd : Kd k n pre ks) (htn : ∀ x ∈ ks, Tn k x.2) (k16 : k ≤ 16)
    (ih : ∀ x ∈ ks, ∀ w1 v1, RdE w1 v1 x.2 → EtS k x.2 → Calls Try.prog 12 #[v1] w1 fun e w' => e = .returned (.int .u64 (digL x.2)) ∧ Below w1.heap.size w1 w') :
    Calls Try.prog 12 #[v] w fun e w' => e = .returned (.int .u64 (digL l)) ∧ Below w.heap.size w w' := by
  have htn' : Tn k l := by rw [hlk]; exact .node n pre ks hkd htn
  obtain ⟨lvv, hlv⟩ : ∃ z, (shL l).lv = z := ⟨_, rfl⟩
  obtain ⟨pr, hpr⟩ : ∃ z, (shL l).pre = z := ⟨_, rfl⟩
  obtain ⟨pll, hpll⟩ : ∃ z, (shL l).pl = z := ⟨_, rfl⟩
  have HSH := Lib.hid (rShape_v htn' w v hv he lvv pr pll hlv hpr hpll)
  have hpr2 : pr = pre := by rw [← hpr, hlk, hkd.sh]
  have hpll2 : pll = ks.map (·.1) := by rw [← hpll, hlk, hkd.sh]
  have hlv2 : lvv = (n : Int) := by rw [← hlv, hlk, hkd.sh]
  have hn64 := hkd.n64
  have hl2 : 2 ≤ l.length := by rw [hlk]; exact hkd.two_le
  have hlev : lev l = n + 1 := by rw [hlk, hkd.lev]
  have hpre : preL l = pre := by rw [hlk, hkd.preL]
  have hpk : pre.length = k := by exact hkd.preLen.1
  have HKS := Lib.hid (fun w' (hb : Below w.heap.size w w') => rKids_any k n l v w w' hv hb he hlev (by omega))
  rw [show kidsL l = ks.map (·.2) by rw [hlk, hkd.kids]] at HKS
  obtain ⟨n1, hn1⟩ : ∃ n1 : Nat, n1 = n + 1 := ⟨_, rfl⟩
  have HWV := Lib.hid (show IntKind.u64.wrap (wrap64 (lvv + 1)) = (n1 : Int) by rw [hlv2, hn1, IntKind.wrap_u64]; unfold wrap64; omega)
  have HPL := Lib.hid (show pr.length ≤ 40 by rw [hpr2, hpk]; exact he.k40)
  obtain ⟨dh, hdh⟩ : ∃ d, pr.foldl (fun h c => stirI h ((c : Nat) : Int)) (stirI basisI (n1 : Nat)) = d := ⟨_, rfl⟩
  have HDH := Lib.hid hdh
  have hd1 : digL l = digK dh ks := by rw [hlk, hkd.dig htn, ← hdh, hn1, hpr2, ← hpre, hlk]; unfold digH; rw [hkd.lev]
  rw [hd1]
  have hcl : ks.length ≤ l.length ∧ ∀ x ∈ ks, x.2.length ≤ l.length := by
    rw [hlk]
    have := cat_length ks hkd.ne
    exact ⟨this.1, fun x hx => by have := this.2 x hx; omega⟩
  have HIH := Lib.hid (fun j (hj : j < ks.length) w' v' (hr : RdE w' v' ks[j].2) => ih ks[j] (List.getElem_mem hj) w' v' hr ⟨hkd.et ks[j] (List.getElem_mem hj), he.k40, Nat.le_trans (hcl.2 _ (List.getElem_mem hj)) he.short⟩)
  have HAL := Lib.hid (fun j (hj : j < ks.length) => (show ks[j].1 < 65536 ∧ 0 < ks[j].2.length from ⟨by have h1 := hkd.addr_lt (List.getElem_mem hj); have h2 := pow_le k k16; omega, List.length_pos_iff.2 (hkd.ne _ (List.getElem_mem hj))⟩))
  have HLN := Lib.hid (Nat.le_trans hcl.1 he.short)
  have HK2 := Lib.hid hkd.two
  obtain ⟨A, c, rfl, _, hx⟩ := hv
  have hle0 : ((l.length : Int) == 0) = false := by rw [beq_eq_false_iff_ne]; omega
  have hle1 : ((l.length : Int) == 1) = false := by rw [beq_eq_false_iff_ne]; omega
  have HPLL := Lib.hid hpll2
  clear hx hn1 hlv hpr hpll htn he hpr2 hlv2 hdh hd1 hkd ih hlev hpre hpk hcl hn64 htn' hlk hpll2
  generalize l.length = n0 at *
  clear hl2
  go_enter Try.func12, Try.ntmps12
  go_wp2_with fail
  refine (HSH.out).mono ?_
  rintro e w1 ⟨Au, cu, Ap, cp, dn, vv, rfl, hxu, hxp, hb1⟩
  have HB1 := Lib.hid hb1
  have HXU := Lib.hid hxu
  have HXP := Lib.hid hxp
  clear hxu hxp hb1
  go_wp2_with fail
  rw [HWV.out]
  refine (rStir_any _ _ _).mono ?_
  rintro e w2 ⟨rfl, hw2⟩
  obtain rfl := hw2.symm
  clear hw2
  have hst : stirI 14695981039346656037 (n1 : Nat) = stirI basisI (n1 : Nat) := rfl
  rw [hst]
  obtain ⟨h0, hh0⟩ : ∃ h, stirI basisI (n1 : Nat) = h := ⟨_, rfl⟩
  rw [hh0]
  have HH0 := Lib.hid hh0
  clear hst hh0
  have HBX := Lib.hid (show (w1.alloc (.cells #[.int .i64 lvv, .slice Au pr.length cu, .slice Ap pll.length cp, .bool dn, .int .u64 vv] 73)).heap[w1.heap.size]? = some (.cells #[.int .i64 lvv, .slice Au pr.length cu, .slice Ap pll.length cp, .bool dn, .int .u64 vv] 73 (0, 0)) from alloc_blk _ _)
  have HB2 := Lib.hid (show Below w.heap.size w (w1.alloc (.cells #[.int .i64 lvv, .slice Au pr.length cu, .slice Ap pll.length cp, .bool dn, .int .u64 vv] 73)) from below_alloc' HB1.out _)
  have HB12 := Lib.hid (show Below w1.heap.size w1 (w1.alloc (.cells #[.int .i64 lvv, .slice Au pr.length cu, .slice Ap pll.length cp, .bool dn, .int .u64 vv] 73)) from (by repeat (first | exact Below.refl _ _ | (refine Below.drew ?_) | (refine below_drewN' ?_ _) | (refine below_alloc' ?_ _) | (refine Below.setCell ?_ (by first | exact Nat.le_refl _ | (simp; done) | (simp; omega)) _))))
  go_wp2_with fail
  go_loopw [4, 5] (fun hv iv wr => ∃ j : Nat, j ≤ pr.length ∧ iv = .int .i64 (j : Nat) ∧ hv = .int .u64 ((pr.take j).foldl (fun h c => stirI h (c : Nat)) h0) ∧ Below (w1.alloc (.cells #[.int .i64 lvv, .slice Au pr.length cu, .slice Ap pll.length cp, .bool dn, .int .u64 vv] 73)).heap.size (w1.alloc (.cells #[.int .i64 lvv, .slice Au pr.length cu, .slice Ap pll.length cp, .bool dn, .int .u64 vv] 73)) wr) (fun _ iv _ => pr.length - (intOf iv).toNat)
  case atStart => exact ⟨0, Nat.zero_le _, rfl, rfl, (by repeat (first | exact Below.refl _ _ | (refine Below.drew ?_) | (refine below_drewN' ?_ _) | (refine below_alloc' ?_ _) | (refine Below.setCell ?_ (by first | exact Nat.le_refl _ | (simp; done) | (simp; omega)) _)))⟩
  case round =>
    obtain ⟨j, hj, rfl, rfl, hb⟩ := hrel
    have HJ := Lib.hid hb
    have hblk := (hb.block _ (lt_of_block HBX.out)).trans HBX.out
    have hxl := lt_of_block hblk
    have x1 : wr.cell? ⟨w1.heap.size, 1, none⟩ = some (.slice Au pr.length cu) := by simp [World.cell?, hblk]
    have x2 : wr.cell? ⟨w1.heap.size, 2, none⟩ = some (.slice Ap pll.length cp) := by simp [World.cell?, hblk]
    by_cases hlt : j < pr.length
    · have h3 : (j : Int) < (pr.length : Int) := by omega
      have h5 : (0 : Int) ≤ (j : Int) := by omega
      have HW := Lib.hid (show wrap64 ((j : Int) + 1) = ((j + 1 : Nat) : Int) by have := HPL.out; unfold wrap64; omega)
      obtain ⟨bk, ofs, rfl, hc⟩ := HXU.out (by omega)
      have k0 := Below.keeps hb _ _ (Below.keeps HB12.out _ _ (hc j hlt))
      have hbl := World.block_lt_of_cell? wr _ k0
      have HTK := Lib.hid (show (pr.take (j + 1)).foldl (fun h c => stirI h ((c : Nat) : Int)) h0 = stirI ((pr.take j).foldl (fun h c => stirI h ((c : Nat) : Int)) h0) (pr[j] : Nat) by rw [← List.take_append_getElem hlt, List.foldl_append]; rfl)
      generalize (pr.take j).foldl (fun h c => stirI h ((c : Nat) : Int)) h0 = hj at *
      generalize pr[j] = x at *
      clear hc hb hblk x2
      go_wp2_with fail
      refine (rStir_any _ _ _).mono ?_
      rintro e w2 ⟨rfl, hw2⟩
      obtain rfl := hw2.symm
      clear hw2
      go_wp2_with fail
      go_roundw
      case rel => exact ⟨j + 1, by omega, (by first | rw [HW.out] | rfl | simp), by rw [HTK.out], HJ.out⟩
      case measure => (first | (rw [intOf_of' HW.out, intOf_of' rfl]; omega) | (simp [intOf]; omega) | (simp [intOf] <;> omega))
    · have h3 : ¬ (j : Int) < (pr.length : Int) := by omega
      have e : pr.take j = pr := List.take_of_length_le (by omega)
      rw [e]
      have hdd : pr.foldl (fun h c => stirI h ((c : Nat) : Int)) h0 = dh := by rw [← HH0.out]; exact HDH.out
      rw [hdd]
      have HBR := Lib.hid (HB2.out.trans (hb.mono HB2.out.size))
      have HBR1 := Lib.hid (HB12.out.trans (hb.mono HB12.out.size))
      clear hb e hdd
      go_wp2_with fail
      refine (HKS.out _ HBR.out).mono ?_
      rintro e wk ⟨kv, rfl, ⟨kvs, hkv, hvl, hvs⟩, hb5⟩
      rw [List.length_map] at hvl
      have HBK := Lib.hid (HBR.out.trans (hb5.mono HBR.out.size))
      have HBK1 := Lib.hid (HBR1.out.trans (hb5.mono HBR1.out.size))
      have HBX2 := Lib.hid ((hb5.block _ hxl).trans hblk)
      have hks0 : kvs ≠ [] := by intro h; rw [h] at hvl; have := HK2.out; rw [← hvl] at this; simp at this
      obtain ⟨gk, ck, rfl, hgk, hcv⟩ := hkv.cells hks0
      have HVS := Lib.hid (And.intro hvl (And.intro hvs hcv))
      rw [hvl]
      obtain ⟨nk, hnk⟩ : ∃ nk, ks.length = nk := ⟨_, rfl⟩
      have hpn : pll.length = nk := by rw [HPLL.out, List.length_map]; exact hnk
      rw [hnk]
      rw [hpn] at HBX2
      have HNK := Lib.hid (And.intro hnk hpn)
      obtain ⟨bx, hbx⟩ : ∃ bx, w1.heap.size = bx := ⟨_, rfl⟩
      rw [hbx] at HBX2 ⊢
      clear hkv hgk hcv hb5 hvs hks0 hvl hnk hpn hbx x1 x2 hblk hxl
      go_wp2_with fail
      go_loopw [4, 7] (fun hv iv wr => ∃ j : Nat, j ≤ nk ∧ iv = .int .i64 (j : Nat) ∧ hv = .int .u64 (digK dh (ks.take j)) ∧ Below wk.heap.size wk wr) (fun _ iv _ => nk - (intOf iv).toNat)
      case atStart => exact ⟨0, Nat.zero_le _, rfl, rfl, Below.refl _ _⟩
      case round =>
        obtain ⟨j, hj, rfl, rfl, hb⟩ := hrel
        have HBR := Lib.hid (HBK.out.trans (hb.mono HBK.out.size))
        by_cases hlt : j < nk
        · have h5 : (0 : Int) ≤ (j : Int) := by omega
          have h6 : (j : Int) < (nk : Int) := by omega
          have hjk : j < ks.length := by rw [HNK.out.1]; exact hlt
          have HW := Lib.hid (show wrap64 ((j : Int) + 1) = ((j + 1 : Nat) : Int) by have := HLN.out; unfold wrap64; omega)
          have hjv : j < kvs.length := by rw [HVS.out.1]; exact hjk
          have kj := Below.keeps hb _ _ (HVS.out.2.2 j hjv)
          have hrd := (HVS.out.2.1 j hjv (by rw [List.length_map]; exact hjk)).below HBR.out
          rw [List.getElem_map] at hrd
          have HK := Lib.hid (fun w' (hb : Below wr.heap.size wr w') => HIH.out j hjk w' _ (hrd.below hb))
          have hDT := digK_take dh ks j hjk
          obtain ⟨h65, hj0⟩ := HAL.out j hjk
          obtain ⟨Aj, cj, ej, z9, hxj⟩ := hrd
          obtain ⟨gp, op, rfl, hpc⟩ := HXP.out (by rw [HNK.out.2]; omega)
          have kp := Below.keeps (HBK1.out.trans (hb.mono HBK1.out.size)) _ _ (hpc j (by rw [HNK.out.2]; exact hlt))
          have hpj : pll[j]'(by rw [HNK.out.2]; exact hlt) = ks[j].1 := by simp only [HPLL.out, List.getElem_map]
          rw [hpj] at kp
          rw [ej] at kj HK
          obtain ⟨dk, hdk⟩ : ∃ z, digL ks[j].2 = z := ⟨_, rfl⟩
          rw [hdk] at hDT HK
          clear ej hxj z9 hpc hpj hdk
          generalize ks[j].2.length = nj at *
          obtain ⟨a, ha⟩ : ∃ a, ks[j].1 = a := ⟨_, rfl⟩
          rw [ha] at kp hDT h65
          obtain ⟨d, hd⟩ : ∃ d, digK dh (ks.take j) = d := ⟨_, rfl⟩
          rw [hd] at hDT ⊢
          obtain ⟨s1, hs1⟩ : ∃ s, stirI d (a : Nat) = s := ⟨_, rfl⟩
          obtain ⟨s2, hs2⟩ : ∃ s, stirI s1 dk = s := ⟨_, rfl⟩
          have HS1 := Lib.hid (fun w => rStir_any d (a : Nat) w)
          have HS2 := Lib.hid (fun w => rStir_any s1 dk w)
          rw [hs1] at HS1
          rw [hs2] at HS2
          rw [hs1, hs2] at hDT
          have HDT := Lib.hid hDT
          have HWA := Lib.hid (show IntKind.u64.wrap (a : Int) = (a : Int) by rw [IntKind.wrap_u64]; omega)
          have hblk := (hb.block _ (lt_of_block HBX2.out)).trans HBX2.out
          have hxl := lt_of_block hblk
          have x2 : wr.cell? ⟨bx, 2, none⟩ = some (.slice (some ⟨gp, op, none⟩) nk cp) := by simp [World.cell?, hblk]
          have hgl := World.block_lt_of_cell? wr _ kj
          have hpl := World.block_lt_of_cell? wr _ kp
          have HBJ := Lib.hid hb
          clear hb ha hd hs1 hs2 hDT hblk h65 hj0
          go_wp2_with fail
          refine wp_region_vals 14 [fun z9 _ => z9 = .int .u64 d,
            fun z9 _ => z9 = .pointer (some ⟨bx, 2, none⟩),
            fun z9 _ => z9 = .slice (some ⟨gp, op, none⟩) nk cp,
            fun z9 _ => z9 = .int .i64 (j : Nat),
            fun z9 _ => z9 = .pointer (some ⟨gp, op + j, none⟩),
            fun z9 _ => z9 = .int .i64 (a : Nat),
            fun z9 _ => z9 = .int .u64 (a : Nat),
            fun z9 _ => z9 = .int .u64 s1,
            fun z9 _ => z9 = .slice (some ⟨gk, 0, none⟩) nk ck,
            fun z9 _ => z9 = .int .i64 (j : Nat),
            fun z9 _ => z9 = .pointer (some ⟨gk, j, none⟩),
            fun z9 _ => z9 = .slice Aj nj cj,
            fun z9 _ => z9 = .int .u64 dk,
            fun z9 _ => z9 = .int .u64 s2]
            (by kernel_rfl) (by kernel_rfl) (by kernel_rfl) (by kernel_rfl) ?_ ?_ ?_
          · intro V hV v w1 w2 h hb
            simp only [List.mem_cons, List.not_mem_nil, or_false] at hV
            rcases hV with rfl | rfl | rfl | rfl | rfl | rfl | rfl | rfl | rfl | rfl | rfl | rfl | rfl | rfl
            all_goals first | exact h | (exact h)
          · intro iq oq hiq hoq
            match iq, hiq with
            | 0, _ =>
            obtain rfl := Option.some.inj hoq
            intro a1 w1 K hk hK
            have e4 : a1.tmps.getD 4 undef = .int .u64 d := hk.same 4 (by simp)
            simp [Region.wanted, Oper.wp, Act.eval, go_sem, e4, x2, kp, kj, h5, h6, hxl, hpl, hgl, HWA.out]
            exact hK _ _ (Below.refl _ _) rfl
            | 1, _ =>
            obtain rfl := Option.some.inj hoq
            intro a1 w1 K hk hK
            have e3 : a1.tmps.getD 3 undef = .pointer (some ⟨bx, 0, none⟩) := hk.same 3 (by simp)
            simp [Region.wanted, Oper.wp, Act.eval, go_sem, e3, x2, kp, kj, h5, h6, hxl, hpl, hgl, HWA.out]
            exact hK _ _ (Below.refl _ _) rfl
            | 2, _ =>
            obtain rfl := Option.some.inj hoq
            intro a1 w1 K hk hK
            have d50 : a1.tmps.getD 50 undef = .pointer (some ⟨bx, 2, none⟩) := hk.deps ⟨1, .data⟩ (by simp) rfl _ _ rfl rfl
            have c0 : w1.cell? ⟨bx, 2, none⟩ = some (.slice (some ⟨gp, op, none⟩) nk cp) := Below.keeps hk.ext _ _ (by simp [go_sem, x2, kp, kj, h5, h6, hxl, hpl, hgl, HWA.out])
            have c1 : w1.cell? ⟨gp, op + j, none⟩ = some (.int .i64 (a : Nat)) := Below.keeps hk.ext _ _ (by simp [go_sem, x2, kp, kj, h5, h6, hxl, hpl, hgl, HWA.out])
            have c2 : w1.cell? ⟨gk, j, none⟩ = some (.slice Aj nj cj) := Below.keeps hk.ext _ _ (by simp [go_sem, x2, kp, kj, h5, h6, hxl, hpl, hgl, HWA.out])
            simp [Region.wanted, Oper.wp, Act.eval, go_sem, d50, c0, c1, c2, x2, kp, kj, h5, h6, hxl, hpl, hgl, HWA.out]
            exact hK _ _ (Below.refl _ _) rfl
            | 3, _ =>
            obtain rfl := Option.some.inj hoq
            intro a1 w1 K hk hK
            have e7 : a1.tmps.getD 7 undef = .int .i64 (j : Nat) := hk.same 7 (by simp)
            simp [Region.wanted, Oper.wp, Act.eval, go_sem, e7, x2, kp, kj, h5, h6, hxl, hpl, hgl, HWA.out]
            exact hK _ _ (Below.refl _ _) rfl
            | 4, _ =>
            obtain rfl := Option.some.inj hoq
            intro a1 w1 K hk hK
            have d51 : a1.tmps.getD 51 undef = .slice (some ⟨gp, op, none⟩) nk cp := hk.deps ⟨2, .data⟩ (by simp) rfl _ _ rfl rfl
            have d52 : a1.tmps.getD 52 undef = .int .i64 (j : Nat) := hk.deps ⟨3, .data⟩ (by simp) rfl _ _ rfl rfl
            simp [Region.wanted, Oper.wp, Act.eval, go_sem, d51, d52, x2, kp, kj, h5, h6, hxl, hpl, hgl, HWA.out]
            exact hK _ _ (Below.refl _ _) rfl
            | 5, _ =>
            obtain rfl := Option.some.inj hoq
            intro a1 w1 K hk hK
            have d53 : a1.tmps.getD 53 undef = .pointer (some ⟨gp, op + j, none⟩) := hk.deps ⟨4, .data⟩ (by simp) rfl _ _ rfl rfl
            have c0 : w1.cell? ⟨bx, 2, none⟩ = some (.slice (some ⟨gp, op, none⟩) nk cp) := Below.keeps hk.ext _ _ (by simp [go_sem, x2, kp, kj, h5, h6, hxl, hpl, hgl, HWA.out])
            have c1 : w1.cell? ⟨gp, op + j, none⟩ = some (.int .i64 (a : Nat)) := Below.keeps hk.ext _ _ (by simp [go_sem, x2, kp, kj, h5, h6, hxl, hpl, hgl, HWA.out])
            have c2 : w1.cell? ⟨gk, j, none⟩ = some (.slice Aj nj cj) := Below.keeps hk.ext _ _ (by simp [go_sem, x2, kp, kj, h5, h6, hxl, hpl, hgl, HWA.out])
            simp [Region.wanted, Oper.wp, Act.eval, go_sem, d53, c0, c1, c2, x2, kp, kj, h5, h6, hxl, hpl, hgl, HWA.out]
            exact hK _ _ (Below.refl _ _) rfl
            | 6, _ =>
            obtain rfl := Option.some.inj hoq
            intro a1 w1 K hk hK
            have d54 : a1.tmps.getD 54 undef = .int .i64 (a : Nat) := hk.deps ⟨5, .data⟩ (by simp) rfl _ _ rfl rfl
            simp [Region.wanted, Oper.wp, Act.eval, go_sem, d54, x2, kp, kj, h5, h6, hxl, hpl, hgl, HWA.out]
            exact hK _ _ (Below.refl _ _) rfl
            | 7, _ =>
            obtain rfl := Option.some.inj hoq
            intro a1 w1 K hk hK
            have d49 : a1.tmps.getD 49 undef = .int .u64 d := hk.deps ⟨0, .data⟩ (by simp) rfl _ _ rfl rfl
            have d55 : a1.tmps.getD 55 undef = .int .u64 (a : Nat) := hk.deps ⟨6, .data⟩ (by simp) rfl _ _ rfl rfl
            simp [Region.wanted, Oper.wp, Act.eval, go_sem, d49, d55, x2, kp, kj, h5, h6, hxl, hpl, hgl, HWA.out]
            refine (HS1.out _).mono ?_
            rintro e w9 ⟨rfl, hw9⟩
            obtain rfl := hw9.symm
            exact hK _ _ (Below.refl _ _) rfl
            | 8, _ =>
            obtain rfl := Option.some.inj hoq
            intro a1 w1 K hk hK
            have e6 : a1.tmps.getD 6 undef = .slice (some ⟨gk, 0, none⟩) nk ck := hk.same 6 (by simp)
            simp [Region.wanted, Oper.wp, Act.eval, go_sem, e6, x2, kp, kj, h5, h6, hxl, hpl, hgl, HWA.out]
            exact hK _ _ (Below.refl _ _) rfl
            | 9, _ =>
            obtain rfl := Option.some.inj hoq
            intro a1 w1 K hk hK
            have e7 : a1.tmps.getD 7 undef = .int .i64 (j : Nat) := hk.same 7 (by simp)
            simp [Region.wanted, Oper.wp, Act.eval, go_sem, e7, x2, kp, kj, h5, h6, hxl, hpl, hgl, HWA.out]
            exact hK _ _ (Below.refl _ _) rfl
            | 10, _ =>
            obtain rfl := Option.some.inj hoq
            intro a1 w1 K hk hK
            have d57 : a1.tmps.getD 57 undef = .slice (some ⟨gk, 0, none⟩) nk ck := hk.deps ⟨8, .data⟩ (by simp) rfl _ _ rfl rfl
            have d58 : a1.tmps.getD 58 undef = .int .i64 (j : Nat) := hk.deps ⟨9, .data⟩ (by simp) rfl _ _ rfl rfl
            simp [Region.wanted, Oper.wp, Act.eval, go_sem, d57, d58, x2, kp, kj, h5, h6, hxl, hpl, hgl, HWA.out]
            exact hK _ _ (Below.refl _ _) rfl
            | 11, _ =>
            obtain rfl := Option.some.inj hoq
            intro a1 w1 K hk hK
            have d59 : a1.tmps.getD 59 undef = .pointer (some ⟨gk, j, none⟩) := hk.deps ⟨10, .data⟩ (by simp) rfl _ _ rfl rfl
            have c0 : w1.cell? ⟨bx, 2, none⟩ = some (.slice (some ⟨gp, op, none⟩) nk cp) := Below.keeps hk.ext _ _ (by simp [go_sem, x2, kp, kj, h5, h6, hxl, hpl, hgl, HWA.out])
            have c1 : w1.cell? ⟨gp, op + j, none⟩ = some (.int .i64 (a : Nat)) := Below.keeps hk.ext _ _ (by simp [go_sem, x2, kp, kj, h5, h6, hxl, hpl, hgl, HWA.out])
            have c2 : w1.cell? ⟨gk, j, none⟩ = some (.slice Aj nj cj) := Below.keeps hk.ext _ _ (by simp [go_sem, x2, kp, kj, h5, h6, hxl, hpl, hgl, HWA.out])
            simp [Region.wanted, Oper.wp, Act.eval, go_sem, d59, c0, c1, c2, x2, kp, kj, h5, h6, hxl, hpl, hgl, HWA.out]
            exact hK _ _ (Below.refl _ _) rfl
            | 12, _ =>
            obtain rfl := Option.some.inj hoq
            intro a1 w1 K hk hK
            have d60 : a1.tmps.getD 60 undef = .slice Aj nj cj := hk.deps ⟨11, .data⟩ (by simp) rfl _ _ rfl rfl
            simp [Region.wanted, Oper.wp, Act.eval, go_sem, d60, x2, kp, kj, h5, h6, hxl, hpl, hgl, HWA.out]
            refine (HK.out _ (below_trans (by repeat (first | exact Below.refl _ _ | (refine Below.drew ?_) | (refine below_drewN' ?_ _) | (refine below_alloc' ?_ _) | (refine Below.setCell ?_ (by first | exact Nat.le_refl _ | (simp; done) | (simp; omega)) _))) hk.ext)).mono ?_
            rintro e w9 ⟨rfl, hb9⟩
            exact hK _ _ hb9 rfl
            | 13, _ =>
            obtain rfl := Option.some.inj hoq
            intro a1 w1 K hk hK
            have d56 : a1.tmps.getD 56 undef = .int .u64 s1 := hk.deps ⟨7, .data⟩ (by simp) rfl _ _ rfl rfl
            have d61 : a1.tmps.getD 61 undef = .int .u64 dk := hk.deps ⟨12, .data⟩ (by simp) rfl _ _ rfl rfl
            simp [Region.wanted, Oper.wp, Act.eval, go_sem, d56, d61, x2, kp, kj, h5, h6, hxl, hpl, hgl, HWA.out]
            refine (HS2.out _).mono ?_
            rintro e w9 ⟨rfl, hw9⟩
            obtain rfl := hw9.symm
            exact hK _ _ (Below.refl _ _) rfl
          · intro vs w3 hl hb3 hv
            match vs, hl with
            | [v0, v1, v2, v3, v4, v5, v6, v7, v8, v9, v10, v11, v12, v13], _ =>
            obtain rfl : v0 = .int .u64 d := hv 0 (by omega)
            obtain rfl : v1 = .pointer (some ⟨bx, 2, none⟩) := hv 1 (by omega)
            obtain rfl : v2 = .slice (some ⟨gp, op, none⟩) nk cp := hv 2 (by omega)
            obtain rfl : v3 = .int .i64 (j : Nat) := hv 3 (by omega)
            obtain rfl : v4 = .pointer (some ⟨gp, op + j, none⟩) := hv 4 (by omega)
            obtain rfl : v5 = .int .i64 (a : Nat) := hv 5 (by omega)
            obtain rfl : v6 = .int .u64 (a : Nat) := hv 6 (by omega)
            obtain rfl : v7 = .int .u64 s1 := hv 7 (by omega)
            obtain rfl : v8 = .slice (some ⟨gk, 0, none⟩) nk ck := hv 8 (by omega)
            obtain rfl : v9 = .int .i64 (j : Nat) := hv 9 (by omega)
            obtain rfl : v10 = .pointer (some ⟨gk, j, none⟩) := hv 10 (by omega)
            obtain rfl : v11 = .slice Aj nj cj := hv 11 (by omega)
            obtain rfl : v12 = .int .u64 dk := hv 12 (by omega)
            obtain rfl : v13 = .int .u64 s2 := hv 13 (by omega)
            clear hv
            simp only [putAll, List.take_succ_cons, List.take_zero, List.drop_succ_cons, List.drop_zero, Act.put, List.setIfInBounds_toArray, List.set_cons_succ, List.set_cons_zero]
            have HF := Lib.hid (show Below wr.heap.size wr w3 from below_trans (by repeat (first | exact Below.refl _ _ | (refine Below.drew ?_) | (refine below_drewN' ?_ _) | (refine below_alloc' ?_ _) | (refine Below.setCell ?_ (by first | exact Nat.le_refl _ | (simp; done) | (simp; omega)) _))) hb3)
            clear kj kp x2 hb3
            go_wp2_with fail
            go_roundw
            case rel => exact ⟨j + 1, by omega, (by first | rw [HW.out] | rfl | simp), by rw [HDT.out], HBJ.out.trans (HF.out.mono HBJ.out.size)⟩
            case measure => (first | (rw [intOf_of' HW.out, intOf_of' rfl]; omega) | (simp [intOf]; omega) | (simp [intOf] <;> omega))
        · have h6 : ¬ (j : Int) < (nk : Int) := by omega
          have e : ks.take j = ks := List.take_of_length_le (by rw [HNK.out.1]; omega)
          rw [e]
          clear hb e
          go_wp2_with fail
          go_ret
          exact ⟨rfl, (by repeat (first | exact HBR.out | (refine Below.drew ?_) | (refine below_drewN' ?_ _) | (refine below_alloc' ?_ _) | (refine Below.setCell ?_ (by first | exact Nat.le_refl _ | (have := HBR.out.size; simp; omega) | (have := HBR.out.size; omega)) _)))⟩
theorem rnode_tn {k : Nat} {l : List En} (h : Tn k l) (k16 : k ≤ 16) : ∀ w v, RdE w v l → EtS k l → Calls Try.prog 12 #[v] w fun e w' => e = .returned (.int .u64 (digL l)) ∧ Below w.heap.size w w' := by
  induction h with
  | one e h => exact fun w v hv he => rnode_one w k e v hv he (.one e h)
  | node n pre ks hk hn ih => exact fun w v hv he => rnode_more w k n pre ks _ v rfl hv he hk hn k16 (fun x hx w1 v1 h1 h2 => ih x hx w1 v1 h1 h2)
theorem rnode_nil (w : World) (v : Value) (hv : RdE w v []) : Calls Try.prog 12 #[v] w fun e w' => e = .returned (.int .u64 0) ∧ Below w.heap.size w w' := by
  obtain ⟨A, c, rfl, _, _⟩ := hv
  simp only [List.length_nil]
  go_enter Try.func12, Try.ntmps12
  go_wp2_with fail
  go_ret
  exact ⟨rfl, (by repeat (first | exact Below.refl _ _ | (refine Below.drew ?_) | (refine below_drewN' ?_ _) | (refine below_alloc' ?_ _) | (refine Below.setCell ?_ (by first | exact Nat.le_refl _ | (simp; done) | (simp; omega)) _)))⟩
end Go.Proofs.Ytjokcagggmjgmaa
/-! DigD -/
namespace Go.Proofs.Ytjokcagggmjgmaa
open Go.RowKit
set_option linter.unusedVariables false
set_option linter.unusedSimpArgs false
set_option maxRecDepth 100000

/-- the list of a kid -/
def kidL (l : List En) (a : Int) : List En := if l.length < 2 ∨ a < 0 then [] else kidOf a.toNat ((placesL l).zip (kidsL l))
theorem Kd.kidL {k n : Nat} {pre : List Nat} {ks : List (Nat × List En)} (h : Kd k n pre ks) (a : Int) : Go.Proofs.Ytjokcagggmjgmaa.kidL (cat ks) a = if a < 0 then [] else kidOf a.toNat ks := by
  have h2 := h.two_le
  unfold Go.Proofs.Ytjokcagggmjgmaa.kidL
  rw [h.kids, h.places, zip_ks]
  by_cases ha : a < 0
  · rw [if_pos (.inr ha), if_pos ha]
  · rw [if_neg (by omega), if_neg ha]
theorem lookI_neg (l : List (Nat × Nat)) {a : Int} (h : a < 0) : lookI l a = none := by unfold lookI; rw [if_pos h]
theorem kidOf_tn {k : Nat} {ks : List (Nat × List En)} (h : ∀ x ∈ ks, Tn k x.2) (a : Nat) : kidOf a ks = [] ∨ Tn k (kidOf a ks) := by
  unfold kidOf
  cases e : Od.look ka ks a with
  | none => exact .inl rfl
  | some x => exact .inr (h x (Od.look_some e).1)
theorem kidL_tn {k : Nat} {l : List En} (h : l = [] ∨ Tn k l) (a : Int) : kidL l a = [] ∨ Tn k (kidL l a) := by
  rcases h with rfl | h
  · exact .inl rfl
  · cases h with
    | one e h => exact .inl rfl
    | node n pre ks hk hn =>
      rw [hk.kidL]
      by_cases ha : a < 0
      · rw [if_pos ha]; exact .inl rfl
      · rw [if_neg ha]; exact kidOf_tn hn _
theorem kidL_ets {k : Nat} {l : List En} (h : l = [] ∨ Tn k l) (he : EtS k l) (a : Int) : EtS k (kidL l a) := by
  have hnil : EtS k [] := ⟨Et.nil k, he.k40, by simp⟩
  rcases h with rfl | h
  · exact hnil
  · cases h with
    | one e h => exact hnil
    | node n pre ks hk hn =>
      rw [hk.kidL]
      by_cases ha : a < 0
      · rw [if_pos ha]; exact hnil
      · rw [if_neg ha]
        refine ⟨hk.kid_et _, he.k40, ?_⟩
        have h3 := he.short
        have h4 : (kidOf a.toNat ks).length ≤ (cat ks).length := by
          by_cases e : kidOf a.toNat ks = []
          · rw [e]; exact Nat.zero_le _
          · obtain ⟨x, hx⟩ := List.exists_mem_of_ne_nil _ e
            obtain ⟨y, hy, _, h5⟩ := kidOf_mem hx
            rw [← h5]
            exact Nat.le_of_lt (hk.kid_lt hy)
        omega
/-- the kid of a node, of a leaf, of none -/
theorem nkid_rt (w : World) (k : Nat) (r : Option Nat) (l : List En) (a : Int) (h : RtN w k r l) :
    Calls Try.prog 57 #[pv r, .int .i64 a] w fun e w' => ∃ r', e = .returned (pv r') ∧ RtN w' k r' (kidL l a) ∧ Below w.heap.size w w' := by
  cases r with
  | none =>
    obtain rfl : l = [] := h
    refine (nkid_nil w a).mono ?_
    rintro e w' ⟨rfl, hb⟩
    exact ⟨none, rfl, rfl, hb⟩
  | some b =>
    cases (show Nd w k b l from h) with
    | leaf _ p v hh hp ho hv =>
      refine (nkid_leaf w b a hh.c3).mono ?_
      rintro e w' ⟨rfl, hb⟩
      exact ⟨none, rfl, rfl, hb⟩
    | node _ s n pre ks hh hs hkd hn =>
      refine (nkid_any w b s k (ks.map kb) a hh.c3 hs).mono ?_
      rintro e w' ⟨rfl, hb⟩
      refine ⟨lookI (ks.map kb) a, rfl, RtN.below ?_ hb, hb⟩
      rw [hkd.kidL]
      by_cases ha : a < 0
      · rw [if_pos ha, lookI_neg _ ha]; rfl
      · rw [if_neg ha]
        have := look_kid_rt (a := a.toNat) hn
        rw [Int.toNat_of_nonneg (by omega)] at this
        exact this
theorem kidOf_skip {ks : List (Nat × List En)} {a : Nat} (h : ∀ x ∈ ks, x.1 ≠ a) : kidOf a ks = [] := kidOf_none h
set_option maxHeartbeats 4000000 in
theorem rkid_more (w : World) (k n : Nat) (pre : List Nat) (ks : List (Nat × List En)) (l : List En) (v : Value) (a : Int) (hlk : l = cat ks) (hv : RdE w v l) (he : EtS k l) (hkd : Kd k n pre ks) (k16 : k ≤ 16) :
    Calls Try.prog 26 #[v, .int .i64 a] w fun e w' => ∃ v', e = .returned v' ∧ RdE w' v' (kidL l a) ∧ Below w.heap.size w w' := by
  have hl2 : 2 ≤ l.length := by rw [hlk]; exact hkd.two_le
  have hlev : lev l = n + 1 := by rw [hlk, hkd.lev]
  have HKS := Lib.hid (fun w' (hb : Below w.heap.size w w') => rKids_any k n l v w w' hv hb he hlev (by omega))
  rw [show kidsL l = ks.map (·.2) by rw [hlk, hkd.kids]] at HKS
  have HLV := Lib.hid (fun w' (hb : Below w.heap.size w w') => rLevel_any k l v w' (hv.below hb) he (by omega))
  rw [show (lev l : Int) - 1 = (n : Nat) by rw [hlev]; omega] at HLV
  have hcl : ks.length ≤ l.length := by rw [hlk]; exact (cat_length ks hkd.ne).1
  have HLN := Lib.hid (Nat.le_trans hcl he.short)
  have HK2 := Lib.hid hkd.two
  have HASC := Lib.hid hkd.asc
  have hkl := hkd.kidL a
  rw [← hlk] at hkl
  rw [hkl]
  obtain ⟨kz, hkz⟩ : ∃ z, (if a < 0 then [] else kidOf a.toNat ks) = z := ⟨_, rfl⟩
  rw [hkz]
  have HKZ := Lib.hid hkz
  clear hkz
  have HADR := Lib.hid (fun j (hj : j < ks.length) (hj0 : 0 < ks[j].2.length) w' u (hu : RdU w' u (pti ks[j].2[0].p)) => (show Calls Try.prog 58 #[u, .int .i64 (n : Nat)] w' fun e w'' => e = .returned (.int .i64 (ks[j].1 : Nat)) ∧ Below w'.heap.size w' w'' from by
    have hm := List.getElem_mem hj
    have he0 : ks[j].2[0] ∈ ks[j].2 := List.getElem_mem hj0
    refine (rAddr_any _ n u w' hu (by rw [hkd.len hm he0]; omega) (hkd.ok hm he0) hkd.n64).mono ?_
    rintro e w'' ⟨h1, h2⟩
    exact ⟨by rw [h1, hkd.adr _ hm _ he0], h2 ▸ Below.refl _ _⟩))
  have HNE := Lib.hid (fun j (hj : j < ks.length) => List.length_pos_iff.2 (hkd.ne (ks[j]) (List.getElem_mem hj)))
  obtain ⟨A, c, rfl, _, hx⟩ := hv
  have hlt2 : ¬ (l.length : Int) < 2 := by omega
  clear hx he hkd hlev hcl hlk hkl
  generalize l.length = n0 at *
  clear hl2
  go_enter Try.func26, Try.ntmps26
  go_wp2_with fail
  refine (HKS.out _ (Below.refl _ _)).mono ?_
  rintro e wk ⟨kv, rfl, ⟨kvs, hkv, hvl, hvs⟩, hb5⟩
  rw [List.length_map] at hvl
  have HBK := Lib.hid hb5
  have hks0 : kvs ≠ [] := by intro h; rw [h] at hvl; have := HK2.out; rw [← hvl] at this; simp at this
  obtain ⟨gk, ck, rfl, hgk, hcv⟩ := hkv.cells hks0
  have HVS := Lib.hid (And.intro hvl (And.intro hvs hcv))
  rw [hvl]
  obtain ⟨nk, hnk⟩ : ∃ nk, ks.length = nk := ⟨_, rfl⟩
  rw [hnk]
  have HNK := Lib.hid hnk
  clear hkv hgk hcv hb5 hvs hks0 hvl hnk
  go_wp2_with fail
  go_loopw [6] (fun iv wr => ∃ j : Nat, j ≤ nk ∧ iv = .int .i64 (j : Nat) ∧ (∀ i (hi : i < ks.length), i < j → (ks[i].1 : Int) ≠ a) ∧ Below wk.heap.size wk wr) (fun iv _ => nk - (intOf iv).toNat)
  case atStart => exact ⟨0, Nat.zero_le _, rfl, fun i hi h => absurd h (Nat.not_lt_zero _), Below.refl _ _⟩
  case round =>
    obtain ⟨j, hj, rfl, hno, hb⟩ := hrel
    have HBR := Lib.hid (HBK.out.trans (hb.mono HBK.out.size))
    have HNO := Lib.hid hno
    by_cases hlt : j < nk
    · have h5 : (0 : Int) ≤ (j : Int) := by omega
      have h6 : (j : Int) < (nk : Int) := by omega
      have hjk : j < ks.length := by rw [HNK.out]; exact hlt
      have HW := Lib.hid (show wrap64 ((j : Int) + 1) = ((j + 1 : Nat) : Int) by have := HLN.out; unfold wrap64; omega)
      have hjv : j < kvs.length := by rw [HVS.out.1]; exact hjk
      have kj := Below.keeps hb _ _ (HVS.out.2.2 j hjv)
      have hrd := (HVS.out.2.1 j hjv (by rw [List.length_map]; exact hjk)).below HBR.out
      rw [List.getElem_map] at hrd
      have HRD := Lib.hid hrd
      have hj0 := HNE.out j hjk
      have HADJ := Lib.hid (HADR.out j hjk hj0)
      obtain ⟨Aj, cj, ej, z9, hxj⟩ := hrd
      obtain ⟨bj, oj, rfl, hcj⟩ := hxj hj0
      obtain ⟨up, g0, hup, z8⟩ := hcj 0 hj0
      have HAD := Lib.hid (fun w' (hb : Below wr.heap.size wr w') => HADJ.out w' up (hup.below hb))
      obtain ⟨Ap, cp, rfl, z7⟩ := RdU.point hup
      simp only [Nat.zero_mul, Nat.add_zero] at g0
      rw [ej] at kj HRD
      have h7 : (0 : Int) < (ks[j].2.length : Int) := by omega
      have hkn : ks[j].1 = ks[j].1 := rfl
      clear ej hup hcj hxj HADJ z9 z8 z7
      obtain ⟨np, hnp⟩ : ∃ z, (ks[j].2[0]).p.length = z := ⟨_, rfl⟩
      rw [hnp] at g0 HAD
      clear hnp
      obtain ⟨nj, hnj⟩ : ∃ z, ks[j].2.length = z := ⟨_, rfl⟩
      rw [hnj] at kj HRD h7
      have h8 : 0 < nj := by omega
      have hkk := look_kid HASC.out (List.getElem_mem hjk)
      obtain ⟨y1, hy1⟩ : ∃ y1, ks[j].1 = y1 := ⟨_, rfl⟩
      rw [hy1] at HAD hkk
      have HKK := Lib.hid hkk
      have hgl := World.block_lt_of_cell? wr _ kj
      have hjl := World.block_lt_of_cell? wr _ g0
      have HBJ := Lib.hid hb
      have HY := Lib.hid (And.intro hy1 hjk)
      clear hb hy1 hkn hnj hj0 hkk
      go_wp2_with fail
      refine wp_region_vals 11 [fun z9 _ => z9 = .slice (some ⟨gk, 0, none⟩) nk ck,
        fun z9 _ => z9 = .int .i64 (j : Nat),
        fun z9 _ => z9 = .pointer (some ⟨gk, j, none⟩),
        fun z9 _ => z9 = .slice (some ⟨bj, oj, none⟩) nj cj,
        fun z9 _ => z9 = .pointer (some ⟨bj, oj, none⟩),
        fun z9 _ => z9 = .pointer (some ⟨bj, oj, none⟩),
        fun z9 _ => z9 = .slice Ap np cp,
        fun z9 _ => z9 = .slice A n0 c,
        fun z9 _ => z9 = .int .i64 (n : Nat),
        fun z9 _ => z9 = .int .i64 (y1 : Nat),
        fun z9 _ => z9 = .int .i64 a]
        (by kernel_rfl) (by kernel_rfl) (by kernel_rfl) (by kernel_rfl) ?_ ?_ ?_
      · intro V hV v w1 w2 h hb
        simp only [List.mem_cons, List.not_mem_nil, or_false] at hV
        rcases hV with rfl | rfl | rfl | rfl | rfl | rfl | rfl | rfl | rfl | rfl | rfl
        all_goals first | exact h | (exact h)
      · intro iq oq hiq hoq
        match iq, hiq with
        | 0, _ =>
        obtain rfl := Option.some.inj hoq
        intro a1 w1 K hk hK
        have e5 : a1.tmps.getD 5 undef = .slice (some ⟨gk, 0, none⟩) nk ck := hk.same 5 (by simp)
        simp [Region.wanted, Oper.wp, Act.eval, go_sem, e5, kj, g0, h5, h6, h7, h8, hgl, hjl]
        exact hK _ _ (Below.refl _ _) rfl
        | 1, _ =>
        obtain rfl := Option.some.inj hoq
        intro a1 w1 K hk hK
        have e6 : a1.tmps.getD 6 undef = .int .i64 (j : Nat) := hk.same 6 (by simp)
        simp [Region.wanted, Oper.wp, Act.eval, go_sem, e6, kj, g0, h5, h6, h7, h8, hgl, hjl]
        exact hK _ _ (Below.refl _ _) rfl
        | 2, _ =>
        obtain rfl := Option.some.inj hoq
        intro a1 w1 K hk hK
        have d18 : a1.tmps.getD 18 undef = .slice (some ⟨gk, 0, none⟩) nk ck := hk.deps ⟨0, .data⟩ (by simp) rfl _ _ rfl rfl
        have d19 : a1.tmps.getD 19 undef = .int .i64 (j : Nat) := hk.deps ⟨1, .data⟩ (by simp) rfl _ _ rfl rfl
        simp [Region.wanted, Oper.wp, Act.eval, go_sem, d18, d19, kj, g0, h5, h6, h7, h8, hgl, hjl]
        exact hK _ _ (Below.refl _ _) rfl
        | 3, _ =>
        obtain rfl := Option.some.inj hoq
        intro a1 w1 K hk hK
        have d20 : a1.tmps.getD 20 undef = .pointer (some ⟨gk, j, none⟩) := hk.deps ⟨2, .data⟩ (by simp) rfl _ _ rfl rfl
        have c0 : w1.cell? ⟨gk, j, none⟩ = some (.slice (some ⟨bj, oj, none⟩) nj cj) := Below.keeps hk.ext _ _ (by simp [go_sem, kj, g0, h5, h6, h7, h8, hgl, hjl])
        have c1 : w1.cell? ⟨bj, oj, none⟩ = some (.slice Ap np cp) := Below.keeps hk.ext _ _ (by simp [go_sem, kj, g0, h5, h6, h7, h8, hgl, hjl])
        simp [Region.wanted, Oper.wp, Act.eval, go_sem, d20, c0, c1, kj, g0, h5, h6, h7, h8, hgl, hjl]
        exact hK _ _ (Below.refl _ _) rfl
        | 4, _ =>
        obtain rfl := Option.some.inj hoq
        intro a1 w1 K hk hK
        have d21 : a1.tmps.getD 21 undef = .slice (some ⟨bj, oj, none⟩) nj cj := hk.deps ⟨3, .data⟩ (by simp) rfl _ _ rfl rfl
        simp [Region.wanted, Oper.wp, Act.eval, go_sem, d21, kj, g0, h5, h6, h7, h8, hgl, hjl]
        exact hK _ _ (Below.refl _ _) rfl
        | 5, _ =>
        obtain rfl := Option.some.inj hoq
        intro a1 w1 K hk hK
        have d22 : a1.tmps.getD 22 undef = .pointer (some ⟨bj, oj, none⟩) := hk.deps ⟨4, .data⟩ (by simp) rfl _ _ rfl rfl
        simp [Region.wanted, Oper.wp, Act.eval, go_sem, d22, kj, g0, h5, h6, h7, h8, hgl, hjl]
        exact hK _ _ (Below.refl _ _) rfl
        | 6, _ =>
        obtain rfl := Option.some.inj hoq
        intro a1 w1 K hk hK
        have d23 : a1.tmps.getD 23 undef = .pointer (some ⟨bj, oj, none⟩) := hk.deps ⟨5, .data⟩ (by simp) rfl _ _ rfl rfl
        have c0 : w1.cell? ⟨gk, j, none⟩ = some (.slice (some ⟨bj, oj, none⟩) nj cj) := Below.keeps hk.ext _ _ (by simp [go_sem, kj, g0, h5, h6, h7, h8, hgl, hjl])
        have c1 : w1.cell? ⟨bj, oj, none⟩ = some (.slice Ap np cp) := Below.keeps hk.ext _ _ (by simp [go_sem, kj, g0, h5, h6, h7, h8, hgl, hjl])
        simp [Region.wanted, Oper.wp, Act.eval, go_sem, d23, c0, c1, kj, g0, h5, h6, h7, h8, hgl, hjl]
        exact hK _ _ (Below.refl _ _) rfl
        | 7, _ =>
        obtain rfl := Option.some.inj hoq
        intro a1 w1 K hk hK
        have e0 : a1.tmps.getD 0 undef = .slice A n0 c := hk.same 0 (by simp)
        simp [Region.wanted, Oper.wp, Act.eval, go_sem, e0, kj, g0, h5, h6, h7, h8, hgl, hjl]
        exact hK _ _ (Below.refl _ _) rfl
        | 8, _ =>
        obtain rfl := Option.some.inj hoq
        intro a1 w1 K hk hK
        have d25 : a1.tmps.getD 25 undef = .slice A n0 c := hk.deps ⟨7, .data⟩ (by simp) rfl _ _ rfl rfl
        simp [Region.wanted, Oper.wp, Act.eval, go_sem, d25, kj, g0, h5, h6, h7, h8, hgl, hjl]
        refine (HLV.out _ (below_trans (by repeat (first | exact HBR.out | (refine Below.drew ?_) | (refine below_drewN' ?_ _) | (refine below_alloc' ?_ _) | (refine Below.setCell ?_ (by first | exact Nat.le_refl _ | (have := HBR.out.size; simp; omega) | (have := HBR.out.size; omega)) _))) hk.ext)).mono ?_
        rintro e w9 ⟨rfl, hb9⟩
        exact hK _ _ hb9 rfl
        | 9, _ =>
        obtain rfl := Option.some.inj hoq
        intro a1 w1 K hk hK
        have d24 : a1.tmps.getD 24 undef = .slice Ap np cp := hk.deps ⟨6, .data⟩ (by simp) rfl _ _ rfl rfl
        have d26 : a1.tmps.getD 26 undef = .int .i64 (n : Nat) := hk.deps ⟨8, .data⟩ (by simp) rfl _ _ rfl rfl
        simp [Region.wanted, Oper.wp, Act.eval, go_sem, d24, d26, kj, g0, h5, h6, h7, h8, hgl, hjl]
        refine (HAD.out _ (below_trans (by repeat (first | exact Below.refl _ _ | (refine Below.drew ?_) | (refine below_drewN' ?_ _) | (refine below_alloc' ?_ _) | (refine Below.setCell ?_ (by first | exact Nat.le_refl _ | (simp; done) | (simp; omega)) _))) hk.ext)).mono ?_
        rintro e w9 ⟨rfl, hb9⟩
        exact hK _ _ hb9 rfl
        | 10, _ =>
        obtain rfl := Option.some.inj hoq
        intro a1 w1 K hk hK
        have e1 : a1.tmps.getD 1 undef = .int .i64 a := hk.same 1 (by simp)
        simp [Region.wanted, Oper.wp, Act.eval, go_sem, e1, kj, g0, h5, h6, h7, h8, hgl, hjl]
        exact hK _ _ (Below.refl _ _) rfl
      · intro vs w3 hl hb3 hv
        match vs, hl with
        | [v0, v1, v2, v3, v4, v5, v6, v7, v8, v9, v10], _ =>
        obtain rfl : v0 = .slice (some ⟨gk, 0, none⟩) nk ck := hv 0 (by omega)
        obtain rfl : v1 = .int .i64 (j : Nat) := hv 1 (by omega)
        obtain rfl : v2 = .pointer (some ⟨gk, j, none⟩) := hv 2 (by omega)
        obtain rfl : v3 = .slice (some ⟨bj, oj, none⟩) nj cj := hv 3 (by omega)
        obtain rfl : v4 = .pointer (some ⟨bj, oj, none⟩) := hv 4 (by omega)
        obtain rfl : v5 = .pointer (some ⟨bj, oj, none⟩) := hv 5 (by omega)
        obtain rfl : v6 = .slice Ap np cp := hv 6 (by omega)
        obtain rfl : v7 = .slice A n0 c := hv 7 (by omega)
        obtain rfl : v8 = .int .i64 (n : Nat) := hv 8 (by omega)
        obtain rfl : v9 = .int .i64 (y1 : Nat) := hv 9 (by omega)
        obtain rfl : v10 = .int .i64 a := hv 10 (by omega)
        clear hv
        simp only [putAll, List.take_succ_cons, List.take_zero, List.drop_succ_cons, List.drop_zero, Act.put, List.setIfInBounds_toArray, List.set_cons_succ, List.set_cons_zero]
        have HF := Lib.hid (show Below wr.heap.size wr w3 from below_trans (by repeat (first | exact Below.refl _ _ | (refine Below.drew ?_) | (refine below_drewN' ?_ _) | (refine below_alloc' ?_ _) | (refine Below.setCell ?_ (by first | exact Nat.le_refl _ | (simp; done) | (simp; omega)) _))) hb3)
        have kj3 := Below.keeps hb3 _ _ kj
        have hgl3 := World.block_lt_of_cell? w3 _ kj3
        clear kj g0 hb3 hgl hjl
        by_cases hya : (y1 : Int) = a
        · have hbo : ((y1 : Int) == a) = true := by simpa using hya
          go_wp2_with fail
          go_ret
          refine ⟨_, rfl, ?_, HBR.out.trans (HF.out.mono HBR.out.size)⟩
          rw [← HKZ.out, if_neg (by omega), ← hya, Int.toNat_natCast, HKK.out]
          exact HRD.out.below HF.out
        · have hbo : ((y1 : Int) == a) = false := by simpa using hya
          go_wp2_with fail
          go_roundw
          case rel => exact ⟨j + 1, by omega, (by first | rw [HW.out] | rfl | simp), fun i hi h => by
            by_cases e : i = j
            · subst e; rw [HY.out.1]; exact hya
            · exact HNO.out i hi (by omega), HBJ.out.trans (HF.out.mono HBJ.out.size)⟩
          case measure => (first | (rw [intOf_of' HW.out, intOf_of' rfl]; omega) | (simp [intOf]; omega) | (simp [intOf] <;> omega))
    · have h6 : ¬ (j : Int) < (nk : Int) := by omega
      clear hb hno
      go_wp2_with fail
      go_ret
      refine ⟨_, rfl, ?_, (by repeat (first | exact HBR.out | (refine Below.drew ?_) | (refine below_drewN' ?_ _) | (refine below_alloc' ?_ _) | (refine Below.setCell ?_ (by first | exact Nat.le_refl _ | (have := HBR.out.size; simp; omega) | (have := HBR.out.size; omega)) _)))⟩
      have : (if a < 0 then [] else kidOf a.toNat ks) = [] := by
        by_cases ha : a < 0
        · rw [if_pos ha]
        · rw [if_neg ha]
          refine kidOf_skip fun x hx e => ?_
          obtain ⟨i, hi, rfl⟩ := List.getElem_of_mem hx
          exact HNO.out i hi (by rw [HNK.out] at hi; omega) (by omega)
      rw [← HKZ.out, this]
      exact ⟨none, 0, rfl, ⟨Nat.le_refl _, Nat.zero_le _, fun h => absurd h (by omega)⟩, fun h => absurd h (by simp)⟩
theorem RdE.none' (w : World) : RdE w (.slice none 0 0) [] := ⟨none, 0, rfl, ⟨Nat.le_refl _, Nat.zero_le _, fun h => absurd h (by omega)⟩, fun h => absurd h (by simp)⟩
theorem rkid_any (w : World) (k : Nat) (l : List En) (v : Value) (a : Int) (hv : RdE w v l) (he : EtS k l) (h : l = [] ∨ Tn k l) (k16 : k ≤ 16) :
    Calls Try.prog 26 #[v, .int .i64 a] w fun e w' => ∃ v', e = .returned v' ∧ RdE w' v' (kidL l a) ∧ Below w.heap.size w w' := by
  have short : l.length < 2 → kidL l a = [] → Calls Try.prog 26 #[v, .int .i64 a] w fun e w' => ∃ v', e = .returned v' ∧ RdE w' v' (kidL l a) ∧ Below w.heap.size w w' := fun hl hk => by
    rw [hk]
    obtain ⟨A, c, rfl, _, _⟩ := hv
    have hl2 : (l.length : Int) < 2 := by omega
    go_enter Try.func26, Try.ntmps26
    go_wp2_with fail
    go_ret
    exact ⟨_, rfl, RdE.none' _, (by repeat (first | exact Below.refl _ _ | (refine Below.drew ?_) | (refine below_drewN' ?_ _) | (refine below_alloc' ?_ _) | (refine Below.setCell ?_ (by first | exact Nat.le_refl _ | (simp; done) | (simp; omega)) _)))⟩
  rcases h with rfl | h
  · exact short (by simp) rfl
  · cases h with
    | one e h => exact short (by simp) rfl
    | node n pre ks hk hn => exact rkid_more w k n pre ks _ v a rfl hv he hk k16
/-- digest.Tree -/
theorem dtree_any (w : World) (t k : Nat) (l : List En) (h : TrR w t k l) :
    Calls Try.prog 27 #[.pointer (some ⟨t, 0, none⟩)] w fun e w' => e = .returned (.int .u64 (stirI (stirI basisI (k : Nat)) (digL l))) ∧ Below w.heap.size w w' := by
  obtain ⟨r, c1, hrt⟩ := h.c1
  have HND := Lib.hid (fun w' (hb : Below w.heap.size w w') => dnode_any w' k r l (hrt.below hb) h.k1 h.k16)
  obtain ⟨q, hq⟩ := pv_ex r
  rw [hq] at HND c1
  have HRT := Lib.hid (fun w' (hb : Below w.heap.size w w') => troot_any w' t q (Below.keeps hb _ _ c1))
  have HK := Lib.hid (fun w' (hb : Below w.heap.size w w') => tk_any w' t k (Below.keeps hb _ _ h.c0))
  have HWK := Lib.hid (show IntKind.u64.wrap (k : Int) = (k : Int) by have := h.k16; rw [IntKind.wrap_u64]; omega)
  generalize digL l = d at *
  clear h c1 hrt hq
  go_enter Try.func27, Try.ntmps27
  go_wp2_with fail
  refine (HK.out _ (Below.refl _ _)).mono ?_
  rintro e w1 ⟨rfl, hw⟩
  obtain rfl := hw.symm
  clear hw
  go_wp2_with fail
  refine (HRT.out _ (Below.refl _ _)).mono ?_
  rintro e w1 ⟨rfl, hw⟩
  obtain rfl := hw.symm
  clear hw
  go_wp2_with fail
  refine (HND.out _ (Below.refl _ _)).mono ?_
  rintro e w1 ⟨rfl, hb1⟩
  have HB1 := Lib.hid hb1
  clear hb1
  go_wp2_with fail
  (try rw [HWK.out])
  refine (stir_any _ [(k : Int), d] _ _ (RdU.two (by go_simp) (by go_simp)) (by simp)).mono ?_
  rintro e w2 ⟨rfl, hb2⟩
  have HB2 := Lib.hid (below_trans (below_trans HB1.out (by repeat (first | exact Below.refl _ _ | (refine Below.drew ?_) | (refine below_drewN' ?_ _) | (refine below_alloc' ?_ _) | (refine Below.setCell ?_ (by first | exact Nat.le_refl _ | (simp; done) | (simp; omega)) _)))) hb2)
  have hst : List.foldl stirI 14695981039346656037 [(k : Int), d] = stirI (stirI basisI (k : Nat)) d := rfl
  rw [hst]
  clear hb2 hst
  go_wp2_with fail
  go_ret
  exact ⟨rfl, HB2.out⟩
theorem dtree_nil (w : World) : Calls Try.prog 27 #[.pointer none] w fun e w' => e = .returned (.int .u64 0) ∧ Below w.heap.size w w' := by
  go_enter Try.func27, Try.ntmps27
  go_wp2_with fail
  go_ret
  exact ⟨rfl, (by repeat (first | exact Below.refl _ _ | (refine Below.drew ?_) | (refine below_drewN' ?_ _) | (refine below_alloc' ?_ _) | (refine Below.setCell ?_ (by first | exact Nat.le_refl _ | (simp; done) | (simp; omega)) _)))⟩
end Go.Proofs.Ytjokcagggmjgmaa
/-! DigE -/
namespace Go.Proofs.Ytjokcagggmjgmaa
open Go.RowKit
set_option linter.unusedVariables false
set_option linter.unusedSimpArgs false
set_option maxRecDepth 100000

/-- v reads as a list of ints -/
def RdI (w : World) (v : Value) (xs : List Int) : Prop := Sl w v (xs.map (.int .i64))
theorem RdI.below {w w' : World} {v : Value} {xs : List Int} (h : RdI w v xs) (hb : Below w.heap.size w w') : RdI w' v xs := Sl.below h hb
theorem RdI.slice {w : World} {v : Value} {xs : List Int} (h : RdI w v xs) : ∃ A c, v = .slice A xs.length c ∧ (0 < xs.length → ∃ b o, A = some ⟨b, o, none⟩ ∧ ∀ j (h : j < xs.length), w.cell? ⟨b, o + j, none⟩ = some (.int .i64 xs[j])) := by
  obtain ⟨A, c, rfl, hx⟩ := h
  refine ⟨A, c, by rw [List.length_map], fun h0 => ?_⟩
  obtain ⟨b, o, h4, h5⟩ := hx (by rw [List.length_map]; exact h0)
  refine ⟨b, o, h4, fun j hj => ?_⟩
  have := h5 j (by rw [List.length_map]; exact hj)
  rw [List.getElem_map] at this
  exact this
def wayL (l : List En) (way : List Int) : List En := way.foldl kidL l
theorem wayL_take (l : List En) (way : List Int) (j : Nat) (h : j < way.length) : wayL l (way.take (j + 1)) = kidL (wayL l (way.take j)) way[j] := by
  unfold wayL
  rw [← List.take_append_getElem h, List.foldl_append]
  rfl
theorem wayL_tn {k : Nat} {l : List En} (h : l = [] ∨ Tn k l) (he : EtS k l) (way : List Int) : (wayL l way = [] ∨ Tn k (wayL l way)) ∧ EtS k (wayL l way) := by
  induction way generalizing l with
  | nil => exact ⟨h, he⟩
  | cons a way ih => exact ih (kidL_tn h a) (kidL_ets h he a)
theorem RtN.tn {w : World} {k : Nat} {r : Option Nat} {l : List En} (h : RtN w k r l) : l = [] ∨ Tn k l := by
  cases r with
  | none => exact .inl h
  | some b => exact .inr (Nd.tn h)
theorem dat_nil (w : World) (v : Value) : Calls Try.prog 25 #[.pointer none, v] w fun e w' => e = .returned (.tuple #[.int .u64 0, .bool false, .int .i64 1]) ∧ Below w.heap.size w w' := by
  go_enter Try.func25, Try.ntmps25
  go_wp2_with fail
  refine bodyPost_ret (v := .tuple #[.int .u64 0, .bool false, .int .i64 1]) (by simp [results, Try.results25, go_sem]) rfl ⟨rfl, (by repeat (first | exact Below.refl _ _ | (refine Below.drew ?_) | (refine below_drewN' ?_ _) | (refine below_alloc' ?_ _) | (refine Below.setCell ?_ (by first | exact Nat.le_refl _ | (simp; done) | (simp; omega)) _)))⟩
set_option maxHeartbeats 2000000 in
theorem dat_any (w : World) (t k : Nat) (l : List En) (way : List Int) (v : Value) (h : TrR w t k l) (hv : RdI w v way) (hl : way.length ≤ 1000) :
    Calls Try.prog 25 #[.pointer (some ⟨t, 0, none⟩), v] w fun e w' => e = .returned (.tuple #[.int .u64 (digL (wayL l way)), .bool (decide (0 < (wayL l way).length)), .int .i64 0]) ∧ Below w.heap.size w w' := by
  obtain ⟨r, c1, hrt⟩ := h.c1
  have HKK := Lib.hid (And.intro h.k1 h.k16)
  have HL := Lib.hid hl
  have HRO := Lib.hid hrt
  obtain ⟨q, hq⟩ := pv_ex r
  rw [hq] at c1
  have HRT := Lib.hid (fun w' (hb : Below w.heap.size w w') => troot_any w' t q (Below.keeps hb _ _ c1))
  obtain ⟨A, c, rfl, hx⟩ := hv.slice
  have HX := Lib.hid hx
  have HQ := Lib.hid hq
  clear h c1 hrt hq hx hl hv
  go_enter Try.func25, Try.ntmps25
  go_wp2_with fail
  refine (HRT.out _ (Below.refl _ _)).mono ?_
  rintro e w1 ⟨rfl, hw⟩
  obtain rfl := hw.symm
  clear hw
  go_wp2_with fail
  go_loopw [7, 9, 16] (fun nv _ iv wr => ∃ (j : Nat) (r' : Option Nat), j ≤ way.length ∧ iv = .int .i64 (j : Nat) ∧ nv = pv r' ∧ RtN wr k r' (wayL l (way.take j)) ∧ Below w.heap.size w wr) (fun _ _ iv _ => way.length - (intOf iv).toNat)
  case atStart => exact ⟨0, r, Nat.zero_le _, rfl, HQ.out.symm, HRO.out.below (by repeat (first | exact Below.refl _ _ | (refine Below.drew ?_) | (refine below_drewN' ?_ _) | (refine below_alloc' ?_ _) | (refine Below.setCell ?_ (by first | exact Nat.le_refl _ | (simp; done) | (simp; omega)) _))), (by repeat (first | exact Below.refl _ _ | (refine Below.drew ?_) | (refine below_drewN' ?_ _) | (refine below_alloc' ?_ _) | (refine Below.setCell ?_ (by first | exact Nat.le_refl _ | (simp; done) | (simp; omega)) _)))⟩
  case round =>
    obtain ⟨j, r', hj, rfl, rfl, hrt, hb⟩ := hrel
    have HB := Lib.hid hb
    by_cases hlt : j < way.length
    · have h3 : (j : Int) < way.length := by omega
      have h5 : (0 : Int) ≤ (j : Int) := by omega
      have HW := Lib.hid (show wrap64 ((j : Int) + 1) = ((j + 1 : Nat) : Int) by have := HL.out; unfold wrap64; omega)
      obtain ⟨bk, ofs, rfl, hc⟩ := HX.out (by omega)
      have k0 := Below.keeps hb _ _ (hc j hlt)
      have hbl := World.block_lt_of_cell? wr _ k0
      have HTK := Lib.hid (wayL_take l way j hlt)
      have HKD := Lib.hid (fun w' (hb : Below wr.heap.size wr w') => nkid_rt w' k r' _ way[j] (hrt.below hb))
      obtain ⟨q', hq'⟩ := pv_ex r'
      rw [hq'] at HKD ⊢
      generalize wayL l (way.take j) = lj at *
      generalize way[j] = x at *
      clear hc hb hrt hq'
      go_wp2_with fail
      refine (HKD.out _ (by repeat (first | exact Below.refl _ _ | (refine Below.drew ?_) | (refine below_drewN' ?_ _) | (refine below_alloc' ?_ _) | (refine Below.setCell ?_ (by first | exact Nat.le_refl _ | (simp; done) | (simp; omega)) _)))).mono ?_
      rintro e w2 ⟨r2, rfl, hr2, hb2⟩
      have HR2 := Lib.hid (And.intro hr2 ((below_trans HB.out (by repeat (first | exact Below.refl _ _ | (refine Below.drew ?_) | (refine below_drewN' ?_ _) | (refine below_alloc' ?_ _) | (refine Below.setCell ?_ (by first | exact Nat.le_refl _ | (simp; done) | (simp; omega)) _)))).trans (hb2.mono (below_trans HB.out (by repeat (first | exact Below.refl _ _ | (refine Below.drew ?_) | (refine below_drewN' ?_ _) | (refine below_alloc' ?_ _) | (refine Below.setCell ?_ (by first | exact Nat.le_refl _ | (simp; done) | (simp; omega)) _)))).size)))
      obtain ⟨q2, hq2⟩ := pv_ex r2
      have HQ2 := Lib.hid hq2
      rw [hq2]
      clear hr2 hb2 hq2
      go_wp2_with fail
      go_roundw
      case rel => exact ⟨j + 1, r2, by omega, (by first | rw [HW.out] | rfl | simp), HQ2.out.symm, by rw [HTK.out]; exact HR2.out.1, HR2.out.2⟩
      case measure => (first | (rw [intOf_of' HW.out, intOf_of' rfl]; omega) | (simp [intOf]; omega) | (simp [intOf] <;> omega))
    · have h3 : ¬ (j : Int) < (way.length : Int) := by omega
      have e : way.take j = way := List.take_of_length_le (by omega)
      rw [e] at hrt
      have HND := Lib.hid (fun w' (hb : Below wr.heap.size wr w') => dnode_any w' k r' _ (hrt.below hb) HKK.out.1 HKK.out.2)
      have hne : decide (0 < (wayL l way).length) = r'.isSome := by
        cases r' with
        | none =>
          have : wayL l way = [] := hrt
          rw [this]; rfl
        | some b =>
          have := Nd.ne (show Nd wr k b _ from hrt)
          simp [List.length_pos_iff, this]
      have HNE := Lib.hid hne
      cases r' with
      | none =>
        simp only [pv_none] at HND ⊢
        clear hb e hrt hne
        go_wp2_with fail
        refine (HND.out _ (by repeat (first | exact Below.refl _ _ | (refine Below.drew ?_) | (refine below_drewN' ?_ _) | (refine below_alloc' ?_ _) | (refine Below.setCell ?_ (by first | exact Nat.le_refl _ | (simp; done) | (simp; omega)) _)))).mono ?_
        rintro e w2 ⟨rfl, hb2⟩
        have HB2 := Lib.hid ((below_trans HB.out (by repeat (first | exact Below.refl _ _ | (refine Below.drew ?_) | (refine below_drewN' ?_ _) | (refine below_alloc' ?_ _) | (refine Below.setCell ?_ (by first | exact Nat.le_refl _ | (simp; done) | (simp; omega)) _)))).trans (hb2.mono (below_trans HB.out (by repeat (first | exact Below.refl _ _ | (refine Below.drew ?_) | (refine below_drewN' ?_ _) | (refine below_alloc' ?_ _) | (refine Below.setCell ?_ (by first | exact Nat.le_refl _ | (simp; done) | (simp; omega)) _)))).size))
        clear hb2
        go_wp2_with fail
        refine bodyPost_ret (v := .tuple #[.int .u64 (digL (wayL l way)), .bool false, .int .i64 0]) (by simp [results, Try.results25, go_sem]) rfl ⟨by rw [HNE.out]; rfl, HB2.out⟩
      | some b =>
        simp only [pv_some] at HND ⊢
        clear hb e hrt hne
        go_wp2_with fail
        refine (HND.out _ (by repeat (first | exact Below.refl _ _ | (refine Below.drew ?_) | (refine below_drewN' ?_ _) | (refine below_alloc' ?_ _) | (refine Below.setCell ?_ (by first | exact Nat.le_refl _ | (simp; done) | (simp; omega)) _)))).mono ?_
        rintro e w2 ⟨rfl, hb2⟩
        have HB2 := Lib.hid ((below_trans HB.out (by repeat (first | exact Below.refl _ _ | (refine Below.drew ?_) | (refine below_drewN' ?_ _) | (refine below_alloc' ?_ _) | (refine Below.setCell ?_ (by first | exact Nat.le_refl _ | (simp; done) | (simp; omega)) _)))).trans (hb2.mono (below_trans HB.out (by repeat (first | exact Below.refl _ _ | (refine Below.drew ?_) | (refine below_drewN' ?_ _) | (refine below_alloc' ?_ _) | (refine Below.setCell ?_ (by first | exact Nat.le_refl _ | (simp; done) | (simp; omega)) _)))).size))
        clear hb2
        go_wp2_with fail
        refine bodyPost_ret (v := .tuple #[.int .u64 (digL (wayL l way)), .bool true, .int .i64 0]) (by simp [results, Try.results25, go_sem]) rfl ⟨by rw [HNE.out]; rfl, HB2.out⟩
end Go.Proofs.Ytjokcagggmjgmaa
/-! AwkD -/
namespace Go.Proofs.Ytjokcagggmjgmaa
open Go.RowKit
set_option linter.unusedVariables false
set_option linter.unusedSimpArgs false
set_option maxRecDepth 100000

theorem awd_ne : ((stirI (stirI basisI ((1 : Nat) : Int)) 0) == (stirI (stirI basisI ((2 : Nat) : Int)) 0)) = false := by kernel_rfl
theorem awd_del : delE [1, 2] (insE [1, 2] 3 []) = [] := by first | rfl | kernel_rfl
theorem awd_get : getE (insE [1, 2] 3 []) [1, 2] = some 3 := by first | rfl | kernel_rfl
set_option maxHeartbeats 2000000 in
theorem awakeD_any (w : World) : Calls Try.prog 7 #[] w fun e w' => e = .returned (.bool true) ∧ Below w.heap.size w w' := by
  have HN1 := Lib.hid (fun W => tnew_any W 1 (by omega) (by omega))
  have HN2 := Lib.hid (fun W => tnew_any W 2 (by omega) (by omega))
  have HT1 := Lib.hid (fun W t (h : TrR W t 1 []) => dtree_any W t 1 [] h)
  have HT2 := Lib.hid (fun W t (h : TrR W t 2 []) => dtree_any W t 2 [] h)
  have HPU := Lib.hid (fun W t vp (h : TrR W t 2 []) (hp : RdU W vp (pti [1, 2])) => tput_any W t 2 3 [1, 2] [] vp h hp rfl (by decide) (by decide))
  have HDE := Lib.hid (fun W t vp (h : TrR W t 2 (insE [1, 2] 3 [])) (hp : RdU W vp (pti [1, 2])) => tdel_any W t 2 [1, 2] _ vp h hp rfl (by decide))
  have hne := awd_ne
  obtain ⟨d1, hd1⟩ : ∃ d, stirI (stirI basisI ((1 : Nat) : Int)) 0 = d := ⟨_, rfl⟩
  obtain ⟨d2, hd2⟩ : ∃ d, stirI (stirI basisI ((2 : Nat) : Int)) 0 = d := ⟨_, rfl⟩
  rw [dig_nil, hd1] at HT1
  rw [dig_nil, hd2] at HT2
  rw [hd1, hd2] at hne
  have hne2 : ¬ d1 = d2 := by simpa using hne
  have hne3 : (d1 != d2) = true := by simp [bne, hne]
  rw [show ((1 : Nat) : Int) = 1 from rfl] at HN1
  rw [show ((2 : Nat) : Int) = 2 from rfl] at HN2
  rw [show ((3 : Nat) : Int) = 3 from rfl] at HPU
  clear hd1 hd2
  go_enter Try.func7, Try.ntmps7
  go_wp2_with fail
  refine (HN1.out _).mono ?_
  rintro e w1 ⟨a, rfl, ha, hb1⟩
  have HA1 := Lib.hid ha
  have HB1 := Lib.hid hb1
  clear ha hb1
  go_wp2_with fail
  refine (HN2.out _).mono ?_
  rintro e w2 ⟨b, rfl, hb, hb2⟩
  have HA2 := Lib.hid (And.intro (HA1.out.bel hb2) hb)
  have HB2 := Lib.hid (HB1.out.trans (hb2.mono HB1.out.size))
  clear hb hb2
  go_wp2_with fail
  refine (HPU.out _ b _ (HA2.out.2.bel (by repeat (first | exact Below.refl _ _ | (refine Below.drew ?_) | (refine below_drewN' ?_ _) | (refine below_alloc' ?_ _) | (refine Below.setCell ?_ (by first | exact Nat.le_refl _ | (simp; done) | (simp; omega)) _)))) (RdU.two (by go_simp) (by go_simp))).mono ?_
  rintro e w3 ⟨g, rfl, hg, hb3, _, _⟩
  have hb23 : Below w2.heap.size w2 w3 := below_trans (by repeat (first | exact Below.refl _ _ | (refine Below.drew ?_) | (refine below_drewN' ?_ _) | (refine below_alloc' ?_ _) | (refine Below.setCell ?_ (by first | exact Nat.le_refl _ | (simp; done) | (simp; omega)) _))) hb3
  have HA3 := Lib.hid (And.intro (HA2.out.1.bel hb23) (And.intro (HA2.out.2.bel hb23) hg))
  have HB3 := Lib.hid (HB2.out.trans (hb23.mono HB2.out.size))
  clear hg hb3 hb23
  go_wp2_with fail
  refine (HDE.out _ g _ (HA3.out.2.2.bel (by repeat (first | exact Below.refl _ _ | (refine Below.drew ?_) | (refine below_drewN' ?_ _) | (refine below_alloc' ?_ _) | (refine Below.setCell ?_ (by first | exact Nat.le_refl _ | (simp; done) | (simp; omega)) _)))) (RdU.two (by go_simp) (by go_simp))).mono ?_
  rintro e w4 ⟨hb4, hcase⟩
  obtain ⟨g4, rfl, hg4⟩ : ∃ g4, e = .returned (.tuple #[.pointer (some ⟨g4, 0, none⟩), .int .i64 0]) ∧ TrR w4 g4 2 [] := by
    rcases hcase with ⟨h, _⟩ | ⟨x, g4, _, h, h2, _⟩
    · rw [awd_get] at h; cases h
    · rw [awd_del] at h2; exact ⟨g4, h, h2⟩
  have hb34 : Below w3.heap.size w3 w4 := below_trans (by repeat (first | exact Below.refl _ _ | (refine Below.drew ?_) | (refine below_drewN' ?_ _) | (refine below_alloc' ?_ _) | (refine Below.setCell ?_ (by first | exact Nat.le_refl _ | (simp; done) | (simp; omega)) _))) hb4
  have HA4 := Lib.hid (And.intro (HA3.out.1.bel hb34) (And.intro (HA3.out.2.1.bel hb34) hg4))
  have HB4 := Lib.hid (HB3.out.trans (hb34.mono HB3.out.size))
  clear hg4 hb4 hb34 hcase
  have HX4 := Lib.hid (Below.refl w4.heap.size w4)
  go_wp2_with fail
  refine (HT1.out w4 a HA4.out.1).mono ?_
  rintro e w5 ⟨rfl, hb5⟩
  have HX5 := Lib.hid (show Below w4.heap.size w4 w5 from hb5)
  clear hb5
  go_wp2_with fail
  refine (HT2.out w5 b (HA4.out.2.1.bel HX5.out)).mono ?_
  rintro e w6 ⟨rfl, hb6⟩
  have HX6 := Lib.hid (HX5.out.trans (hb6.mono HX5.out.size))
  clear hb6
  go_wp2_with fail
  refine (HT2.out w6 b (HA4.out.2.1.bel HX6.out)).mono ?_
  rintro e w7 ⟨rfl, hb7⟩
  have HX7 := Lib.hid (HX6.out.trans (hb7.mono HX6.out.size))
  clear hb7
  go_wp2_with fail
  refine (HT2.out w7 g4 (HA4.out.2.2.bel HX7.out)).mono ?_
  rintro e w8 ⟨rfl, hb8⟩
  have HX8 := Lib.hid (HX7.out.trans (hb8.mono HX7.out.size))
  clear hb8
  go_wp2_with fail
  refine (dnode_nil w8).mono ?_
  rintro e w9 ⟨rfl, hb9⟩
  have HX9 := Lib.hid (HB4.out.trans ((HX8.out.trans (hb9.mono HX8.out.size)).mono HB4.out.size))
  clear hb9
  go_wp2_with fail
  go_ret
  exact ⟨rfl, HX9.out⟩
end Go.Proofs.Ytjokcagggmjgmaa
/-! SrtP -/
namespace Go.Proofs.Ytjokcagggmjgmaa
open Go.RowKit
set_option linter.unusedVariables false

/-- an element of the row: the point's slice, the entry -/
abbrev Pe := Value × En
def ek (x : Pe) : Nat := x.2.key
def Srt (l : List Pe) : Prop := l.Pairwise fun x y => ek x ≤ ek y
/-- of each key the same ones in the same order -/
def Stb (l m : List Pe) : Prop := ∀ n, l.filter (fun x => ek x == n) = m.filter (fun x => ek x == n)
theorem Stb.refl (l : List Pe) : Stb l l := fun n => rfl
theorem Stb.symm {l m : List Pe} (h : Stb l m) : Stb m l := fun n => (h n).symm
theorem Stb.trans {l m o : List Pe} (h : Stb l m) (g : Stb m o) : Stb l o := fun n => (h n).trans (g n)
theorem Stb.append {a a' b b' : List Pe} (h : Stb a a') (g : Stb b b') : Stb (a ++ b) (a' ++ b') := fun n => by rw [List.filter_append, List.filter_append, h n, g n]
theorem Stb.mem {l m : List Pe} (h : Stb l m) {x : Pe} : x ∈ l ↔ x ∈ m := by
  have key : ∀ q : List Pe, x ∈ q ↔ x ∈ q.filter (fun y => ek y == ek x) := fun q => by simp [List.mem_filter]
  rw [key l, key m, h (ek x)]
theorem Stb.swap {X Y : List Pe} (h : ∀ x ∈ X, ∀ y ∈ Y, ek x ≠ ek y) : Stb (X ++ Y) (Y ++ X) := fun n => by
  rw [List.filter_append, List.filter_append]
  by_cases hx : X.filter (fun x => ek x == n) = []
  · rw [hx]; simp
  · obtain ⟨x, hx⟩ := List.exists_mem_of_ne_nil _ hx
    rw [List.mem_filter] at hx
    have hy : Y.filter (fun x => ek x == n) = [] := by
      rw [List.filter_eq_nil_iff]
      intro y hy hk
      refine h x hx.1 y hy ?_
      have h1 : ek x = n := by simpa using hx.2
      have h2 : ek y = n := by simpa using hk
      rw [h1, h2]
    rw [hy]; simp
/-- the last one of each key of a sorted list -/
def lastsL : List Pe → List Pe
  | [] => []
  | [x] => [x]
  | x :: y :: l => if ek x = ek y then lastsL (y :: l) else x :: lastsL (y :: l)
theorem lasts_mem {l : List Pe} {x : Pe} (h : x ∈ lastsL l) : x ∈ l := by
  induction l with
  | nil => exact h
  | cons y l ih =>
    cases l with
    | nil => exact h
    | cons z l =>
      unfold lastsL at h
      split at h
      · exact List.mem_cons_of_mem _ (ih h)
      · rcases List.mem_cons.1 h with rfl | h
        · simp
        · exact List.mem_cons_of_mem _ (ih h)
theorem lasts_asc {l : List Pe} (h : Srt l) : Od.Asc ek (lastsL l) := by
  induction l with
  | nil => exact List.Pairwise.nil
  | cons y l ih =>
    cases l with
    | nil => exact List.pairwise_singleton _ _
    | cons z l =>
      unfold lastsL
      have h1 := List.pairwise_cons.1 h
      split
      · exact ih h1.2
      · rename_i hne
        refine List.pairwise_cons.2 ⟨fun x hx => ?_, ih h1.2⟩
        have hx := lasts_mem hx
        have h2 := h1.1 z (by simp)
        rcases List.mem_cons.1 hx with rfl | hx
        · omega
        · have h3 := (List.pairwise_cons.1 h1.2).1 x hx
          omega
theorem lasts_look {l : List Pe} (h : Srt l) (n : Nat) : Od.look ek (lastsL l) n = (l.filter fun x => ek x == n).getLast? := by
  induction l with
  | nil => rfl
  | cons y l ih =>
    cases l with
    | nil =>
      unfold lastsL
      rw [Od.look_cons, Od.look_nil]
      by_cases hy : ek y = n
      · simp [hy]
      · simp [hy]
    | cons z l =>
      have h1 := List.pairwise_cons.1 h
      have ih := ih h1.2
      unfold lastsL
      by_cases hyz : ek y = ek z
      · rw [if_pos hyz, ih, List.filter_cons (x := y)]
        by_cases hy : ek y = n
        · have hz : ek z = n := by omega
          rw [if_pos (by simpa using hy), List.filter_cons, if_pos (by simpa using hz)]
          simp [List.getLast?_cons_cons]
        · rw [if_neg (by simpa using hy)]
      · rw [if_neg hyz, Od.look_cons]
        by_cases hy : ek y = n
        · rw [if_pos hy, List.filter_cons (x := y), if_pos (by simpa using hy)]
          have hn : (z :: l).filter (fun x => ek x == n) = [] := by
            rw [List.filter_eq_nil_iff]
            intro x hx hk
            have hk : ek x = n := by simpa using hk
            have h2 := h1.1 z (by simp)
            rcases List.mem_cons.1 hx with rfl | hx
            · omega
            · have h3 := (List.pairwise_cons.1 h1.2).1 x hx
              omega
          rw [hn]; rfl
        · rw [if_neg hy, ih, List.filter_cons (x := y), if_neg (by simpa using hy)]
/-- entries put one after the other -/
def putsL (a : List En) : List En → List En
  | [] => a
  | e :: l => putsL (insE e.p e.v a) l
theorem Et.puts {k : Nat} {a l : List En} (ha : Et k a) (hl : ∀ e ∈ l, e.p.length = k ∧ ∀ x ∈ e.p, x < 2 ^ 64) : Et k (putsL a l) := by
  induction l generalizing a with
  | nil => exact ha
  | cons e l ih => exact ih (ha.ins e.v (hl e (by simp)).1 (hl e (by simp)).2) fun f hf => hl f (by simp [hf])
theorem puts_look {k : Nat} {a l : List En} (ha : Et k a) (hl : ∀ e ∈ l, e.p.length = k ∧ ∀ x ∈ e.p, x < 2 ^ 64) (n : Nat) :
    Od.look En.key (putsL a l) n = match (l.filter fun e => e.key == n).getLast? with | some e => some e | none => Od.look En.key a n := by
  induction l generalizing a with
  | nil => rfl
  | cons e l ih =>
    have h1 := ih (ha.ins e.v (hl e (by simp)).1 (hl e (by simp)).2) fun f hf => hl f (by simp [hf])
    show Od.look En.key (putsL (insE e.p e.v a) l) n = _
    rw [h1, List.filter_cons]
    have h2 : Od.look En.key (insE e.p e.v a) n = if e.key = n then some e else Od.look En.key a n := (Od.asc_ins ha.asc).2 n
    by_cases he : e.key = n
    · rw [if_pos (by simpa using he)]
      cases hf : l.filter (fun e => e.key == n) with
      | nil => simp [h2, he]
      | cons f fs =>
        rw [List.getLast?_cons_cons]
        cases hz : (f :: fs).getLast? with
        | none => simp at hz
        | some z => rfl
    · rw [if_neg (by simpa using he), h2, if_neg he]
theorem puts_len (a l : List En) : (putsL a l).length ≤ a.length + l.length := by
  induction l generalizing a with
  | nil => exact Nat.le_refl _
  | cons e l ih =>
    have := ih (insE e.p e.v a)
    have h2 : (insE e.p e.v a).length ≤ a.length + 1 := Od.ins_length
    show (putsL (insE e.p e.v a) l).length ≤ _
    simp only [List.length_cons]
    omega
/-- the last ones of what has been sorted are the entries put one after the other -/
theorem lasts_puts {k : Nat} {l m : List Pe} (h : Srt m) (hs : Stb l m) (hl : ∀ x ∈ l, x.2.p.length = k ∧ ∀ c ∈ x.2.p, c < 2 ^ 64) : (lastsL m).map (·.2) = putsL [] (l.map (·.2)) := by
  have hE : Et k (putsL [] (l.map (·.2))) := Et.puts (Et.nil k) fun e he => by obtain ⟨x, hx, rfl⟩ := List.mem_map.1 he; exact hl x hx
  have hA : Od.Asc En.key ((lastsL m).map (·.2)) := by
    unfold Od.Asc; rw [List.pairwise_map]; exact lasts_asc h
  refine Od.ext (key := En.key) hA hE.asc fun n => ?_
  rw [puts_look (Et.nil k) (fun e he => by obtain ⟨x, hx, rfl⟩ := List.mem_map.1 he; exact hl x hx), Od.look_map (key := ek) (key' := En.key) (·.2) (fun x => rfl), lasts_look h, ← hs n, List.filter_map, List.getLast?_map]
  have e : (fun e : En => e.key == n) ∘ (fun x : Pe => x.2) = fun x => ek x == n := rfl
  rw [e]
  cases (l.filter fun x => ek x == n).getLast? with
  | none => rfl
  | some x => rfl
end Go.Proofs.Ytjokcagggmjgmaa
/-! BldP -/
namespace Go.Proofs.Ytjokcagggmjgmaa
open Go.RowKit
set_option linter.unusedVariables false

theorem key_le_agree {a b e : List Nat} {n : Nat} (hab : a.length = b.length) (hae : a.length = e.length) (oa : ∀ c ∈ a, c < 2 ^ 64) (ob : ∀ c ∈ b, c < 2 ^ 64) (oe : ∀ c ∈ e, c < 2 ^ 64)
    (hag : Zb.agree a b (n + 1)) (h1 : pkey a ≤ pkey e) (h2 : pkey e ≤ pkey b) : Zb.agree e a (n + 1) := by
  by_cases hp : Zb.part a e 64 < ((n + 1 : Nat) : Int)
  · exact ((Zb.part_agree a e (n + 1)).1 hp).symm
  · obtain ⟨m, hm⟩ : ∃ m : Nat, Zb.part a e 64 = m := ⟨(Zb.part a e 64).toNat, by omega⟩
    have hm64 : m < 64 := by have := Zb.part_lt a e 64; omega
    have hag2 : Zb.agree a e (m + 1) := (Zb.part_agree a e (m + 1)).1 (by omega)
    have hne : ¬ Zb.agree a e m := fun h => by have := (Zb.part_agree a e m).2 h; omega
    have hd : Zb.addr a m ≠ Zb.addr e m := fun h => hne fun j h3 h4 => by
      by_cases hj : j = m
      · subst hj; exact h
      · exact hag2 j (by omega) h4
    have hb1 : Zb.agree a b (m + 1) := hag.mono (by omega)
    have hb2 : Zb.addr a m = Zb.addr b m := hag m (by omega) hm64
    exfalso
    by_cases hlt : Zb.addr a m < Zb.addr e m
    · have := pkey_lt (p := b) (q := e) (by omega) hm64 (hb1.symm.trans hag2) (by omega)
      omega
    · have := pkey_lt (p := e) (q := a) (by omega) hm64 hag2.symm (by omega)
      omega
theorem asc_head {l : List En} (h : Od.Asc En.key l) (hne : l ≠ []) : ∀ e ∈ l, l.head!.key ≤ e.key := by
  cases l with
  | nil => exact absurd rfl hne
  | cons x l =>
    intro e he
    rcases List.mem_cons.1 he with rfl | he
    · exact Nat.le_refl _
    · exact Nat.le_of_lt (h.head e he)
theorem asc_last {l : List En} (h : Od.Asc En.key l) (hne : l ≠ []) : ∀ e ∈ l, e.key ≤ l.getLast!.key := by
  induction l with
  | nil => exact absurd rfl hne
  | cons x l ih =>
    intro e he
    cases l with
    | nil => obtain rfl : e = x := by simpa using he
             exact Nat.le_refl _
    | cons y l =>
      have hl : (x :: y :: l).getLast! = (y :: l).getLast! := by simp [List.getLast!]
      rw [hl]
      rcases List.mem_cons.1 he with rfl | he
      · have h1 := h.head _ (getLast!_mem (l := y :: l) (by simp))
        omega
      · exact ih h.tail (by simp) e he
theorem head_lt_last {l : List En} (h : Od.Asc En.key l) (h2 : 2 ≤ l.length) : l.head!.key < l.getLast!.key := by
  cases l with
  | nil => simp at h2
  | cons x l =>
    cases l with
    | nil => simp at h2
    | cons y l =>
      have hl : (x :: y :: l).getLast! = (y :: l).getLast! := by simp [List.getLast!]
      rw [hl]
      exact h.head _ (getLast!_mem (l := y :: l) (by simp))
/-- a list of two or more in order is that of a node's kids -/
theorem kd_of {k : Nat} {l : List En} (h : Et k l) (h2 : 2 ≤ l.length) : ∃ n pre ks, Kd k n pre ks ∧ cat ks = l := by
  have hne : l ≠ [] := by intro e; rw [e] at h2; simp at h2
  obtain ⟨a, ha⟩ : ∃ a, l.head! = a := ⟨_, rfl⟩
  obtain ⟨b, hb⟩ : ∃ b, l.getLast! = b := ⟨_, rfl⟩
  have ham : a ∈ l := ha ▸ head!_mem hne
  have hbm : b ∈ l := hb ▸ getLast!_mem hne
  have hab := head_lt_last h.asc h2
  have h1 := asc_head h.asc hne
  have h3 := asc_last h.asc hne
  rw [ha] at hab h1
  rw [hb] at hab h3
  have la := h.len a ham
  have lb := h.len b hbm
  have oa := h.ok a ham
  have ob := h.ok b hbm
  have hpn : ¬ Zb.part a.p b.p 64 < 0 := by
    intro hp
    have hag := (Zb.part_agree a.p b.p 0).1 (by simpa using hp)
    have := (Zb.cut_agree (by rw [la, lb]) oa ob 0).2 hag
    rw [Zb.cutN_zero, Zb.cutN_zero] at this
    have hk : a.key = b.key := by unfold En.key; rw [this]
    omega
  obtain ⟨n, hn⟩ : ∃ n : Nat, Zb.part a.p b.p 64 = n := ⟨(Zb.part a.p b.p 64).toNat, by omega⟩
  have hn64 : n < 64 := by have := Zb.part_lt a.p b.p 64; omega
  have hag : Zb.agree a.p b.p (n + 1) := (Zb.part_agree a.p b.p (n + 1)).1 (by omega)
  have hnag : ¬ Zb.agree a.p b.p n := fun hh => by have := (Zb.part_agree a.p b.p n).2 hh; omega
  have hd : Zb.addr a.p n ≠ Zb.addr b.p n := fun hh => hnag fun j h3 h4 => by
    by_cases hj : j = n
    · subst hj; exact hh
    · exact hag j (by omega) h4
  have hlt : Zb.addr a.p n < Zb.addr b.p n := by
    by_cases hl : Zb.addr a.p n < Zb.addr b.p n
    · exact hl
    · have := pkey_lt (p := b.p) (q := a.p) (by omega) hn64 hag.symm (by omega)
      have e1 : pkey b.p = b.key := rfl
      have e2 : pkey a.p = a.key := rfl
      omega
  have hpre : ∀ e ∈ l, Zb.cutN e.p (n + 1) = Zb.cutN a.p (n + 1) := fun e he =>
    (Zb.cut_agree (by rw [h.len e he, la]) (h.ok e he) oa _).2 (key_le_agree (by rw [la, lb]) (by rw [la, h.len e he]) oa ob (h.ok e he) hag (h1 e he) (h3 e he))
  have one : ∀ e ∈ l, Et k [e] := fun e he => by
    have := Et.one (k := k) e.v (h.len e he) (h.ok e he)
    exact this
  have base : Kd k n (Zb.cutN a.p (n + 1)) [(Zb.addr a.p n, [a]), (Zb.addr b.p n, [b])] := by
    refine Kd.pair hn64 hlt (by simp) (by simp) (one a ham) (one b hbm) ?_ ?_ ?_ ?_
    all_goals intro e he; obtain rfl := List.mem_singleton.1 he
    · rfl
    · exact hpre _ hbm
    · rfl
    · rfl
  have step : ∀ es : List En, (∀ e ∈ es, e ∈ l) → ∃ ks, Kd k n (Zb.cutN a.p (n + 1)) ks ∧ ∀ e, e ∈ cat ks ↔ (e = a ∨ e = b ∨ e ∈ es) := by
    intro es
    induction es with
    | nil =>
      intro _
      refine ⟨_, base, fun e => ?_⟩
      simp [cat]
    | cons x es ih =>
      intro hes
      obtain ⟨ks, hk, hm⟩ := ih fun e he => hes e (by simp [he])
      have hx := hes x (by simp)
      obtain ⟨i1, i2⟩ := hk.ins x.v (h.len x hx) (h.ok x hx) (hpre x hx)
      refine ⟨_, i1, fun e => ?_⟩
      rw [i2, hk.cat_et.mem_ins, hm]
      have hxx : (⟨x.p, x.v⟩ : En) = x := rfl
      rw [hxx]
      have sub : ∀ e, (e = a ∨ e = b ∨ e ∈ es) → e ∈ l := fun e he => by
        rcases he with rfl | rfl | he
        · exact ham
        · exact hbm
        · exact hes e (by simp [he])
      constructor
      · rintro (rfl | ⟨hh, _⟩)
        · simp
        · rcases hh with h | h | h
          · exact .inl h
          · exact .inr (.inl h)
          · exact .inr (.inr (by simp [h]))
      · intro hh
        by_cases hex : e = x
        · exact .inl hex
        · have h4 : e = a ∨ e = b ∨ e ∈ es := by
            rcases hh with h | h | h
            · exact .inl h
            · exact .inr (.inl h)
            · rcases List.mem_cons.1 h with h | h
              · exact absurd h hex
              · exact .inr (.inr h)
          refine .inr ⟨h4, fun hk => hex ?_⟩
          have h5 := Od.look_mem h.asc (sub e h4)
          have h6 := Od.look_mem h.asc hx
          have h7 : e.key = x.key := hk
          rw [h7, h6] at h5
          injection h5 with h5
          exact h5.symm
  obtain ⟨ks, hk, hm⟩ := step l fun e he => he
  refine ⟨n, _, ks, hk, hk.cat_et.ext h fun e => ?_⟩
  rw [hm]
  constructor
  · rintro (rfl | rfl | h)
    · exact ham
    · exact hbm
    · exact h
  · exact fun h => .inr (.inr h)
end Go.Proofs.Ytjokcagggmjgmaa
/-! BldQ -/
namespace Go.Proofs.Ytjokcagggmjgmaa
open Go.RowKit
set_option linter.unusedVariables false

theorem cat_take_succ (L : List (Nat × List En)) (j : Nat) (h : j < L.length) : cat (L.take (j + 1)) = cat (L.take j) ++ L[j].2 := by
  unfold cat
  rw [← List.take_append_getElem h, List.flatMap_append]
  simp
theorem cat_split (L : List (Nat × List En)) (j : Nat) (h : j < L.length) : cat L = cat (L.take j) ++ (L[j].2 ++ cat (L.drop (j + 1))) := by
  conv => lhs; rw [← List.take_append_drop j L, ← List.getElem_cons_drop h]
  unfold cat
  rw [List.flatMap_append, List.flatMap_cons]
theorem cat_part (L : List (Nat × List En)) (j : Nat) (h : j < L.length) : ((cat L).drop (cat (L.take j)).length).take L[j].2.length = L[j].2 := by
  rw [cat_split L j h, List.drop_left, List.take_left]
theorem cat_get (L : List (Nat × List En)) (j t : Nat) (h : j < L.length) (ht : t < L[j].2.length) (hb : (cat (L.take j)).length + t < (cat L).length) : (cat L)[(cat (L.take j)).length + t] = L[j].2[t] := by
  have h1 := cat_split L j h
  have : (cat L)[(cat (L.take j)).length + t]? = some L[j].2[t] := by
    rw [h1, List.getElem?_append_right (by omega), Nat.add_sub_cancel_left, List.getElem?_append_left ht, List.getElem?_eq_getElem ht]
  rw [List.getElem?_eq_getElem hb] at this
  injection this
theorem cat_room (L : List (Nat × List En)) (j : Nat) (h : j < L.length) : (cat (L.take j)).length + L[j].2.length ≤ (cat L).length := by
  have h1 := congrArg List.length (cat_split L j h)
  simp only [List.length_append] at h1
  omega
theorem Kd.take {k n : Nat} {pre : List Nat} {L : List (Nat × List En)} (h : Kd k n pre L) {j : Nat} (h2 : 2 ≤ j) (hj : j ≤ L.length) : Kd k n pre (L.take j) := by
  have hm : ∀ x ∈ L.take j, x ∈ L := fun x hx => List.mem_of_mem_take hx
  exact ⟨by rw [List.length_take]; omega, h.n64, List.Pairwise.sublist (List.take_sublist j L) h.asc, fun x hx => h.ne x (hm x hx), fun x hx => h.et x (hm x hx), fun x hx => h.pre x (hm x hx), fun x hx => h.adr x (hm x hx)⟩
theorem ins_last {α : Type} {key : α → Nat} {x : α} {l : List α} (h : ∀ y ∈ l, key y < key x) : Od.ins key x l = l ++ [x] := by
  induction l with
  | nil => rfl
  | cons y l ih =>
    unfold Od.ins
    rw [if_pos (h y (by simp)), ih fun z hz => h z (by simp [hz])]
    rfl
theorem Kd.uniq {k n n' : Nat} {pre pre' : List Nat} {L M : List (Nat × List En)} (h : Kd k n pre L) (g : Kd k n' pre' M) (e : cat L = cat M) : L = M := by
  have h1 := h.kids
  have h2 := h.places
  rw [e] at h1 h2
  rw [g.kids] at h1
  rw [g.places] at h2
  have key : ∀ (a b : List (Nat × List En)), a.map (·.1) = b.map (·.1) → a.map (·.2) = b.map (·.2) → a = b := by
    intro a
    induction a with
    | nil => intro b h _; cases b with
      | nil => rfl
      | cons y b => simp at h
    | cons x a ih =>
      intro b h g
      cases b with
      | nil => simp at h
      | cons y b =>
        simp only [List.map_cons, List.cons.injEq] at h g
        rw [ih b h.2 g.2, Prod.ext h.1 g.1]
  exact key L M h2.symm h1.symm
theorem bld_pair (w : World) (k n g0 g1 : Nat) (pre : List Nat) (L : List (Nat × List En)) (h : Kd k n pre L) (k1 : 1 ≤ k) (k16 : k ≤ 16) (h2 : 2 ≤ L.length) (n0 : Nd w k g0 (L[0]'(by omega)).2) (n1 : Nd w k g1 (L[1]'(by omega)).2) :
    Calls Try.prog 68 #[.pointer (some ⟨g0, 0, none⟩), .pointer (some ⟨g1, 0, none⟩)] w fun e w' => NdT w k (cat (L.take 2)) e w' := by
  cases L with
  | nil => simp at h2
  | cons x L =>
  cases L with
  | nil => simp at h2
  | cons y L =>
  obtain ⟨ax, lx⟩ := x
  obtain ⟨ay, ly⟩ := y
  simp only [List.getElem_cons_zero, List.getElem_cons_succ] at n0 n1
  obtain ⟨p1, p2, p3⟩ := h.kid_in (a := ax) (m := lx) (by simp)
  obtain ⟨q1, q2, q3⟩ := h.kid_in (a := ay) (m := ly) (by simp)
  have hlt : ax < ay := h.asc.head (ay, ly) (by simp)
  obtain ⟨u1, u2, u3⟩ := n0.pre_ok
  obtain ⟨v1, v2, v3⟩ := n1.pre_ok
  have hm : Zb.part (Go.Proofs.Ytjokcagggmjgmaa.preL lx) (Go.Proofs.Ytjokcagggmjgmaa.preL ly) 64 = n := Zb.part_eq h.n64 ((Zb.cut_agree (by rw [u1, v1]) u2 v2 _).1 (by rw [p1, q1])) (by rw [p2, q2]; omega)
  have := npair_any w k g0 g1 n lx ly n0 n1 hm p3 q3 k1 k16
  rw [p2, q2] at this
  have e : pairKs ax ay g0 g1 lx ly = [(ax, g0, lx), (ay, g1, ly)] := by
    unfold pairKs Od.ins ka
    rw [if_pos hlt]
    rfl
  rw [e] at this
  exact this
theorem bld_with (w : World) (k n g gk j : Nat) (pre : List Nat) (L : List (Nat × List En)) (h : Kd k n pre L) (h2 : 2 ≤ j) (hj : j < L.length) (hn : Nd w k g (cat (L.take j))) (hk : Nd w k gk L[j].2) :
    Calls Try.prog 93 #[.pointer (some ⟨g, 0, none⟩), .pointer (some ⟨gk, 0, none⟩)] w fun e w' => NdT w k (cat (L.take (j + 1))) e w' := by
  have hT := h.take h2 (Nat.le_of_lt hj)
  obtain ⟨s, m, pr, ks, e1, hh, hs, hk2, hnn⟩ := hn.node_of (by rw [hT.lev]; omega)
  have hu := hT.uniq hk2 e1
  have hm : m = n := by
    have h1 := hT.lev
    have h2 := hk2.lev
    rw [e1] at h1
    omega
  have hpr : pr = pre := by
    have h1 := hT.preL
    have h2 := hk2.preL
    rw [e1] at h1
    rw [← h1, h2]
  subst hm hpr
  obtain ⟨p1, p2, p3⟩ := h.kid_in (a := L[j].1) (m := L[j].2) (List.getElem_mem hj)
  have := nwith_any w k g s m gk pr ks L[j].2 hh hs hk2 hnn hk p1 p3
  rw [p2, ← hu, ins_last (fun y hy => ?_)] at this
  · rw [show L.take j ++ [(L[j].1, L[j].2)] = L.take (j + 1) from by rw [List.take_append_getElem hj]] at this
    exact this
  · obtain ⟨i, hi, rfl⟩ := List.mem_iff_getElem.1 hy
    rw [List.length_take] at hi
    rw [List.getElem_take]
    exact List.pairwise_iff_getElem.1 h.asc i j (by omega) hj (by omega)
end Go.Proofs.Ytjokcagggmjgmaa
/-! IsT -/
namespace Go.Proofs.Ytjokcagggmjgmaa
open Go.RowKit
set_option linter.unusedVariables false
set_option linter.unusedSimpArgs false
set_option maxRecDepth 100000








theorem RdS.mono {Pt Qt : PtS'} {w : World} {v : Value} {l : List Sh} (h : RdS Pt w v l) (hk : ∀ u p s, Pt u p s → Qt u p s) : RdS Qt w v l := by
  obtain ⟨A, c, e, h⟩ := h
  exact ⟨A, c, e, fun hp => let ⟨b, h1, h2⟩ := h hp; ⟨b, h1, fun j hj => let ⟨u, pl, a0, a1, a2, a3, a4, a5⟩ := h2 j hj; ⟨u, pl, a0, a1, a2, a3, a4, hk _ _ _ a5⟩⟩⟩
theorem RdS.below {Pt : PtS'} {w w' : World} {v : Value} {l : List Sh} (h : RdS Pt w v l) (hb : Below w.heap.size w w') : RdS Pt w' v l := by
  obtain ⟨A, c, e, h⟩ := h
  have hk := Below.keeps hb
  exact ⟨A, c, e, fun hp => let ⟨b, h1, h2⟩ := h hp; ⟨b, h1, fun j hj => let ⟨u, pl, a0, a1, a2, a3, a4, a5⟩ := h2 j hj; ⟨u, pl, hk _ _ a0, hk _ _ a1, hk _ _ a2, hk _ _ a3, hk _ _ a4, a5⟩⟩⟩
end Go.Proofs.Ytjokcagggmjgmaa
/-! BldA -/
namespace Go.Proofs.Ytjokcagggmjgmaa
open Go.RowKit
set_option linter.unusedVariables false
set_option linter.unusedSimpArgs false
set_option maxRecDepth 100000

/-- a node is handed back -/
def BldR (W : World) (k : Nat) (l : List En) (e : Ending) (w' : World) : Prop := ∃ g, e = .returned (.pointer (some ⟨g, 0, none⟩)) ∧ Nd w' k g l ∧ Below W.heap.size W w'
theorem bld_nil (w : World) (A : Option Addr) (c : Nat) : Calls Try.prog 55 #[.slice A 0 c] w fun e w' => e = .returned (.pointer none) ∧ w' = w := by
  go_enter Try.func55, Try.ntmps55
  go_wp2_with fail
  go_ret
  exact ⟨rfl, rfl⟩
theorem two_of {l : List En} (hne : l ≠ []) (h : ¬ (lev l : Int) - 1 < 0) : 2 ≤ l.length := by
  cases l with
  | nil => exact absurd rfl hne
  | cons x l =>
    cases l with
    | nil => rw [lev_one] at h; omega
    | cons y l => simp
theorem single_of {k : Nat} {l : List En} {p0 : List Nat} {x0 : Nat} (he : Et k l) (hne : l ≠ []) (h : (lev l : Int) - 1 < 0) (h0 : ∀ h : 0 < l.length, (l[0]'h).v = x0 ∧ (l[0]'h).p = p0) : l = [⟨p0, x0⟩] := by
  cases l with
  | nil => exact absurd rfl hne
  | cons x l =>
    cases l with
    | nil =>
      obtain ⟨h1, h2⟩ := h0 (by simp)
      simp only [List.getElem_cons_zero] at h1 h2
      rw [← h1, ← h2]
    | cons y l =>
      obtain ⟨n, pre, ks, hk, hc⟩ := kd_of he (by simp)
      have := hk.lev
      rw [hc] at this
      omega
set_option maxHeartbeats 8000000 in
theorem bld_step (w : World) (k : Nat) (l : List En) (v : Value) (k1 : 1 ≤ k) (k16 : k ≤ 16) (hv : RdE w v l) (he : EtS k l) (hne : l ≠ []) (hvv : ∀ e ∈ l, e.v < 2 ^ 64)
    (ih : ∀ (m : List En) (w' : World) (v' : Value), m.length < l.length → RdE w' v' m → EtS k m → m ≠ [] → (∀ e ∈ m, e.v < 2 ^ 64) → Calls Try.prog 55 #[v'] w' fun e w'' => BldR w' k m e w'') :
    Calls Try.prog 55 #[v] w fun e w' => BldR w k l e w' := by
  have HV := Lib.hid hv
  obtain ⟨A, c, rfl, ⟨hlc, hcm, _⟩, hx⟩ := hv
  obtain ⟨M, hM⟩ : ∃ M, l.length = M + 1 := ⟨l.length - 1, by have := List.length_pos_iff.2 hne; omega⟩
  obtain ⟨b, o, rfl, hc⟩ := hx (by omega)
  obtain ⟨u0, k00, ku0, k01⟩ := hc 0 (by omega)
  obtain ⟨u1, k10, ku1, k11⟩ := hc M (by omega)
  have e0 : l[0].p.length = k := he.et.len _ (List.getElem_mem (by omega))
  have eM : l[M].p.length = k := he.et.len _ (List.getElem_mem (by omega))
  have o0 := he.et.ok _ (List.getElem_mem (show 0 < l.length by omega))
  have oM := he.et.ok _ (List.getElem_mem (show M < l.length by omega))
  have HLF := Lib.hid (fun w' (hb : Below w.heap.size w w') => nleaf_any w' l[0].p l[0].v u0 (ku0.below hb) (by omega) (by omega) o0 (hvv _ (List.getElem_mem (by omega))))
  have HPT := Lib.hid (fun w' (hb : Below w.heap.size w w') => zPart_any l[0].p l[M].p u0 u1 w' (ku0.below hb) (ku1.below hb) (by omega) (by omega) (by omega) o0 oM)
  obtain ⟨A0, cx, rfl, z0⟩ := RdU.point ku0
  obtain ⟨A1, cy, rfl, z1⟩ := RdU.point ku1
  rw [e0] at k00 HLF HPT
  rw [eM] at k10 HPT
  simp only [Nat.zero_mul, Nat.add_zero] at k00 k01
  have hbl := World.block_lt_of_cell? w _ k00
  have HD := Lib.hid (And.intro hM (And.intro he (And.intro hlc hcm)))
  have hle : l.length ≤ 1000 := he.short
  have hM0 : (0 : Int) < (M : Int) + 1 := by omega
  have hM1 : (0 : Int) ≤ (M : Int) := by omega
  have hM2 : (M : Int) < (M : Int) + 1 := by omega
  have hM3 : (((M : Int) + 1) == 0) = false := by rw [beq_eq_false_iff_ne]; omega
  have HP0 := Lib.hid (show ∀ (h0 : 0 < l.length) (h1 : M < l.length), Zb.part l[0].p l[M].p 64 = (lev l : Int) - 1 from fun h0 h1 => by
    cases l with
    | nil => exact absurd rfl hne
    | cons x l' =>
      have e1 : (x :: l').head! = x := rfl
      have e2 : (x :: l').getLast! = (x :: l')[M] := by
        have hl : (x :: l').getLast! = (x :: l').getLast (by simp) := by simp [List.getLast!]
        rw [hl, List.getLast_eq_getElem]
        congr 1
        omega
      unfold lev
      rw [e1, e2]
      have := Zb.part_ge ((x :: l')[0].p) ((x :: l')[M].p) 64
      simp only [List.getElem_cons_zero] at this ⊢
      omega)
  have hw : wrap64 (M : Int) = (M : Int) := by unfold wrap64; omega
  have hw2 : IntKind.i64.wrap (M : Int) = (M : Int) := by rw [IntKind.wrap_i64]; omega
  obtain ⟨x0, hx0⟩ : ∃ x0, l[0].v = x0 := ⟨_, rfl⟩
  obtain ⟨x1, hx1⟩ : ∃ x1, l[M].v = x1 := ⟨_, rfl⟩
  obtain ⟨p0, hp0⟩ : ∃ p0, l[0].p = p0 := ⟨_, rfl⟩
  rw [hx0] at k01
  rw [hx1] at k11
  obtain ⟨lv, hlv⟩ : ∃ lv : Int, lv = (lev l : Int) - 1 := ⟨_, rfl⟩
  rw [HP0.out (by omega) (by omega), ← hlv] at HPT
  rw [hp0, hx0] at HLF
  rw [hM]
  have HX := Lib.hid (And.intro hc (And.intro hlv (show ∀ h : 0 < l.length, (l[0]'h).v = x0 ∧ (l[0]'h).p = p0 from fun h => ⟨hx0, hp0⟩)))
  have HVV := Lib.hid hvv
  have HIH0 := Lib.hid ih
  have HNE := Lib.hid hne
  have HES := Lib.hid he
  clear ih hc ku0 ku1 z0 z1 hx e0 eM o0 oM hvv HP0 hlc hcm hx0 hx1 hp0 hlv
  have HM := Lib.hid hM
  clear hM
  go_enter Try.func55, Try.ntmps55
  go_wp2_with fail
  go_region_held3 (fun w' => w'.cell? ⟨b, o, none⟩ = some (.slice A0 k cx) ∧ w'.cell? ⟨b, o + 1, none⟩ = some (.int .u64 (x0 : Nat)) ∧ w'.cell? ⟨b, o + M * 2, none⟩ = some (.slice A1 k cy) ∧ w'.cell? ⟨b, o + M * 2 + 1, none⟩ = some (.int .u64 (x1 : Nat)))
    (exact ⟨Below.keeps (by repeat (first | exact Below.refl _ _ | (refine Below.drew ?_) | (refine below_drewN' ?_ _) | (refine below_alloc' ?_ _) | (refine Below.setCell ?_ (by first | exact Nat.le_refl _ | (simp; done) | (simp; omega)) _))) _ _ k00, Below.keeps (by repeat (first | exact Below.refl _ _ | (refine Below.drew ?_) | (refine below_drewN' ?_ _) | (refine below_alloc' ?_ _) | (refine Below.setCell ?_ (by first | exact Nat.le_refl _ | (simp; done) | (simp; omega)) _))) _ _ k01, Below.keeps (by repeat (first | exact Below.refl _ _ | (refine Below.drew ?_) | (refine below_drewN' ?_ _) | (refine below_alloc' ?_ _) | (refine Below.setCell ?_ (by first | exact Nat.le_refl _ | (simp; done) | (simp; omega)) _))) _ _ k10, Below.keeps (by repeat (first | exact Below.refl _ _ | (refine Below.drew ?_) | (refine below_drewN' ?_ _) | (refine below_alloc' ?_ _) | (refine Below.setCell ?_ (by first | exact Nat.le_refl _ | (simp; done) | (simp; omega)) _))) _ _ k11⟩)
    (fail)
  · go_wp2_with fail
    refine (HLF.out _ (by repeat (first | exact Below.refl _ _ | (refine Below.drew ?_) | (refine below_drewN' ?_ _) | (refine below_alloc' ?_ _) | (refine Below.setCell ?_ (by first | exact Nat.le_refl _ | (simp; done) | (simp; omega)) _)))).mono ?_
    rintro e w1 ⟨g1, rfl, hn1, hb1⟩
    have f0 : w1.cell? ⟨w.heap.size, 0, none⟩ = some (.slice A0 k cx) := Below.keeps hb1 _ _ (by simp [go_sem])
    have l0 : w1.cell? ⟨w.heap.size + 1, 0, none⟩ = some (.slice A1 k cy) := Below.keeps hb1 _ _ (by simp [go_sem])
    have hfl := World.block_lt_of_cell? w1 _ f0
    have hll := World.block_lt_of_cell? w1 _ l0
    have HB1 := Lib.hid (show Below w.heap.size w w1 from below_trans (by repeat (first | exact Below.refl _ _ | (refine Below.drew ?_) | (refine below_drewN' ?_ _) | (refine below_alloc' ?_ _) | (refine Below.setCell ?_ (by first | exact Nat.le_refl _ | (simp; done) | (simp; omega)) _))) hb1)
    have HN1 := Lib.hid hn1
    clear hb1 hn1
    go_wp2_with fail
    refine (HPT.out _ HB1.out).mono ?_
    rintro e w2 ⟨rfl, hw9⟩
    obtain rfl := hw9.symm
    clear hw9 f0 l0 hfl hll
    by_cases hlv0 : lv < 0
    · have HE1 := Lib.hid (show l = [⟨p0, x0⟩] from single_of HES.out.et HNE.out (by have := HX.out.2.1; omega) HX.out.2.2)
      go_wp2_with fail
      go_ret
      exact ⟨g1, rfl, by rw [HE1.out]; exact HN1.out, HB1.out⟩
    · have hl2 : 2 ≤ l.length := two_of HNE.out (by have := HX.out.2.1; omega)
      obtain ⟨n, pre, L, hk, hL⟩ := kd_of HES.out.et hl2
      subst hL
      have hln : lv = (n : Int) := by have := HX.out.2.1; rw [this, hk.lev]; omega
      subst hln
      have HK := Lib.hid hk
      have HAX := Lib.hid (fun (i a : Nat) (hi : i < (cat L).length) (ha : Zb.addr ((cat L)[i]).p n = a) (W : World) (hb : Below w.heap.size w W) => (show ∃ (Au : Option Addr) (cu : Nat), W.cell? ⟨b, o + i * 2, none⟩ = some (.slice Au k cu) ∧ Calls Try.prog 70 #[.slice Au k cu, .int .i64 (n : Nat)] W fun e w' => e = .returned (.tuple #[.int .i64 (a : Nat), .int .i64 0]) ∧ w' = W from by
        obtain ⟨u, q0, qu, q1⟩ := HX.out.1 i hi
        have hlen := HES.out.et.len _ (List.getElem_mem hi)
        have hz := zAddr_any ((cat L)[i]).p n u W (qu.below hb) (by omega) (by omega) (HES.out.et.ok _ (List.getElem_mem hi)) hk.n64
        obtain ⟨Au, cu, rfl, _⟩ := RdU.point qu
        rw [hlen] at q0 hz
        rw [ha] at hz
        exact ⟨Au, cu, Below.keeps hb _ _ q0, hz⟩))
      clear hl2 hk
      go_wp2_with fail
      go_loopw [9, 10, 11, 12, 14, 16] (fun ov fv iv _ _ _ wr => ∃ (i j : Nat) (r : Option Nat), ov = pv r ∧ fv = .int .i64 ((cat (L.take j)).length : Nat) ∧ iv = .int .i64 (i : Nat) ∧ 1 ≤ i ∧ i ≤ M + 2 ∧
          ((∃ hj : j < L.length, (cat (L.take j)).length < i ∧ i ≤ (cat (L.take j)).length + L[j].2.length) ∨ (j = L.length ∧ i = M + 2)) ∧ (r = none ↔ j = 0) ∧ (∀ g, r = some g → Nd wr k g (cat (L.take j))) ∧ Below w.heap.size w wr) (fun _ _ iv _ _ _ _ => M + 2 - (intOf iv).toNat)
      case atStart =>
        have h2 := HK.out.two
        refine ⟨1, 0, none, rfl, rfl, rfl, Nat.le_refl _, by omega, .inl ⟨by omega, by simp [cat], ?_⟩, by simp, (fun g h => by cases h), HB1.out⟩
        have := List.length_pos_iff.2 (HK.out.ne _ (List.getElem_mem (show 0 < L.length by omega)))
        simp [cat]; omega
      case round =>
        obtain ⟨i, j, r, rfl, rfl, rfl, hi1, hi2, hcase, hr, hnd, hb⟩ := hrel
        have HB := Lib.hid hb
        have HMC := HM.out
        rcases hcase with ⟨hj, hF1, hF2⟩ | ⟨rfl, rfl⟩
        · have hroom := cat_room L j hj
          obtain ⟨fr, hfr⟩ : ∃ fr, (cat (L.take j)).length = fr := ⟨_, rfl⟩
          have HFR := Lib.hid hfr
          have hkadr := HK.out.adr _ (List.getElem_mem hj)
          have HFA := Lib.hid (show ∀ h : fr < (cat L).length, Zb.addr ((cat L)[fr]'h).p n = L[j].1 from fun h => by
            have h0 : 0 < L[j].2.length := List.length_pos_iff.2 (HK.out.ne _ (List.getElem_mem hj))
            have e : (cat L)[fr]'h = L[j].2[0] := by have := cat_get L j 0 hj h0 (by omega); simpa [hfr] using this
            rw [e]; exact hkadr _ (List.getElem_mem h0))
          have HFL := Lib.hid (show fr < (cat L).length by omega)
          rw [hfr] at hF1 hF2 hroom ⊢
          have h3 : (i : Int) ≤ (M : Int) + 1 := by omega
          have h5 : (0 : Int) ≤ (fr : Int) := by omega
          have h6 : (fr : Int) ≤ (i : Int) := by omega
          have h7 : (i : Int) ≤ (c : Int) := by have := HD.out.2.2.1; omega
          have h8 : (0 : Int) ≤ (i : Int) := by omega
          have h9 : (fr : Int) < (M : Int) + 1 := by omega
          have HW := Lib.hid (show wrap64 ((i : Int) + 1) = ((i + 1 : Nat) : Int) by have := HES.out.short; unfold wrap64; omega)
          by_cases hgo : i < M + 1 ∧ i < fr + L[j].2.length
          · have hd4 : (i : Int) < (M : Int) + 1 := by omega
            have hia : Zb.addr ((cat L)[i]'(by omega)).p n = L[j].1 := by
              have e : (cat L)[i]'(by omega) = L[j].2[i - fr]'(by omega) := by
                have := cat_get L j (i - fr) hj (by omega) (by rw [hfr]; omega)
                rw [← this]
                congr 1
                omega
              rw [e]; exact hkadr _ (List.getElem_mem _)
            obtain ⟨Au, cu, q0, HA1⟩ := HAX.out i _ (by omega) hia wr hb
            obtain ⟨Au2, cu2, q1, HA2⟩ := HAX.out fr _ HFL.out (HFA.out HFL.out) wr hb
            have hbw := World.block_lt_of_cell? wr _ q0
            have HREL := Lib.hid (And.intro hr (And.intro hnd hgo))
            have HREL2 := Lib.hid (show (∃ hj : j < L.length, (cat (L.take j)).length < i + 1 ∧ i + 1 ≤ (cat (L.take j)).length + L[j].2.length) from ⟨hj, by rw [hfr]; omega, by rw [hfr]; omega⟩)
            obtain ⟨a1, ha1⟩ : ∃ a1, L[j].1 = a1 := ⟨_, rfl⟩
            rw [ha1] at HA1 HA2
            obtain ⟨q, hq⟩ := pv_ex r
            have HQ := Lib.hid hq
            rw [hq]
            clear hia ha1 hkadr hr hnd hb hgo hq hi2
            go_wp2_with fail
            refine HA1.mono ?_
            rintro e w7 ⟨rfl, hw7⟩
            obtain rfl := hw7.symm
            clear hw7
            go_wp2_with fail
            refine HA2.mono ?_
            rintro e w7 ⟨rfl, hw7⟩
            obtain rfl := hw7.symm
            clear hw7
            go_wp2_with fail
            go_roundw
            case rel => exact ⟨i + 1, j, r, HQ.out.symm, by rw [HFR.out], (by first | rw [HW.out] | rfl | simp), by omega, by omega, .inl HREL2.out, HREL.out.1, HREL.out.2.1, HB.out⟩
            case measure => (first | (rw [intOf_of' HW.out, intOf_of' rfl]; omega) | (simp [intOf]; omega) | (simp [intOf] <;> omega))
          · have hiF : i = fr + L[j].2.length := by omega
            have HJ := Lib.hid hj
            have HNJ := Lib.hid (show (i < M + 1 → j + 1 < L.length) ∧ ∀ (h : i < (cat L).length) (h1 : j + 1 < L.length), Zb.addr ((cat L)[i]'h).p n = L[j + 1].1 from by
              have hs := cat_take_succ L j hj
              have hlen : (cat (L.take (j + 1))).length = i := by rw [hs, List.length_append, hfr]; omega
              refine ⟨fun h => ?_, fun h h1 => ?_⟩
              · rcases Nat.lt_or_ge (j + 1) L.length with h2 | h2
                · exact h2
                · rw [List.take_of_length_le h2] at hlen; omega
              · have h0 : 0 < L[j + 1].2.length := List.length_pos_iff.2 (HK.out.ne _ (List.getElem_mem h1))
                have e := cat_get L (j + 1) 0 h1 h0 (by omega)
                have e2 : (cat L)[i]'h = L[j + 1].2[0] := by rw [← e]; congr 1; omega
                rw [e2]; exact HK.out.adr _ (List.getElem_mem h1) _ (List.getElem_mem h0))
            have HNX := Lib.hid (show ((∃ hj : j + 1 < L.length, (cat (L.take (j + 1))).length < i + 1 ∧ i + 1 ≤ (cat (L.take (j + 1))).length + L[j + 1].2.length) ∨ (j + 1 = L.length ∧ i + 1 = M + 2)) from by
              have hs := cat_take_succ L j hj
              have hlen : (cat (L.take (j + 1))).length = i := by rw [hs, List.length_append, hfr]; omega
              rcases Nat.lt_or_ge (j + 1) L.length with h2 | h2
              · refine .inl ⟨h2, by omega, ?_⟩
                have := List.length_pos_iff.2 (HK.out.ne _ (List.getElem_mem h2))
                omega
              · refine .inr ⟨by omega, ?_⟩
                rw [List.take_of_length_le h2] at hlen; omega)
            have FEQ0 : (cat (L.take (j + 1))).length = i := by
              have hs := cat_take_succ L j hj
              rw [hs, List.length_append, hfr]; omega
            have hsl := (HV.out.drop' fr (by omega))
            rw [← List.length_drop] at hsl
            have hcf : ¬ c = fr := by have := HD.out.2.2.1; omega
            rw [if_neg hcf] at hsl
            have hsl2 := RdE.take hsl (i - fr) (by rw [List.length_drop]; omega)
            have hpart := cat_part L j hj
            rw [hfr, show L[j].2.length = i - fr by omega] at hpart
            rw [hpart] at hsl2
            have hkl := HK.out.kid_lt (List.getElem_mem hj)
            have HIH := Lib.hid (fun W (hb2 : Below wr.heap.size wr W) => HIH0.out L[j].2 W _ (by rw [← HM.out] at *; exact hkl) (hsl2.below (hb.trans (hb2.mono hb.size))) ⟨HK.out.et _ (List.getElem_mem hj), HES.out.k40, by have := HES.out.short; omega⟩ (HK.out.ne _ (List.getElem_mem hj)) (fun e he => HVV.out e (mem_cat.2 ⟨_, List.getElem_mem hj, he⟩)))
            have HIF := Lib.hid (And.intro hiF (And.intro hF1 hF2))
            clear hsl hsl2 hpart hkl hkadr hgo hi2 hiF hF1 hF2 hroom
            cases r with
            | none =>
              obtain rfl : j = 0 := hr.1 rfl
              have HT1 := Lib.hid (show cat (L.take (0 + 1)) = L[0].2 from by rw [cat_take_succ L 0 hj]; rfl)
              have FEQH := Lib.hid (show Value.int .i64 (i : Nat) = .int .i64 ((cat (L.take 1)).length : Nat) from by rw [FEQ0])
              clear hr hnd hb hfr FEQ0
              simp only [pv_none]
              by_cases hend : i < M + 1
              · have hj1 : 0 + 1 < L.length := HNJ.out.1 hend
                have hil : i < (cat L).length := by rw [HM.out]; exact hend
                obtain ⟨Au, cu, q0, HA1⟩ := HAX.out i _ hil (HNJ.out.2 hil hj1) wr HB.out
                obtain ⟨Au2, cu2, q1, HA2⟩ := HAX.out fr _ HFL.out (HFA.out HFL.out) wr HB.out
                have hbw := World.block_lt_of_cell? wr _ q0
                have hneq : ((L[0 + 1].1 : Int) == (L[0]'(by omega)).1) = false := by
                  have := List.pairwise_iff_getElem.1 HK.out.asc 0 (0 + 1) (by omega) hj1 (by omega)
                  rw [beq_eq_false_iff_ne]
                  have h9 : (L[0]'(by omega)).1 < L[0 + 1].1 := this
                  omega
                obtain ⟨a1, ha1⟩ : ∃ a1, L[0 + 1].1 = a1 := ⟨_, rfl⟩
                obtain ⟨a2, ha2⟩ : ∃ a2, (L[0]'(by omega)).1 = a2 := ⟨_, rfl⟩
                rw [ha1] at HA1 hneq
                rw [ha2] at HA2 hneq
                clear ha1 ha2
                have hd4 : (i : Int) < (M : Int) + 1 := by omega
                go_wp2_with fail
                refine HA1.mono ?_
                rintro e w7 ⟨rfl, hw7⟩
                obtain rfl := hw7.symm
                clear hw7
                go_wp2_with fail
                refine HA2.mono ?_
                rintro e w7 ⟨rfl, hw7⟩
                obtain rfl := hw7.symm
                clear hw7
                go_wp2_with fail
                refine (HIH.out _ (Below.refl _ _)).mono ?_
                rintro e w6 ⟨g2, rfl, hn2, hb2⟩
                have HN2 := Lib.hid (And.intro hn2 (HB.out.trans (hb2.mono HB.out.size)))
                have HR1 := Lib.hid (show ∀ g, some g2 = some g → Nd w6 k g (cat (L.take 1)) from fun g hg => by injection hg with hg; subst hg; rw [HT1.out]; exact hn2)
                clear hn2 hb2
                go_wp2_with fail
                go_roundw
                case rel => exact ⟨i + 1, 1, some g2, rfl, FEQH.out, (by first | rw [HW.out] | rfl | simp), by omega, by omega, HNX.out, by simp, HR1.out, HN2.out.2⟩
                case measure => (first | (rw [intOf_of' HW.out, intOf_of' rfl]; omega) | (simp [intOf]; omega) | (simp [intOf] <;> omega))
              · have hd4 : ¬ (i : Int) < (M : Int) + 1 := by omega
                go_wp2_with fail
                refine (HIH.out _ (Below.refl _ _)).mono ?_
                rintro e w6 ⟨g2, rfl, hn2, hb2⟩
                have HN2 := Lib.hid (And.intro hn2 (HB.out.trans (hb2.mono HB.out.size)))
                have HR1 := Lib.hid (show ∀ g, some g2 = some g → Nd w6 k g (cat (L.take 1)) from fun g hg => by injection hg with hg; subst hg; rw [HT1.out]; exact hn2)
                clear hn2 hb2
                go_wp2_with fail
                go_roundw
                case rel => exact ⟨i + 1, 1, some g2, rfl, FEQH.out, (by first | rw [HW.out] | rfl | simp), by omega, by omega, HNX.out, by simp, HR1.out, HN2.out.2⟩
                case measure => (first | (rw [intOf_of' HW.out, intOf_of' rfl]; omega) | (simp [intOf]; omega) | (simp [intOf] <;> omega))
            | some gx =>
              have hgx := hnd gx rfl
              have HGX := Lib.hid (show Nd wr k gx (cat (L.take j)) from hgx)
              obtain ⟨vx, kpx, hhx⟩ := hgx.hd
              obtain ⟨lvx, hlvx⟩ : ∃ lvx : Int, lvx = (lev (cat (L.take j)) : Int) - 1 := ⟨_, rfl⟩
              have HL0 := Lib.hid (show wr.cell? ⟨gx, 0, none⟩ = some (.int .i64 lvx) from hlvx ▸ hhx.c0)
              have FEQH := Lib.hid (show Value.int .i64 (i : Nat) = .int .i64 ((cat (L.take (j + 1))).length : Nat) from by rw [FEQ0])
              have hj0 : j ≠ 0 := fun h => by have := hr.2 h; cases this
              simp only [pv_some]
              by_cases hj1 : j = 1
              · subst hj1
                have hlx : lvx < (n : Int) := by
                  rw [hlvx, cat_take_succ L 0 (by omega)]
                  have := HK.out.kid_lev (List.getElem_mem (show 0 < L.length by omega))
                  simp only [List.take_zero, cat, List.flatMap_nil, List.nil_append]
                  omega
                have HPR := Lib.hid (fun (W : World) (gk : Nat) (hx : Nd W k gx (cat (L.take 1))) (hk2 : Nd W k gk L[1].2) => bld_pair W k n gx gk pre L HK.out k1 k16 HK.out.two (by have e := cat_take_succ L 0 (by omega); rw [show cat (L.take 0) = [] from rfl, List.nil_append] at e; rw [← e]; exact hx) hk2)
                clear hr hnd hb hgx hhx hlvx hj0 hfr FEQ0
                by_cases hend : i < M + 1
                · have hj1 : 1 + 1 < L.length := HNJ.out.1 hend
                  have hil : i < (cat L).length := by rw [HM.out]; exact hend
                  obtain ⟨Au, cu, q0, HA1⟩ := HAX.out i _ hil (HNJ.out.2 hil hj1) wr HB.out
                  obtain ⟨Au2, cu2, q1, HA2⟩ := HAX.out fr _ HFL.out (HFA.out HFL.out) wr HB.out
                  have hbw := World.block_lt_of_cell? wr _ q0
                  have hneq : ((L[1 + 1].1 : Int) == (L[1]'(by omega)).1) = false := by
                    have := List.pairwise_iff_getElem.1 HK.out.asc 1 (1 + 1) (by omega) hj1 (by omega)
                    rw [beq_eq_false_iff_ne]
                    have h9 : (L[1]'(by omega)).1 < L[1 + 1].1 := this
                    omega
                  obtain ⟨a1, ha1⟩ : ∃ a1, L[1 + 1].1 = a1 := ⟨_, rfl⟩
                  obtain ⟨a2, ha2⟩ : ∃ a2, (L[1]'(by omega)).1 = a2 := ⟨_, rfl⟩
                  rw [ha1] at HA1 hneq
                  rw [ha2] at HA2 hneq
                  clear ha1 ha2
                  have hd4 : (i : Int) < (M : Int) + 1 := by omega
                  go_wp2_with fail
                  refine HA1.mono ?_
                  rintro e w7 ⟨rfl, hw7⟩
                  obtain rfl := hw7.symm
                  clear hw7
                  go_wp2_with fail
                  refine HA2.mono ?_
                  rintro e w7 ⟨rfl, hw7⟩
                  obtain rfl := hw7.symm
                  clear hw7
                  go_wp2_with fail
                  refine (HIH.out _ (Below.refl _ _)).mono ?_
                  rintro e w6 ⟨g2, rfl, hn2, hb2⟩
                  have HN2 := Lib.hid (And.intro hn2 (HB.out.trans (hb2.mono HB.out.size)))
                  have HG6 := Lib.hid (HGX.out.bel hb2)
                  have HLV := Lib.hid (show w6.cell? ⟨gx, 0, none⟩ = some (.int .i64 lvx) from Below.keeps hb2 _ _ HL0.out)
                  clear hn2 hb2
                  go_wp2_with fail
                  refine (nlev_any _ gx _ HLV.out).mono ?_
                  rintro e w7 ⟨rfl, hw7⟩
                  obtain rfl := hw7.symm
                  clear hw7
                  go_wp2_with fail
                  refine (HPR.out _ _ HG6.out HN2.out.1).mono ?_
                  rintro e w8 ⟨g3, rfl, hn3, hb3⟩
                  have HN3 := Lib.hid (And.intro hn3 (HN2.out.2.trans (hb3.mono HN2.out.2.size)))
                  clear hn3 hb3
                  go_wp2_with fail
                  go_roundw
                  case rel => exact ⟨i + 1, 2, some g3, rfl, FEQH.out, (by first | rw [HW.out] | rfl | simp), by omega, by omega, HNX.out, by simp, (fun g hg => by injection hg with hg; subst hg; exact HN3.out.1), HN3.out.2⟩
                  case measure => (first | (rw [intOf_of' HW.out, intOf_of' rfl]; omega) | (simp [intOf]; omega) | (simp [intOf] <;> omega))
                · have hd4 : ¬ (i : Int) < (M : Int) + 1 := by omega
                  go_wp2_with fail
                  refine (HIH.out _ (Below.refl _ _)).mono ?_
                  rintro e w6 ⟨g2, rfl, hn2, hb2⟩
                  have HN2 := Lib.hid (And.intro hn2 (HB.out.trans (hb2.mono HB.out.size)))
                  have HG6 := Lib.hid (HGX.out.bel hb2)
                  have HLV := Lib.hid (show w6.cell? ⟨gx, 0, none⟩ = some (.int .i64 lvx) from Below.keeps hb2 _ _ HL0.out)
                  clear hn2 hb2
                  go_wp2_with fail
                  refine (nlev_any _ gx _ HLV.out).mono ?_
                  rintro e w7 ⟨rfl, hw7⟩
                  obtain rfl := hw7.symm
                  clear hw7
                  go_wp2_with fail
                  refine (HPR.out _ _ HG6.out HN2.out.1).mono ?_
                  rintro e w8 ⟨g3, rfl, hn3, hb3⟩
                  have HN3 := Lib.hid (And.intro hn3 (HN2.out.2.trans (hb3.mono HN2.out.2.size)))
                  clear hn3 hb3
                  go_wp2_with fail
                  go_roundw
                  case rel => exact ⟨i + 1, 2, some g3, rfl, FEQH.out, (by first | rw [HW.out] | rfl | simp), by omega, by omega, HNX.out, by simp, (fun g hg => by injection hg with hg; subst hg; exact HN3.out.1), HN3.out.2⟩
                  case measure => (first | (rw [intOf_of' HW.out, intOf_of' rfl]; omega) | (simp [intOf]; omega) | (simp [intOf] <;> omega))
              · have hlx : ¬ lvx < (n : Int) := by
                  rw [hlvx, (HK.out.take (show 2 ≤ j by omega) (Nat.le_of_lt hj)).lev]
                  omega
                have HWI := Lib.hid (fun (W : World) (gk : Nat) (hx : Nd W k gx (cat (L.take j))) (hk2 : Nd W k gk L[j].2) => bld_with W k n gx gk j pre L HK.out (by omega) hj hx hk2)
                clear hr hnd hb hgx hhx hlvx hj0 hj1 hfr FEQ0
                by_cases hend : i < M + 1
                · have hj1 : j + 1 < L.length := HNJ.out.1 hend
                  have hil : i < (cat L).length := by rw [HM.out]; exact hend
                  obtain ⟨Au, cu, q0, HA1⟩ := HAX.out i _ hil (HNJ.out.2 hil hj1) wr HB.out
                  obtain ⟨Au2, cu2, q1, HA2⟩ := HAX.out fr _ HFL.out (HFA.out HFL.out) wr HB.out
                  have hbw := World.block_lt_of_cell? wr _ q0
                  have hneq : ((L[j + 1].1 : Int) == (L[j]'(by omega)).1) = false := by
                    have := List.pairwise_iff_getElem.1 HK.out.asc j (j + 1) (by omega) hj1 (by omega)
                    rw [beq_eq_false_iff_ne]
                    have h9 : (L[j]'(by omega)).1 < L[j + 1].1 := this
                    omega
                  obtain ⟨a1, ha1⟩ : ∃ a1, L[j + 1].1 = a1 := ⟨_, rfl⟩
                  obtain ⟨a2, ha2⟩ : ∃ a2, (L[j]'(by omega)).1 = a2 := ⟨_, rfl⟩
                  rw [ha1] at HA1 hneq
                  rw [ha2] at HA2 hneq
                  clear ha1 ha2
                  have hd4 : (i : Int) < (M : Int) + 1 := by omega
                  go_wp2_with fail
                  refine HA1.mono ?_
                  rintro e w7 ⟨rfl, hw7⟩
                  obtain rfl := hw7.symm
                  clear hw7
                  go_wp2_with fail
                  refine HA2.mono ?_
                  rintro e w7 ⟨rfl, hw7⟩
                  obtain rfl := hw7.symm
                  clear hw7
                  go_wp2_with fail
                  refine (HIH.out _ (Below.refl _ _)).mono ?_
                  rintro e w6 ⟨g2, rfl, hn2, hb2⟩
                  have HN2 := Lib.hid (And.intro hn2 (HB.out.trans (hb2.mono HB.out.size)))
                  have HG6 := Lib.hid (HGX.out.bel hb2)
                  have HLV := Lib.hid (show w6.cell? ⟨gx, 0, none⟩ = some (.int .i64 lvx) from Below.keeps hb2 _ _ HL0.out)
                  clear hn2 hb2
                  go_wp2_with fail
                  refine (nlev_any _ gx _ HLV.out).mono ?_
                  rintro e w7 ⟨rfl, hw7⟩
                  obtain rfl := hw7.symm
                  clear hw7
                  go_wp2_with fail
                  refine (HWI.out _ _ HG6.out HN2.out.1).mono ?_
                  rintro e w8 ⟨g3, rfl, hn3, hb3⟩
                  have HN3 := Lib.hid (And.intro hn3 (HN2.out.2.trans (hb3.mono HN2.out.2.size)))
                  clear hn3 hb3
                  go_wp2_with fail
                  go_roundw
                  case rel => exact ⟨i + 1, j + 1, some g3, rfl, FEQH.out, (by first | rw [HW.out] | rfl | simp), by omega, by omega, HNX.out, by simp, (fun g hg => by injection hg with hg; subst hg; exact HN3.out.1), HN3.out.2⟩
                  case measure => (first | (rw [intOf_of' HW.out, intOf_of' rfl]; omega) | (simp [intOf]; omega) | (simp [intOf] <;> omega))
                · have hd4 : ¬ (i : Int) < (M : Int) + 1 := by omega
                  go_wp2_with fail
                  refine (HIH.out _ (Below.refl _ _)).mono ?_
                  rintro e w6 ⟨g2, rfl, hn2, hb2⟩
                  have HN2 := Lib.hid (And.intro hn2 (HB.out.trans (hb2.mono HB.out.size)))
                  have HG6 := Lib.hid (HGX.out.bel hb2)
                  have HLV := Lib.hid (show w6.cell? ⟨gx, 0, none⟩ = some (.int .i64 lvx) from Below.keeps hb2 _ _ HL0.out)
                  clear hn2 hb2
                  go_wp2_with fail
                  refine (nlev_any _ gx _ HLV.out).mono ?_
                  rintro e w7 ⟨rfl, hw7⟩
                  obtain rfl := hw7.symm
                  clear hw7
                  go_wp2_with fail
                  refine (HWI.out _ _ HG6.out HN2.out.1).mono ?_
                  rintro e w8 ⟨g3, rfl, hn3, hb3⟩
                  have HN3 := Lib.hid (And.intro hn3 (HN2.out.2.trans (hb3.mono HN2.out.2.size)))
                  clear hn3 hb3
                  go_wp2_with fail
                  go_roundw
                  case rel => exact ⟨i + 1, j + 1, some g3, rfl, FEQH.out, (by first | rw [HW.out] | rfl | simp), by omega, by omega, HNX.out, by simp, (fun g hg => by injection hg with hg; subst hg; exact HN3.out.1), HN3.out.2⟩
                  case measure => (first | (rw [intOf_of' HW.out, intOf_of' rfl]; omega) | (simp [intOf]; omega) | (simp [intOf] <;> omega))
        · have h3 : ¬ ((M + 2 : Nat) : Int) ≤ (M : Int) + 1 := by omega
          have h2 := HK.out.two
          cases r with
          | none => exact absurd (hr.1 rfl) (by omega)
          | some gx =>
            have HG := Lib.hid (hnd gx rfl)
            simp only [pv_some]
            clear hr hnd hb
            go_wp2_with fail
            go_ret
            exact ⟨gx, rfl, by have := HG.out; rw [List.take_length] at this; exact this, HB.out⟩
  · go_wp2_with fail
    refine (HLF.out _ (by repeat (first | exact Below.refl _ _ | (refine Below.drew ?_) | (refine below_drewN' ?_ _) | (refine below_alloc' ?_ _) | (refine Below.setCell ?_ (by first | exact Nat.le_refl _ | (simp; done) | (simp; omega)) _)))).mono ?_
    rintro e w1 ⟨g1, rfl, hn1, hb1⟩
    have f0 : w1.cell? ⟨w.heap.size + 1, 0, none⟩ = some (.slice A0 k cx) := Below.keeps hb1 _ _ (by simp [go_sem])
    have l0 : w1.cell? ⟨w.heap.size, 0, none⟩ = some (.slice A1 k cy) := Below.keeps hb1 _ _ (by simp [go_sem])
    have hfl := World.block_lt_of_cell? w1 _ f0
    have hll := World.block_lt_of_cell? w1 _ l0
    have HB1 := Lib.hid (show Below w.heap.size w w1 from below_trans (by repeat (first | exact Below.refl _ _ | (refine Below.drew ?_) | (refine below_drewN' ?_ _) | (refine below_alloc' ?_ _) | (refine Below.setCell ?_ (by first | exact Nat.le_refl _ | (simp; done) | (simp; omega)) _))) hb1)
    have HN1 := Lib.hid hn1
    clear hb1 hn1
    go_wp2_with fail
    refine (HPT.out _ HB1.out).mono ?_
    rintro e w2 ⟨rfl, hw9⟩
    obtain rfl := hw9.symm
    clear hw9 f0 l0 hfl hll
    by_cases hlv0 : lv < 0
    · have HE1 := Lib.hid (show l = [⟨p0, x0⟩] from single_of HES.out.et HNE.out (by have := HX.out.2.1; omega) HX.out.2.2)
      go_wp2_with fail
      go_ret
      exact ⟨g1, rfl, by rw [HE1.out]; exact HN1.out, HB1.out⟩
    · have hl2 : 2 ≤ l.length := two_of HNE.out (by have := HX.out.2.1; omega)
      obtain ⟨n, pre, L, hk, hL⟩ := kd_of HES.out.et hl2
      subst hL
      have hln : lv = (n : Int) := by have := HX.out.2.1; rw [this, hk.lev]; omega
      subst hln
      have HK := Lib.hid hk
      have HAX := Lib.hid (fun (i a : Nat) (hi : i < (cat L).length) (ha : Zb.addr ((cat L)[i]).p n = a) (W : World) (hb : Below w.heap.size w W) => (show ∃ (Au : Option Addr) (cu : Nat), W.cell? ⟨b, o + i * 2, none⟩ = some (.slice Au k cu) ∧ Calls Try.prog 70 #[.slice Au k cu, .int .i64 (n : Nat)] W fun e w' => e = .returned (.tuple #[.int .i64 (a : Nat), .int .i64 0]) ∧ w' = W from by
        obtain ⟨u, q0, qu, q1⟩ := HX.out.1 i hi
        have hlen := HES.out.et.len _ (List.getElem_mem hi)
        have hz := zAddr_any ((cat L)[i]).p n u W (qu.below hb) (by omega) (by omega) (HES.out.et.ok _ (List.getElem_mem hi)) hk.n64
        obtain ⟨Au, cu, rfl, _⟩ := RdU.point qu
        rw [hlen] at q0 hz
        rw [ha] at hz
        exact ⟨Au, cu, Below.keeps hb _ _ q0, hz⟩))
      clear hl2 hk
      go_wp2_with fail
      go_loopw [9, 10, 11, 12, 14, 16] (fun ov fv iv _ _ _ wr => ∃ (i j : Nat) (r : Option Nat), ov = pv r ∧ fv = .int .i64 ((cat (L.take j)).length : Nat) ∧ iv = .int .i64 (i : Nat) ∧ 1 ≤ i ∧ i ≤ M + 2 ∧
          ((∃ hj : j < L.length, (cat (L.take j)).length < i ∧ i ≤ (cat (L.take j)).length + L[j].2.length) ∨ (j = L.length ∧ i = M + 2)) ∧ (r = none ↔ j = 0) ∧ (∀ g, r = some g → Nd wr k g (cat (L.take j))) ∧ Below w.heap.size w wr) (fun _ _ iv _ _ _ _ => M + 2 - (intOf iv).toNat)
      case atStart =>
        have h2 := HK.out.two
        refine ⟨1, 0, none, rfl, rfl, rfl, Nat.le_refl _, by omega, .inl ⟨by omega, by simp [cat], ?_⟩, by simp, (fun g h => by cases h), HB1.out⟩
        have := List.length_pos_iff.2 (HK.out.ne _ (List.getElem_mem (show 0 < L.length by omega)))
        simp [cat]; omega
      case round =>
        obtain ⟨i, j, r, rfl, rfl, rfl, hi1, hi2, hcase, hr, hnd, hb⟩ := hrel
        have HB := Lib.hid hb
        have HMC := HM.out
        rcases hcase with ⟨hj, hF1, hF2⟩ | ⟨rfl, rfl⟩
        · have hroom := cat_room L j hj
          obtain ⟨fr, hfr⟩ : ∃ fr, (cat (L.take j)).length = fr := ⟨_, rfl⟩
          have HFR := Lib.hid hfr
          have hkadr := HK.out.adr _ (List.getElem_mem hj)
          have HFA := Lib.hid (show ∀ h : fr < (cat L).length, Zb.addr ((cat L)[fr]'h).p n = L[j].1 from fun h => by
            have h0 : 0 < L[j].2.length := List.length_pos_iff.2 (HK.out.ne _ (List.getElem_mem hj))
            have e : (cat L)[fr]'h = L[j].2[0] := by have := cat_get L j 0 hj h0 (by omega); simpa [hfr] using this
            rw [e]; exact hkadr _ (List.getElem_mem h0))
          have HFL := Lib.hid (show fr < (cat L).length by omega)
          rw [hfr] at hF1 hF2 hroom ⊢
          have h3 : (i : Int) ≤ (M : Int) + 1 := by omega
          have h5 : (0 : Int) ≤ (fr : Int) := by omega
          have h6 : (fr : Int) ≤ (i : Int) := by omega
          have h7 : (i : Int) ≤ (c : Int) := by have := HD.out.2.2.1; omega
          have h8 : (0 : Int) ≤ (i : Int) := by omega
          have h9 : (fr : Int) < (M : Int) + 1 := by omega
          have HW := Lib.hid (show wrap64 ((i : Int) + 1) = ((i + 1 : Nat) : Int) by have := HES.out.short; unfold wrap64; omega)
          by_cases hgo : i < M + 1 ∧ i < fr + L[j].2.length
          · have hd4 : (i : Int) < (M : Int) + 1 := by omega
            have hia : Zb.addr ((cat L)[i]'(by omega)).p n = L[j].1 := by
              have e : (cat L)[i]'(by omega) = L[j].2[i - fr]'(by omega) := by
                have := cat_get L j (i - fr) hj (by omega) (by rw [hfr]; omega)
                rw [← this]
                congr 1
                omega
              rw [e]; exact hkadr _ (List.getElem_mem _)
            obtain ⟨Au, cu, q0, HA1⟩ := HAX.out i _ (by omega) hia wr hb
            obtain ⟨Au2, cu2, q1, HA2⟩ := HAX.out fr _ HFL.out (HFA.out HFL.out) wr hb
            have hbw := World.block_lt_of_cell? wr _ q0
            have HREL := Lib.hid (And.intro hr (And.intro hnd hgo))
            have HREL2 := Lib.hid (show (∃ hj : j < L.length, (cat (L.take j)).length < i + 1 ∧ i + 1 ≤ (cat (L.take j)).length + L[j].2.length) from ⟨hj, by rw [hfr]; omega, by rw [hfr]; omega⟩)
            obtain ⟨a1, ha1⟩ : ∃ a1, L[j].1 = a1 := ⟨_, rfl⟩
            rw [ha1] at HA1 HA2
            obtain ⟨q, hq⟩ := pv_ex r
            have HQ := Lib.hid hq
            rw [hq]
            clear hia ha1 hkadr hr hnd hb hgo hq hi2
            go_wp2_with fail
            refine HA1.mono ?_
            rintro e w7 ⟨rfl, hw7⟩
            obtain rfl := hw7.symm
            clear hw7
            go_wp2_with fail
            refine HA2.mono ?_
            rintro e w7 ⟨rfl, hw7⟩
            obtain rfl := hw7.symm
            clear hw7
            go_wp2_with fail
            go_roundw
            case rel => exact ⟨i + 1, j, r, HQ.out.symm, by rw [HFR.out], (by first | rw [HW.out] | rfl | simp), by omega, by omega, .inl HREL2.out, HREL.out.1, HREL.out.2.1, HB.out⟩
            case measure => (first | (rw [intOf_of' HW.out, intOf_of' rfl]; omega) | (simp [intOf]; omega) | (simp [intOf] <;> omega))
          · have hiF : i = fr + L[j].2.length := by omega
            have HJ := Lib.hid hj
            have HNJ := Lib.hid (show (i < M + 1 → j + 1 < L.length) ∧ ∀ (h : i < (cat L).length) (h1 : j + 1 < L.length), Zb.addr ((cat L)[i]'h).p n = L[j + 1].1 from by
              have hs := cat_take_succ L j hj
              have hlen : (cat (L.take (j + 1))).length = i := by rw [hs, List.length_append, hfr]; omega
              refine ⟨fun h => ?_, fun h h1 => ?_⟩
              · rcases Nat.lt_or_ge (j + 1) L.length with h2 | h2
                · exact h2
                · rw [List.take_of_length_le h2] at hlen; omega
              · have h0 : 0 < L[j + 1].2.length := List.length_pos_iff.2 (HK.out.ne _ (List.getElem_mem h1))
                have e := cat_get L (j + 1) 0 h1 h0 (by omega)
                have e2 : (cat L)[i]'h = L[j + 1].2[0] := by rw [← e]; congr 1; omega
                rw [e2]; exact HK.out.adr _ (List.getElem_mem h1) _ (List.getElem_mem h0))
            have HNX := Lib.hid (show ((∃ hj : j + 1 < L.length, (cat (L.take (j + 1))).length < i + 1 ∧ i + 1 ≤ (cat (L.take (j + 1))).length + L[j + 1].2.length) ∨ (j + 1 = L.length ∧ i + 1 = M + 2)) from by
              have hs := cat_take_succ L j hj
              have hlen : (cat (L.take (j + 1))).length = i := by rw [hs, List.length_append, hfr]; omega
              rcases Nat.lt_or_ge (j + 1) L.length with h2 | h2
              · refine .inl ⟨h2, by omega, ?_⟩
                have := List.length_pos_iff.2 (HK.out.ne _ (List.getElem_mem h2))
                omega
              · refine .inr ⟨by omega, ?_⟩
                rw [List.take_of_length_le h2] at hlen; omega)
            have FEQ0 : (cat (L.take (j + 1))).length = i := by
              have hs := cat_take_succ L j hj
              rw [hs, List.length_append, hfr]; omega
            have hsl := (HV.out.drop' fr (by omega))
            rw [← List.length_drop] at hsl
            have hcf : ¬ c = fr := by have := HD.out.2.2.1; omega
            rw [if_neg hcf] at hsl
            have hsl2 := RdE.take hsl (i - fr) (by rw [List.length_drop]; omega)
            have hpart := cat_part L j hj
            rw [hfr, show L[j].2.length = i - fr by omega] at hpart
            rw [hpart] at hsl2
            have hkl := HK.out.kid_lt (List.getElem_mem hj)
            have HIH := Lib.hid (fun W (hb2 : Below wr.heap.size wr W) => HIH0.out L[j].2 W _ (by rw [← HM.out] at *; exact hkl) (hsl2.below (hb.trans (hb2.mono hb.size))) ⟨HK.out.et _ (List.getElem_mem hj), HES.out.k40, by have := HES.out.short; omega⟩ (HK.out.ne _ (List.getElem_mem hj)) (fun e he => HVV.out e (mem_cat.2 ⟨_, List.getElem_mem hj, he⟩)))
            have HIF := Lib.hid (And.intro hiF (And.intro hF1 hF2))
            clear hsl hsl2 hpart hkl hkadr hgo hi2 hiF hF1 hF2 hroom
            cases r with
            | none =>
              obtain rfl : j = 0 := hr.1 rfl
              have HT1 := Lib.hid (show cat (L.take (0 + 1)) = L[0].2 from by rw [cat_take_succ L 0 hj]; rfl)
              have FEQH := Lib.hid (show Value.int .i64 (i : Nat) = .int .i64 ((cat (L.take 1)).length : Nat) from by rw [FEQ0])
              clear hr hnd hb hfr FEQ0
              simp only [pv_none]
              by_cases hend : i < M + 1
              · have hj1 : 0 + 1 < L.length := HNJ.out.1 hend
                have hil : i < (cat L).length := by rw [HM.out]; exact hend
                obtain ⟨Au, cu, q0, HA1⟩ := HAX.out i _ hil (HNJ.out.2 hil hj1) wr HB.out
                obtain ⟨Au2, cu2, q1, HA2⟩ := HAX.out fr _ HFL.out (HFA.out HFL.out) wr HB.out
                have hbw := World.block_lt_of_cell? wr _ q0
                have hneq : ((L[0 + 1].1 : Int) == (L[0]'(by omega)).1) = false := by
                  have := List.pairwise_iff_getElem.1 HK.out.asc 0 (0 + 1) (by omega) hj1 (by omega)
                  rw [beq_eq_false_iff_ne]
                  have h9 : (L[0]'(by omega)).1 < L[0 + 1].1 := this
                  omega
                obtain ⟨a1, ha1⟩ : ∃ a1, L[0 + 1].1 = a1 := ⟨_, rfl⟩
                obtain ⟨a2, ha2⟩ : ∃ a2, (L[0]'(by omega)).1 = a2 := ⟨_, rfl⟩
                rw [ha1] at HA1 hneq
                rw [ha2] at HA2 hneq
                clear ha1 ha2
                have hd4 : (i : Int) < (M : Int) + 1 := by omega
                go_wp2_with fail
                refine HA1.mono ?_
                rintro e w7 ⟨rfl, hw7⟩
                obtain rfl := hw7.symm
                clear hw7
                go_wp2_with fail
                refine HA2.mono ?_
                rintro e w7 ⟨rfl, hw7⟩
                obtain rfl := hw7.symm
                clear hw7
                go_wp2_with fail
                refine (HIH.out _ (Below.refl _ _)).mono ?_
                rintro e w6 ⟨g2, rfl, hn2, hb2⟩
                have HN2 := Lib.hid (And.intro hn2 (HB.out.trans (hb2.mono HB.out.size)))
                have HR1 := Lib.hid (show ∀ g, some g2 = some g → Nd w6 k g (cat (L.take 1)) from fun g hg => by injection hg with hg; subst hg; rw [HT1.out]; exact hn2)
                clear hn2 hb2
                go_wp2_with fail
                go_roundw
                case rel => exact ⟨i + 1, 1, some g2, rfl, FEQH.out, (by first | rw [HW.out] | rfl | simp), by omega, by omega, HNX.out, by simp, HR1.out, HN2.out.2⟩
                case measure => (first | (rw [intOf_of' HW.out, intOf_of' rfl]; omega) | (simp [intOf]; omega) | (simp [intOf] <;> omega))
              · have hd4 : ¬ (i : Int) < (M : Int) + 1 := by omega
                go_wp2_with fail
                refine (HIH.out _ (Below.refl _ _)).mono ?_
                rintro e w6 ⟨g2, rfl, hn2, hb2⟩
                have HN2 := Lib.hid (And.intro hn2 (HB.out.trans (hb2.mono HB.out.size)))
                have HR1 := Lib.hid (show ∀ g, some g2 = some g → Nd w6 k g (cat (L.take 1)) from fun g hg => by injection hg with hg; subst hg; rw [HT1.out]; exact hn2)
                clear hn2 hb2
                go_wp2_with fail
                go_roundw
                case rel => exact ⟨i + 1, 1, some g2, rfl, FEQH.out, (by first | rw [HW.out] | rfl | simp), by omega, by omega, HNX.out, by simp, HR1.out, HN2.out.2⟩
                case measure => (first | (rw [intOf_of' HW.out, intOf_of' rfl]; omega) | (simp [intOf]; omega) | (simp [intOf] <;> omega))
            | some gx =>
              have hgx := hnd gx rfl
              have HGX := Lib.hid (show Nd wr k gx (cat (L.take j)) from hgx)
              obtain ⟨vx, kpx, hhx⟩ := hgx.hd
              obtain ⟨lvx, hlvx⟩ : ∃ lvx : Int, lvx = (lev (cat (L.take j)) : Int) - 1 := ⟨_, rfl⟩
              have HL0 := Lib.hid (show wr.cell? ⟨gx, 0, none⟩ = some (.int .i64 lvx) from hlvx ▸ hhx.c0)
              have FEQH := Lib.hid (show Value.int .i64 (i : Nat) = .int .i64 ((cat (L.take (j + 1))).length : Nat) from by rw [FEQ0])
              have hj0 : j ≠ 0 := fun h => by have := hr.2 h; cases this
              simp only [pv_some]
              by_cases hj1 : j = 1
              · subst hj1
                have hlx : lvx < (n : Int) := by
                  rw [hlvx, cat_take_succ L 0 (by omega)]
                  have := HK.out.kid_lev (List.getElem_mem (show 0 < L.length by omega))
                  simp only [List.take_zero, cat, List.flatMap_nil, List.nil_append]
                  omega
                have HPR := Lib.hid (fun (W : World) (gk : Nat) (hx : Nd W k gx (cat (L.take 1))) (hk2 : Nd W k gk L[1].2) => bld_pair W k n gx gk pre L HK.out k1 k16 HK.out.two (by have e := cat_take_succ L 0 (by omega); rw [show cat (L.take 0) = [] from rfl, List.nil_append] at e; rw [← e]; exact hx) hk2)
                clear hr hnd hb hgx hhx hlvx hj0 hfr FEQ0
                by_cases hend : i < M + 1
                · have hj1 : 1 + 1 < L.length := HNJ.out.1 hend
                  have hil : i < (cat L).length := by rw [HM.out]; exact hend
                  obtain ⟨Au, cu, q0, HA1⟩ := HAX.out i _ hil (HNJ.out.2 hil hj1) wr HB.out
                  obtain ⟨Au2, cu2, q1, HA2⟩ := HAX.out fr _ HFL.out (HFA.out HFL.out) wr HB.out
                  have hbw := World.block_lt_of_cell? wr _ q0
                  have hneq : ((L[1 + 1].1 : Int) == (L[1]'(by omega)).1) = false := by
                    have := List.pairwise_iff_getElem.1 HK.out.asc 1 (1 + 1) (by omega) hj1 (by omega)
                    rw [beq_eq_false_iff_ne]
                    have h9 : (L[1]'(by omega)).1 < L[1 + 1].1 := this
                    omega
                  obtain ⟨a1, ha1⟩ : ∃ a1, L[1 + 1].1 = a1 := ⟨_, rfl⟩
                  obtain ⟨a2, ha2⟩ : ∃ a2, (L[1]'(by omega)).1 = a2 := ⟨_, rfl⟩
                  rw [ha1] at HA1 hneq
                  rw [ha2] at HA2 hneq
                  clear ha1 ha2
                  have hd4 : (i : Int) < (M : Int) + 1 := by omega
                  go_wp2_with fail
                  refine HA1.mono ?_
                  rintro e w7 ⟨rfl, hw7⟩
                  obtain rfl := hw7.symm
                  clear hw7
                  go_wp2_with fail
                  refine HA2.mono ?_
                  rintro e w7 ⟨rfl, hw7⟩
                  obtain rfl := hw7.symm
                  clear hw7
                  go_wp2_with fail
                  refine (HIH.out _ (Below.refl _ _)).mono ?_
                  rintro e w6 ⟨g2, rfl, hn2, hb2⟩
                  have HN2 := Lib.hid (And.intro hn2 (HB.out.trans (hb2.mono HB.out.size)))
                  have HG6 := Lib.hid (HGX.out.bel hb2)
                  have HLV := Lib.hid (show w6.cell? ⟨gx, 0, none⟩ = some (.int .i64 lvx) from Below.keeps hb2 _ _ HL0.out)
                  clear hn2 hb2
                  go_wp2_with fail
                  refine (nlev_any _ gx _ HLV.out).mono ?_
                  rintro e w7 ⟨rfl, hw7⟩
                  obtain rfl := hw7.symm
                  clear hw7
                  go_wp2_with fail
                  refine (HPR.out _ _ HG6.out HN2.out.1).mono ?_
                  rintro e w8 ⟨g3, rfl, hn3, hb3⟩
                  have HN3 := Lib.hid (And.intro hn3 (HN2.out.2.trans (hb3.mono HN2.out.2.size)))
                  clear hn3 hb3
                  go_wp2_with fail
                  go_roundw
                  case rel => exact ⟨i + 1, 2, some g3, rfl, FEQH.out, (by first | rw [HW.out] | rfl | simp), by omega, by omega, HNX.out, by simp, (fun g hg => by injection hg with hg; subst hg; exact HN3.out.1), HN3.out.2⟩
                  case measure => (first | (rw [intOf_of' HW.out, intOf_of' rfl]; omega) | (simp [intOf]; omega) | (simp [intOf] <;> omega))
                · have hd4 : ¬ (i : Int) < (M : Int) + 1 := by omega
                  go_wp2_with fail
                  refine (HIH.out _ (Below.refl _ _)).mono ?_
                  rintro e w6 ⟨g2, rfl, hn2, hb2⟩
                  have HN2 := Lib.hid (And.intro hn2 (HB.out.trans (hb2.mono HB.out.size)))
                  have HG6 := Lib.hid (HGX.out.bel hb2)
                  have HLV := Lib.hid (show w6.cell? ⟨gx, 0, none⟩ = some (.int .i64 lvx) from Below.keeps hb2 _ _ HL0.out)
                  clear hn2 hb2
                  go_wp2_with fail
                  refine (nlev_any _ gx _ HLV.out).mono ?_
                  rintro e w7 ⟨rfl, hw7⟩
                  obtain rfl := hw7.symm
                  clear hw7
                  go_wp2_with fail
                  refine (HPR.out _ _ HG6.out HN2.out.1).mono ?_
                  rintro e w8 ⟨g3, rfl, hn3, hb3⟩
                  have HN3 := Lib.hid (And.intro hn3 (HN2.out.2.trans (hb3.mono HN2.out.2.size)))
                  clear hn3 hb3
                  go_wp2_with fail
                  go_roundw
                  case rel => exact ⟨i + 1, 2, some g3, rfl, FEQH.out, (by first | rw [HW.out] | rfl | simp), by omega, by omega, HNX.out, by simp, (fun g hg => by injection hg with hg; subst hg; exact HN3.out.1), HN3.out.2⟩
                  case measure => (first | (rw [intOf_of' HW.out, intOf_of' rfl]; omega) | (simp [intOf]; omega) | (simp [intOf] <;> omega))
              · have hlx : ¬ lvx < (n : Int) := by
                  rw [hlvx, (HK.out.take (show 2 ≤ j by omega) (Nat.le_of_lt hj)).lev]
                  omega
                have HWI := Lib.hid (fun (W : World) (gk : Nat) (hx : Nd W k gx (cat (L.take j))) (hk2 : Nd W k gk L[j].2) => bld_with W k n gx gk j pre L HK.out (by omega) hj hx hk2)
                clear hr hnd hb hgx hhx hlvx hj0 hj1 hfr FEQ0
                by_cases hend : i < M + 1
                · have hj1 : j + 1 < L.length := HNJ.out.1 hend
                  have hil : i < (cat L).length := by rw [HM.out]; exact hend
                  obtain ⟨Au, cu, q0, HA1⟩ := HAX.out i _ hil (HNJ.out.2 hil hj1) wr HB.out
                  obtain ⟨Au2, cu2, q1, HA2⟩ := HAX.out fr _ HFL.out (HFA.out HFL.out) wr HB.out
                  have hbw := World.block_lt_of_cell? wr _ q0
                  have hneq : ((L[j + 1].1 : Int) == (L[j]'(by omega)).1) = false := by
                    have := List.pairwise_iff_getElem.1 HK.out.asc j (j + 1) (by omega) hj1 (by omega)
                    rw [beq_eq_false_iff_ne]
                    have h9 : (L[j]'(by omega)).1 < L[j + 1].1 := this
                    omega
                  obtain ⟨a1, ha1⟩ : ∃ a1, L[j + 1].1 = a1 := ⟨_, rfl⟩
                  obtain ⟨a2, ha2⟩ : ∃ a2, (L[j]'(by omega)).1 = a2 := ⟨_, rfl⟩
                  rw [ha1] at HA1 hneq
                  rw [ha2] at HA2 hneq
                  clear ha1 ha2
                  have hd4 : (i : Int) < (M : Int) + 1 := by omega
                  go_wp2_with fail
                  refine HA1.mono ?_
                  rintro e w7 ⟨rfl, hw7⟩
                  obtain rfl := hw7.symm
                  clear hw7
                  go_wp2_with fail
                  refine HA2.mono ?_
                  rintro e w7 ⟨rfl, hw7⟩
                  obtain rfl := hw7.symm
                  clear hw7
                  go_wp2_with fail
                  refine (HIH.out _ (Below.refl _ _)).mono ?_
                  rintro e w6 ⟨g2, rfl, hn2, hb2⟩
                  have HN2 := Lib.hid (And.intro hn2 (HB.out.trans (hb2.mono HB.out.size)))
                  have HG6 := Lib.hid (HGX.out.bel hb2)
                  have HLV := Lib.hid (show w6.cell? ⟨gx, 0, none⟩ = some (.int .i64 lvx) from Below.keeps hb2 _ _ HL0.out)
                  clear hn2 hb2
                  go_wp2_with fail
                  refine (nlev_any _ gx _ HLV.out).mono ?_
                  rintro e w7 ⟨rfl, hw7⟩
                  obtain rfl := hw7.symm
                  clear hw7
                  go_wp2_with fail
                  refine (HWI.out _ _ HG6.out HN2.out.1).mono ?_
                  rintro e w8 ⟨g3, rfl, hn3, hb3⟩
                  have HN3 := Lib.hid (And.intro hn3 (HN2.out.2.trans (hb3.mono HN2.out.2.size)))
                  clear hn3 hb3
                  go_wp2_with fail
                  go_roundw
                  case rel => exact ⟨i + 1, j + 1, some g3, rfl, FEQH.out, (by first | rw [HW.out] | rfl | simp), by omega, by omega, HNX.out, by simp, (fun g hg => by injection hg with hg; subst hg; exact HN3.out.1), HN3.out.2⟩
                  case measure => (first | (rw [intOf_of' HW.out, intOf_of' rfl]; omega) | (simp [intOf]; omega) | (simp [intOf] <;> omega))
                · have hd4 : ¬ (i : Int) < (M : Int) + 1 := by omega
                  go_wp2_with fail
                  refine (HIH.out _ (Below.refl _ _)).mono ?_
                  rintro e w6 ⟨g2, rfl, hn2, hb2⟩
                  have HN2 := Lib.hid (And.intro hn2 (HB.out.trans (hb2.mono HB.out.size)))
                  have HG6 := Lib.hid (HGX.out.bel hb2)
                  have HLV := Lib.hid (show w6.cell? ⟨gx, 0, none⟩ = some (.int .i64 lvx) from Below.keeps hb2 _ _ HL0.out)
                  clear hn2 hb2
                  go_wp2_with fail
                  refine (nlev_any _ gx _ HLV.out).mono ?_
                  rintro e w7 ⟨rfl, hw7⟩
                  obtain rfl := hw7.symm
                  clear hw7
                  go_wp2_with fail
                  refine (HWI.out _ _ HG6.out HN2.out.1).mono ?_
                  rintro e w8 ⟨g3, rfl, hn3, hb3⟩
                  have HN3 := Lib.hid (And.intro hn3 (HN2.out.2.trans (hb3.mono HN2.out.2.size)))
                  clear hn3 hb3
                  go_wp2_with fail
                  go_roundw
                  case rel => exact ⟨i + 1, j + 1, some g3, rfl, FEQH.out, (by first | rw [HW.out] | rfl | simp), by omega, by omega, HNX.out, by simp, (fun g hg => by injection hg with hg; subst hg; exact HN3.out.1), HN3.out.2⟩
                  case measure => (first | (rw [intOf_of' HW.out, intOf_of' rfl]; omega) | (simp [intOf]; omega) | (simp [intOf] <;> omega))
        · have h3 : ¬ ((M + 2 : Nat) : Int) ≤ (M : Int) + 1 := by omega
          have h2 := HK.out.two
          cases r with
          | none => exact absurd (hr.1 rfl) (by omega)
          | some gx =>
            have HG := Lib.hid (hnd gx rfl)
            simp only [pv_some]
            clear hr hnd hb
            go_wp2_with fail
            go_ret
            exact ⟨gx, rfl, by have := HG.out; rw [List.take_length] at this; exact this, HB.out⟩
theorem build_any (k : Nat) (k1 : 1 ≤ k) (k16 : k ≤ 16) : ∀ (N : Nat) (l : List En) (w : World) (v : Value), l.length ≤ N → RdE w v l → EtS k l → l ≠ [] → (∀ e ∈ l, e.v < 2 ^ 64) →
    Calls Try.prog 55 #[v] w fun e w' => BldR w k l e w' := by
  intro N
  induction N with
  | zero => intro l w v hN _ _ hne _; exact absurd (List.length_eq_zero_iff.1 (by omega)) hne
  | succ N ih =>
    intro l w v hN hv he hne hvv
    exact bld_step w k l v k1 k16 hv he hne hvv fun m w' v' hm h1 h2 h3 h4 => ih m w' v' (by omega) h1 h2 h3 h4
end Go.Proofs.Ytjokcagggmjgmaa
/-! FitP -/
namespace Go.Proofs.Ytjokcagggmjgmaa
open Go.RowKit
set_option linter.unusedVariables false

end Go.Proofs.Ytjokcagggmjgmaa
/-! ThenF -/
namespace Go.Proofs.Ytjokcagggmjgmaa
open Go.RowKit
set_option linter.unusedVariables false
set_option linter.unusedSimpArgs false

end Go.Proofs.Ytjokcagggmjgmaa
/-! FitA -/
namespace Go.Proofs.Ytjokcagggmjgmaa
open Go.RowKit
set_option linter.unusedVariables false
set_option linter.unusedSimpArgs false
set_option maxRecDepth 100000

theorem enters_lit' {P : Program} {f : FuncId} {fn : Func} (hf : P.funcs[f]? = some fn) (hname : (fn.name == "runtime.NumGoroutine") = false) (hb : fn.body.isSome = true) (args : Array Value) (w : World) :
    (callFunc f args).run P w = .ok (.enter f args) w := by
  have h1 : fn.name ≠ "runtime.NumGoroutine" := by simpa using hname
  obtain ⟨c, hc⟩ := Option.isSome_iff_exists.1 hb
  simp [callFunc, hf, h1, hc]
end Go.Proofs.Ytjokcagggmjgmaa
/-! SrtA -/
namespace Go.Proofs.Ytjokcagggmjgmaa
open Go.RowKit
set_option linter.unusedVariables false
set_option linter.unusedSimpArgs false
set_option maxRecDepth 100000

theorem order_any (w : World) (p q : List Nat) (u1 u2 : Value) (x y : Nat) (h1 : RdU w u1 (pti p)) (h2 : RdU w u2 (pti q)) (hl : p.length = q.length) (k1 : 1 ≤ p.length) (k16 : p.length ≤ 16) (hp : ∀ c ∈ p, c < 2 ^ 64) (hq : ∀ c ∈ q, c < 2 ^ 64) :
    Calls Try.prog 96 #[.agg #[u1, .int .u64 (x : Nat)], .agg #[u2, .int .u64 (y : Nat)]] w fun e w' => e = .returned (.int .i64 (Zb.cmp p q)) ∧ Below w.heap.size w w' := by
  have HC := Lib.hid (fun w' (hb : Below w.heap.size w w') => zCmp_any p q u1 u2 w' (h1.below hb) (h2.below hb) hl k1 k16 hp hq)
  obtain ⟨A1, c1, rfl, _⟩ := RdU.point h1
  obtain ⟨A2, c2, rfl, _⟩ := RdU.point h2
  clear h1 h2 hl k1 k16 hp hq
  generalize Zb.cmp p q = z at *
  go_enter Try.func96, Try.ntmps96
  go_wp2_with fail
  refine (HC.out _ (by repeat (first | exact Below.refl _ _ | (refine Below.drew ?_) | (refine below_drewN' ?_ _) | (refine below_alloc' ?_ _) | (refine Below.setCell ?_ (by first | exact Nat.le_refl _ | (simp; done) | (simp; omega)) _)))).mono ?_
  rintro e w2 ⟨rfl, hw⟩
  obtain rfl := hw.symm
  clear hw
  go_wp2_with fail
  go_ret
  exact ⟨rfl, (by repeat (first | exact Below.refl _ _ | (refine Below.drew ?_) | (refine below_drewN' ?_ _) | (refine below_alloc' ?_ _) | (refine Below.setCell ?_ (by first | exact Nat.le_refl _ | (simp; done) | (simp; omega)) _)))⟩
/-- the row at block g, with room for n, holds the elements xs -/
structure PR (W0 w : World) (g n : Nat) (xs : List Pe) : Prop where
  cells : ∃ cur, w.heap[g]? = some (.cells cur 76 (0, 0)) ∧ cur.size = n * 2 ∧ xs.length ≤ n ∧ ∀ j (h : j < xs.length), cur[j * 2]? = some xs[j].1 ∧ cur[j * 2 + 1]? = some (.int .u64 (xs[j].2.v : Nat))
  pts : ∀ x ∈ xs, RdU W0 x.1 (pti x.2.p)
  low : W0.heap.size ≤ g
  bel : Below W0.heap.size W0 w
theorem PR.at' {W0 w : World} {g n : Nat} {xs : List Pe} (h : PR W0 w g n xs) (j : Nat) (hj : j < xs.length) : w.cell? ⟨g, j * 2, none⟩ = some xs[j].1 ∧ w.cell? ⟨g, j * 2 + 1, none⟩ = some (.int .u64 (xs[j].2.v : Nat)) := by
  obtain ⟨cur, h1, h2, h3, h4⟩ := h.cells
  obtain ⟨a, b⟩ := h4 j hj
  exact ⟨by simp [World.cell?, h1, a], by simp [World.cell?, h1, b]⟩
theorem PR.thaw {W0 w : World} {g n : Nat} {xs : List Pe} (h : PR W0 w g n xs) (j : Nat) : w.frozen? ⟨g, j, none⟩ = false := by
  obtain ⟨cur, h1, _⟩ := h.cells
  simp [World.frozen?, h1]
theorem PR.lt {W0 w : World} {g n : Nat} {xs : List Pe} (h : PR W0 w g n xs) : g < w.heap.size := by
  obtain ⟨cur, h1, _⟩ := h.cells
  exact kr_lt h1
theorem PR.step {W0 w w' : World} {g n : Nat} {xs : List Pe} (h : PR W0 w g n xs) (hb : Below w.heap.size w w') : PR W0 w' g n xs := by
  obtain ⟨cur, h1, h2⟩ := h.cells
  exact ⟨⟨cur, (hb.block g h.lt).trans h1, h2⟩, h.pts, h.low, h.bel.trans (hb.mono h.bel.size)⟩
theorem PR.set {W0 w : World} {g n j : Nat} {xs : List Pe} (h : PR W0 w g n xs) (hj : j < xs.length) (x : Pe) (hx : RdU W0 x.1 (pti x.2.p)) :
    PR W0 ((w.setCell ⟨g, j * 2, none⟩ x.1).setCell ⟨g, j * 2 + 1, none⟩ (.int .u64 (x.2.v : Nat))) g n (xs.set j x) := by
  obtain ⟨cur, h1, h2, h3, h4⟩ := h.cells
  refine ⟨⟨_, kr_set (kr_set h1), by simpa using h2, by simpa using h3, fun i hi => ?_⟩, fun y hy => ?_, h.low, (h.bel.setCell (p := ⟨g, _, none⟩) h.low _).setCell (p := ⟨g, _, none⟩) h.low _⟩
  · rw [List.length_set] at hi
    obtain ⟨a, b⟩ := h4 i hi
    by_cases e : i = j
    · subst e
      simp only [List.getElem_set_self]
      refine ⟨?_, ?_⟩
      · rw [Array.getElem?_setIfInBounds_ne (by omega)]
        exact Array.getElem?_setIfInBounds_self_of_lt (by omega)
      · exact Array.getElem?_setIfInBounds_self_of_lt (by simp; omega)
    · rw [List.getElem_set_ne (by omega)]
      refine ⟨?_, ?_⟩ <;> rw [Array.getElem?_setIfInBounds_ne (by omega), Array.getElem?_setIfInBounds_ne (by omega)] <;> assumption
  · rcases List.mem_or_eq_of_mem_set hy with hy | rfl
    · exact h.pts y hy
    · exact hx
theorem swap_mid (A : List Pe) (y x : Pe) (B : List Pe) : ((A ++ y :: x :: B).set (A.length + 1) y).set A.length x = A ++ x :: y :: B := by
  rw [List.set_append_right _ _ (by omega), Nat.add_sub_cancel_left]
  simp [List.set_append_right]
theorem Srt.append {P Q : List Pe} (hp : Srt P) (hq : Srt Q) (h : ∀ x ∈ P, ∀ y ∈ Q, ek x ≤ ek y) : Srt (P ++ Q) := List.pairwise_append.2 ⟨hp, hq, h⟩
/-- what the insertion sort leaves -/
def InsR (W0 : World) (g n : Nat) (A S B : List Pe) (e : Ending) (w' : World) : Prop := ∃ S', e = .returned (.tuple #[]) ∧ PR W0 w' g n (A ++ (S' ++ B)) ∧ S'.length = S.length ∧ Stb S S' ∧ Srt S'
/-- what stands ahead of a round of the inner loop: x is on its way down -/
structure InI (W0 wr : World) (g n a : Nat) (A S R B : List Pe) (x : Pe) (P Q : List Pe) : Prop where
  pr : PR W0 wr g n (A ++ (P ++ x :: (Q ++ (R ++ B))))
  srt : Srt (P ++ Q)
  stb : Stb S (P ++ x :: (Q ++ R))
  gt : ∀ y ∈ Q, ek x < ek y
  len : P.length + Q.length + 1 + R.length = S.length
theorem InI.done {W0 wr : World} {g n a : Nat} {A S R B : List Pe} {x : Pe} {P Q : List Pe} (h : InI W0 wr g n a A S R B x P Q) (hle : ∀ y ∈ P, ek y ≤ ek x) :
    PR W0 wr g n (A ++ ((P ++ x :: Q) ++ (R ++ B))) ∧ Srt (P ++ x :: Q) ∧ Stb S ((P ++ x :: Q) ++ R) ∧ (P ++ x :: Q).length + R.length = S.length ∧ 1 ≤ (P ++ x :: Q).length := by
  refine ⟨by simpa using h.pr, ?_, by simpa using h.stb, by have := h.len; simp; omega, by simp; omega⟩
  obtain ⟨h1, h2, h3⟩ := List.pairwise_append.1 h.srt
  refine List.pairwise_append.2 ⟨h1, List.pairwise_cons.2 ⟨fun z hz => Nat.le_of_lt (h.gt z hz), h2⟩, fun y hy z hz => ?_⟩
  rcases List.mem_cons.1 hz with rfl | hz
  · exact hle y hy
  · exact h3 y hy z hz
theorem InI.step {W0 wr w' : World} {g n a : Nat} {A S R B : List Pe} {x : Pe} {P Q : List Pe} (h : InI W0 wr g n a A S R B x P Q) (hb : Below wr.heap.size wr w') : InI W0 w' g n a A S R B x P Q :=
  ⟨h.pr.step hb, h.srt, h.stb, h.gt, h.len⟩
/-- x has gone down by one -/
theorem InI.down {W0 wr w' : World} {g n a : Nat} {A S R B : List Pe} {x y : Pe} {P Q : List Pe} (h : InI W0 wr g n a A S R B x (P ++ [y]) Q) (hlt : ek x < ek y) (hpr : PR W0 w' g n (A ++ (P ++ x :: y :: (Q ++ (R ++ B))))) :
    InI W0 w' g n a A S R B x P (y :: Q) := by
  refine ⟨by simpa using hpr, by simpa using h.srt, ?_, fun z hz => ?_, by have := h.len; simp at this ⊢; omega⟩
  · refine h.stb.trans ?_
    have e1 : (P ++ [y]) ++ x :: (Q ++ R) = P ++ (([y] ++ [x]) ++ (Q ++ R)) := by simp
    have e2 : P ++ x :: ((y :: Q) ++ R) = P ++ (([x] ++ [y]) ++ (Q ++ R)) := by simp
    rw [e1, e2]
    refine (Stb.refl P).append ((Stb.swap fun u hu v hv => ?_).append (Stb.refl _))
    obtain rfl := List.mem_singleton.1 hu
    obtain rfl := List.mem_singleton.1 hv
    omega
  · rcases List.mem_cons.1 hz with rfl | hz
    · exact hlt
    · exact h.gt z hz
set_option maxHeartbeats 4000000 in
theorem isort_any (W0 w : World) (g n a b m c k : Nat) (A S B : List Pe) (hA : A.length = a) (hb : a + S.length = b) (hm : (A ++ (S ++ B)).length = m) (hmm : m ≤ 1000) (k1 : 1 ≤ k) (k16 : k ≤ 16) (h : PR W0 w g n (A ++ (S ++ B)))
    (hk : ∀ x ∈ A ++ (S ++ B), x.2.p.length = k ∧ ∀ q ∈ x.2.p, q < 2 ^ 64) (hpos : S ≠ []) :
    Calls Try.prog 131 #[.slice (some ⟨g, 0, none⟩) m c, .int .i64 (a : Nat), .int .i64 (b : Nat), .func (.func 96) #[] #[]] w fun e w' => InsR W0 g n A S B e w' := by
  have hent := enters_lit' Try.func96 (by kernel_rfl) (by kernel_rfl)
  have hml : A.length + S.length + B.length = m := by rw [← hm]; simp; omega
  have HD := Lib.hid (And.intro hA (And.intro hb (And.intro hml hmm)))
  have HK := Lib.hid (And.intro hk (And.intro k1 k16))
  have HPR := Lib.hid h
  have hwa : wrap64 ((a : Int) + 1) = ((a + 1 : Nat) : Int) := by unfold wrap64; omega
  have HWA := Lib.hid hwa
  obtain ⟨x0, S0, rfl⟩ : ∃ x S0, S = x :: S0 := by cases S with
    | nil => exact absurd rfl hpos
    | cons x S0 => exact ⟨x, S0, rfl⟩
  clear hA hb hm hmm k1 k16 h hk hpos hml
  go_enter Try.func131, Try.ntmps131
  go_wp2_with fail
  go_loopw [8, 9] (fun iv _ wr => ∃ (S1 S2 : List Pe), iv = .int .i64 ((a + S1.length : Nat) : Int) ∧ 1 ≤ S1.length ∧ S1.length + S2.length = (x0 :: S0).length ∧ PR W0 wr g n (A ++ (S1 ++ (S2 ++ B))) ∧ Srt S1 ∧ Stb (x0 :: S0) (S1 ++ S2)) (fun iv _ _ => a + (x0 :: S0).length - (intOf iv).toNat)
  case atStart => exact ⟨[x0], S0, by first | (rw [HWA.out]; rfl) | simp, by simp, by simp; omega, HPR.out, List.pairwise_singleton _ _, Stb.refl _⟩
  case round =>
    obtain ⟨S1, S2, rfl, h1, h2, hpr, hsrt, hstb⟩ := hrel
    have HI := Lib.hid (And.intro h1 (And.intro h2 (And.intro hpr (And.intro hsrt hstb))))
    obtain ⟨i, hi⟩ : ∃ i, a + S1.length = i := ⟨_, rfl⟩
    rw [hi]
    have HIE := Lib.hid hi
    have hbi : i ≤ b ∧ (i < b ↔ S2 ≠ []) := by
      have := HD.out
      refine ⟨by omega, fun h => ?_, fun h => ?_⟩
      · intro e; rw [e, List.length_nil] at h2; omega
      · have := List.length_pos_iff.2 h; omega
    have HW := Lib.hid (show wrap64 ((i : Int) + 1) = ((i + 1 : Nat) : Int) by have := HD.out; unfold wrap64; omega)
    by_cases hib : i < b
    · obtain ⟨x, R, rfl⟩ : ∃ x R, S2 = x :: R := by cases S2 with
        | nil => exact absurd rfl (hbi.2.1 hib)
        | cons x R => exact ⟨x, R, rfl⟩
      have h3 : (i : Int) < (b : Int) := by omega
      have HIN : Hid (InI W0 wr g n a A (x0 :: S0) R B x S1 []) := Lib.hid ⟨by simpa using hpr, by simpa using hsrt, by simpa using hstb, by simp, by simp at h2 ⊢; omega⟩
      clear h1 h2 hpr hsrt hstb hi hbi
      go_wp2_with fail
      go_loopw [9] (fun jv wr => ∃ (P Q : List Pe), jv = .int .i64 ((a + P.length : Nat) : Int) ∧ InI W0 wr g n a A (x0 :: S0) R B x P Q) (fun jv _ => (intOf jv).toNat)
      case atStart => exact ⟨S1, [], by rw [HIE.out], HIN.out⟩
      case round =>
        obtain ⟨P, Q, rfl, hin⟩ := hrel
        have HN := Lib.hid hin
        rcases List.eq_nil_or_concat P with rfl | ⟨P', y, rfl⟩
        · clear hin
          simp only [List.length_nil, Nat.add_zero]
          go_wp2_with fail
          refine wp_region_vals 16 [fun z9 _ => z9 = .int .i64 (a : Nat),
            fun z9 _ => z9 = .int .i64 (a : Nat),
            fun z9 _ => z9 = .bool false,
            fun z9 _ => z9 = .bool false,
            fun z9 _ => z9 = undef,
            fun z9 _ => z9 = undef,
            fun z9 _ => z9 = undef,
            fun z9 _ => z9 = undef,
            fun z9 _ => z9 = undef,
            fun z9 _ => z9 = undef,
            fun z9 _ => z9 = undef,
            fun z9 _ => z9 = undef,
            fun z9 _ => z9 = undef,
            fun z9 _ => z9 = undef,
            fun z9 _ => z9 = undef,
            fun z9 _ => z9 = undef]
            (by kernel_rfl) (by kernel_rfl) (by kernel_rfl) (by kernel_rfl) ?_ ?_ ?_
          · intro V hV v w1 w2 h hb
            simp only [List.mem_cons, List.not_mem_nil, or_false] at hV
            rcases hV with rfl | rfl | rfl | rfl | rfl | rfl | rfl | rfl | rfl | rfl | rfl | rfl | rfl | rfl | rfl | rfl
            all_goals first | exact h | (exact h)
          · intro iq oq hiq hoq
            match iq, hiq with
            | 0, _ =>
            obtain rfl := Option.some.inj hoq
            intro a1 w1 K hk hK
            have e9 : a1.tmps.getD 9 undef = .int .i64 (a : Nat) := hk.same 9 (by simp)
            simp [Region.wanted, Oper.wp, Act.eval, go_sem, e9]
            exact hK _ _ (Below.refl _ _) rfl
            | 1, _ =>
            obtain rfl := Option.some.inj hoq
            intro a1 w1 K hk hK
            have e1 : a1.tmps.getD 1 undef = .int .i64 (a : Nat) := hk.same 1 (by simp)
            simp [Region.wanted, Oper.wp, Act.eval, go_sem, e1]
            exact hK _ _ (Below.refl _ _) rfl
            | 2, _ =>
            obtain rfl := Option.some.inj hoq
            intro a1 w1 K hk hK
            have d18 : a1.tmps.getD 18 undef = .int .i64 (a : Nat) := hk.deps ⟨0, .data⟩ (by simp) rfl _ _ rfl rfl
            have d19 : a1.tmps.getD 19 undef = .int .i64 (a : Nat) := hk.deps ⟨1, .data⟩ (by simp) rfl _ _ rfl rfl
            simp [Region.wanted, Oper.wp, Act.eval, go_sem, d18, d19]
            exact hK _ _ (Below.refl _ _) rfl
            | 3, _ =>
            obtain rfl := Option.some.inj hoq
            intro a1 w1 K hk hK
            have d20 : a1.tmps.getD 20 undef = .bool false := hk.deps ⟨2, .data⟩ (by simp) rfl _ _ rfl rfl
            simp [Region.wanted, Oper.wp, Act.eval, go_sem, d20]
            exact hK _ _ (Below.refl _ _) rfl
            | 4, _ =>
            obtain rfl := Option.some.inj hoq
            intro a1 w1 K hk hK
            have e3 : a1.tmps.getD 3 undef = .func (.func 96) #[] #[] := hk.same 3 (by simp)
            have gd : a1.tmps[21]? = some (.bool false) := getD_bool (hk.deps ⟨3, .guard⟩ (by simp) rfl _ _ rfl rfl)
            simp [Region.wanted, Oper.wp, Act.eval, go_sem, e3, gd, yielded]
            exact hK _ _ (Below.refl _ _) rfl
            | 5, _ =>
            obtain rfl := Option.some.inj hoq
            intro a1 w1 K hk hK
            have e0 : a1.tmps.getD 0 undef = .slice (some ⟨g, 0, none⟩) m c := hk.same 0 (by simp)
            have gd : a1.tmps[21]? = some (.bool false) := getD_bool (hk.deps ⟨3, .guard⟩ (by simp) rfl _ _ rfl rfl)
            simp [Region.wanted, Oper.wp, Act.eval, go_sem, e0, gd, yielded]
            exact hK _ _ (Below.refl _ _) rfl
            | 6, _ =>
            obtain rfl := Option.some.inj hoq
            intro a1 w1 K hk hK
            have e9 : a1.tmps.getD 9 undef = .int .i64 (a : Nat) := hk.same 9 (by simp)
            have gd : a1.tmps[21]? = some (.bool false) := getD_bool (hk.deps ⟨3, .guard⟩ (by simp) rfl _ _ rfl rfl)
            simp [Region.wanted, Oper.wp, Act.eval, go_sem, e9, gd, yielded]
            exact hK _ _ (Below.refl _ _) rfl
            | 7, _ =>
            obtain rfl := Option.some.inj hoq
            intro a1 w1 K hk hK
            have d23 : a1.tmps.getD 23 undef = undef := hk.deps ⟨5, .data⟩ (by simp) rfl _ _ rfl rfl
            have d24 : a1.tmps.getD 24 undef = undef := hk.deps ⟨6, .data⟩ (by simp) rfl _ _ rfl rfl
            have gd : a1.tmps[21]? = some (.bool false) := getD_bool (hk.deps ⟨3, .guard⟩ (by simp) rfl _ _ rfl rfl)
            simp [Region.wanted, Oper.wp, Act.eval, go_sem, d23, d24, gd, yielded]
            exact hK _ _ (Below.refl _ _) rfl
            | 8, _ =>
            obtain rfl := Option.some.inj hoq
            intro a1 w1 K hk hK
            have d25 : a1.tmps.getD 25 undef = undef := hk.deps ⟨7, .data⟩ (by simp) rfl _ _ rfl rfl
            have gd : a1.tmps[21]? = some (.bool false) := getD_bool (hk.deps ⟨3, .guard⟩ (by simp) rfl _ _ rfl rfl)
            simp [Region.wanted, Oper.wp, Act.eval, go_sem, d25, gd, yielded]
            exact hK _ _ (Below.refl _ _) rfl
            | 9, _ =>
            obtain rfl := Option.some.inj hoq
            intro a1 w1 K hk hK
            have e0 : a1.tmps.getD 0 undef = .slice (some ⟨g, 0, none⟩) m c := hk.same 0 (by simp)
            have gd : a1.tmps[21]? = some (.bool false) := getD_bool (hk.deps ⟨3, .guard⟩ (by simp) rfl _ _ rfl rfl)
            simp [Region.wanted, Oper.wp, Act.eval, go_sem, e0, gd, yielded]
            exact hK _ _ (Below.refl _ _) rfl
            | 10, _ =>
            obtain rfl := Option.some.inj hoq
            intro a1 w1 K hk hK
            have e9 : a1.tmps.getD 9 undef = .int .i64 (a : Nat) := hk.same 9 (by simp)
            have gd : a1.tmps[21]? = some (.bool false) := getD_bool (hk.deps ⟨3, .guard⟩ (by simp) rfl _ _ rfl rfl)
            simp [Region.wanted, Oper.wp, Act.eval, go_sem, e9, gd, yielded]
            exact hK _ _ (Below.refl _ _) rfl
            | 11, _ =>
            obtain rfl := Option.some.inj hoq
            intro a1 w1 K hk hK
            have d28 : a1.tmps.getD 28 undef = undef := hk.deps ⟨10, .data⟩ (by simp) rfl _ _ rfl rfl
            have gd : a1.tmps[21]? = some (.bool false) := getD_bool (hk.deps ⟨3, .guard⟩ (by simp) rfl _ _ rfl rfl)
            simp [Region.wanted, Oper.wp, Act.eval, go_sem, d28, gd, yielded]
            exact hK _ _ (Below.refl _ _) rfl
            | 12, _ =>
            obtain rfl := Option.some.inj hoq
            intro a1 w1 K hk hK
            have d27 : a1.tmps.getD 27 undef = undef := hk.deps ⟨9, .data⟩ (by simp) rfl _ _ rfl rfl
            have d29 : a1.tmps.getD 29 undef = undef := hk.deps ⟨11, .data⟩ (by simp) rfl _ _ rfl rfl
            have gd : a1.tmps[21]? = some (.bool false) := getD_bool (hk.deps ⟨3, .guard⟩ (by simp) rfl _ _ rfl rfl)
            simp [Region.wanted, Oper.wp, Act.eval, go_sem, d27, d29, gd, yielded]
            exact hK _ _ (Below.refl _ _) rfl
            | 13, _ =>
            obtain rfl := Option.some.inj hoq
            intro a1 w1 K hk hK
            have d30 : a1.tmps.getD 30 undef = undef := hk.deps ⟨12, .data⟩ (by simp) rfl _ _ rfl rfl
            have gd : a1.tmps[21]? = some (.bool false) := getD_bool (hk.deps ⟨3, .guard⟩ (by simp) rfl _ _ rfl rfl)
            simp [Region.wanted, Oper.wp, Act.eval, go_sem, d30, gd, yielded]
            exact hK _ _ (Below.refl _ _) rfl
            | 14, _ =>
            obtain rfl := Option.some.inj hoq
            intro a1 w1 K hk hK
            have d22 : a1.tmps.getD 22 undef = undef := hk.deps ⟨4, .data⟩ (by simp) rfl _ _ rfl rfl
            have d26 : a1.tmps.getD 26 undef = undef := hk.deps ⟨8, .data⟩ (by simp) rfl _ _ rfl rfl
            have d31 : a1.tmps.getD 31 undef = undef := hk.deps ⟨13, .data⟩ (by simp) rfl _ _ rfl rfl
            have gd : a1.tmps[21]? = some (.bool false) := getD_bool (hk.deps ⟨3, .guard⟩ (by simp) rfl _ _ rfl rfl)
            simp [Region.wanted, Oper.wp, Act.eval, go_sem, d22, d26, d31, gd, yielded]
            exact hK _ _ (Below.refl _ _) rfl
            | 15, _ =>
            obtain rfl := Option.some.inj hoq
            intro a1 w1 K hk hK
            have d32 : a1.tmps.getD 32 undef = undef := hk.deps ⟨14, .data⟩ (by simp) rfl _ _ rfl rfl
            have gd : a1.tmps[21]? = some (.bool false) := getD_bool (hk.deps ⟨3, .guard⟩ (by simp) rfl _ _ rfl rfl)
            simp [Region.wanted, Oper.wp, Act.eval, go_sem, d32, gd, yielded]
            exact hK _ _ (Below.refl _ _) rfl
            | k + 16, hk => exact absurd hk (by omega)
          · intro vs w3 hl hb3 hv
            match vs, hl with
            | [v0, v1, v2, v3, v4, v5, v6, v7, v8, v9, v10, v11, v12, v13, v14, v15], _ =>
            obtain rfl : v0 = .int .i64 (a : Nat) := hv 0 (by omega)
            obtain rfl : v1 = .int .i64 (a : Nat) := hv 1 (by omega)
            obtain rfl : v2 = .bool false := hv 2 (by omega)
            obtain rfl : v3 = .bool false := hv 3 (by omega)
            obtain rfl : v4 = undef := hv 4 (by omega)
            obtain rfl : v5 = undef := hv 5 (by omega)
            obtain rfl : v6 = undef := hv 6 (by omega)
            obtain rfl : v7 = undef := hv 7 (by omega)
            obtain rfl : v8 = undef := hv 8 (by omega)
            obtain rfl : v9 = undef := hv 9 (by omega)
            obtain rfl : v10 = undef := hv 10 (by omega)
            obtain rfl : v11 = undef := hv 11 (by omega)
            obtain rfl : v12 = undef := hv 12 (by omega)
            obtain rfl : v13 = undef := hv 13 (by omega)
            obtain rfl : v14 = undef := hv 14 (by omega)
            obtain rfl : v15 = undef := hv 15 (by omega)
            clear hv
            simp only [putAll, List.take_succ_cons, List.take_zero, List.drop_succ_cons, List.drop_zero, Act.put, List.setIfInBounds_toArray, List.set_cons_succ, List.set_cons_zero]
            have DN := Lib.hid ((HN.out.step (show Below wr.heap.size wr w3 from hb3)).done (by simp))
            clear hb3
            go_wp2_with fail
            go_roundw
            case rel =>
              obtain ⟨d1, d2, d3, d4, d5⟩ := DN.out
              exact ⟨[] ++ x :: Q, R, by rw [HW.out]; congr 2; have e1 := HI.out.2.1; have e2 := HIE.out; have e3 := HD.out.2.1; simp only [List.length_cons] at e1 e3 d4; omega, d5, d4, d1, d2, d3⟩
            case measure => rw [intOf_of' HW.out, intOf_nat]; have e3 := HD.out.2.1; omega
        · rw [List.concat_eq_append] at *
          obtain ⟨uy, py, vy⟩ := y
          have hmy : (⟨uy, ⟨py, vy⟩⟩ : Pe) ∈ A ++ ((P' ++ [(⟨uy, ⟨py, vy⟩⟩ : Pe)]) ++ x :: (Q ++ (R ++ B))) := by simp
          have hmx : x ∈ A ++ ((P' ++ [(⟨uy, ⟨py, vy⟩⟩ : Pe)]) ++ x :: (Q ++ (R ++ B))) := by simp
          have hsub : ∀ z, z ∈ A ++ ((P' ++ [(⟨uy, ⟨py, vy⟩⟩ : Pe)]) ++ x :: (Q ++ (R ++ B))) → z ∈ A ++ ((x0 :: S0) ++ B) := by
            intro z hz
            have h1 := hin.stb.mem (x := z)
            simp only [List.mem_append, List.mem_cons] at hz h1 ⊢
            rcases hz with hz | hz | hz | hz | hz | hz
            · exact .inl hz
            · exact .inr (.inl (h1.2 (.inl hz)))
            · exact .inr (.inl (h1.2 (.inr (.inl hz))))
            · exact .inr (.inl (h1.2 (.inr (.inr (.inl hz)))))
            · exact .inr (.inl (h1.2 (.inr (.inr (.inr hz)))))
            · exact .inr (.inr hz)
          obtain ⟨ky, oy⟩ := HK.out.1 _ (hsub _ hmy)
          obtain ⟨kx, ox⟩ := HK.out.1 _ (hsub _ hmx)
          have ruy := hin.pr.pts _ hmy
          have rux := hin.pr.pts _ hmx
          obtain ⟨ux, px, vx⟩ := x
          simp only at ky oy kx ox ruy rux
          have hE : A ++ ((P' ++ [(⟨uy, ⟨py, vy⟩⟩ : Pe)]) ++ (⟨ux, ⟨px, vx⟩⟩ : Pe) :: (Q ++ (R ++ B))) = (A ++ P') ++ (⟨uy, ⟨py, vy⟩⟩ : Pe) :: (⟨ux, ⟨px, vx⟩⟩ : Pe) :: (Q ++ (R ++ B)) := by simp
          have hpr2 := hin.pr
          rw [hE] at hpr2
          obtain ⟨t, ht⟩ : ∃ t, (A ++ P').length = t := ⟨_, rfl⟩
          have hT1 : t + 1 < ((A ++ P') ++ (⟨uy, ⟨py, vy⟩⟩ : Pe) :: (⟨ux, ⟨px, vx⟩⟩ : Pe) :: (Q ++ (R ++ B))).length := by rw [← ht]; simp; omega
          obtain ⟨q0, q1⟩ := hpr2.at' t (by omega)
          obtain ⟨k0, k1⟩ := hpr2.at' (t + 1) hT1
          have g1 : ((A ++ P') ++ (⟨uy, ⟨py, vy⟩⟩ : Pe) :: (⟨ux, ⟨px, vx⟩⟩ : Pe) :: (Q ++ (R ++ B)))[t]'(by omega) = ⟨uy, ⟨py, vy⟩⟩ := by subst ht; simp
          have g2 : ((A ++ P') ++ (⟨uy, ⟨py, vy⟩⟩ : Pe) :: (⟨ux, ⟨px, vx⟩⟩ : Pe) :: (Q ++ (R ++ B)))[t + 1]'hT1 = ⟨ux, ⟨px, vx⟩⟩ := by subst ht; rw [List.getElem_append_right (by omega)]; simp
          rw [g1] at q0 q1
          rw [g2] at k0 k1
          have HOR := Lib.hid (fun W (hb2 : Below wr.heap.size wr W) => order_any W px py ux uy vx vy (rux.below (hin.pr.bel.trans (hb2.mono hin.pr.bel.size))) (ruy.below (hin.pr.bel.trans (hb2.mono hin.pr.bel.size))) (by omega) (by have := HK.out.2.1; omega) (by have := HK.out.2.2; omega) ox oy)
          have hthaw : ∀ q, wr.frozen? ⟨g, q, none⟩ = false := fun q => hpr2.thaw q
          have HP2 := Lib.hid (And.intro hpr2 (And.intro ht (And.intro rux ruy)))
          have HLEN := Lib.hid hin.len
          obtain ⟨Ax, cx, rfl, _⟩ := RdU.point rux
          obtain ⟨Ay, cy, rfl, _⟩ := RdU.point ruy
          have HKK := Lib.hid (And.intro kx ky)
          rw [kx] at k0 HOR
          rw [ky] at q0 HOR
          simp only at q0 q1 k0 k1
          have htm : t + 1 < m := by
            have e1 := HD.out.1; have e3 := HD.out.2.2.1; have e2 := HN.out.len; have e4 : A.length + P'.length = t := by rw [← ht]; simp
            simp only [List.length_append, List.length_singleton] at e2
            omega
          have hta : a ≤ t := by have e1 := HD.out.1; have e4 : A.length + P'.length = t := by rw [← ht]; simp
                                 omega
          have HJT := Lib.hid (show a + P'.length = t by have e1 := HD.out.1; have e4 : A.length + P'.length = t := by rw [← ht]; simp
                                                         omega)
          have hjv : ((a + (P' ++ [(⟨.slice Ay py.length cy, ⟨py, vy⟩⟩ : Pe)]).length : Nat) : Int) = (t : Int) + 1 := by
            have e1 := HJT.out
            simp only [List.length_append, List.length_singleton]
            omega
          rw [hjv]
          have ht1 : (0 : Int) ≤ (t : Int) := by omega
          have ht2 : (t : Int) < (m : Int) := by omega
          have ht3 : (t : Int) + 1 < (m : Int) := by omega
          have ht4 : (0 : Int) ≤ (t : Int) + 1 := by omega
          have ht5 : (t : Int) + 1 > (a : Int) := by omega
          have ht6 : t < m := by omega
          have ht7 : t + 1 < m := htm
          have hgl := hin.pr.lt
          have hwt2 : IntKind.i64.wrap (t : Int) = (t : Int) := by have := HD.out; rw [IntKind.wrap_i64]; omega
          have hwt : wrap64 (t : Int) = (t : Int) := by have := HD.out; unfold wrap64; omega
          obtain ⟨z, hz⟩ : ∃ z, Zb.cmp px py = z := ⟨_, rfl⟩
          rw [hz] at HOR
          have HZ := Lib.hid (show z < 0 ↔ pkey px < pkey py from hz ▸ cmp_neg px py)
          obtain ⟨zb, hzb⟩ : ∃ zb, decide (z < 0) = zb := ⟨_, rfl⟩
          have HZB := Lib.hid hzb
          clear hz hin hpr2 hE ruy rux oy ox ky kx hsub hmy hmx g1 g2 hT1 hjv hta htm ht
          go_wp2_with fail
          refine wp_region_vals 16 [fun z9 _ => z9 = .int .i64 ((t : Int) + 1),
            fun z9 _ => z9 = .int .i64 (a : Nat),
            fun z9 _ => z9 = .bool true,
            fun z9 _ => z9 = .bool true,
            fun z9 _ => z9 = .func (.func 96) #[] #[],
            fun z9 _ => z9 = .slice (some ⟨g, 0, none⟩) m c,
            fun z9 _ => z9 = .int .i64 ((t : Int) + 1),
            fun z9 _ => z9 = .pointer (some ⟨g, (t + 1) * 2, none⟩),
            fun z9 _ => z9 = .agg #[.slice Ax k cx, .int .u64 (vx : Nat)],
            fun z9 _ => z9 = .slice (some ⟨g, 0, none⟩) m c,
            fun z9 _ => z9 = .int .i64 ((t : Int) + 1),
            fun z9 _ => z9 = .int .i64 (t : Nat),
            fun z9 _ => z9 = .pointer (some ⟨g, t * 2, none⟩),
            fun z9 _ => z9 = .agg #[.slice Ay k cy, .int .u64 (vy : Nat)],
            fun z9 _ => z9 = .int .i64 z,
            fun z9 _ => z9 = .bool zb]
            (by kernel_rfl) (by kernel_rfl) (by kernel_rfl) (by kernel_rfl) ?_ ?_ ?_
          · intro V hV v w1 w2 h hb
            simp only [List.mem_cons, List.not_mem_nil, or_false] at hV
            rcases hV with rfl | rfl | rfl | rfl | rfl | rfl | rfl | rfl | rfl | rfl | rfl | rfl | rfl | rfl | rfl | rfl
            all_goals first | exact h | (exact h)
          · intro iq oq hiq hoq
            match iq, hiq with
            | 0, _ =>
            obtain rfl := Option.some.inj hoq
            intro a1 w1 K hk hK
            have e9 : a1.tmps.getD 9 undef = .int .i64 ((t : Int) + 1) := hk.same 9 (by simp)
            simp [Region.wanted, Oper.wp, Act.eval, go_sem, e9, k0, k1, q0, q1, ht1, ht2, ht3, ht4, ht5, ht6, ht7, hgl, hent, hzb, hwt, hwt2]
            exact hK _ _ (Below.refl _ _) rfl
            | 1, _ =>
            obtain rfl := Option.some.inj hoq
            intro a1 w1 K hk hK
            have e1 : a1.tmps.getD 1 undef = .int .i64 (a : Nat) := hk.same 1 (by simp)
            simp [Region.wanted, Oper.wp, Act.eval, go_sem, e1, k0, k1, q0, q1, ht1, ht2, ht3, ht4, ht5, ht6, ht7, hgl, hent, hzb, hwt, hwt2]
            exact hK _ _ (Below.refl _ _) rfl
            | 2, _ =>
            obtain rfl := Option.some.inj hoq
            intro a1 w1 K hk hK
            have d18 : a1.tmps.getD 18 undef = .int .i64 ((t : Int) + 1) := hk.deps ⟨0, .data⟩ (by simp) rfl _ _ rfl rfl
            have d19 : a1.tmps.getD 19 undef = .int .i64 (a : Nat) := hk.deps ⟨1, .data⟩ (by simp) rfl _ _ rfl rfl
            simp [Region.wanted, Oper.wp, Act.eval, go_sem, d18, d19, k0, k1, q0, q1, ht1, ht2, ht3, ht4, ht5, ht6, ht7, hgl, hent, hzb, hwt, hwt2]
            exact hK _ _ (Below.refl _ _) rfl
            | 3, _ =>
            obtain rfl := Option.some.inj hoq
            intro a1 w1 K hk hK
            have d20 : a1.tmps.getD 20 undef = .bool true := hk.deps ⟨2, .data⟩ (by simp) rfl _ _ rfl rfl
            simp [Region.wanted, Oper.wp, Act.eval, go_sem, d20, k0, k1, q0, q1, ht1, ht2, ht3, ht4, ht5, ht6, ht7, hgl, hent, hzb, hwt, hwt2]
            exact hK _ _ (Below.refl _ _) rfl
            | 4, _ =>
            obtain rfl := Option.some.inj hoq
            intro a1 w1 K hk hK
            have e3 : a1.tmps.getD 3 undef = .func (.func 96) #[] #[] := hk.same 3 (by simp)
            have gd : a1.tmps[21]? = some (.bool true) := getD_bool (hk.deps ⟨3, .guard⟩ (by simp) rfl _ _ rfl rfl)
            simp [Region.wanted, Oper.wp, Act.eval, go_sem, e3, gd, yielded, k0, k1, q0, q1, ht1, ht2, ht3, ht4, ht5, ht6, ht7, hgl, hent, hzb, hwt, hwt2]
            exact hK _ _ (Below.refl _ _) rfl
            | 5, _ =>
            obtain rfl := Option.some.inj hoq
            intro a1 w1 K hk hK
            have e0 : a1.tmps.getD 0 undef = .slice (some ⟨g, 0, none⟩) m c := hk.same 0 (by simp)
            have gd : a1.tmps[21]? = some (.bool true) := getD_bool (hk.deps ⟨3, .guard⟩ (by simp) rfl _ _ rfl rfl)
            simp [Region.wanted, Oper.wp, Act.eval, go_sem, e0, gd, yielded, k0, k1, q0, q1, ht1, ht2, ht3, ht4, ht5, ht6, ht7, hgl, hent, hzb, hwt, hwt2]
            exact hK _ _ (Below.refl _ _) rfl
            | 6, _ =>
            obtain rfl := Option.some.inj hoq
            intro a1 w1 K hk hK
            have e9 : a1.tmps.getD 9 undef = .int .i64 ((t : Int) + 1) := hk.same 9 (by simp)
            have gd : a1.tmps[21]? = some (.bool true) := getD_bool (hk.deps ⟨3, .guard⟩ (by simp) rfl _ _ rfl rfl)
            simp [Region.wanted, Oper.wp, Act.eval, go_sem, e9, gd, yielded, k0, k1, q0, q1, ht1, ht2, ht3, ht4, ht5, ht6, ht7, hgl, hent, hzb, hwt, hwt2]
            exact hK _ _ (Below.refl _ _) rfl
            | 7, _ =>
            obtain rfl := Option.some.inj hoq
            intro a1 w1 K hk hK
            have d23 : a1.tmps.getD 23 undef = .slice (some ⟨g, 0, none⟩) m c := hk.deps ⟨5, .data⟩ (by simp) rfl _ _ rfl rfl
            have d24 : a1.tmps.getD 24 undef = .int .i64 ((t : Int) + 1) := hk.deps ⟨6, .data⟩ (by simp) rfl _ _ rfl rfl
            have gd : a1.tmps[21]? = some (.bool true) := getD_bool (hk.deps ⟨3, .guard⟩ (by simp) rfl _ _ rfl rfl)
            simp [Region.wanted, Oper.wp, Act.eval, go_sem, d23, d24, gd, yielded, k0, k1, q0, q1, ht1, ht2, ht3, ht4, ht5, ht6, ht7, hgl, hent, hzb, hwt, hwt2]
            exact hK _ _ (Below.refl _ _) rfl
            | 8, _ =>
            obtain rfl := Option.some.inj hoq
            intro a1 w1 K hk hK
            have d25 : a1.tmps.getD 25 undef = .pointer (some ⟨g, (t + 1) * 2, none⟩) := hk.deps ⟨7, .data⟩ (by simp) rfl _ _ rfl rfl
            have gd : a1.tmps[21]? = some (.bool true) := getD_bool (hk.deps ⟨3, .guard⟩ (by simp) rfl _ _ rfl rfl)
            have c0 : w1.cell? ⟨g, (t + 1) * 2, none⟩ = some (.slice Ax k cx) := Below.keeps hk.ext _ _ (by simp [go_sem, k0, k1, q0, q1, ht1, ht2, ht3, ht4, ht5, ht6, ht7, hgl, hent, hzb, hwt, hwt2])
            have c1 : w1.cell? ⟨g, (t + 1) * 2 + 1, none⟩ = some (.int .u64 (vx : Nat)) := Below.keeps hk.ext _ _ (by simp [go_sem, k0, k1, q0, q1, ht1, ht2, ht3, ht4, ht5, ht6, ht7, hgl, hent, hzb, hwt, hwt2])
            have c2 : w1.cell? ⟨g, t * 2, none⟩ = some (.slice Ay k cy) := Below.keeps hk.ext _ _ (by simp [go_sem, k0, k1, q0, q1, ht1, ht2, ht3, ht4, ht5, ht6, ht7, hgl, hent, hzb, hwt, hwt2])
            have c3 : w1.cell? ⟨g, t * 2 + 1, none⟩ = some (.int .u64 (vy : Nat)) := Below.keeps hk.ext _ _ (by simp [go_sem, k0, k1, q0, q1, ht1, ht2, ht3, ht4, ht5, ht6, ht7, hgl, hent, hzb, hwt, hwt2])
            simp [Region.wanted, Oper.wp, Act.eval, go_sem, d25, gd, yielded, c0, c1, c2, c3, k0, k1, q0, q1, ht1, ht2, ht3, ht4, ht5, ht6, ht7, hgl, hent, hzb, hwt, hwt2]
            exact hK _ _ (Below.refl _ _) rfl
            | 9, _ =>
            obtain rfl := Option.some.inj hoq
            intro a1 w1 K hk hK
            have e0 : a1.tmps.getD 0 undef = .slice (some ⟨g, 0, none⟩) m c := hk.same 0 (by simp)
            have gd : a1.tmps[21]? = some (.bool true) := getD_bool (hk.deps ⟨3, .guard⟩ (by simp) rfl _ _ rfl rfl)
            simp [Region.wanted, Oper.wp, Act.eval, go_sem, e0, gd, yielded, k0, k1, q0, q1, ht1, ht2, ht3, ht4, ht5, ht6, ht7, hgl, hent, hzb, hwt, hwt2]
            exact hK _ _ (Below.refl _ _) rfl
            | 10, _ =>
            obtain rfl := Option.some.inj hoq
            intro a1 w1 K hk hK
            have e9 : a1.tmps.getD 9 undef = .int .i64 ((t : Int) + 1) := hk.same 9 (by simp)
            have gd : a1.tmps[21]? = some (.bool true) := getD_bool (hk.deps ⟨3, .guard⟩ (by simp) rfl _ _ rfl rfl)
            simp [Region.wanted, Oper.wp, Act.eval, go_sem, e9, gd, yielded, k0, k1, q0, q1, ht1, ht2, ht3, ht4, ht5, ht6, ht7, hgl, hent, hzb, hwt, hwt2]
            exact hK _ _ (Below.refl _ _) rfl
            | 11, _ =>
            obtain rfl := Option.some.inj hoq
            intro a1 w1 K hk hK
            have d28 : a1.tmps.getD 28 undef = .int .i64 ((t : Int) + 1) := hk.deps ⟨10, .data⟩ (by simp) rfl _ _ rfl rfl
            have gd : a1.tmps[21]? = some (.bool true) := getD_bool (hk.deps ⟨3, .guard⟩ (by simp) rfl _ _ rfl rfl)
            simp [Region.wanted, Oper.wp, Act.eval, go_sem, d28, gd, yielded, k0, k1, q0, q1, ht1, ht2, ht3, ht4, ht5, ht6, ht7, hgl, hent, hzb, hwt, hwt2]
            exact hK _ _ (Below.refl _ _) rfl
            | 12, _ =>
            obtain rfl := Option.some.inj hoq
            intro a1 w1 K hk hK
            have d27 : a1.tmps.getD 27 undef = .slice (some ⟨g, 0, none⟩) m c := hk.deps ⟨9, .data⟩ (by simp) rfl _ _ rfl rfl
            have d29 : a1.tmps.getD 29 undef = .int .i64 (t : Nat) := hk.deps ⟨11, .data⟩ (by simp) rfl _ _ rfl rfl
            have gd : a1.tmps[21]? = some (.bool true) := getD_bool (hk.deps ⟨3, .guard⟩ (by simp) rfl _ _ rfl rfl)
            simp [Region.wanted, Oper.wp, Act.eval, go_sem, d27, d29, gd, yielded, k0, k1, q0, q1, ht1, ht2, ht3, ht4, ht5, ht6, ht7, hgl, hent, hzb, hwt, hwt2]
            exact hK _ _ (Below.refl _ _) rfl
            | 13, _ =>
            obtain rfl := Option.some.inj hoq
            intro a1 w1 K hk hK
            have d30 : a1.tmps.getD 30 undef = .pointer (some ⟨g, t * 2, none⟩) := hk.deps ⟨12, .data⟩ (by simp) rfl _ _ rfl rfl
            have gd : a1.tmps[21]? = some (.bool true) := getD_bool (hk.deps ⟨3, .guard⟩ (by simp) rfl _ _ rfl rfl)
            have c0 : w1.cell? ⟨g, (t + 1) * 2, none⟩ = some (.slice Ax k cx) := Below.keeps hk.ext _ _ (by simp [go_sem, k0, k1, q0, q1, ht1, ht2, ht3, ht4, ht5, ht6, ht7, hgl, hent, hzb, hwt, hwt2])
            have c1 : w1.cell? ⟨g, (t + 1) * 2 + 1, none⟩ = some (.int .u64 (vx : Nat)) := Below.keeps hk.ext _ _ (by simp [go_sem, k0, k1, q0, q1, ht1, ht2, ht3, ht4, ht5, ht6, ht7, hgl, hent, hzb, hwt, hwt2])
            have c2 : w1.cell? ⟨g, t * 2, none⟩ = some (.slice Ay k cy) := Below.keeps hk.ext _ _ (by simp [go_sem, k0, k1, q0, q1, ht1, ht2, ht3, ht4, ht5, ht6, ht7, hgl, hent, hzb, hwt, hwt2])
            have c3 : w1.cell? ⟨g, t * 2 + 1, none⟩ = some (.int .u64 (vy : Nat)) := Below.keeps hk.ext _ _ (by simp [go_sem, k0, k1, q0, q1, ht1, ht2, ht3, ht4, ht5, ht6, ht7, hgl, hent, hzb, hwt, hwt2])
            simp [Region.wanted, Oper.wp, Act.eval, go_sem, d30, gd, yielded, c0, c1, c2, c3, k0, k1, q0, q1, ht1, ht2, ht3, ht4, ht5, ht6, ht7, hgl, hent, hzb, hwt, hwt2]
            exact hK _ _ (Below.refl _ _) rfl
            | 14, _ =>
            obtain rfl := Option.some.inj hoq
            intro a1 w1 K hk hK
            have d22 : a1.tmps.getD 22 undef = .func (.func 96) #[] #[] := hk.deps ⟨4, .data⟩ (by simp) rfl _ _ rfl rfl
            have d26 : a1.tmps.getD 26 undef = .agg #[.slice Ax k cx, .int .u64 (vx : Nat)] := hk.deps ⟨8, .data⟩ (by simp) rfl _ _ rfl rfl
            have d31 : a1.tmps.getD 31 undef = .agg #[.slice Ay k cy, .int .u64 (vy : Nat)] := hk.deps ⟨13, .data⟩ (by simp) rfl _ _ rfl rfl
            have gd : a1.tmps[21]? = some (.bool true) := getD_bool (hk.deps ⟨3, .guard⟩ (by simp) rfl _ _ rfl rfl)
            simp [Region.wanted, Oper.wp, Act.eval, go_sem, d22, d26, d31, gd, yielded, k0, k1, q0, q1, ht1, ht2, ht3, ht4, ht5, ht6, ht7, hgl, hent, hzb, hwt, hwt2]
            refine (HOR.out _ (below_trans (by repeat (first | exact Below.refl _ _ | (refine Below.drew ?_) | (refine below_drewN' ?_ _) | (refine below_alloc' ?_ _) | (refine Below.setCell ?_ (by first | exact Nat.le_refl _ | (simp; done) | (simp; omega)) _))) hk.ext)).mono ?_
            rintro e w9 ⟨rfl, hb9⟩
            exact hK _ _ hb9 rfl
            | 15, _ =>
            obtain rfl := Option.some.inj hoq
            intro a1 w1 K hk hK
            have d32 : a1.tmps.getD 32 undef = .int .i64 z := hk.deps ⟨14, .data⟩ (by simp) rfl _ _ rfl rfl
            have gd : a1.tmps[21]? = some (.bool true) := getD_bool (hk.deps ⟨3, .guard⟩ (by simp) rfl _ _ rfl rfl)
            simp [Region.wanted, Oper.wp, Act.eval, go_sem, d32, gd, yielded, k0, k1, q0, q1, ht1, ht2, ht3, ht4, ht5, ht6, ht7, hgl, hent, hzb, hwt, hwt2]
            exact hK _ _ (Below.refl _ _) rfl
            | k + 16, hk => exact absurd hk (by omega)
          · intro vs w3 hl hb3 hv
            match vs, hl with
            | [v0, v1, v2, v3, v4, v5, v6, v7, v8, v9, v10, v11, v12, v13, v14, v15], _ =>
            obtain rfl : v0 = .int .i64 ((t : Int) + 1) := hv 0 (by omega)
            obtain rfl : v1 = .int .i64 (a : Nat) := hv 1 (by omega)
            obtain rfl : v2 = .bool true := hv 2 (by omega)
            obtain rfl : v3 = .bool true := hv 3 (by omega)
            obtain rfl : v4 = .func (.func 96) #[] #[] := hv 4 (by omega)
            obtain rfl : v5 = .slice (some ⟨g, 0, none⟩) m c := hv 5 (by omega)
            obtain rfl : v6 = .int .i64 ((t : Int) + 1) := hv 6 (by omega)
            obtain rfl : v7 = .pointer (some ⟨g, (t + 1) * 2, none⟩) := hv 7 (by omega)
            obtain rfl : v8 = .agg #[.slice Ax k cx, .int .u64 (vx : Nat)] := hv 8 (by omega)
            obtain rfl : v9 = .slice (some ⟨g, 0, none⟩) m c := hv 9 (by omega)
            obtain rfl : v10 = .int .i64 ((t : Int) + 1) := hv 10 (by omega)
            obtain rfl : v11 = .int .i64 (t : Nat) := hv 11 (by omega)
            obtain rfl : v12 = .pointer (some ⟨g, t * 2, none⟩) := hv 12 (by omega)
            obtain rfl : v13 = .agg #[.slice Ay k cy, .int .u64 (vy : Nat)] := hv 13 (by omega)
            obtain rfl : v14 = .int .i64 z := hv 14 (by omega)
            obtain rfl : v15 = .bool zb := hv 15 (by omega)
            clear hv
            simp only [putAll, List.take_succ_cons, List.take_zero, List.drop_succ_cons, List.drop_zero, Act.put, List.setIfInBounds_toArray, List.set_cons_succ, List.set_cons_zero]
            have HN4 := Lib.hid (HN.out.step (show Below wr.heap.size wr w3 from hb3))
            have HS3 := Lib.hid (show Below wr.heap.size wr w3 from hb3)
            replace k0 := Below.keeps hb3 _ _ k0
            replace k1 := Below.keeps hb3 _ _ k1
            replace q0 := Below.keeps hb3 _ _ q0
            replace q1 := Below.keeps hb3 _ _ q1
            replace hgl := Nat.lt_of_lt_of_le hgl hb3.size
            clear hb3 hzb hthaw
            cases zb with
            | false =>
              have DN := Lib.hid (HN4.out.done (fun u hu => by
                have hyx : pkey py ≤ pkey px := by have h1 := HZ.out; have h2 := of_decide_eq_false HZB.out; omega
                rcases List.mem_append.1 hu with hu | hu
                · have h3 := (List.pairwise_append.1 (List.pairwise_append.1 HN4.out.srt).1).2.2 u hu _ (List.mem_singleton.2 rfl)
                  exact Nat.le_trans h3 hyx
                · obtain rfl := List.mem_singleton.1 hu
                  exact hyx))
              clear k0 k1 q0 q1 hgl
              go_wp2_with fail
              go_roundw
              case rel =>
                obtain ⟨d1, d2, d3, d4, d5⟩ := DN.out
                exact ⟨_, R, by rw [HW.out]; congr 2; have e1 := HI.out.2.1; have e2 := HIE.out; have e3 := HD.out.2.1; simp only [List.length_cons] at e1 e3 d4; omega, d5, d4, d1, d2, d3⟩
              case measure => rw [intOf_of' HW.out, intOf_nat]; have e3 := HD.out.2.1; omega
            | true =>
              have hthaw : ∀ q, w3.frozen? ⟨g, q, none⟩ = false := fun q => HN4.out.pr.thaw q
              go_wp2_with fail
              go_region
              go_wp2_with fail
              go_roundw
              case rel =>
                refine ⟨P', (⟨.slice Ay py.length cy, ⟨py, vy⟩⟩ : Pe) :: Q, by first | (rw [hwt]; congr 2; have := HJT.out; omega) | (congr 2; have := HJT.out; omega), HN4.out.down (show pkey px < pkey py from HZ.out.1 (of_decide_eq_true HZB.out)) ?_⟩
                have hp3 := HP2.out.1.step HS3.out
                have hT : t + 1 < ((A ++ P') ++ (⟨.slice Ay py.length cy, ⟨py, vy⟩⟩ : Pe) :: (⟨.slice Ax px.length cx, ⟨px, vx⟩⟩ : Pe) :: (Q ++ (R ++ B))).length := by rw [← HP2.out.2.1]; simp; omega
                have h5 := (hp3.set hT (⟨.slice Ay py.length cy, ⟨py, vy⟩⟩ : Pe) HP2.out.2.2.2).set (j := t) (by rw [List.length_set]; omega) (⟨.slice Ax px.length cx, ⟨px, vx⟩⟩ : Pe) HP2.out.2.2.1
                have h6 := swap_mid (A ++ P') (⟨.slice Ay py.length cy, ⟨py, vy⟩⟩ : Pe) (⟨.slice Ax px.length cx, ⟨px, vx⟩⟩ : Pe) (Q ++ (R ++ B))
                rw [HP2.out.2.1] at h6
                rw [h6] at h5
                have h7 := h5.step (Below.drew (Below.refl _ _))
                simp only [HKK.out.1, HKK.out.2] at h7 ⊢
                simpa using h7
              case measure => first | (rw [intOf_of' hwt, intOf_of' rfl]; omega) | (rw [intOf_of' rfl, intOf_of' rfl]; omega) | (simp [intOf]; omega)
    · obtain rfl : S2 = [] := by
        cases S2 with
        | nil => rfl
        | cons x R => exact absurd (hbi.2.2 (by simp)) hib
      have h3 : ¬ (i : Int) < (b : Int) := by omega
      clear h1 h2 hpr hsrt hstb hi hbi
      go_wp2_with fail
      go_end0
      exact ⟨S1, rfl, by simpa using HI.out.2.2.1, by have := HI.out.2.1; simpa using this, by simpa using HI.out.2.2.2.2, HI.out.2.2.2.1⟩
end Go.Proofs.Ytjokcagggmjgmaa
/-! SrtC -/
namespace Go.Proofs.Ytjokcagggmjgmaa
open Go.RowKit
set_option linter.unusedVariables false
set_option linter.unusedSimpArgs false
set_option maxRecDepth 100000

theorem eclone_any (w : World) (l : List En) (v : Value) (hv : RdE w v l) (hl : l.length ≤ 1000) : Calls Try.prog 94 #[v] w fun e w' => ∃ v', e = .returned v' ∧ OwnE w w' v' l ∧ Below w.heap.size w w' := by
  have HS := Lib.hid (fun w' (hb : Below w.heap.size w w') => hv.src hb)
  have HL := Lib.hid hl
  obtain ⟨A, c, rfl, ⟨h1, h2, h3⟩, hx⟩ := hv
  cases A with
  | none =>
    have hl0 : l = [] := by
      cases l with
      | nil => rfl
      | cons x l => obtain ⟨b, o, h, _⟩ := hx (by simp); cases h
    subst hl0
    have he : ∀ w : World, (binOp .eql 26 (.slice none 0 c) (.slice none 0 0)).run Try.prog w = .ok (.bool true) w := fun _ => rfl
    clear h1 h2 h3 hx hl
    simp only [List.length_nil]
    go_enter Try.func94, Try.ntmps94
    go_wp2_with fail
    go_ret
    exact ⟨_, rfl, OwnE.nil _ _, Below.refl _ _⟩
  | some a =>
    have he : ∀ w : World, (binOp .eql 26 (.slice (some a) l.length c) (.slice none 0 0)).run Try.prog w = .ok (.bool false) w := fun _ => rfl
    clear h1 h2 h3 hx hl
    go_enter Try.func94, Try.ntmps94
    go_wp2_with (at_builtin; refine wpList_append_E rfl (.tmp 5) (.tmp 6) rfl w [] l (OwnE.lit (Nat.le_refl _) rfl) (HS.out _ (by repeat (first | exact Below.refl _ _ | (refine Below.drew ?_) | (refine below_drewN' ?_ _) | (refine below_alloc' ?_ _) | (refine Below.setCell ?_ (by first | exact Nat.le_refl _ | (simp; done) | (simp; omega)) _)))) (by repeat (first | exact Below.refl _ _ | (refine Below.drew ?_) | (refine below_drewN' ?_ _) | (refine below_alloc' ?_ _) | (refine Below.setCell ?_ (by first | exact Nat.le_refl _ | (simp; done) | (simp; omega)) _))) (by have := HL.out; simp; omega) ?_)
    intro v' w' hown hb
    have HO := Lib.hid (And.intro hown hb)
    clear hown hb
    go_wp2_with fail
    go_ret
    exact ⟨_, rfl, HO.out.1, HO.out.2⟩
theorem cellsE_pe {w : World} {cs : List Value} {l : List En} (h : CellsE w cs l) : ∃ xs : List Pe, xs.map (·.2) = l ∧ (∀ x ∈ xs, RdU w x.1 (pti x.2.p)) ∧ cs.length = xs.length * 2 ∧
    ∀ j (hj : j < xs.length), cs[j * 2]? = some xs[j].1 ∧ cs[j * 2 + 1]? = some (.int .u64 (xs[j].2.v : Nat)) := by
  induction l generalizing cs with
  | nil => obtain rfl : cs = [] := h; exact ⟨[], rfl, by simp, rfl, fun j hj => by simp at hj⟩
  | cons e l ih =>
    obtain ⟨u, ds, rfl, hu, h⟩ := h
    obtain ⟨xs, h1, h2, h3, h4⟩ := ih h
    refine ⟨(u, e) :: xs, by simp [h1], ?_, by simp [h3]; omega, ?_⟩
    · intro x hx
      rcases List.mem_cons.1 hx with rfl | hx
      · exact hu
      · exact h2 x hx
    · intro j hj
      cases j with
      | zero => simp
      | succ j =>
        obtain ⟨a, b⟩ := h4 j (by simpa using hj)
        refine ⟨?_, ?_⟩
        · rw [show (j + 1) * 2 = j * 2 + 1 + 1 by omega]; simpa using a
        · rw [show (j + 1) * 2 + 1 = j * 2 + 1 + 1 + 1 by omega]; simpa using b
theorem OwnE.pr {W w : World} {v : Value} {l : List En} (h : OwnE W w v l) (hb : Below W.heap.size W w) (hne : l ≠ []) : ∃ g n xs, v = .slice (some ⟨g, 0, none⟩) l.length n ∧ PR W w g n xs ∧ xs.map (·.2) = l := by
  obtain ⟨cs, ⟨h1, h2⟩, h3⟩ := h
  obtain ⟨xs, e1, e2, e3, e4⟩ := cellsE_pe h3
  have hlen : xs.length = l.length := by rw [← e1]; simp
  rcases h2 with ⟨_, h0⟩ | ⟨g, cap, cur, rfl, hg, hh, hcap, hm, hs, ht⟩
  · exact absurd (List.length_eq_zero_iff.1 h0) hne
  · refine ⟨g, cap, xs, rfl, ⟨⟨cur, hh, hs, by omega, fun j hj => ?_⟩, e2, hg, hb⟩, e1⟩
    obtain ⟨a, b⟩ := e4 j hj
    have key : ∀ i x, cs[i]? = some x → cur[i]? = some x := fun i x hi => by
      rw [← ht] at hi
      have hil := (List.getElem?_eq_some_iff.1 hi).1
      rw [List.length_take] at hil
      rw [List.getElem?_take_of_lt (by omega), Array.getElem?_toList] at hi
      exact hi
    exact ⟨key _ _ a, key _ _ b⟩
/-- the stable sort does what it is to do, for rows up to N -/
def SortR (W0 : World) (g n : Nat) (xs : List Pe) (e : Ending) (w' : World) : Prop := ∃ ys, e = .returned (.tuple #[]) ∧ PR W0 w' g n ys ∧ ys.length = xs.length ∧ Stb xs ys ∧ Srt ys
def SortOk (N : Nat) : Prop := ∀ (W0 w : World) (g n c k : Nat) (xs : List Pe), xs.length ≤ N → xs ≠ [] → 1 ≤ k → k ≤ 16 → PR W0 w g n xs → (∀ x ∈ xs, x.2.p.length = k ∧ ∀ q ∈ x.2.p, q < 2 ^ 64) →
  Calls Try.prog 95 #[.slice (some ⟨g, 0, none⟩) xs.length c, .func (.func 96) #[] #[]] w fun e w' => SortR W0 g n xs e w'
end Go.Proofs.Ytjokcagggmjgmaa
