/-
  Texts that the proof of DigestParts leans on, part 5: contracts of functions, and plain laws.
-/
import Derived.Test.YtjokcagggmjgmaaMDigestParts4
import Derived.ScopeJumps
import Derived.Deep.Slices
import Derived.Deep.Fields
import Derived.ChangeSame
import Derived.ProofKit
import Derived.OpenShut
/-! DigC -/
namespace Go.Proofs.Ytjokcagggmjgmaa
open Go.RowKit
set_option linter.unusedVariables false
set_option linter.unusedSimpArgs false
set_option maxRecDepth 100000

theorem pti_len (p : List Nat) : (pti p).length = p.length := by unfold pti; rw [List.length_map]
theorem rShape_v {k : Nat} {l : List En} (h : Tn k l) (w : World) (v : Value) (hv : RdE w v l) (he : EtS k l) (lvv : Int) (pr pll : List Nat) (h1 : (shL l).lv = lvv) (h2 : (shL l).pre = pr) (h3 : (shL l).pl = pll) :
    Calls Try.prog 36 #[v] w fun e w' => ∃ (Au : Option Addr) (cu : Nat) (Ap : Option Addr) (cp : Nat) (dn : Bool) (vv : Int), e = .returned (.agg #[.int .i64 lvv, .slice Au pr.length cu, .slice Ap pll.length cp, .bool dn, .int .u64 vv]) ∧
      (0 < pr.length → ∃ b o, Au = some ⟨b, o, none⟩ ∧ ∀ j (h : j < pr.length), w'.cell? ⟨b, o + j, none⟩ = some (.int .u64 (pr[j] : Nat))) ∧ (0 < pll.length → ∃ b o, Ap = some ⟨b, o, none⟩ ∧ ∀ j (h : j < pll.length), w'.cell? ⟨b, o + j, none⟩ = some (.int .i64 (pll[j] : Nat))) ∧ Below w.heap.size w w' := by
  refine (rShape_nd h w w v hv (Below.refl _ _) he).mono ?_
  rintro e w1 ⟨x, rfl, hx1, hb1⟩
  obtain ⟨u, plv, rfl, hu, hplv⟩ := hx1.rd hb1
  obtain ⟨Au, cu, rfl, hxu⟩ := hu.slice
  obtain ⟨Ap, cp, rfl, hxp⟩ := hplv
  subst h1 h2 h3
  refine ⟨Au, cu, Ap, cp, _, _, by rw [pti_len, List.length_map], fun h0 => ?_, fun h0 => ?_, hb1⟩
  · obtain ⟨b, o, h4, h5⟩ := hxu (by rw [pti_len]; exact h0)
    refine ⟨b, o, h4, fun j hj => ?_⟩
    have := h5 j (by rw [pti_len]; exact hj)
    simp only [pti, List.getElem_map] at this
    exact this
  · obtain ⟨b, o, h4, h5⟩ := hxp (by rw [List.length_map]; exact h0)
    refine ⟨b, o, h4, fun j hj => ?_⟩
    have := h5 j (by rw [List.length_map]; exact hj)
    rw [List.getElem_map] at this
    exact this
set_option maxHeartbeats 4000000 in
theorem rnode_one (w : World) (k : Nat) (e0 : En) (v : Value) (hv : RdE w v [e0]) (he : EtS k [e0]) (htn : Tn k [e0]) :
    Calls Try.prog 12 #[v] w fun e w' => e = .returned (.int .u64 (digL [e0])) ∧ Below w.heap.size w w' := by
  obtain ⟨lvv, hlv⟩ : ∃ z, (shL [e0]).lv = z := ⟨_, rfl⟩
  obtain ⟨pr, hpr⟩ : ∃ z, (shL [e0]).pre = z := ⟨_, rfl⟩
  obtain ⟨pll, hpll⟩ : ∃ z, (shL [e0]).pl = z := ⟨_, rfl⟩
  have HSH := Lib.hid (rShape_v htn w v hv he lvv pr pll hlv hpr hpll)
  have hpr2 : pr = e0.p := by rw [← hpr, htn.sh_pre, preL_one]
  have hlv2 : lvv = -1 := by rw [← hlv, htn.sh_lv, lev_one]; rfl
  obtain ⟨n1, hn1⟩ : ∃ n : Nat, n = 0 := ⟨_, rfl⟩
  have HWV := Lib.hid (show IntKind.u64.wrap (wrap64 (lvv + 1)) = (n1 : Int) by rw [hlv2, hn1, IntKind.wrap_u64]; unfold wrap64; omega)
  have HPL := Lib.hid (show pr.length ≤ 40 by rw [hpr2, he.et.len e0 (List.mem_singleton.2 rfl)]; exact he.k40)
  obtain ⟨dh, hdh⟩ : ∃ d, pr.foldl (fun h c => stirI h ((c : Nat) : Int)) (stirI basisI (n1 : Nat)) = d := ⟨_, rfl⟩
  have HDH := Lib.hid hdh
  have hd1 : digL [e0] = stirI dh (e0.v : Nat) := by rw [dig_one, ← hdh, hn1, hpr2]; rfl
  rw [hd1]
  obtain ⟨A, c, rfl, _, hx⟩ := hv
  obtain ⟨b0, o0, rfl, hc⟩ := hx (by simp)
  obtain ⟨u0, k0, ku0, k1⟩ := hc 0 (by simp)
  simp only [Nat.zero_mul, Nat.add_zero, List.getElem_cons_zero] at k0 ku0 k1
  have HV0 := Lib.hid k1
  simp only [List.length_singleton] at HSH ⊢
  clear hc hx k0 ku0 k1 hn1 hlv hpr hpll htn he hpr2 hlv2 hdh hd1
  go_enter Try.func12, Try.ntmps12
  go_wp2_with fail
  refine (HSH.out).mono ?_
  rintro e w1 ⟨Au, cu, Ap, cp, dn, vv, rfl, hxu, hxp, hb1⟩
  have HB1 := Lib.hid hb1
  have HXU := Lib.hid hxu
  have HXP := Lib.hid hxp
  clear hxu hxp hb1
  go_wp2_with fail
  rw [HWV.out]
  refine (rStir_any _ _ _).mono ?_
  rintro e w2 ⟨rfl, hw2⟩
  obtain rfl := hw2.symm
  clear hw2
  have hst : stirI 14695981039346656037 (n1 : Nat) = stirI basisI (n1 : Nat) := rfl
  rw [hst]
  obtain ⟨h0, hh0⟩ : ∃ h, stirI basisI (n1 : Nat) = h := ⟨_, rfl⟩
  rw [hh0]
  have HH0 := Lib.hid hh0
  clear hst hh0
  have HBX := Lib.hid (show (w1.alloc (.cells #[.int .i64 lvv, .slice Au pr.length cu, .slice Ap pll.length cp, .bool dn, .int .u64 vv] 73)).heap[w1.heap.size]? = some (.cells #[.int .i64 lvv, .slice Au pr.length cu, .slice Ap pll.length cp, .bool dn, .int .u64 vv] 73 (0, 0)) from alloc_blk _ _)
  have HB2 := Lib.hid (show Below w.heap.size w (w1.alloc (.cells #[.int .i64 lvv, .slice Au pr.length cu, .slice Ap pll.length cp, .bool dn, .int .u64 vv] 73)) from below_alloc' HB1.out _)
  have HB12 := Lib.hid (show Below w1.heap.size w1 (w1.alloc (.cells #[.int .i64 lvv, .slice Au pr.length cu, .slice Ap pll.length cp, .bool dn, .int .u64 vv] 73)) from (by repeat (first | exact Below.refl _ _ | (refine Below.drew ?_) | (refine below_drewN' ?_ _) | (refine below_alloc' ?_ _) | (refine Below.setCell ?_ (by first | exact Nat.le_refl _ | (simp; done) | (simp; omega)) _))))
  go_wp2_with fail
  go_loopw [4, 5] (fun hv iv wr => ∃ j : Nat, j ≤ pr.length ∧ iv = .int .i64 (j : Nat) ∧ hv = .int .u64 ((pr.take j).foldl (fun h c => stirI h (c : Nat)) h0) ∧ Below (w1.alloc (.cells #[.int .i64 lvv, .slice Au pr.length cu, .slice Ap pll.length cp, .bool dn, .int .u64 vv] 73)).heap.size (w1.alloc (.cells #[.int .i64 lvv, .slice Au pr.length cu, .slice Ap pll.length cp, .bool dn, .int .u64 vv] 73)) wr) (fun _ iv _ => pr.length - (intOf iv).toNat)
  case atStart => exact ⟨0, Nat.zero_le _, rfl, rfl, (by repeat (first | exact Below.refl _ _ | (refine Below.drew ?_) | (refine below_drewN' ?_ _) | (refine below_alloc' ?_ _) | (refine Below.setCell ?_ (by first | exact Nat.le_refl _ | (simp; done) | (simp; omega)) _)))⟩
  case round =>
    obtain ⟨j, hj, rfl, rfl, hb⟩ := hrel
    have HJ := Lib.hid hb
    have hblk := (hb.block _ (lt_of_block HBX.out)).trans HBX.out
    have hxl := lt_of_block hblk
    have x1 : wr.cell? ⟨w1.heap.size, 1, none⟩ = some (.slice Au pr.length cu) := by simp [World.cell?, hblk]
    have x2 : wr.cell? ⟨w1.heap.size, 2, none⟩ = some (.slice Ap pll.length cp) := by simp [World.cell?, hblk]
    by_cases hlt : j < pr.length
    · have h3 : (j : Int) < (pr.length : Int) := by omega
      have h5 : (0 : Int) ≤ (j : Int) := by omega
      have HW := Lib.hid (show wrap64 ((j : Int) + 1) = ((j + 1 : Nat) : Int) by have := HPL.out; unfold wrap64; omega)
      obtain ⟨bk, ofs, rfl, hc⟩ := HXU.out (by omega)
      have k0 := Below.keeps hb _ _ (Below.keeps HB12.out _ _ (hc j hlt))
      have hbl := World.block_lt_of_cell? wr _ k0
      have HTK := Lib.hid (show (pr.take (j + 1)).foldl (fun h c => stirI h ((c : Nat) : Int)) h0 = stirI ((pr.take j).foldl (fun h c => stirI h ((c : Nat) : Int)) h0) (pr[j] : Nat) by rw [← List.take_append_getElem hlt, List.foldl_append]; rfl)
      generalize (pr.take j).foldl (fun h c => stirI h ((c : Nat) : Int)) h0 = hj at *
      generalize pr[j] = x at *
      clear hc hb hblk x2
      go_wp2_with fail
      refine (rStir_any _ _ _).mono ?_
      rintro e w2 ⟨rfl, hw2⟩
      obtain rfl := hw2.symm
      clear hw2
      go_wp2_with fail
      go_roundw
      case rel => exact ⟨j + 1, by omega, (by first | rw [HW.out] | rfl | simp), by rw [HTK.out], HJ.out⟩
      case measure => (first | (rw [intOf_of' HW.out, intOf_of' rfl]; omega) | (simp [intOf]; omega) | (simp [intOf] <;> omega))
    · have h3 : ¬ (j : Int) < (pr.length : Int) := by omega
      have e : pr.take j = pr := List.take_of_length_le (by omega)
      rw [e]
      have hdd : pr.foldl (fun h c => stirI h ((c : Nat) : Int)) h0 = dh := by rw [← HH0.out]; exact HDH.out
      rw [hdd]
      have HBR := Lib.hid (HB2.out.trans (hb.mono HB2.out.size))
      have HBR1 := Lib.hid (HB12.out.trans (hb.mono HB12.out.size))
      clear hb e hdd
      have v1 := Below.keeps HBR.out _ _ HV0.out
      have vl := World.block_lt_of_cell? wr _ v1
      go_wp2_with fail
      refine (rStir_any _ _ _).mono ?_
      rintro e w2 ⟨rfl, hw2⟩
      obtain rfl := hw2.symm
      clear hw2
      go_wp2_with fail
      go_ret
      exact ⟨rfl, HBR.out⟩
set_option maxHeartbeats 4000000 in
theorem rnode_more (w : World) (k n : Nat) (pre : List Nat) (ks : List (Nat × List En)) (l : List En) (v : Value) (hlk : l = cat ks) (hv : RdE w v l) (he : EtS k l) (hkd : Kd k n pre ks) (htn : ∀ x ∈ ks, Tn k x.2) (k16 : k ≤ 16)
    (ih : ∀ x ∈ ks, ∀ w1 v1, RdE w1 v1 x.2 → EtS k x.2 → Calls Try.prog 12 #[v1] w1 fun e w' => e = .returned (.int .u64 (digL x.2)) ∧ Below w1.heap.size w1 w') :
    Calls Try.prog 12 #[v] w fun e w' => e = .returned (.int .u64 (digL l)) ∧ Below w.heap.size w w' := by
  have htn' : Tn k l := by rw [hlk]; exact .node n pre ks hkd htn
  obtain ⟨lvv, hlv⟩ : ∃ z, (shL l).lv = z := ⟨_, rfl⟩
  obtain ⟨pr, hpr⟩ : ∃ z, (shL l).pre = z := ⟨_, rfl⟩
  obtain ⟨pll, hpll⟩ : ∃ z, (shL l).pl = z := ⟨_, rfl⟩
  have HSH := Lib.hid (rShape_v htn' w v hv he lvv pr pll hlv hpr hpll)
  have hpr2 : pr = pre := by rw [← hpr, hlk, hkd.sh]
  have hpll2 : pll = ks.map (·.1) := by rw [← hpll, hlk, hkd.sh]
  have hlv2 : lvv = (n : Int) := by rw [← hlv, hlk, hkd.sh]
  have hn64 := hkd.n64
  have hl2 : 2 ≤ l.length := by rw [hlk]; exact hkd.two_le
  have hlev : lev l = n + 1 := by rw [hlk, hkd.lev]
  have hpre : preL l = pre := by rw [hlk, hkd.preL]
  have hpk : pre.length = k := by exact hkd.preLen.1
  have HKS := Lib.hid (fun w' (hb : Below w.heap.size w w') => rKids_any k n l v w w' hv hb he hlev (by omega))
  rw [show kidsL l = ks.map (·.2) by rw [hlk, hkd.kids]] at HKS
  obtain ⟨n1, hn1⟩ : ∃ n1 : Nat, n1 = n + 1 := ⟨_, rfl⟩
  have HWV := Lib.hid (show IntKind.u64.wrap (wrap64 (lvv + 1)) = (n1 : Int) by rw [hlv2, hn1, IntKind.wrap_u64]; unfold wrap64; omega)
  have HPL := Lib.hid (show pr.length ≤ 40 by rw [hpr2, hpk]; exact he.k40)
  obtain ⟨dh, hdh⟩ : ∃ d, pr.foldl (fun h c => stirI h ((c : Nat) : Int)) (stirI basisI (n1 : Nat)) = d := ⟨_, rfl⟩
  have HDH := Lib.hid hdh
  have hd1 : digL l = digK dh ks := by rw [hlk, hkd.dig htn, ← hdh, hn1, hpr2, ← hpre, hlk]; unfold digH; rw [hkd.lev]
  rw [hd1]
  have hcl : ks.length ≤ l.length ∧ ∀ x ∈ ks, x.2.length ≤ l.length := by
    rw [hlk]
    have := cat_length ks hkd.ne
    exact ⟨this.1, fun x hx => by have := this.2 x hx; omega⟩
  have HIH := Lib.hid (fun j (hj : j < ks.length) w' v' (hr : RdE w' v' ks[j].2) => ih ks[j] (List.getElem_mem hj) w' v' hr ⟨hkd.et ks[j] (List.getElem_mem hj), he.k40, Nat.le_trans (hcl.2 _ (List.getElem_mem hj)) he.short⟩)
  have HAL := Lib.hid (fun j (hj : j < ks.length) => (show ks[j].1 < 65536 ∧ 0 < ks[j].2.length from ⟨by have h1 := hkd.addr_lt (List.getElem_mem hj); have h2 := pow_le k k16; omega, List.length_pos_iff.2 (hkd.ne _ (List.getElem_mem hj))⟩))
  have HLN := Lib.hid (Nat.le_trans hcl.1 he.short)
  have HK2 := Lib.hid hkd.two
  obtain ⟨A, c, rfl, _, hx⟩ := hv
  have hle0 : ((l.length : Int) == 0) = false := by rw [beq_eq_false_iff_ne]; omega
  have hle1 : ((l.length : Int) == 1) = false := by rw [beq_eq_false_iff_ne]; omega
  have HPLL := Lib.hid hpll2
  clear hx hn1 hlv hpr hpll htn he hpr2 hlv2 hdh hd1 hkd ih hlev hpre hpk hcl hn64 htn' hlk hpll2
  generalize l.length = n0 at *
  clear hl2
  go_enter Try.func12, Try.ntmps12
  go_wp2_with fail
  refine (HSH.out).mono ?_
  rintro e w1 ⟨Au, cu, Ap, cp, dn, vv, rfl, hxu, hxp, hb1⟩
  have HB1 := Lib.hid hb1
  have HXU := Lib.hid hxu
  have HXP := Lib.hid hxp
  clear hxu hxp hb1
  go_wp2_with fail
  rw [HWV.out]
  refine (rStir_any _ _ _).mono ?_
  rintro e w2 ⟨rfl, hw2⟩
  obtain rfl := hw2.symm
  clear hw2
  have hst : stirI 14695981039346656037 (n1 : Nat) = stirI basisI (n1 : Nat) := rfl
  rw [hst]
  obtain ⟨h0, hh0⟩ : ∃ h, stirI basisI (n1 : Nat) = h := ⟨_, rfl⟩
  rw [hh0]
  have HH0 := Lib.hid hh0
  clear hst hh0
  have HBX := Lib.hid (show (w1.alloc (.cells #[.int .i64 lvv, .slice Au pr.length cu, .slice Ap pll.length cp, .bool dn, .int .u64 vv] 73)).heap[w1.heap.size]? = some (.cells #[.int .i64 lvv, .slice Au pr.length cu, .slice Ap pll.length cp, .bool dn, .int .u64 vv] 73 (0, 0)) from alloc_blk _ _)
  have HB2 := Lib.hid (show Below w.heap.size w (w1.alloc (.cells #[.int .i64 lvv, .slice Au pr.length cu, .slice Ap pll.length cp, .bool dn, .int .u64 vv] 73)) from below_alloc' HB1.out _)
  have HB12 := Lib.hid (show Below w1.heap.size w1 (w1.alloc (.cells #[.int .i64 lvv, .slice Au pr.length cu, .slice Ap pll.length cp, .bool dn, .int .u64 vv] 73)) from (by repeat (first | exact Below.refl _ _ | (refine Below.drew ?_) | (refine below_drewN' ?_ _) | (refine below_alloc' ?_ _) | (refine Below.setCell ?_ (by first | exact Nat.le_refl _ | (simp; done) | (simp; omega)) _))))
  go_wp2_with fail
  go_loopw [4, 5] (fun hv iv wr => ∃ j : Nat, j ≤ pr.length ∧ iv = .int .i64 (j : Nat) ∧ hv = .int .u64 ((pr.take j).foldl (fun h c => stirI h (c : Nat)) h0) ∧ Below (w1.alloc (.cells #[.int .i64 lvv, .slice Au pr.length cu, .slice Ap pll.length cp, .bool dn, .int .u64 vv] 73)).heap.size (w1.alloc (.cells #[.int .i64 lvv, .slice Au pr.length cu, .slice Ap pll.length cp, .bool dn, .int .u64 vv] 73)) wr) (fun _ iv _ => pr.length - (intOf iv).toNat)
  case atStart => exact ⟨0, Nat.zero_le _, rfl, rfl, (by repeat (first | exact Below.refl _ _ | (refine Below.drew ?_) | (refine below_drewN' ?_ _) | (refine below_alloc' ?_ _) | (refine Below.setCell ?_ (by first | exact Nat.le_refl _ | (simp; done) | (simp; omega)) _)))⟩
  case round =>
    obtain ⟨j, hj, rfl, rfl, hb⟩ := hrel
    have HJ := Lib.hid hb
    have hblk := (hb.block _ (lt_of_block HBX.out)).trans HBX.out
    have hxl := lt_of_block hblk
    have x1 : wr.cell? ⟨w1.heap.size, 1, none⟩ = some (.slice Au pr.length cu) := by simp [World.cell?, hblk]
    have x2 : wr.cell? ⟨w1.heap.size, 2, none⟩ = some (.slice Ap pll.length cp) := by simp [World.cell?, hblk]
    by_cases hlt : j < pr.length
    · have h3 : (j : Int) < (pr.length : Int) := by omega
      have h5 : (0 : Int) ≤ (j : Int) := by omega
      have HW := Lib.hid (show wrap64 ((j : Int) + 1) = ((j + 1 : Nat) : Int) by have := HPL.out; unfold wrap64; omega)
      obtain ⟨bk, ofs, rfl, hc⟩ := HXU.out (by omega)
      have k0 := Below.keeps hb _ _ (Below.keeps HB12.out _ _ (hc j hlt))
      have hbl := World.block_lt_of_cell? wr _ k0
      have HTK := Lib.hid (show (pr.take (j + 1)).foldl (fun h c => stirI h ((c : Nat) : Int)) h0 = stirI ((pr.take j).foldl (fun h c => stirI h ((c : Nat) : Int)) h0) (pr[j] : Nat) by rw [← List.take_append_getElem hlt, List.foldl_append]; rfl)
      generalize (pr.take j).foldl (fun h c => stirI h ((c : Nat) : Int)) h0 = hj at *
      generalize pr[j] = x at *
      clear hc hb hblk x2
      go_wp2_with fail
      refine (rStir_any _ _ _).mono ?_
      rintro e w2 ⟨rfl, hw2⟩
      obtain rfl := hw2.symm
      clear hw2
      go_wp2_with fail
      go_roundw
      case rel => exact ⟨j + 1, by omega, (by first | rw [HW.out] | rfl | simp), by rw [HTK.out], HJ.out⟩
      case measure => (first | (rw [intOf_of' HW.out, intOf_of' rfl]; omega) | (simp [intOf]; omega) | (simp [intOf] <;> omega))
    · have h3 : ¬ (j : Int) < (pr.length : Int) := by omega
      have e : pr.take j = pr := List.take_of_length_le (by omega)
      rw [e]
      have hdd : pr.foldl (fun h c => stirI h ((c : Nat) : Int)) h0 = dh := by rw [← HH0.out]; exact HDH.out
      rw [hdd]
      have HBR := Lib.hid (HB2.out.trans (hb.mono HB2.out.size))
      have HBR1 := Lib.hid (HB12.out.trans (hb.mono HB12.out.size))
      clear hb e hdd
      go_wp2_with fail
      refine (HKS.out _ HBR.out).mono ?_
      rintro e wk ⟨kv, rfl, ⟨kvs, hkv, hvl, hvs⟩, hb5⟩
      rw [List.length_map] at hvl
      have HBK := Lib.hid (HBR.out.trans (hb5.mono HBR.out.size))
      have HBK1 := Lib.hid (HBR1.out.trans (hb5.mono HBR1.out.size))
      have HBX2 := Lib.hid ((hb5.block _ hxl).trans hblk)
      have hks0 : kvs ≠ [] := by intro h; rw [h] at hvl; have := HK2.out; rw [← hvl] at this; simp at this
      obtain ⟨gk, ck, rfl, hgk, hcv⟩ := hkv.cells hks0
      have HVS := Lib.hid (And.intro hvl (And.intro hvs hcv))
      rw [hvl]
      obtain ⟨nk, hnk⟩ : ∃ nk, ks.length = nk := ⟨_, rfl⟩
      have hpn : pll.length = nk := by rw [HPLL.out, List.length_map]; exact hnk
      rw [hnk]
      rw [hpn] at HBX2
      have HNK := Lib.hid (And.intro hnk hpn)
      obtain ⟨bx, hbx⟩ : ∃ bx, w1.heap.size = bx := ⟨_, rfl⟩
      rw [hbx] at HBX2 ⊢
      clear hkv hgk hcv hb5 hvs hks0 hvl hnk hpn hbx x1 x2 hblk hxl
      go_wp2_with fail
      go_loopw [4, 7] (fun hv iv wr => ∃ j : Nat, j ≤ nk ∧ iv = .int .i64 (j : Nat) ∧ hv = .int .u64 (digK dh (ks.take j)) ∧ Below wk.heap.size wk wr) (fun _ iv _ => nk - (intOf iv).toNat)
      case atStart => exact ⟨0, Nat.zero_le _, rfl, rfl, Below.refl _ _⟩
      case round =>
        obtain ⟨j, hj, rfl, rfl, hb⟩ := hrel
        have HBR := Lib.hid (HBK.out.trans (hb.mono HBK.out.size))
        by_cases hlt : j < nk
        · have h5 : (0 : Int) ≤ (j : Int) := by omega
          have h6 : (j : Int) < (nk : Int) := by omega
          have hjk : j < ks.length := by rw [HNK.out.1]; exact hlt
          have HW := Lib.hid (show wrap64 ((j : Int) + 1) = ((j + 1 : Nat) : Int) by have := HLN.out; unfold wrap64; omega)
          have hjv : j < kvs.length := by rw [HVS.out.1]; exact hjk
          have kj := Below.keeps hb _ _ (HVS.out.2.2 j hjv)
          have hrd := (HVS.out.2.1 j hjv (by rw [List.length_map]; exact hjk)).below HBR.out
          rw [List.getElem_map] at hrd
          have HK := Lib.hid (fun w' (hb : Below wr.heap.size wr w') => HIH.out j hjk w' _ (hrd.below hb))
          have hDT := digK_take dh ks j hjk
          obtain ⟨h65, hj0⟩ := HAL.out j hjk
          obtain ⟨Aj, cj, ej, z9, hxj⟩ := hrd
          obtain ⟨gp, op, rfl, hpc⟩ := HXP.out (by rw [HNK.out.2]; omega)
          have kp := Below.keeps (HBK1.out.trans (hb.mono HBK1.out.size)) _ _ (hpc j (by rw [HNK.out.2]; exact hlt))
          have hpj : pll[j]'(by rw [HNK.out.2]; exact hlt) = ks[j].1 := by simp only [HPLL.out, List.getElem_map]
          rw [hpj] at kp
          rw [ej] at kj HK
          obtain ⟨dk, hdk⟩ : ∃ z, digL ks[j].2 = z := ⟨_, rfl⟩
          rw [hdk] at hDT HK
          clear ej hxj z9 hpc hpj hdk
          generalize ks[j].2.length = nj at *
          obtain ⟨a, ha⟩ : ∃ a, ks[j].1 = a := ⟨_, rfl⟩
          rw [ha] at kp hDT h65
          obtain ⟨d, hd⟩ : ∃ d, digK dh (ks.take j) = d := ⟨_, rfl⟩
          rw [hd] at hDT ⊢
          obtain ⟨s1, hs1⟩ : ∃ s, stirI d (a : Nat) = s := ⟨_, rfl⟩
          obtain ⟨s2, hs2⟩ : ∃ s, stirI s1 dk = s := ⟨_, rfl⟩
          have HS1 := Lib.hid (fun w => rStir_any d (a : Nat) w)
          have HS2 := Lib.hid (fun w => rStir_any s1 dk w)
          rw [hs1] at HS1
          rw [hs2] at HS2
          rw [hs1, hs2] at hDT
          have HDT := Lib.hid hDT
          have HWA := Lib.hid (show IntKind.u64.wrap (a : Int) = (a : Int) by rw [IntKind.wrap_u64]; omega)
          have hblk := (hb.block _ (lt_of_block HBX2.out)).trans HBX2.out
          have hxl := lt_of_block hblk
          have x2 : wr.cell? ⟨bx, 2, none⟩ = some (.slice (some ⟨gp, op, none⟩) nk cp) := by simp [World.cell?, hblk]
          have hgl := World.block_lt_of_cell? wr _ kj
          have hpl := World.block_lt_of_cell? wr _ kp
          have HBJ := Lib.hid hb
          clear hb ha hd hs1 hs2 hDT hblk h65 hj0
          go_wp2_with fail
          refine wp_region_vals 14 [fun z9 _ => z9 = .int .u64 d,
            fun z9 _ => z9 = .pointer (some ⟨bx, 2, none⟩),
            fun z9 _ => z9 = .slice (some ⟨gp, op, none⟩) nk cp,
            fun z9 _ => z9 = .int .i64 (j : Nat),
            fun z9 _ => z9 = .pointer (some ⟨gp, op + j, none⟩),
            fun z9 _ => z9 = .int .i64 (a : Nat),
            fun z9 _ => z9 = .int .u64 (a : Nat),
            fun z9 _ => z9 = .int .u64 s1,
            fun z9 _ => z9 = .slice (some ⟨gk, 0, none⟩) nk ck,
            fun z9 _ => z9 = .int .i64 (j : Nat),
            fun z9 _ => z9 = .pointer (some ⟨gk, j, none⟩),
            fun z9 _ => z9 = .slice Aj nj cj,
            fun z9 _ => z9 = .int .u64 dk,
            fun z9 _ => z9 = .int .u64 s2]
            (by kernel_rfl) (by kernel_rfl) (by kernel_rfl) (by kernel_rfl) ?_ ?_ ?_
          · intro V hV v w1 w2 h hb
            simp only [List.mem_cons, List.not_mem_nil, or_false] at hV
            rcases hV with rfl | rfl | rfl | rfl | rfl | rfl | rfl | rfl | rfl | rfl | rfl | rfl | rfl | rfl
            all_goals first | exact h | (exact h)
          · intro iq oq hiq hoq
            match iq, hiq with
            | 0, _ =>
            obtain rfl := Option.some.inj hoq
            intro a1 w1 K hk hK
            have e4 : a1.tmps.getD 4 undef = .int .u64 d := hk.same 4 (by simp)
            simp [Region.wanted, Oper.wp, Act.eval, go_sem, e4, x2, kp, kj, h5, h6, hxl, hpl, hgl, HWA.out]
            exact hK _ _ (Below.refl _ _) rfl
            | 1, _ =>
            obtain rfl := Option.some.inj hoq
            intro a1 w1 K hk hK
            have e3 : a1.tmps.getD 3 undef = .pointer (some ⟨bx, 0, none⟩) := hk.same 3 (by simp)
            simp [Region.wanted, Oper.wp, Act.eval, go_sem, e3, x2, kp, kj, h5, h6, hxl, hpl, hgl, HWA.out]
            exact hK _ _ (Below.refl _ _) rfl
            | 2, _ =>
            obtain rfl := Option.some.inj hoq
            intro a1 w1 K hk hK
            have d50 : a1.tmps.getD 50 undef = .pointer (some ⟨bx, 2, none⟩) := hk.deps ⟨1, .data⟩ (by simp) rfl _ _ rfl rfl
            have c0 : w1.cell? ⟨bx, 2, none⟩ = some (.slice (some ⟨gp, op, none⟩) nk cp) := Below.keeps hk.ext _ _ (by simp [go_sem, x2, kp, kj, h5, h6, hxl, hpl, hgl, HWA.out])
            have c1 : w1.cell? ⟨gp, op + j, none⟩ = some (.int .i64 (a : Nat)) := Below.keeps hk.ext _ _ (by simp [go_sem, x2, kp, kj, h5, h6, hxl, hpl, hgl, HWA.out])
            have c2 : w1.cell? ⟨gk, j, none⟩ = some (.slice Aj nj cj) := Below.keeps hk.ext _ _ (by simp [go_sem, x2, kp, kj, h5, h6, hxl, hpl, hgl, HWA.out])
            simp [Region.wanted, Oper.wp, Act.eval, go_sem, d50, c0, c1, c2, x2, kp, kj, h5, h6, hxl, hpl, hgl, HWA.out]
            exact hK _ _ (Below.refl _ _) rfl
            | 3, _ =>
            obtain rfl := Option.some.inj hoq
            intro a1 w1 K hk hK
            have e7 : a1.tmps.getD 7 undef = .int .i64 (j : Nat) := hk.same 7 (by simp)
            simp [Region.wanted, Oper.wp, Act.eval, go_sem, e7, x2, kp, kj, h5, h6, hxl, hpl, hgl, HWA.out]
            exact hK _ _ (Below.refl _ _) rfl
            | 4, _ =>
            obtain rfl := Option.some.inj hoq
            intro a1 w1 K hk hK
            have d51 : a1.tmps.getD 51 undef = .slice (some ⟨gp, op, none⟩) nk cp := hk.deps ⟨2, .data⟩ (by simp) rfl _ _ rfl rfl
            have d52 : a1.tmps.getD 52 undef = .int .i64 (j : Nat) := hk.deps ⟨3, .data⟩ (by simp) rfl _ _ rfl rfl
            simp [Region.wanted, Oper.wp, Act.eval, go_sem, d51, d52, x2, kp, kj, h5, h6, hxl, hpl, hgl, HWA.out]
            exact hK _ _ (Below.refl _ _) rfl
            | 5, _ =>
            obtain rfl := Option.some.inj hoq
            intro a1 w1 K hk hK
            have d53 : a1.tmps.getD 53 undef = .pointer (some ⟨gp, op + j, none⟩) := hk.deps ⟨4, .data⟩ (by simp) rfl _ _ rfl rfl
            have c0 : w1.cell? ⟨bx, 2, none⟩ = some (.slice (some ⟨gp, op, none⟩) nk cp) := Below.keeps hk.ext _ _ (by simp [go_sem, x2, kp, kj, h5, h6, hxl, hpl, hgl, HWA.out])
            have c1 : w1.cell? ⟨gp, op + j, none⟩ = some (.int .i64 (a : Nat)) := Below.keeps hk.ext _ _ (by simp [go_sem, x2, kp, kj, h5, h6, hxl, hpl, hgl, HWA.out])
            have c2 : w1.cell? ⟨gk, j, none⟩ = some (.slice Aj nj cj) := Below.keeps hk.ext _ _ (by simp [go_sem, x2, kp, kj, h5, h6, hxl, hpl, hgl, HWA.out])
            simp [Region.wanted, Oper.wp, Act.eval, go_sem, d53, c0, c1, c2, x2, kp, kj, h5, h6, hxl, hpl, hgl, HWA.out]
            exact hK _ _ (Below.refl _ _) rfl
            | 6, _ =>
            obtain rfl := Option.some.inj hoq
            intro a1 w1 K hk hK
            have d54 : a1.tmps.getD 54 undef = .int .i64 (a : Nat) := hk.deps ⟨5, .data⟩ (by simp) rfl _ _ rfl rfl
            simp [Region.wanted, Oper.wp, Act.eval, go_sem, d54, x2, kp, kj, h5, h6, hxl, hpl, hgl, HWA.out]
            exact hK _ _ (Below.refl _ _) rfl
            | 7, _ =>
            obtain rfl := Option.some.inj hoq
            intro a1 w1 K hk hK
            have d49 : a1.tmps.getD 49 undef = .int .u64 d := hk.deps ⟨0, .data⟩ (by simp) rfl _ _ rfl rfl
            have d55 : a1.tmps.getD 55 undef = .int .u64 (a : Nat) := hk.deps ⟨6, .data⟩ (by simp) rfl _ _ rfl rfl
            simp [Region.wanted, Oper.wp, Act.eval, go_sem, d49, d55, x2, kp, kj, h5, h6, hxl, hpl, hgl, HWA.out]
            refine (HS1.out _).mono ?_
            rintro e w9 ⟨rfl, hw9⟩
            obtain rfl := hw9.symm
            exact hK _ _ (Below.refl _ _) rfl
            | 8, _ =>
            obtain rfl := Option.some.inj hoq
            intro a1 w1 K hk hK
            have e6 : a1.tmps.getD 6 undef = .slice (some ⟨gk, 0, none⟩) nk ck := hk.same 6 (by simp)
            simp [Region.wanted, Oper.wp, Act.eval, go_sem, e6, x2, kp, kj, h5, h6, hxl, hpl, hgl, HWA.out]
            exact hK _ _ (Below.refl _ _) rfl
            | 9, _ =>
            obtain rfl := Option.some.inj hoq
            intro a1 w1 K hk hK
            have e7 : a1.tmps.getD 7 undef = .int .i64 (j : Nat) := hk.same 7 (by simp)
            simp [Region.wanted, Oper.wp, Act.eval, go_sem, e7, x2, kp, kj, h5, h6, hxl, hpl, hgl, HWA.out]
            exact hK _ _ (Below.refl _ _) rfl
            | 10, _ =>
            obtain rfl := Option.some.inj hoq
            intro a1 w1 K hk hK
            have d57 : a1.tmps.getD 57 undef = .slice (some ⟨gk, 0, none⟩) nk ck := hk.deps ⟨8, .data⟩ (by simp) rfl _ _ rfl rfl
            have d58 : a1.tmps.getD 58 undef = .int .i64 (j : Nat) := hk.deps ⟨9, .data⟩ (by simp) rfl _ _ rfl rfl
            simp [Region.wanted, Oper.wp, Act.eval, go_sem, d57, d58, x2, kp, kj, h5, h6, hxl, hpl, hgl, HWA.out]
            exact hK _ _ (Below.refl _ _) rfl
            | 11, _ =>
            obtain rfl := Option.some.inj hoq
            intro a1 w1 K hk hK
            have d59 : a1.tmps.getD 59 undef = .pointer (some ⟨gk, j, none⟩) := hk.deps ⟨10, .data⟩ (by simp) rfl _ _ rfl rfl
            have c0 : w1.cell? ⟨bx, 2, none⟩ = some (.slice (some ⟨gp, op, none⟩) nk cp) := Below.keeps hk.ext _ _ (by simp [go_sem, x2, kp, kj, h5, h6, hxl, hpl, hgl, HWA.out])
            have c1 : w1.cell? ⟨gp, op + j, none⟩ = some (.int .i64 (a : Nat)) := Below.keeps hk.ext _ _ (by simp [go_sem, x2, kp, kj, h5, h6, hxl, hpl, hgl, HWA.out])
            have c2 : w1.cell? ⟨gk, j, none⟩ = some (.slice Aj nj cj) := Below.keeps hk.ext _ _ (by simp [go_sem, x2, kp, kj, h5, h6, hxl, hpl, hgl, HWA.out])
            simp [Region.wanted, Oper.wp, Act.eval, go_sem, d59, c0, c1, c2, x2, kp, kj, h5, h6, hxl, hpl, hgl, HWA.out]
            exact hK _ _ (Below.refl _ _) rfl
            | 12, _ =>
            obtain rfl := Option.some.inj hoq
            intro a1 w1 K hk hK
            have d60 : a1.tmps.getD 60 undef = .slice Aj nj cj := hk.deps ⟨11, .data⟩ (by simp) rfl _ _ rfl rfl
            simp [Region.wanted, Oper.wp, Act.eval, go_sem, d60, x2, kp, kj, h5, h6, hxl, hpl, hgl, HWA.out]
            refine (HK.out _ (below_trans (by repeat (first | exact Below.refl _ _ | (refine Below.drew ?_) | (refine below_drewN' ?_ _) | (refine below_alloc' ?_ _) | (refine Below.setCell ?_ (by first | exact Nat.le_refl _ | (simp; done) | (simp; omega)) _))) hk.ext)).mono ?_
            rintro e w9 ⟨rfl, hb9⟩
            exact hK _ _ hb9 rfl
            | 13, _ =>
            obtain rfl := Option.some.inj hoq
            intro a1 w1 K hk hK
            have d56 : a1.tmps.getD 56 undef = .int .u64 s1 := hk.deps ⟨7, .data⟩ (by simp) rfl _ _ rfl rfl
            have d61 : a1.tmps.getD 61 undef = .int .u64 dk := hk.deps ⟨12, .data⟩ (by simp) rfl _ _ rfl rfl
            simp [Region.wanted, Oper.wp, Act.eval, go_sem, d56, d61, x2, kp, kj, h5, h6, hxl, hpl, hgl, HWA.out]
            refine (HS2.out _).mono ?_
            rintro e w9 ⟨rfl, hw9⟩
            obtain rfl := hw9.symm
            exact hK _ _ (Below.refl _ _) rfl
          · intro vs w3 hl hb3 hv
            match vs, hl with
            | [v0, v1, v2, v3, v4, v5, v6, v7, v8, v9, v10, v11, v12, v13], _ =>
            obtain rfl : v0 = .int .u64 d := hv 0 (by omega)
            obtain rfl : v1 = .pointer (some ⟨bx, 2, none⟩) := hv 1 (by omega)
            obtain rfl : v2 = .slice (some ⟨gp, op, none⟩) nk cp := hv 2 (by omega)
            obtain rfl : v3 = .int .i64 (j : Nat) := hv 3 (by omega)
            obtain rfl : v4 = .pointer (some ⟨gp, op + j, none⟩) := hv 4 (by omega)
            obtain rfl : v5 = .int .i64 (a : Nat) := hv 5 (by omega)
            obtain rfl : v6 = .int .u64 (a : Nat) := hv 6 (by omega)
            obtain rfl : v7 = .int .u64 s1 := hv 7 (by omega)
            obtain rfl : v8 = .slice (some ⟨gk, 0, none⟩) nk ck := hv 8 (by omega)
            obtain rfl : v9 = .int .i64 (j : Nat) := hv 9 (by omega)
            obtain rfl : v10 = .pointer (some ⟨gk, j, none⟩) := hv 10 (by omega)
            obtain rfl : v11 = .slice Aj nj cj := hv 11 (by omega)
            obtain rfl : v12 = .int .u64 dk := hv 12 (by omega)
            obtain rfl : v13 = .int .u64 s2 := hv 13 (by omega)
            clear hv
            simp only [putAll, List.take_succ_cons, List.take_zero, List.drop_succ_cons, List.drop_zero, Act.put, List.setIfInBounds_toArray, List.set_cons_succ, List.set_cons_zero]
            have HF := Lib.hid (show Below wr.heap.size wr w3 from below_trans (by repeat (first | exact Below.refl _ _ | (refine Below.drew ?_) | (refine below_drewN' ?_ _) | (refine below_alloc' ?_ _) | (refine Below.setCell ?_ (by first | exact Nat.le_refl _ | (simp; done) | (simp; omega)) _))) hb3)
            clear kj kp x2 hb3
            go_wp2_with fail
            go_roundw
            case rel => exact ⟨j + 1, by omega, (by first | rw [HW.out] | rfl | simp), by rw [HDT.out], HBJ.out.trans (HF.out.mono HBJ.out.size)⟩
            case measure => (first | (rw [intOf_of' HW.out, intOf_of' rfl]; omega) | (simp [intOf]; omega) | (simp [intOf] <;> omega))
        · have h6 : ¬ (j : Int) < (nk : Int) := by omega
          have e : ks.take j = ks := List.take_of_length_le (by rw [HNK.out.1]; omega)
          rw [e]
          clear hb e
          go_wp2_with fail
          go_ret
          exact ⟨rfl, (by repeat (first | exact HBR.out | (refine Below.drew ?_) | (refine below_drewN' ?_ _) | (refine below_alloc' ?_ _) | (refine Below.setCell ?_ (by first | exact Nat.le_refl _ | (have := HBR.out.size; simp; omega) | (have := HBR.out.size; omega)) _)))⟩
theorem rnode_tn {k : Nat} {l : List En} (h : Tn k l) (k16 : k ≤ 16) : ∀ w v, RdE w v l → EtS k l → Calls Try.prog 12 #[v] w fun e w' => e = .returned (.int .u64 (digL l)) ∧ Below w.heap.size w w' := by
  induction h with
  | one e h => exact fun w v hv he => rnode_one w k e v hv he (.one e h)
  | node n pre ks hk hn ih => exact fun w v hv he => rnode_more w k n pre ks _ v rfl hv he hk hn k16 (fun x hx w1 v1 h1 h2 => ih x hx w1 v1 h1 h2)
theorem rnode_nil (w : World) (v : Value) (hv : RdE w v []) : Calls Try.prog 12 #[v] w fun e w' => e = .returned (.int .u64 0) ∧ Below w.heap.size w w' := by
  obtain ⟨A, c, rfl, _, _⟩ := hv
  simp only [List.length_nil]
  go_enter Try.func12, Try.ntmps12
  go_wp2_with fail
  go_ret
  exact ⟨rfl, (by repeat (first | exact Below.refl _ _ | (refine Below.drew ?_) | (refine below_drewN' ?_ _) | (refine below_alloc' ?_ _) | (refine Below.setCell ?_ (by first | exact Nat.le_refl _ | (simp; done) | (simp; omega)) _)))⟩
end Go.Proofs.Ytjokcagggmjgmaa
/-! DigD -/
namespace Go.Proofs.Ytjokcagggmjgmaa
open Go.RowKit
set_option linter.unusedVariables false
set_option linter.unusedSimpArgs false
set_option maxRecDepth 100000

/-- the list of a kid -/
def kidL (l : List En) (a : Int) : List En := if l.length < 2 ∨ a < 0 then [] else kidOf a.toNat ((placesL l).zip (kidsL l))
theorem Kd.kidL {k n : Nat} {pre : List Nat} {ks : List (Nat × List En)} (h : Kd k n pre ks) (a : Int) : Go.Proofs.Ytjokcagggmjgmaa.kidL (cat ks) a = if a < 0 then [] else kidOf a.toNat ks := by
  have h2 := h.two_le
  unfold Go.Proofs.Ytjokcagggmjgmaa.kidL
  rw [h.kids, h.places, zip_ks]
  by_cases ha : a < 0
  · rw [if_pos (.inr ha), if_pos ha]
  · rw [if_neg (by omega), if_neg ha]
theorem kidOf_tn {k : Nat} {ks : List (Nat × List En)} (h : ∀ x ∈ ks, Tn k x.2) (a : Nat) : kidOf a ks = [] ∨ Tn k (kidOf a ks) := by
  unfold kidOf
  cases e : Od.look ka ks a with
  | none => exact .inl rfl
  | some x => exact .inr (h x (Od.look_some e).1)
theorem kidL_tn {k : Nat} {l : List En} (h : l = [] ∨ Tn k l) (a : Int) : kidL l a = [] ∨ Tn k (kidL l a) := by
  rcases h with rfl | h
  · exact .inl rfl
  · cases h with
    | one e h => exact .inl rfl
    | node n pre ks hk hn =>
      rw [hk.kidL]
      by_cases ha : a < 0
      · rw [if_pos ha]; exact .inl rfl
      · rw [if_neg ha]; exact kidOf_tn hn _
theorem kidL_ets {k : Nat} {l : List En} (h : l = [] ∨ Tn k l) (he : EtS k l) (a : Int) : EtS k (kidL l a) := by
  have hnil : EtS k [] := ⟨Et.nil k, he.k40, by simp⟩
  rcases h with rfl | h
  · exact hnil
  · cases h with
    | one e h => exact hnil
    | node n pre ks hk hn =>
      rw [hk.kidL]
      by_cases ha : a < 0
      · rw [if_pos ha]; exact hnil
      · rw [if_neg ha]
        refine ⟨hk.kid_et _, he.k40, ?_⟩
        have h3 := he.short
        have h4 : (kidOf a.toNat ks).length ≤ (cat ks).length := by
          by_cases e : kidOf a.toNat ks = []
          · rw [e]; exact Nat.zero_le _
          · obtain ⟨x, hx⟩ := List.exists_mem_of_ne_nil _ e
            obtain ⟨y, hy, _, h5⟩ := kidOf_mem hx
            rw [← h5]
            exact Nat.le_of_lt (hk.kid_lt hy)
        omega
theorem kidOf_skip {ks : List (Nat × List En)} {a : Nat} (h : ∀ x ∈ ks, x.1 ≠ a) : kidOf a ks = [] := kidOf_none h
set_option maxHeartbeats 4000000 in
theorem rkid_more (w : World) (k n : Nat) (pre : List Nat) (ks : List (Nat × List En)) (l : List En) (v : Value) (a : Int) (hlk : l = cat ks) (hv : RdE w v l) (he : EtS k l) (hkd : Kd k n pre ks) (k16 : k ≤ 16) :
    Calls Try.prog 26 #[v, .int .i64 a] w fun e w' => ∃ v', e = .returned v' ∧ RdE w' v' (kidL l a) ∧ Below w.heap.size w w' := by
  have hl2 : 2 ≤ l.length := by rw [hlk]; exact hkd.two_le
  have hlev : lev l = n + 1 := by rw [hlk, hkd.lev]
  have HKS := Lib.hid (fun w' (hb : Below w.heap.size w w') => rKids_any k n l v w w' hv hb he hlev (by omega))
  rw [show kidsL l = ks.map (·.2) by rw [hlk, hkd.kids]] at HKS
  have HLV := Lib.hid (fun w' (hb : Below w.heap.size w w') => rLevel_any k l v w' (hv.below hb) he (by omega))
  rw [show (lev l : Int) - 1 = (n : Nat) by rw [hlev]; omega] at HLV
  have hcl : ks.length ≤ l.length := by rw [hlk]; exact (cat_length ks hkd.ne).1
  have HLN := Lib.hid (Nat.le_trans hcl he.short)
  have HK2 := Lib.hid hkd.two
  have HASC := Lib.hid hkd.asc
  have hkl := hkd.kidL a
  rw [← hlk] at hkl
  rw [hkl]
  obtain ⟨kz, hkz⟩ : ∃ z, (if a < 0 then [] else kidOf a.toNat ks) = z := ⟨_, rfl⟩
  rw [hkz]
  have HKZ := Lib.hid hkz
  clear hkz
  have HADR := Lib.hid (fun j (hj : j < ks.length) (hj0 : 0 < ks[j].2.length) w' u (hu : RdU w' u (pti ks[j].2[0].p)) => (show Calls Try.prog 58 #[u, .int .i64 (n : Nat)] w' fun e w'' => e = .returned (.int .i64 (ks[j].1 : Nat)) ∧ Below w'.heap.size w' w'' from by
    have hm := List.getElem_mem hj
    have he0 : ks[j].2[0] ∈ ks[j].2 := List.getElem_mem hj0
    refine (rAddr_any _ n u w' hu (by rw [hkd.len hm he0]; omega) (hkd.ok hm he0) hkd.n64).mono ?_
    rintro e w'' ⟨h1, h2⟩
    exact ⟨by rw [h1, hkd.adr _ hm _ he0], h2 ▸ Below.refl _ _⟩))
  have HNE := Lib.hid (fun j (hj : j < ks.length) => List.length_pos_iff.2 (hkd.ne (ks[j]) (List.getElem_mem hj)))
  obtain ⟨A, c, rfl, _, hx⟩ := hv
  have hlt2 : ¬ (l.length : Int) < 2 := by omega
  clear hx he hkd hlev hcl hlk hkl
  generalize l.length = n0 at *
  clear hl2
  go_enter Try.func26, Try.ntmps26
  go_wp2_with fail
  refine (HKS.out _ (Below.refl _ _)).mono ?_
  rintro e wk ⟨kv, rfl, ⟨kvs, hkv, hvl, hvs⟩, hb5⟩
  rw [List.length_map] at hvl
  have HBK := Lib.hid hb5
  have hks0 : kvs ≠ [] := by intro h; rw [h] at hvl; have := HK2.out; rw [← hvl] at this; simp at this
  obtain ⟨gk, ck, rfl, hgk, hcv⟩ := hkv.cells hks0
  have HVS := Lib.hid (And.intro hvl (And.intro hvs hcv))
  rw [hvl]
  obtain ⟨nk, hnk⟩ : ∃ nk, ks.length = nk := ⟨_, rfl⟩
  rw [hnk]
  have HNK := Lib.hid hnk
  clear hkv hgk hcv hb5 hvs hks0 hvl hnk
  go_wp2_with fail
  go_loopw [6] (fun iv wr => ∃ j : Nat, j ≤ nk ∧ iv = .int .i64 (j : Nat) ∧ (∀ i (hi : i < ks.length), i < j → (ks[i].1 : Int) ≠ a) ∧ Below wk.heap.size wk wr) (fun iv _ => nk - (intOf iv).toNat)
  case atStart => exact ⟨0, Nat.zero_le _, rfl, fun i hi h => absurd h (Nat.not_lt_zero _), Below.refl _ _⟩
  case round =>
    obtain ⟨j, hj, rfl, hno, hb⟩ := hrel
    have HBR := Lib.hid (HBK.out.trans (hb.mono HBK.out.size))
    have HNO := Lib.hid hno
    by_cases hlt : j < nk
    · have h5 : (0 : Int) ≤ (j : Int) := by omega
      have h6 : (j : Int) < (nk : Int) := by omega
      have hjk : j < ks.length := by rw [HNK.out]; exact hlt
      have HW := Lib.hid (show wrap64 ((j : Int) + 1) = ((j + 1 : Nat) : Int) by have := HLN.out; unfold wrap64; omega)
      have hjv : j < kvs.length := by rw [HVS.out.1]; exact hjk
      have kj := Below.keeps hb _ _ (HVS.out.2.2 j hjv)
      have hrd := (HVS.out.2.1 j hjv (by rw [List.length_map]; exact hjk)).below HBR.out
      rw [List.getElem_map] at hrd
      have HRD := Lib.hid hrd
      have hj0 := HNE.out j hjk
      have HADJ := Lib.hid (HADR.out j hjk hj0)
      obtain ⟨Aj, cj, ej, z9, hxj⟩ := hrd
      obtain ⟨bj, oj, rfl, hcj⟩ := hxj hj0
      obtain ⟨up, g0, hup, z8⟩ := hcj 0 hj0
      have HAD := Lib.hid (fun w' (hb : Below wr.heap.size wr w') => HADJ.out w' up (hup.below hb))
      obtain ⟨Ap, cp, rfl, z7⟩ := RdU.point hup
      simp only [Nat.zero_mul, Nat.add_zero] at g0
      rw [ej] at kj HRD
      have h7 : (0 : Int) < (ks[j].2.length : Int) := by omega
      have hkn : ks[j].1 = ks[j].1 := rfl
      clear ej hup hcj hxj HADJ z9 z8 z7
      obtain ⟨np, hnp⟩ : ∃ z, (ks[j].2[0]).p.length = z := ⟨_, rfl⟩
      rw [hnp] at g0 HAD
      clear hnp
      obtain ⟨nj, hnj⟩ : ∃ z, ks[j].2.length = z := ⟨_, rfl⟩
      rw [hnj] at kj HRD h7
      have h8 : 0 < nj := by omega
      have hkk := look_kid HASC.out (List.getElem_mem hjk)
      obtain ⟨y1, hy1⟩ : ∃ y1, ks[j].1 = y1 := ⟨_, rfl⟩
      rw [hy1] at HAD hkk
      have HKK := Lib.hid hkk
      have hgl := World.block_lt_of_cell? wr _ kj
      have hjl := World.block_lt_of_cell? wr _ g0
      have HBJ := Lib.hid hb
      have HY := Lib.hid (And.intro hy1 hjk)
      clear hb hy1 hkn hnj hj0 hkk
      go_wp2_with fail
      refine wp_region_vals 11 [fun z9 _ => z9 = .slice (some ⟨gk, 0, none⟩) nk ck,
        fun z9 _ => z9 = .int .i64 (j : Nat),
        fun z9 _ => z9 = .pointer (some ⟨gk, j, none⟩),
        fun z9 _ => z9 = .slice (some ⟨bj, oj, none⟩) nj cj,
        fun z9 _ => z9 = .pointer (some ⟨bj, oj, none⟩),
        fun z9 _ => z9 = .pointer (some ⟨bj, oj, none⟩),
        fun z9 _ => z9 = .slice Ap np cp,
        fun z9 _ => z9 = .slice A n0 c,
        fun z9 _ => z9 = .int .i64 (n : Nat),
        fun z9 _ => z9 = .int .i64 (y1 : Nat),
        fun z9 _ => z9 = .int .i64 a]
        (by kernel_rfl) (by kernel_rfl) (by kernel_rfl) (by kernel_rfl) ?_ ?_ ?_
      · intro V hV v w1 w2 h hb
        simp only [List.mem_cons, List.not_mem_nil, or_false] at hV
        rcases hV with rfl | rfl | rfl | rfl | rfl | rfl | rfl | rfl | rfl | rfl | rfl
        all_goals first | exact h | (exact h)
      · intro iq oq hiq hoq
        match iq, hiq with
        | 0, _ =>
        obtain rfl := Option.some.inj hoq
        intro a1 w1 K hk hK
        have e5 : a1.tmps.getD 5 undef = .slice (some ⟨gk, 0, none⟩) nk ck := hk.same 5 (by simp)
        simp [Region.wanted, Oper.wp, Act.eval, go_sem, e5, kj, g0, h5, h6, h7, h8, hgl, hjl]
        exact hK _ _ (Below.refl _ _) rfl
        | 1, _ =>
        obtain rfl := Option.some.inj hoq
        intro a1 w1 K hk hK
        have e6 : a1.tmps.getD 6 undef = .int .i64 (j : Nat) := hk.same 6 (by simp)
        simp [Region.wanted, Oper.wp, Act.eval, go_sem, e6, kj, g0, h5, h6, h7, h8, hgl, hjl]
        exact hK _ _ (Below.refl _ _) rfl
        | 2, _ =>
        obtain rfl := Option.some.inj hoq
        intro a1 w1 K hk hK
        have d18 : a1.tmps.getD 18 undef = .slice (some ⟨gk, 0, none⟩) nk ck := hk.deps ⟨0, .data⟩ (by simp) rfl _ _ rfl rfl
        have d19 : a1.tmps.getD 19 undef = .int .i64 (j : Nat) := hk.deps ⟨1, .data⟩ (by simp) rfl _ _ rfl rfl
        simp [Region.wanted, Oper.wp, Act.eval, go_sem, d18, d19, kj, g0, h5, h6, h7, h8, hgl, hjl]
        exact hK _ _ (Below.refl _ _) rfl
        | 3, _ =>
        obtain rfl := Option.some.inj hoq
        intro a1 w1 K hk hK
        have d20 : a1.tmps.getD 20 undef = .pointer (some ⟨gk, j, none⟩) := hk.deps ⟨2, .data⟩ (by simp) rfl _ _ rfl rfl
        have c0 : w1.cell? ⟨gk, j, none⟩ = some (.slice (some ⟨bj, oj, none⟩) nj cj) := Below.keeps hk.ext _ _ (by simp [go_sem, kj, g0, h5, h6, h7, h8, hgl, hjl])
        have c1 : w1.cell? ⟨bj, oj, none⟩ = some (.slice Ap np cp) := Below.keeps hk.ext _ _ (by simp [go_sem, kj, g0, h5, h6, h7, h8, hgl, hjl])
        simp [Region.wanted, Oper.wp, Act.eval, go_sem, d20, c0, c1, kj, g0, h5, h6, h7, h8, hgl, hjl]
        exact hK _ _ (Below.refl _ _) rfl
        | 4, _ =>
        obtain rfl := Option.some.inj hoq
        intro a1 w1 K hk hK
        have d21 : a1.tmps.getD 21 undef = .slice (some ⟨bj, oj, none⟩) nj cj := hk.deps ⟨3, .data⟩ (by simp) rfl _ _ rfl rfl
        simp [Region.wanted, Oper.wp, Act.eval, go_sem, d21, kj, g0, h5, h6, h7, h8, hgl, hjl]
        exact hK _ _ (Below.refl _ _) rfl
        | 5, _ =>
        obtain rfl := Option.some.inj hoq
        intro a1 w1 K hk hK
        have d22 : a1.tmps.getD 22 undef = .pointer (some ⟨bj, oj, none⟩) := hk.deps ⟨4, .data⟩ (by simp) rfl _ _ rfl rfl
        simp [Region.wanted, Oper.wp, Act.eval, go_sem, d22, kj, g0, h5, h6, h7, h8, hgl, hjl]
        exact hK _ _ (Below.refl _ _) rfl
        | 6, _ =>
        obtain rfl := Option.some.inj hoq
        intro a1 w1 K hk hK
        have d23 : a1.tmps.getD 23 undef = .pointer (some ⟨bj, oj, none⟩) := hk.deps ⟨5, .data⟩ (by simp) rfl _ _ rfl rfl
        have c0 : w1.cell? ⟨gk, j, none⟩ = some (.slice (some ⟨bj, oj, none⟩) nj cj) := Below.keeps hk.ext _ _ (by simp [go_sem, kj, g0, h5, h6, h7, h8, hgl, hjl])
        have c1 : w1.cell? ⟨bj, oj, none⟩ = some (.slice Ap np cp) := Below.keeps hk.ext _ _ (by simp [go_sem, kj, g0, h5, h6, h7, h8, hgl, hjl])
        simp [Region.wanted, Oper.wp, Act.eval, go_sem, d23, c0, c1, kj, g0, h5, h6, h7, h8, hgl, hjl]
        exact hK _ _ (Below.refl _ _) rfl
        | 7, _ =>
        obtain rfl := Option.some.inj hoq
        intro a1 w1 K hk hK
        have e0 : a1.tmps.getD 0 undef = .slice A n0 c := hk.same 0 (by simp)
        simp [Region.wanted, Oper.wp, Act.eval, go_sem, e0, kj, g0, h5, h6, h7, h8, hgl, hjl]
        exact hK _ _ (Below.refl _ _) rfl
        | 8, _ =>
        obtain rfl := Option.some.inj hoq
        intro a1 w1 K hk hK
        have d25 : a1.tmps.getD 25 undef = .slice A n0 c := hk.deps ⟨7, .data⟩ (by simp) rfl _ _ rfl rfl
        simp [Region.wanted, Oper.wp, Act.eval, go_sem, d25, kj, g0, h5, h6, h7, h8, hgl, hjl]
        refine (HLV.out _ (below_trans (by repeat (first | exact HBR.out | (refine Below.drew ?_) | (refine below_drewN' ?_ _) | (refine below_alloc' ?_ _) | (refine Below.setCell ?_ (by first | exact Nat.le_refl _ | (have := HBR.out.size; simp; omega) | (have := HBR.out.size; omega)) _))) hk.ext)).mono ?_
        rintro e w9 ⟨rfl, hb9⟩
        exact hK _ _ hb9 rfl
        | 9, _ =>
        obtain rfl := Option.some.inj hoq
        intro a1 w1 K hk hK
        have d24 : a1.tmps.getD 24 undef = .slice Ap np cp := hk.deps ⟨6, .data⟩ (by simp) rfl _ _ rfl rfl
        have d26 : a1.tmps.getD 26 undef = .int .i64 (n : Nat) := hk.deps ⟨8, .data⟩ (by simp) rfl _ _ rfl rfl
        simp [Region.wanted, Oper.wp, Act.eval, go_sem, d24, d26, kj, g0, h5, h6, h7, h8, hgl, hjl]
        refine (HAD.out _ (below_trans (by repeat (first | exact Below.refl _ _ | (refine Below.drew ?_) | (refine below_drewN' ?_ _) | (refine below_alloc' ?_ _) | (refine Below.setCell ?_ (by first | exact Nat.le_refl _ | (simp; done) | (simp; omega)) _))) hk.ext)).mono ?_
        rintro e w9 ⟨rfl, hb9⟩
        exact hK _ _ hb9 rfl
        | 10, _ =>
        obtain rfl := Option.some.inj hoq
        intro a1 w1 K hk hK
        have e1 : a1.tmps.getD 1 undef = .int .i64 a := hk.same 1 (by simp)
        simp [Region.wanted, Oper.wp, Act.eval, go_sem, e1, kj, g0, h5, h6, h7, h8, hgl, hjl]
        exact hK _ _ (Below.refl _ _) rfl
      · intro vs w3 hl hb3 hv
        match vs, hl with
        | [v0, v1, v2, v3, v4, v5, v6, v7, v8, v9, v10], _ =>
        obtain rfl : v0 = .slice (some ⟨gk, 0, none⟩) nk ck := hv 0 (by omega)
        obtain rfl : v1 = .int .i64 (j : Nat) := hv 1 (by omega)
        obtain rfl : v2 = .pointer (some ⟨gk, j, none⟩) := hv 2 (by omega)
        obtain rfl : v3 = .slice (some ⟨bj, oj, none⟩) nj cj := hv 3 (by omega)
        obtain rfl : v4 = .pointer (some ⟨bj, oj, none⟩) := hv 4 (by omega)
        obtain rfl : v5 = .pointer (some ⟨bj, oj, none⟩) := hv 5 (by omega)
        obtain rfl : v6 = .slice Ap np cp := hv 6 (by omega)
        obtain rfl : v7 = .slice A n0 c := hv 7 (by omega)
        obtain rfl : v8 = .int .i64 (n : Nat) := hv 8 (by omega)
        obtain rfl : v9 = .int .i64 (y1 : Nat) := hv 9 (by omega)
        obtain rfl : v10 = .int .i64 a := hv 10 (by omega)
        clear hv
        simp only [putAll, List.take_succ_cons, List.take_zero, List.drop_succ_cons, List.drop_zero, Act.put, List.setIfInBounds_toArray, List.set_cons_succ, List.set_cons_zero]
        have HF := Lib.hid (show Below wr.heap.size wr w3 from below_trans (by repeat (first | exact Below.refl _ _ | (refine Below.drew ?_) | (refine below_drewN' ?_ _) | (refine below_alloc' ?_ _) | (refine Below.setCell ?_ (by first | exact Nat.le_refl _ | (simp; done) | (simp; omega)) _))) hb3)
        have kj3 := Below.keeps hb3 _ _ kj
        have hgl3 := World.block_lt_of_cell? w3 _ kj3
        clear kj g0 hb3 hgl hjl
        by_cases hya : (y1 : Int) = a
        · have hbo : ((y1 : Int) == a) = true := by simpa using hya
          go_wp2_with fail
          go_ret
          refine ⟨_, rfl, ?_, HBR.out.trans (HF.out.mono HBR.out.size)⟩
          rw [← HKZ.out, if_neg (by omega), ← hya, Int.toNat_natCast, HKK.out]
          exact HRD.out.below HF.out
        · have hbo : ((y1 : Int) == a) = false := by simpa using hya
          go_wp2_with fail
          go_roundw
          case rel => exact ⟨j + 1, by omega, (by first | rw [HW.out] | rfl | simp), fun i hi h => by
            by_cases e : i = j
            · subst e; rw [HY.out.1]; exact hya
            · exact HNO.out i hi (by omega), HBJ.out.trans (HF.out.mono HBJ.out.size)⟩
          case measure => (first | (rw [intOf_of' HW.out, intOf_of' rfl]; omega) | (simp [intOf]; omega) | (simp [intOf] <;> omega))
    · have h6 : ¬ (j : Int) < (nk : Int) := by omega
      clear hb hno
      go_wp2_with fail
      go_ret
      refine ⟨_, rfl, ?_, (by repeat (first | exact HBR.out | (refine Below.drew ?_) | (refine below_drewN' ?_ _) | (refine below_alloc' ?_ _) | (refine Below.setCell ?_ (by first | exact Nat.le_refl _ | (have := HBR.out.size; simp; omega) | (have := HBR.out.size; omega)) _)))⟩
      have : (if a < 0 then [] else kidOf a.toNat ks) = [] := by
        by_cases ha : a < 0
        · rw [if_pos ha]
        · rw [if_neg ha]
          refine kidOf_skip fun x hx e => ?_
          obtain ⟨i, hi, rfl⟩ := List.getElem_of_mem hx
          exact HNO.out i hi (by rw [HNK.out] at hi; omega) (by omega)
      rw [← HKZ.out, this]
      exact ⟨none, 0, rfl, ⟨Nat.le_refl _, Nat.zero_le _, fun h => absurd h (by omega)⟩, fun h => absurd h (by simp)⟩
theorem RdE.none' (w : World) : RdE w (.slice none 0 0) [] := ⟨none, 0, rfl, ⟨Nat.le_refl _, Nat.zero_le _, fun h => absurd h (by omega)⟩, fun h => absurd h (by simp)⟩
theorem rkid_any (w : World) (k : Nat) (l : List En) (v : Value) (a : Int) (hv : RdE w v l) (he : EtS k l) (h : l = [] ∨ Tn k l) (k16 : k ≤ 16) :
    Calls Try.prog 26 #[v, .int .i64 a] w fun e w' => ∃ v', e = .returned v' ∧ RdE w' v' (kidL l a) ∧ Below w.heap.size w w' := by
  have short : l.length < 2 → kidL l a = [] → Calls Try.prog 26 #[v, .int .i64 a] w fun e w' => ∃ v', e = .returned v' ∧ RdE w' v' (kidL l a) ∧ Below w.heap.size w w' := fun hl hk => by
    rw [hk]
    obtain ⟨A, c, rfl, _, _⟩ := hv
    have hl2 : (l.length : Int) < 2 := by omega
    go_enter Try.func26, Try.ntmps26
    go_wp2_with fail
    go_ret
    exact ⟨_, rfl, RdE.none' _, (by repeat (first | exact Below.refl _ _ | (refine Below.drew ?_) | (refine below_drewN' ?_ _) | (refine below_alloc' ?_ _) | (refine Below.setCell ?_ (by first | exact Nat.le_refl _ | (simp; done) | (simp; omega)) _)))⟩
  rcases h with rfl | h
  · exact short (by simp) rfl
  · cases h with
    | one e h => exact short (by simp) rfl
    | node n pre ks hk hn => exact rkid_more w k n pre ks _ v a rfl hv he hk k16
/-- digest.Tree -/
theorem dtree_any (w : World) (t k : Nat) (l : List En) (h : TrR w t k l) :
    Calls Try.prog 27 #[.pointer (some ⟨t, 0, none⟩)] w fun e w' => e = .returned (.int .u64 (stirI (stirI basisI (k : Nat)) (digL l))) ∧ Below w.heap.size w w' := by
  obtain ⟨r, c1, hrt⟩ := h.c1
  have HND := Lib.hid (fun w' (hb : Below w.heap.size w w') => dnode_any w' k r l (hrt.below hb) h.k1 h.k16)
  obtain ⟨q, hq⟩ := pv_ex r
  rw [hq] at HND c1
  have HRT := Lib.hid (fun w' (hb : Below w.heap.size w w') => troot_any w' t q (Below.keeps hb _ _ c1))
  have HK := Lib.hid (fun w' (hb : Below w.heap.size w w') => tk_any w' t k (Below.keeps hb _ _ h.c0))
  have HWK := Lib.hid (show IntKind.u64.wrap (k : Int) = (k : Int) by have := h.k16; rw [IntKind.wrap_u64]; omega)
  generalize digL l = d at *
  clear h c1 hrt hq
  go_enter Try.func27, Try.ntmps27
  go_wp2_with fail
  refine (HK.out _ (Below.refl _ _)).mono ?_
  rintro e w1 ⟨rfl, hw⟩
  obtain rfl := hw.symm
  clear hw
  go_wp2_with fail
  refine (HRT.out _ (Below.refl _ _)).mono ?_
  rintro e w1 ⟨rfl, hw⟩
  obtain rfl := hw.symm
  clear hw
  go_wp2_with fail
  refine (HND.out _ (Below.refl _ _)).mono ?_
  rintro e w1 ⟨rfl, hb1⟩
  have HB1 := Lib.hid hb1
  clear hb1
  go_wp2_with fail
  (try rw [HWK.out])
  refine (stir_any _ [(k : Int), d] _ _ (RdU.two (by go_simp) (by go_simp)) (by simp)).mono ?_
  rintro e w2 ⟨rfl, hb2⟩
  have HB2 := Lib.hid (below_trans (below_trans HB1.out (by repeat (first | exact Below.refl _ _ | (refine Below.drew ?_) | (refine below_drewN' ?_ _) | (refine below_alloc' ?_ _) | (refine Below.setCell ?_ (by first | exact Nat.le_refl _ | (simp; done) | (simp; omega)) _)))) hb2)
  have hst : List.foldl stirI 14695981039346656037 [(k : Int), d] = stirI (stirI basisI (k : Nat)) d := rfl
  rw [hst]
  clear hb2 hst
  go_wp2_with fail
  go_ret
  exact ⟨rfl, HB2.out⟩
end Go.Proofs.Ytjokcagggmjgmaa
/-! DigE -/
namespace Go.Proofs.Ytjokcagggmjgmaa
open Go.RowKit
set_option linter.unusedVariables false
set_option linter.unusedSimpArgs false
set_option maxRecDepth 100000

/-- v reads as a list of ints -/
def RdI (w : World) (v : Value) (xs : List Int) : Prop := Sl w v (xs.map (.int .i64))
theorem RdI.below {w w' : World} {v : Value} {xs : List Int} (h : RdI w v xs) (hb : Below w.heap.size w w') : RdI w' v xs := Sl.below h hb
theorem RdI.slice {w : World} {v : Value} {xs : List Int} (h : RdI w v xs) : ∃ A c, v = .slice A xs.length c ∧ (0 < xs.length → ∃ b o, A = some ⟨b, o, none⟩ ∧ ∀ j (h : j < xs.length), w.cell? ⟨b, o + j, none⟩ = some (.int .i64 xs[j])) := by
  obtain ⟨A, c, rfl, hx⟩ := h
  refine ⟨A, c, by rw [List.length_map], fun h0 => ?_⟩
  obtain ⟨b, o, h4, h5⟩ := hx (by rw [List.length_map]; exact h0)
  refine ⟨b, o, h4, fun j hj => ?_⟩
  have := h5 j (by rw [List.length_map]; exact hj)
  rw [List.getElem_map] at this
  exact this
theorem RtN.tn {w : World} {k : Nat} {r : Option Nat} {l : List En} (h : RtN w k r l) : l = [] ∨ Tn k l := by
  cases r with
  | none => exact .inl h
  | some b => exact .inr (Nd.tn h)
end Go.Proofs.Ytjokcagggmjgmaa
/-! DigF -/
namespace Go.Proofs.Ytjokcagggmjgmaa
open Go.RowKit
set_option linter.unusedVariables false
set_option linter.unusedSimpArgs false
set_option maxRecDepth 100000

theorem lev_nil : lev [] = 0 := by
  unfold lev
  rw [show Zb.part ([] : List En).head!.p ([] : List En).getLast!.p 64 = -1 from Zb.part_none 64 fun _ _ => rfl]; rfl
theorem nlev_nil (w : World) : Calls Try.prog 61 #[.pointer none] w fun e w' => e = .returned (.int .i64 (-1)) ∧ w' = w := by
  go_enter Try.func61, Try.ntmps61
  go_wp2_with fail
  go_ret
  exact ⟨rfl, rfl⟩
theorem nlev_rt (w : World) (k : Nat) (r : Option Nat) (l : List En) (h : RtN w k r l) : Calls Try.prog 61 #[pv r] w fun e w' => e = .returned (.int .i64 ((lev l : Int) - 1)) ∧ w' = w := by
  cases r with
  | none =>
    obtain rfl : l = [] := h
    rw [lev_nil]
    exact nlev_nil w
  | some b =>
    obtain ⟨v, kp, hh⟩ := Nd.hd (show Nd w k b l from h)
    exact nlev_any w b _ hh.c0
/-- have both one level and prefix, and kids? -/
def evB (a b : List En) : Bool := decide (1 ≤ lev a) && (decide (lev a = lev b) && decide (preL a = preL b))
theorem tn_lev {k : Nat} {l : List En} (h : l = [] ∨ Tn k l) : l.length < 2 ↔ lev l = 0 := by
  rcases h with rfl | h
  · simp [lev_nil]
  · cases h with
    | one e h => simp [lev_one]
    | node n pre ks hk hn => have := hk.two_le; rw [hk.lev]; omega
set_option maxHeartbeats 2000000 in
theorem deven_any (w : World) (k : Nat) (ra rb : Option Nat) (la lb : List En) (ha : RtN w k ra la) (hb : RtN w k rb lb) (k1 : 1 ≤ k) (k16 : k ≤ 16) :
    Calls Try.prog 34 #[pv ra, pv rb] w fun e w' => e = .returned (.bool (evB la lb)) ∧ Below w.heap.size w w' := by
  have HLA := Lib.hid (fun w' (h : Below w.heap.size w w') => nlev_rt w' k ra la (ha.below h))
  have HLB := Lib.hid (fun w' (h : Below w.heap.size w w') => nlev_rt w' k rb lb (hb.below h))
  obtain ⟨qa, hqa⟩ := pv_ex ra
  obtain ⟨qb, hqb⟩ := pv_ex rb
  rw [hqa] at HLA ⊢
  rw [hqb] at HLB ⊢
  by_cases h1 : 1 ≤ lev la
  · by_cases h2 : lev la = lev lb
    · obtain ⟨na, hna⟩ : ∃ b, ra = some b := by
        cases ra with
        | some b => exact ⟨b, rfl⟩
        | none => obtain rfl : la = [] := ha; rw [lev_nil] at h1; omega
      obtain ⟨nb, hnb⟩ : ∃ b, rb = some b := by
        cases rb with
        | some b => exact ⟨b, rfl⟩
        | none => obtain rfl : lb = [] := hb; rw [lev_nil] at h2; omega
      subst hna hnb
      have hA : Nd w k na la := ha
      have hB : Nd w k nb lb := hb
      obtain ⟨va, kpa, hhb⟩ := hB.hd
      obtain ⟨u, c1, hu⟩ := hhb.c1
      obtain ⟨hpl, hpo, hcut⟩ := hB.pre_ok
      have hev : evB la lb = cov la (preL lb) := by
        unfold evB cov
        rw [decide_eq_true h1, decide_eq_true h2, Bool.true_and, Bool.true_and, h2, hcut]
        congr 1
        exact propext ⟨fun h => h.symm, fun h => h.symm⟩
      rw [hev]
      have HPF := Lib.hid (fun w' (h : Below w.heap.size w w') => npref_any w' nb (preL lb) _ (Below.keeps h _ _ c1) (hu.below h) (by rw [hpl]; exact k1) (by rw [hpl]; exact k16))
      have HCV := Lib.hid (fun w' vp (h : Below w.heap.size w w') (hp : RdU w' vp (pti (preL lb))) => ncov_any w' k na la (preL lb) vp (hA.bel h) hp hpl hpo k1 k16)
      rw [← h2] at HLB
      obtain ⟨n1, hn1⟩ : ∃ n : Nat, lev la = n + 1 := ⟨lev la - 1, by omega⟩
      have hnn : ((lev la : Nat) : Int) - 1 = (n1 : Nat) := by omega
      rw [hnn] at HLA HLB
      rw [show qa = some ⟨na, 0, none⟩ by simpa [pv_some] using hqa.symm] at *
      rw [show qb = some ⟨nb, 0, none⟩ by simpa [pv_some] using hqb.symm] at *
      have hge : (0 : Int) ≤ (n1 : Int) := by omega
      generalize cov la (preL lb) = cv at *
      clear ha hb hA hB hhb u c1 hu hpl hpo hcut hev h1 h2 hn1 hnn hqa hqb
      go_enter Try.func34, Try.ntmps34
      go_wp2_with fail
      refine (HLA.out _ (Below.refl _ _)).mono ?_
      rintro e w1 ⟨rfl, hw⟩
      obtain rfl := hw.symm
      clear hw
      go_wp2_with fail
      refine (HLA.out _ (Below.refl _ _)).mono ?_
      rintro e w1 ⟨rfl, hw⟩
      obtain rfl := hw.symm
      clear hw
      go_wp2_with fail
      refine (HLB.out _ (Below.refl _ _)).mono ?_
      rintro e w1 ⟨rfl, hw⟩
      obtain rfl := hw.symm
      clear hw
      go_wp2_with fail
      refine (HPF.out _ (Below.refl _ _)).mono ?_
      rintro e w2 ⟨u2, rfl, hu2, hb2⟩
      have HC2 := Lib.hid (HCV.out w2 u2 hb2 hu2.rd)
      have HB2 := Lib.hid hb2
      obtain ⟨A2, c2, rfl, _⟩ := RdU.point hu2.rd
      clear hu2 hb2
      go_wp2_with fail
      refine (HC2.out).mono ?_
      rintro e w3 ⟨rfl, hw⟩
      obtain rfl := hw.symm
      clear hw
      go_wp2_with fail
      go_ret
      exact ⟨rfl, HB2.out⟩
    · have hev : evB la lb = false := by unfold evB; rw [decide_eq_false h2]; simp
      rw [hev]
      have e1 : (((lev la : Nat) : Int) - 1 == ((lev lb : Nat) : Int) - 1) = false := by rw [beq_eq_false_iff_ne]; omega
      have e2 : ¬ ((lev la : Nat) : Int) - 1 = ((lev lb : Nat) : Int) - 1 := by omega
      have hge : (0 : Int) ≤ ((lev la : Nat) : Int) - 1 := by omega
      generalize ((lev la : Nat) : Int) - 1 = za at *
      generalize ((lev lb : Nat) : Int) - 1 = zb at *
      clear h1 h2 ha hb hev hqa hqb
      go_enter Try.func34, Try.ntmps34
      go_wp2_with fail
      refine (HLA.out _ (Below.refl _ _)).mono ?_
      rintro e w1 ⟨rfl, hw⟩
      obtain rfl := hw.symm
      clear hw
      go_wp2_with fail
      refine (HLA.out _ (Below.refl _ _)).mono ?_
      rintro e w1 ⟨rfl, hw⟩
      obtain rfl := hw.symm
      clear hw
      go_wp2_with fail
      refine (HLB.out _ (Below.refl _ _)).mono ?_
      rintro e w1 ⟨rfl, hw⟩
      obtain rfl := hw.symm
      clear hw
      go_wp2_with fail
      go_ret
      exact ⟨rfl, (by repeat (first | exact Below.refl _ _ | (refine Below.drew ?_) | (refine below_drewN' ?_ _) | (refine below_alloc' ?_ _) | (refine Below.setCell ?_ (by first | exact Nat.le_refl _ | (simp; done) | (simp; omega)) _)))⟩
  · have hev : evB la lb = false := by unfold evB; rw [decide_eq_false h1]; rfl
    rw [hev]
    have hlt : ¬ (0 : Int) ≤ ((lev la : Nat) : Int) - 1 := by omega
    generalize ((lev la : Nat) : Int) - 1 = za at *
    clear h1 ha hb hev hqa hqb HLB
    go_enter Try.func34, Try.ntmps34
    go_wp2_with fail
    refine (HLA.out _ (Below.refl _ _)).mono ?_
    rintro e w1 ⟨rfl, hw⟩
    obtain rfl := hw.symm
    clear hw
    go_wp2_with fail
    go_ret
    exact ⟨rfl, (by repeat (first | exact Below.refl _ _ | (refine Below.drew ?_) | (refine below_drewN' ?_ _) | (refine below_alloc' ?_ _) | (refine Below.setCell ?_ (by first | exact Nat.le_refl _ | (simp; done) | (simp; omega)) _)))⟩
/-- what node.From hands back at an address (the node lies in W0) -/
def FromP (W0 W : World) (k : Nat) (l : List En) (a : Nat) (e : Ending) (w' : World) : Prop := Below W.heap.size W w' ∧
  ((e = .returned (.tuple #[.int .i64 0, .pointer none]) ∧ ∀ c : Nat, a ≤ c → kidL l (c : Int) = []) ∨
   (∃ i b : Nat, e = .returned (.tuple #[.int .i64 (i : Nat), .pointer (some ⟨b, 0, none⟩)]) ∧ a ≤ i ∧ i < 2 ^ k ∧ Nd W0 k b (kidL l (i : Int)) ∧ ∀ c : Nat, a ≤ c → c < i → kidL l (c : Int) = []))
theorem nfrom_p (W0 w : World) (k b : Nat) (l : List En) (a : Nat) (h : Nd W0 k b l) (hbw : Below W0.heap.size W0 w) (hl : 1 ≤ lev l) :
    Calls Try.prog 35 #[.pointer (some ⟨b, 0, none⟩), .int .i64 (a : Nat)] w fun e w' => FromP W0 w k l a e w' := by
  obtain ⟨s, n, pre, ks, rfl, hh, hs, hkd, hn⟩ := h.node_of (by omega)
  refine (nfrom_any w b s k (ks.map kb) (a : Nat) (Below.keeps hbw _ _ hh.c3) (hs.below hbw)).mono ?_
  rintro e w' ⟨rfl, hb⟩
  refine ⟨hb, ?_⟩
  have hkid : ∀ c : Nat, kidL (cat (ks.map kl)) (c : Int) = kidOf c (ks.map kl) := fun c => by
    rw [hkd.kidL, if_neg (by omega), Int.toNat_natCast]
  cases hf : fromI (ks.map kb) (a : Nat) with
  | none =>
    refine .inl ⟨rfl, fun c hc => ?_⟩
    rw [hkid]
    refine kidOf_none fun x hx e => ?_
    obtain ⟨y, hy, rfl⟩ := List.mem_map.1 hx
    unfold fromI at hf
    have := List.find?_eq_none.1 hf (kb y) (List.mem_map_of_mem hy)
    have e1 : (kl y).1 = (kb y).1 := rfl
    simp only [decide_eq_true_iff] at this
    omega
  | some x =>
    unfold fromI at hf
    obtain ⟨h1, xs1, bs, h2, h3⟩ := List.find?_eq_some_iff_append.1 hf
    simp only [decide_eq_true_iff] at h1
    have hx : x ∈ ks.map kb := by rw [h2]; simp
    obtain ⟨y, hy, rfl⟩ := List.mem_map.1 hx
    have hasc := hs.rw'.asc
    have hk1 := look_kid hkd.asc (List.mem_map_of_mem (f := kl) hy)
    have e1 : (kl y).1 = y.1 := rfl
    have e2 : (kb y).1 = y.1 := rfl
    have e3 : (kl y).2 = y.2.2 := rfl
    rw [e1, e3] at hk1
    have hadr := hkd.addr_lt (List.mem_map_of_mem (f := kl) hy)
    rw [e1] at hadr
    refine .inr ⟨y.1, y.2.1, rfl, by rw [e2] at h1; omega, hadr, ?_, fun c hc hci => ?_⟩
    · rw [hkid, hk1]; exact hn y hy
    · rw [hkid]
      refine kidOf_none fun z hz e => ?_
      obtain ⟨t, ht, rfl⟩ := List.mem_map.1 hz
      have hm : kb t ∈ xs1 ++ kb y :: bs := by rw [← h2]; exact List.mem_map_of_mem ht
      have e4 : (kl t).1 = (kb t).1 := rfl
      rcases List.mem_append.1 hm with hm | hm
      · have := h3 _ hm
        simp at this
        omega
      · rw [h2] at hasc
        have h5 := (List.pairwise_append.1 hasc).2.1
        rcases List.mem_cons.1 hm with hm | hm
        · rw [hm, e2] at e4; omega
        · have : (kb y).1 < (kb t).1 := (List.pairwise_cons.1 h5).1 _ hm
          omega
/-- the way on which two lists are told apart -/
inductive PartR (k : Nat) : List En → List En → List Nat → Prop
  | stop (a b : List En) (h : evB a b = false) : PartR k a b []
  | none (a b : List En) (h : evB a b = true) (h2 : ∀ c < 2 ^ k, digL (kidL a (c : Nat)) = digL (kidL b (c : Nat))) : PartR k a b []
  | some (a b : List En) (c : Nat) (ps : List Nat) (h : evB a b = true) (hc : c < 2 ^ k) (h2 : ∀ j < c, digL (kidL a (j : Nat)) = digL (kidL b (j : Nat))) (h3 : digL (kidL a (c : Nat)) ≠ digL (kidL b (c : Nat))) (hr : PartR k (kidL a (c : Nat)) (kidL b (c : Nat)) ps) : PartR k a b (c :: ps)
theorem PartR.det {k : Nat} {a b : List En} {ps qs : List Nat} (h : PartR k a b ps) (g : PartR k a b qs) : ps = qs := by
  induction h generalizing qs with
  | stop a b h =>
    cases g with
    | stop _ _ _ => rfl
    | none _ _ h' _ => rfl
    | some _ _ c ps h' _ _ _ _ => exact absurd (h.symm.trans h') (by decide)
  | none a b h h2 =>
    cases g with
    | stop _ _ h' => rfl
    | none _ _ _ _ => rfl
    | some _ _ c ps h' hc _ h3 _ => exact absurd (h2 c hc) h3
  | some a b c ps h hc h2 h3 hr ih =>
    cases g with
    | stop _ _ h' => exact absurd (h'.symm.trans h) (by decide)
    | none _ _ _ h2' => exact absurd (h2' c hc) h3
    | some _ _ c' ps' _ hc' h2' h3' hr' =>
      have : c = c' := by
        rcases Nat.lt_trichotomy c c' with e | e | e
        · exact absurd (h2' c e) h3
        · exact e
        · exact absurd (h2 c' e) h3'
      subst this
      rw [ih hr']
theorem wp_scope_jumps3 {P : Program} {a : Act} {w : World} {Q : Exit → Act → World → Prop} {c rest : Code} (l : Nat) (J : Act → World → Prop) (μ : Act → World → Nat) (hf : findLabel c l = some (Code.skip.seq rest))
    (pass : ∀ a w, J a w → rest.wp P (Exit.jump l (fun a' w' => J a' w' ∧ μ a' w' < μ a w) Q) a w)
    (first : ∀ Q', (∀ a w, J a w → rest.wp P Q' a w) → (∀ a w, Q .ret a w → Q' .ret a w) → c.wp P Q' a w) : (Code.scope c).wp P Q a w :=
  wp_scope_jumps l J μ hf (first _ (fun a w hJ => wp_mono (pass a w hJ) (by
    intro e a' w' h
    cases e
    case goto l' => exact ⟨h.1, h.2.1⟩
    all_goals exact h)) (fun a w h => h)) (fun a w hJ => wp_seq (wp_skip (pass a w hJ)))
theorem kidL_lev {k : Nat} {l : List En} (h : l = [] ∨ Tn k l) (a : Int) (h0 : 1 ≤ lev l) : lev (kidL l a) + 1 ≤ lev l := by
  rcases h with rfl | h
  · rw [lev_nil] at h0; omega
  · cases h with
    | one e h => rw [lev_one] at h0; omega
    | node n pre ks hk hn =>
      rw [hk.kidL, hk.lev]
      by_cases ha : a < 0
      · rw [if_pos ha, lev_nil]; omega
      · rw [if_neg ha]; have := hk.kidOf_lev a.toNat; omega
end Go.Proofs.Ytjokcagggmjgmaa
/-! DigG -/
namespace Go.Proofs.Ytjokcagggmjgmaa
open Go.RowKit
set_option linter.unusedVariables false
set_option linter.unusedSimpArgs false
set_option maxRecDepth 100000

/-- what stands at the loop's head -/
structure PaI (w : World) (k : Nat) (la lb : List En) (w' : World) (ov : Value) (rx ry : Option Nat) (lx ly : List En) (t : Nat) (ws : List Nat) : Prop where
  own : OwnV 3 w w' ov (ws.map fun (x : Nat) => Value.int .i64 (x : Nat))
  x : RtN w k rx lx
  y : RtN w k ry ly
  eq : ∀ c < t, digL (kidL lx (c : Nat)) = digL (kidL ly (c : Nat))
  goal : ∀ ps, PartR k lx ly ps → PartR k la lb (ws ++ ps)
  t16 : t ≤ 65536
  len : ws.length + lev lx ≤ 64
  bel : Below w.heap.size w w'
  k1 : 1 ≤ k
  k16 : k ≤ 16
theorem OwnV.lit' {t : TypeId} {W w : World} (hb : Below W.heap.size W w) : OwnV t W (w.alloc (.cells #[] t)) (.slice (some ⟨w.heap.size, 0, none⟩) 0 0) [] := OwnV.lit hb.size rfl
theorem paI_next {w w1 w2 : World} {k : Nat} {la lb lx ly : List En} {ov : Value} {rx ry : Option Nat} {t c : Nat} {ws : List Nat} (h : PaI w k la lb w1 ov rx ry lx ly t ws) (hb : Below w1.heap.size w1 w2) (htc : t ≤ c) (hc : c < 65536)
    (hem : ∀ j : Nat, t ≤ j → j < c → kidL lx (j : Nat) = [] ∧ kidL ly (j : Nat) = []) (hd : digL (kidL lx (c : Nat)) = digL (kidL ly (c : Nat))) : PaI w k la lb w2 ov rx ry lx ly (c + 1) ws :=
  ⟨h.own.below hb, h.x, h.y, fun j hj => by
    by_cases h1 : j < t
    · exact h.eq j h1
    · by_cases h2 : j = c
      · rw [h2]; exact hd
      · obtain ⟨e1, e2⟩ := hem j (by omega) (by omega)
        rw [e1, e2], h.goal, by omega, h.len, h.bel.trans (hb.mono h.bel.size), h.k1, h.k16⟩
theorem paI_down {w w1 w2 : World} {k : Nat} {la lb lx ly : List En} {ov ov' : Value} {rx ry rp rq : Option Nat} {t c : Nat} {ws : List Nat} (h : PaI w k la lb w1 ov rx ry lx ly t ws) (hev : evB lx ly = true) (hb : Below w.heap.size w w2)
    (hown : OwnV 3 w w2 ov' ((ws ++ [c]).map fun (x : Nat) => Value.int .i64 (x : Nat))) (htc : t ≤ c) (hc : c < 2 ^ k)
    (hem : ∀ j : Nat, t ≤ j → j < c → kidL lx (j : Nat) = [] ∧ kidL ly (j : Nat) = []) (hd : digL (kidL lx (c : Nat)) ≠ digL (kidL ly (c : Nat))) (hp : RtN w k rp (kidL lx (c : Nat))) (hq : RtN w k rq (kidL ly (c : Nat))) :
    PaI w k la lb w2 ov' rp rq (kidL lx (c : Nat)) (kidL ly (c : Nat)) 0 (ws ++ [c]) := by
  have h1 : 1 ≤ lev lx := by
    unfold evB at hev
    rw [Bool.and_eq_true] at hev
    exact of_decide_eq_true hev.1
  have h2 := kidL_lev (RtN.tn h.x) (c : Nat) h1
  refine ⟨hown, hp, hq, fun j hj => absurd hj (Nat.not_lt_zero _), fun ps hps => ?_, Nat.zero_le _, by rw [List.length_append, List.length_singleton]; have := h.len; omega, hb, h.k1, h.k16⟩
  rw [List.append_assoc]
  refine h.goal _ (.some lx ly c ps hev hc (fun j hj => ?_) hd hps)
  by_cases h3 : j < t
  · exact h.eq j h3
  · obtain ⟨e1, e2⟩ := hem j (by omega) hj
    rw [e1, e2]
theorem pa_mu1 {w w1 w2 : World} {k bx t c : Nat} {lx : List En} (hx : Nd w k bx lx) (h1 : Below w.heap.size w w1) (h2 : Below w.heap.size w w2) (htc : t ≤ c) (hc : c < 65536) :
    lvMu (.pointer (some ⟨bx, 0, none⟩)) w2 * 70000 + (70000 - (intOf (.int .i64 ((c + 1 : Nat) : Int))).toNat) < lvMu (.pointer (some ⟨bx, 0, none⟩)) w1 * 70000 + (70000 - (intOf (.int .i64 ((t : Nat) : Int))).toNat) := by
  have e1 := (lvMu_rt (r := some bx) (show RtN w k (some bx) lx from hx) h1).2 (by simp)
  have e2 := (lvMu_rt (r := some bx) (show RtN w k (some bx) lx from hx) h2).2 (by simp)
  rw [pv_some] at e1 e2
  rw [e1, e2]
  have : (intOf (.int .i64 ((c + 1 : Nat) : Int))).toNat = c + 1 := by show (((c + 1 : Nat) : Int)).toNat = _; omega
  rw [this]
  have : (intOf (.int .i64 ((t : Nat) : Int))).toNat = t := by show (((t : Nat) : Int)).toNat = _; omega
  rw [this]
  omega
theorem pa_mu2 {w w1 w2 : World} {k bx t : Nat} {rp : Option Nat} {lx lp : List En} (hx : Nd w k bx lx) (h1 : Below w.heap.size w w1) (h2 : Below w.heap.size w w2) (hp : RtN w k rp lp) (hl : lev lp + 1 ≤ lev lx) (ht : t ≤ 65536) :
    lvMu (pv rp) w2 * 70000 + (70000 - (intOf (.int .i64 0)).toNat) < lvMu (.pointer (some ⟨bx, 0, none⟩)) w1 * 70000 + (70000 - (intOf (.int .i64 ((t : Nat) : Int))).toNat) := by
  have e1 := (lvMu_rt (r := some bx) (show RtN w k (some bx) lx from hx) h1).2 (by simp)
  have e2 := (lvMu_rt hp h2).1
  rw [pv_some] at e1
  rw [e1]
  have : (intOf (.int .i64 0)).toNat = 0 := rfl
  rw [this]
  have : (intOf (.int .i64 ((t : Nat) : Int))).toNat = t := by show (((t : Nat) : Int)).toNat = _; omega
  rw [this]
  omega
/-- what digest.Part hands back -/
def DPartP (W : World) (k : Nat) (la lb : List En) (e : Ending) (w' : World) : Prop := Below W.heap.size W w' ∧
  ((digL la = digL lb ∧ e = .returned (.tuple #[.slice none 0 0, .bool false, .int .i64 0])) ∨
   (∃ v ws, digL la ≠ digL lb ∧ e = .returned (.tuple #[v, .bool true, .int .i64 0]) ∧ OwnV 3 W w' v (ws.map fun (x : Nat) => Value.int .i64 (x : Nat)) ∧ PartR k la lb ws))
set_option maxHeartbeats 8000000 in
theorem dpart_any (w : World) (a b k : Nat) (la lb : List En) (ha : TrR w a k la) (hb : TrR w b k lb) :
    Calls Try.prog 11 #[.pointer (some ⟨a, 0, none⟩), .pointer (some ⟨b, 0, none⟩)] w fun e w' => DPartP w k la lb e w' := by
  obtain ⟨ra, ca, hra⟩ := ha.c1
  obtain ⟨rb, cb, hrb⟩ := hb.c1
  have HNA := Lib.hid (fun W (hw : Below w.heap.size w W) => dnode_any W k ra la (hra.below hw) ha.k1 ha.k16)
  have HNB := Lib.hid (fun W (hw : Below w.heap.size w W) => dnode_any W k rb lb (hrb.below hw) hb.k1 hb.k16)
  have HAB := Lib.hid (And.intro hra (And.intro hrb (And.intro ha.k1 ha.k16)))
  have HKA := Lib.hid (fun W (hw : Below w.heap.size w W) => tk_any W a k (Below.keeps hw _ _ ha.c0))
  have HKB := Lib.hid (fun W (hw : Below w.heap.size w W) => tk_any W b k (Below.keeps hw _ _ hb.c0))
  obtain ⟨qa, hqa⟩ := pv_ex ra
  obtain ⟨qb, hqb⟩ := pv_ex rb
  rw [hqa] at ca HNA
  rw [hqb] at cb HNB
  have HRA := Lib.hid (fun W (hw : Below w.heap.size w W) => troot_any W a qa (Below.keeps hw _ _ ca))
  have HRB := Lib.hid (fun W (hw : Below w.heap.size w W) => troot_any W b qb (Below.keeps hw _ _ cb))
  have HQQ := Lib.hid (And.intro hqa hqb)
  obtain ⟨da, hda⟩ : ∃ d, digL la = d := ⟨_, rfl⟩
  obtain ⟨db, hdb⟩ : ∃ d, digL lb = d := ⟨_, rfl⟩
  rw [hda] at HNA
  rw [hdb] at HNB
  have HDAB := Lib.hid (And.intro hda hdb)
  clear ha hb ca cb hra hrb hqa hqb hda hdb
  by_cases hnd : da = db
  · have hnd1 : (da == db) = true := by simpa using hnd
    have HEQ := Lib.hid (show digL la = digL lb by rw [HDAB.out.1, HDAB.out.2]; exact hnd)
    clear hnd
    go_enter Try.func11, Try.ntmps11
    go_wp2_with fail
    refine wp_scope_jumps3 0 (fun _ _ => False) (fun _ _ => 0) rfl ?_ ?_
    · exact fun a w h => h.elim
    · intro Q' hQ' hR
      have HR := Lib.hid hR
      clear hQ' hR
      go_wp2_with fail
      refine (HKA.out _ (Below.refl _ _)).mono ?_
      rintro e w1 ⟨rfl, hw⟩
      obtain rfl := hw.symm
      clear hw
      go_wp2_with fail
      refine (HKB.out _ (Below.refl _ _)).mono ?_
      rintro e w1 ⟨rfl, hw⟩
      obtain rfl := hw.symm
      clear hw
      go_wp2_with fail
      refine (HRA.out _ (Below.refl _ _)).mono ?_
      rintro e w1 ⟨rfl, hw⟩
      obtain rfl := hw.symm
      clear hw
      go_wp2_with fail
      refine (HRB.out _ (Below.refl _ _)).mono ?_
      rintro e w1 ⟨rfl, hw⟩
      obtain rfl := hw.symm
      clear hw
      go_wp2_with fail
      refine (HNA.out _ (Below.refl _ _)).mono ?_
      rintro e w1 ⟨rfl, hb1⟩
      have HZ1 := Lib.hid hb1
      clear hb1
      go_wp2_with fail
      refine (HNB.out _ HZ1.out).mono ?_
      rintro e w2 ⟨rfl, hb2⟩
      have HZ2 := Lib.hid (HZ1.out.trans (hb2.mono HZ1.out.size))
      clear hb2
      go_wp2_with fail
      refine HR.out _ _ ?_
      refine bodyPost_ret (v := .tuple #[.slice none 0 0, .bool false, .int .i64 0]) (by simp [results, Try.results11, go_sem]) rfl ?_
      exact ⟨HZ2.out, .inl ⟨HEQ.out, rfl⟩⟩
  · have hnd1 : (da == db) = false := by simpa using hnd
    have HNE := Lib.hid (show digL la ≠ digL lb by rw [HDAB.out.1, HDAB.out.2]; exact hnd)
    clear hnd
    go_enter Try.func11, Try.ntmps11
    go_wp2_with fail
    refine wp_scope_jumps3 0 (fun a' w' => ∃ (ov : Value) (rx ry : Option Nat) (lx ly : List En) (t : Nat) (ws : List Nat) (u2 u3 u11 u12 u13 u14 u15 u16 u17 u18 u19 u20 u21 u22 u23 u24 u25 u26 u27 u28 u29 u30 u31 u32 u33 u34 u35 u36 u37 u38 u39 u40 u41 u42 u43 u44 u45 u46 u47 u48 u49 u50 u51 u52 u53 u54 u55 u56 u57 u58 u59 u60 u61 u62 u63 u64 u65 u66 u67 u68 u69 u70 u71 u72 u73 u74 u75 u76 u77 u78 u79 u80 u81 u82 u83 u84 u85 u86 u87 u88 u89 u90 u91 u92 u93 u94 u95 u96 u97 : Value), a' = { tmps := #[.pointer (some ⟨a, 0, none⟩), .pointer (some ⟨b, 0, none⟩), u2, u3, .slice none 0 0, .bool false, .int .i64 0, pv rx, pv ry, ov, .int .i64 (t : Nat), u11, u12, u13, u14, u15, u16, u17, u18, u19, u20, u21, u22, u23, u24, u25, u26, u27, u28, u29, u30, u31, u32, u33, u34, u35, u36, u37, u38, u39, u40, u41, u42, u43, u44, u45, u46, u47, u48, u49, u50, u51, u52, u53, u54, u55, u56, u57, u58, u59, u60, u61, u62, u63, u64, u65, u66, u67, u68, u69, u70, u71, u72, u73, u74, u75, u76, u77, u78, u79, u80, u81, u82, u83, u84, u85, u86, u87, u88, u89, u90, u91, u92, u93, u94, u95, u96, u97], defers := [] } ∧ PaI w k la lb w' ov rx ry lx ly t ws) (fun a' w' => lvMu (a'.tmps.getD 7 undef) w' * 70000 + (70000 - (intOf (a'.tmps.getD 10 undef)).toNat)) rfl ?_ ?_
    · intro a' w' hJ
      obtain ⟨ov, rx, ry, lx, ly, t, ws, u2, u3, u11, u12, u13, u14, u15, u16, u17, hJ⟩ := hJ
      obtain ⟨u18, u19, u20, u21, u22, u23, u24, u25, u26, u27, u28, u29, u30, u31, u32, u33, hJ⟩ := hJ
      obtain ⟨u34, u35, u36, u37, u38, u39, u40, u41, u42, u43, u44, u45, u46, u47, u48, u49, hJ⟩ := hJ
      obtain ⟨u50, u51, u52, u53, u54, u55, u56, u57, u58, u59, u60, u61, u62, u63, u64, u65, hJ⟩ := hJ
      obtain ⟨u66, u67, u68, u69, u70, u71, u72, u73, u74, u75, u76, u77, u78, u79, u80, u81, hJ⟩ := hJ
      obtain ⟨u82, u83, u84, u85, u86, u87, u88, u89, u90, u91, u92, u93, u94, u95, u96, u97, hJ⟩ := hJ
      obtain ⟨rfl, hJ⟩ := hJ
      have H0 := Lib.hid hJ
      have HBW0 := Lib.hid hJ.bel
      have HEN := Lib.hid (fun W (hw : Below w.heap.size w W) => deven_any W k rx ry lx ly (H0.out.x.below hw) (H0.out.y.below hw) H0.out.k1 H0.out.k16)
      obtain ⟨q1, hq1⟩ := pv_ex rx
      obtain ⟨q2, hq2⟩ := pv_ex ry
      cases hev : evB lx ly with
      | false =>
        rw [hev] at HEN
        have HPR := Lib.hid (show PartR k la lb ws from by have := H0.out.goal [] (.stop lx ly hev); rwa [List.append_nil] at this)
        rw [hq1, hq2] at HEN ⊢
        clear hev hJ hq1 hq2
        go_wp2_with fail
        refine (HEN.out _ (by repeat (first | exact HBW0.out | (refine Below.drew ?_) | (refine below_drewN' ?_ _) | (refine below_alloc' ?_ _) | (refine Below.setCell ?_ (by first | exact Nat.le_refl _ | (have := HBW0.out.size; simp; omega) | (have := HBW0.out.size; omega)) _)))).mono ?_
        rintro e w1 ⟨rfl, hb1⟩
        have HEND := Lib.hid (H0.out.bel.trans (hb1.mono H0.out.bel.size))
        have HOV := Lib.hid (H0.out.own.below hb1)
        clear hb1
        go_wp2_with fail
        (try simp only [Exit.jump])
        refine bodyPost_ret (v := .tuple #[ov, .bool true, .int .i64 0]) (by simp [results, Try.results11, go_sem]) rfl ?_
        refine ⟨HEND.out, .inr ⟨ov, ws, HNE.out, rfl, HOV.out, HPR.out⟩⟩
      | true =>
        rw [hev] at HEN
        have hev1 : 1 ≤ lev lx ∧ 1 ≤ lev ly := by
          unfold evB at hev
          rw [Bool.and_eq_true, Bool.and_eq_true] at hev
          have h1 := of_decide_eq_true hev.1
          have h2 := of_decide_eq_true hev.2.1
          omega
        obtain ⟨bx, rfl⟩ : ∃ b, rx = some b := by
          cases rx with
          | some b => exact ⟨b, rfl⟩
          | none => have : lx = [] := hJ.x; rw [this, lev_nil] at hev1; omega
        obtain ⟨bY, rfl⟩ : ∃ b, ry = some b := by
          cases ry with
          | some b => exact ⟨b, rfl⟩
          | none => have : ly = [] := hJ.y; rw [this, lev_nil] at hev1; omega
        have HXY := Lib.hid (show Nd w k bx lx ∧ Nd w k bY ly from ⟨hJ.x, hJ.y⟩)
        have HEV := Lib.hid hev
        have HEV1 := Lib.hid hev1.1
        have HFX := Lib.hid (fun W (hw : Below w.heap.size w W) => nfrom_p w W k bx lx t HXY.out.1 hw hev1.1)
        have HFY := Lib.hid (fun W (hw : Below w.heap.size w W) => nfrom_p w W k bY ly t HXY.out.2 hw hev1.2)
        simp only [pv_some] at HEN ⊢
        clear hev hev1 hJ hq1 hq2
        go_wp2_with fail
        refine (HEN.out _ (by repeat (first | exact HBW0.out | (refine Below.drew ?_) | (refine below_drewN' ?_ _) | (refine below_alloc' ?_ _) | (refine Below.setCell ?_ (by first | exact Nat.le_refl _ | (have := HBW0.out.size; simp; omega) | (have := HBW0.out.size; omega)) _)))).mono ?_
        rintro e w1 ⟨rfl, hb1⟩
        have HE1 := Lib.hid (H0.out.bel.trans (hb1.mono H0.out.bel.size))
        have HQ1 := Lib.hid (show Below w'.heap.size w' w1 from hb1)
        clear hb1
        go_wp2_with fail
        refine (HFX.out _ (by repeat (first | exact HE1.out | (refine Below.drew ?_) | (refine below_drewN' ?_ _) | (refine below_alloc' ?_ _) | (refine Below.setCell ?_ (by first | exact Nat.le_refl _ | (have := HE1.out.size; simp; omega) | (have := HE1.out.size; omega)) _)))).mono ?_
        rintro e w2 ⟨hb2, hx⟩
        have HW2 := Lib.hid (HE1.out.trans (hb2.mono HE1.out.size))
        have HP2 := Lib.hid (HQ1.out.trans (hb2.mono HQ1.out.size))
        clear hb2
        rcases hx with ⟨rfl, hnx⟩ | ⟨i, p, rfl, hti, hi, hp, hnx⟩
        · have HNX := Lib.hid hnx
          clear hnx
          go_wp2_with fail
          refine (HFY.out _ (by repeat (first | exact HW2.out | (refine Below.drew ?_) | (refine below_drewN' ?_ _) | (refine below_alloc' ?_ _) | (refine Below.setCell ?_ (by first | exact Nat.le_refl _ | (have := HW2.out.size; simp; omega) | (have := HW2.out.size; omega)) _)))).mono ?_
          rintro e w3 ⟨hb3, hy⟩
          have HW3 := Lib.hid (HW2.out.trans (hb3.mono HW2.out.size))
          have HP3 := Lib.hid (HP2.out.trans (hb3.mono HP2.out.size))
          clear hb3
          rcases hy with ⟨rfl, hny⟩ | ⟨j, q, rfl, htj, hj, hq, hny⟩
          · have HPR := Lib.hid (show PartR k la lb ws from by
              have := H0.out.goal [] (.none lx ly HEV.out fun c hc => by
                by_cases h1 : c < t
                · exact H0.out.eq c h1
                · rw [HNX.out c (by omega), hny c (by omega)])
              rwa [List.append_nil] at this)
            have HEND := Lib.hid HW3.out
            have HOV := Lib.hid (H0.out.own.below HP3.out)
            clear hny
            go_wp2_with fail
            (try simp only [Exit.jump])
            refine bodyPost_ret (v := .tuple #[ov, .bool true, .int .i64 0]) (by simp [results, Try.results11, go_sem]) rfl ?_
            refine ⟨HEND.out, .inr ⟨ov, ws, HNE.out, rfl, HOV.out, HPR.out⟩⟩
          · have HY := Lib.hid (And.intro htj (And.intro hj (And.intro hq hny)))
            clear htj hj hq hny
            have HK := Lib.hid (show RtN w k (none) (kidL lx (j : Nat)) ∧ RtN w k (some q) (kidL ly (j : Nat)) from ⟨HNX.out j HY.out.1, HY.out.2.2.1⟩)
            have HEM := Lib.hid (show ∀ z : Nat, t ≤ z → z < j → kidL lx (z : Nat) = [] ∧ kidL ly (z : Nat) = [] from fun z h1 h2 => ⟨HNX.out z h1, HY.out.2.2.2 z h1 h2⟩)
            have HCE := Lib.hid (show t ≤ j ∧ j < 2 ^ k ∧ j < 65536 from ⟨(And.intro HY.out.1 HY.out.2.1).1, (And.intro HY.out.1 HY.out.2.1).2, by have h1 := (And.intro HY.out.1 HY.out.2.1).2; have h2 := pow_le k H0.out.k16; omega⟩)
            have HW := Lib.hid (show wrap64 ((j : Int) + 1) = ((j + 1 : Nat) : Int) by have := HCE.out.2.2; unfold wrap64; omega)
            have HNP := Lib.hid (fun W (hb : Below w3.heap.size w3 W) => dnode_any W k (none) _ (HK.out.1.below (HW3.out.trans (hb.mono HW3.out.size))) H0.out.k1 H0.out.k16)
            have HNQ := Lib.hid (fun W (hb : Below w3.heap.size w3 W) => dnode_any W k (some q) _ (HK.out.2.below (HW3.out.trans (hb.mono HW3.out.size))) H0.out.k1 H0.out.k16)
            simp only [pv_none, pv_some] at HNP HNQ
            obtain ⟨dp, hdp⟩ : ∃ d, digL (kidL lx (j : Nat)) = d := ⟨_, rfl⟩
            obtain ⟨dq, hdq⟩ : ∃ d, digL (kidL ly (j : Nat)) = d := ⟨_, rfl⟩
            rw [hdp] at HNP
            rw [hdq] at HNQ
            have HDD := Lib.hid (And.intro hdp hdq)
            clear hdp hdq
            go_wp2_with fail
            refine (HNP.out _ (Below.refl _ _)).mono ?_
            rintro e w4 ⟨rfl, hb4⟩
            have HB4 := Lib.hid (show Below w3.heap.size w3 w4 from hb4)
            clear hb4
            go_wp2_with fail
            refine (HNQ.out _ HB4.out).mono ?_
            rintro e w5 ⟨rfl, hb5⟩
            have HB5 := Lib.hid (HB4.out.trans (hb5.mono HB4.out.size))
            have HW5 := Lib.hid (HW3.out.trans (HB5.out.mono HW3.out.size))
            have HP5 := Lib.hid (HP3.out.trans (HB5.out.mono HP3.out.size))
            clear hb5
            by_cases hde : dp = dq
            · have hde1 : (dp == dq) = true := by simpa using hde
              have HDE := Lib.hid hde
              clear hde
              go_wp2_with fail
              go_step3
              (try rw [HW.out])
              have hN := paI_next H0.out HP5.out HCE.out.1 HCE.out.2.2 HEM.out (by rw [HDD.out.1, HDD.out.2]; exact HDE.out)
              refine ⟨rfl, ⟨_, some bx, some bY, lx, ly, j + 1, ws, _, _, _, _, _, _, _, _, _, _, _, _, _, _, _, _, _, _, _, _, _, _, _, _, _, _, _, _, _, _, _, _, _, _, _, _, _, _, _, _, _, _, _, _, _, _, _, _, _, _, _, _, _, _, _, _, _, _, _, _, _, _, _, _, _, _, _, _, _, _, _, _, _, _, _, _, _, _, _, _, _, _, _, _, _, _, _, _, _, rfl, hN⟩, ?_⟩
              exact pa_mu1 HXY.out.1 H0.out.bel HW5.out HCE.out.1 HCE.out.2.2
            · have hde1 : (dp == dq) = false := by simpa using hde
              have HDE := Lib.hid hde
              clear hde
              go_wp2_with (at_builtin; refine wpList_append_V rfl (.tmp 92) (.tmp 94) rfl w (ws.map fun (x : Nat) => Value.int .i64 (x : Nat)) (.int .i64 (j : Nat)) intsT ?_ ?_ ?_ ?_ ?_)
              · exact H0.out.own.below (below_trans HP5.out (by repeat (first | exact Below.refl _ _ | (refine Below.drew ?_) | (refine below_drewN' ?_ _) | (refine below_alloc' ?_ _) | (refine Below.setCell ?_ (by first | exact Nat.le_refl _ | (simp; done) | (simp; omega)) _))))
              · exact ⟨_, _, rfl, by simp [go_sem], rfl⟩
              · have := HW5.out.size; simp; omega
              · rw [List.length_map]; have := H0.out.len; omega
              intro ov' w6 hown' hg
              have hb0 : Below w'.heap.size w' (w5.alloc (.cells #[.int .i64 (j : Nat)] 3)) := below_alloc' HP5.out _
              have hbw6 : Below w.heap.size w w6 := OwnV.grown (H0.out.own.below hb0) (H0.out.bel.trans (hb0.mono H0.out.bel.size)) hg
              have HN := Lib.hid (paI_down H0.out HEV.out hbw6 (by
                have := hown'
                rw [List.map_append]
                exact this) HCE.out.1 HCE.out.2.1 HEM.out (by rw [HDD.out.1, HDD.out.2]; exact HDE.out) HK.out.1 HK.out.2)
              have HB6 := Lib.hid hbw6
              obtain ⟨A6, c6, rfl⟩ := OwnV.shape hown'
              clear hown' hg hb0 hbw6
              go_wp2_with fail
              try go_step3
              change 0 = 0 ∧ _ ∧ _
              refine ⟨rfl, ⟨_, none, some q, kidL lx (j : Nat), kidL ly (j : Nat), 0, ws ++ [j], _, _, _, _, _, _, _, _, _, _, _, _, _, _, _, _, _, _, _, _, _, _, _, _, _, _, _, _, _, _, _, _, _, _, _, _, _, _, _, _, _, _, _, _, _, _, _, _, _, _, _, _, _, _, _, _, _, _, _, _, _, _, _, _, _, _, _, _, _, _, _, _, _, _, _, _, _, _, _, _, _, _, _, _, _, _, _, _, _, rfl, HN.out⟩, ?_⟩
              have hmu := pa_mu2 HXY.out.1 H0.out.bel HB6.out HK.out.1 (kidL_lev (RtN.tn H0.out.x) _ HEV1.out) H0.out.t16
              simp only [pv_none, pv_some] at hmu
              exact hmu
        · have HX := Lib.hid (And.intro hti (And.intro hi (And.intro hp hnx)))
          clear hti hi hp hnx
          go_wp2_with fail
          refine (HFY.out _ (by repeat (first | exact HW2.out | (refine Below.drew ?_) | (refine below_drewN' ?_ _) | (refine below_alloc' ?_ _) | (refine Below.setCell ?_ (by first | exact Nat.le_refl _ | (have := HW2.out.size; simp; omega) | (have := HW2.out.size; omega)) _)))).mono ?_
          rintro e w3 ⟨hb3, hy⟩
          have HW3 := Lib.hid (HW2.out.trans (hb3.mono HW2.out.size))
          have HP3 := Lib.hid (HP2.out.trans (hb3.mono HP2.out.size))
          clear hb3
          rcases hy with ⟨rfl, hny⟩ | ⟨j, q, rfl, htj, hj, hq, hny⟩
          · have HNY := Lib.hid hny
            clear hny
            have HK := Lib.hid (show RtN w k (some p) (kidL lx (i : Nat)) ∧ RtN w k (none) (kidL ly (i : Nat)) from ⟨HX.out.2.2.1, HNY.out i HX.out.1⟩)
            have HEM := Lib.hid (show ∀ z : Nat, t ≤ z → z < i → kidL lx (z : Nat) = [] ∧ kidL ly (z : Nat) = [] from fun z h1 h2 => ⟨HX.out.2.2.2 z h1 h2, HNY.out z h1⟩)
            have HCE := Lib.hid (show t ≤ i ∧ i < 2 ^ k ∧ i < 65536 from ⟨(And.intro HX.out.1 HX.out.2.1).1, (And.intro HX.out.1 HX.out.2.1).2, by have h1 := (And.intro HX.out.1 HX.out.2.1).2; have h2 := pow_le k H0.out.k16; omega⟩)
            have HW := Lib.hid (show wrap64 ((i : Int) + 1) = ((i + 1 : Nat) : Int) by have := HCE.out.2.2; unfold wrap64; omega)
            have HNP := Lib.hid (fun W (hb : Below w3.heap.size w3 W) => dnode_any W k (some p) _ (HK.out.1.below (HW3.out.trans (hb.mono HW3.out.size))) H0.out.k1 H0.out.k16)
            have HNQ := Lib.hid (fun W (hb : Below w3.heap.size w3 W) => dnode_any W k (none) _ (HK.out.2.below (HW3.out.trans (hb.mono HW3.out.size))) H0.out.k1 H0.out.k16)
            simp only [pv_none, pv_some] at HNP HNQ
            obtain ⟨dp, hdp⟩ : ∃ d, digL (kidL lx (i : Nat)) = d := ⟨_, rfl⟩
            obtain ⟨dq, hdq⟩ : ∃ d, digL (kidL ly (i : Nat)) = d := ⟨_, rfl⟩
            rw [hdp] at HNP
            rw [hdq] at HNQ
            have HDD := Lib.hid (And.intro hdp hdq)
            clear hdp hdq
            go_wp2_with fail
            refine (HNP.out _ (Below.refl _ _)).mono ?_
            rintro e w4 ⟨rfl, hb4⟩
            have HB4 := Lib.hid (show Below w3.heap.size w3 w4 from hb4)
            clear hb4
            go_wp2_with fail
            refine (HNQ.out _ HB4.out).mono ?_
            rintro e w5 ⟨rfl, hb5⟩
            have HB5 := Lib.hid (HB4.out.trans (hb5.mono HB4.out.size))
            have HW5 := Lib.hid (HW3.out.trans (HB5.out.mono HW3.out.size))
            have HP5 := Lib.hid (HP3.out.trans (HB5.out.mono HP3.out.size))
            clear hb5
            by_cases hde : dp = dq
            · have hde1 : (dp == dq) = true := by simpa using hde
              have HDE := Lib.hid hde
              clear hde
              go_wp2_with fail
              go_step3
              (try rw [HW.out])
              have hN := paI_next H0.out HP5.out HCE.out.1 HCE.out.2.2 HEM.out (by rw [HDD.out.1, HDD.out.2]; exact HDE.out)
              refine ⟨rfl, ⟨_, some bx, some bY, lx, ly, i + 1, ws, _, _, _, _, _, _, _, _, _, _, _, _, _, _, _, _, _, _, _, _, _, _, _, _, _, _, _, _, _, _, _, _, _, _, _, _, _, _, _, _, _, _, _, _, _, _, _, _, _, _, _, _, _, _, _, _, _, _, _, _, _, _, _, _, _, _, _, _, _, _, _, _, _, _, _, _, _, _, _, _, _, _, _, _, _, _, _, _, _, rfl, hN⟩, ?_⟩
              exact pa_mu1 HXY.out.1 H0.out.bel HW5.out HCE.out.1 HCE.out.2.2
            · have hde1 : (dp == dq) = false := by simpa using hde
              have HDE := Lib.hid hde
              clear hde
              go_wp2_with (at_builtin; refine wpList_append_V rfl (.tmp 92) (.tmp 94) rfl w (ws.map fun (x : Nat) => Value.int .i64 (x : Nat)) (.int .i64 (i : Nat)) intsT ?_ ?_ ?_ ?_ ?_)
              · exact H0.out.own.below (below_trans HP5.out (by repeat (first | exact Below.refl _ _ | (refine Below.drew ?_) | (refine below_drewN' ?_ _) | (refine below_alloc' ?_ _) | (refine Below.setCell ?_ (by first | exact Nat.le_refl _ | (simp; done) | (simp; omega)) _))))
              · exact ⟨_, _, rfl, by simp [go_sem], rfl⟩
              · have := HW5.out.size; simp; omega
              · rw [List.length_map]; have := H0.out.len; omega
              intro ov' w6 hown' hg
              have hb0 : Below w'.heap.size w' (w5.alloc (.cells #[.int .i64 (i : Nat)] 3)) := below_alloc' HP5.out _
              have hbw6 : Below w.heap.size w w6 := OwnV.grown (H0.out.own.below hb0) (H0.out.bel.trans (hb0.mono H0.out.bel.size)) hg
              have HN := Lib.hid (paI_down H0.out HEV.out hbw6 (by
                have := hown'
                rw [List.map_append]
                exact this) HCE.out.1 HCE.out.2.1 HEM.out (by rw [HDD.out.1, HDD.out.2]; exact HDE.out) HK.out.1 HK.out.2)
              have HB6 := Lib.hid hbw6
              obtain ⟨A6, c6, rfl⟩ := OwnV.shape hown'
              clear hown' hg hb0 hbw6
              go_wp2_with fail
              try go_step3
              change 0 = 0 ∧ _ ∧ _
              refine ⟨rfl, ⟨_, some p, none, kidL lx (i : Nat), kidL ly (i : Nat), 0, ws ++ [i], _, _, _, _, _, _, _, _, _, _, _, _, _, _, _, _, _, _, _, _, _, _, _, _, _, _, _, _, _, _, _, _, _, _, _, _, _, _, _, _, _, _, _, _, _, _, _, _, _, _, _, _, _, _, _, _, _, _, _, _, _, _, _, _, _, _, _, _, _, _, _, _, _, _, _, _, _, _, _, _, _, _, _, _, _, _, _, _, _, rfl, HN.out⟩, ?_⟩
              have hmu := pa_mu2 HXY.out.1 H0.out.bel HB6.out HK.out.1 (kidL_lev (RtN.tn H0.out.x) _ HEV1.out) H0.out.t16
              simp only [pv_none, pv_some] at hmu
              exact hmu
          · have HY := Lib.hid (And.intro htj (And.intro hj (And.intro hq hny)))
            clear htj hj hq hny
            rcases Nat.lt_trichotomy i j with hij | hij | hij
            · have hij1 : (i : Int) < (j : Int) := by omega
              have HIJ := Lib.hid hij
              clear hij
              have HK := Lib.hid (show RtN w k (some p) (kidL lx (i : Nat)) ∧ RtN w k (none) (kidL ly (i : Nat)) from ⟨HX.out.2.2.1, HY.out.2.2.2 i HX.out.1 HIJ.out⟩)
              have HEM := Lib.hid (show ∀ z : Nat, t ≤ z → z < i → kidL lx (z : Nat) = [] ∧ kidL ly (z : Nat) = [] from fun z h1 h2 => ⟨HX.out.2.2.2 z h1 h2, HY.out.2.2.2 z h1 (Nat.lt_trans h2 HIJ.out)⟩)
              have HCE := Lib.hid (show t ≤ i ∧ i < 2 ^ k ∧ i < 65536 from ⟨(And.intro HX.out.1 HX.out.2.1).1, (And.intro HX.out.1 HX.out.2.1).2, by have h1 := (And.intro HX.out.1 HX.out.2.1).2; have h2 := pow_le k H0.out.k16; omega⟩)
              have HW := Lib.hid (show wrap64 ((i : Int) + 1) = ((i + 1 : Nat) : Int) by have := HCE.out.2.2; unfold wrap64; omega)
              have HNP := Lib.hid (fun W (hb : Below w3.heap.size w3 W) => dnode_any W k (some p) _ (HK.out.1.below (HW3.out.trans (hb.mono HW3.out.size))) H0.out.k1 H0.out.k16)
              have HNQ := Lib.hid (fun W (hb : Below w3.heap.size w3 W) => dnode_any W k (none) _ (HK.out.2.below (HW3.out.trans (hb.mono HW3.out.size))) H0.out.k1 H0.out.k16)
              simp only [pv_none, pv_some] at HNP HNQ
              obtain ⟨dp, hdp⟩ : ∃ d, digL (kidL lx (i : Nat)) = d := ⟨_, rfl⟩
              obtain ⟨dq, hdq⟩ : ∃ d, digL (kidL ly (i : Nat)) = d := ⟨_, rfl⟩
              rw [hdp] at HNP
              rw [hdq] at HNQ
              have HDD := Lib.hid (And.intro hdp hdq)
              clear hdp hdq
              go_wp2_with fail
              refine (HNP.out _ (Below.refl _ _)).mono ?_
              rintro e w4 ⟨rfl, hb4⟩
              have HB4 := Lib.hid (show Below w3.heap.size w3 w4 from hb4)
              clear hb4
              go_wp2_with fail
              refine (HNQ.out _ HB4.out).mono ?_
              rintro e w5 ⟨rfl, hb5⟩
              have HB5 := Lib.hid (HB4.out.trans (hb5.mono HB4.out.size))
              have HW5 := Lib.hid (HW3.out.trans (HB5.out.mono HW3.out.size))
              have HP5 := Lib.hid (HP3.out.trans (HB5.out.mono HP3.out.size))
              clear hb5
              by_cases hde : dp = dq
              · have hde1 : (dp == dq) = true := by simpa using hde
                have HDE := Lib.hid hde
                clear hde
                go_wp2_with fail
                go_step3
                (try rw [HW.out])
                have hN := paI_next H0.out HP5.out HCE.out.1 HCE.out.2.2 HEM.out (by rw [HDD.out.1, HDD.out.2]; exact HDE.out)
                refine ⟨rfl, ⟨_, some bx, some bY, lx, ly, i + 1, ws, _, _, _, _, _, _, _, _, _, _, _, _, _, _, _, _, _, _, _, _, _, _, _, _, _, _, _, _, _, _, _, _, _, _, _, _, _, _, _, _, _, _, _, _, _, _, _, _, _, _, _, _, _, _, _, _, _, _, _, _, _, _, _, _, _, _, _, _, _, _, _, _, _, _, _, _, _, _, _, _, _, _, _, _, _, _, _, _, _, rfl, hN⟩, ?_⟩
                exact pa_mu1 HXY.out.1 H0.out.bel HW5.out HCE.out.1 HCE.out.2.2
              · have hde1 : (dp == dq) = false := by simpa using hde
                have HDE := Lib.hid hde
                clear hde
                go_wp2_with (at_builtin; refine wpList_append_V rfl (.tmp 92) (.tmp 94) rfl w (ws.map fun (x : Nat) => Value.int .i64 (x : Nat)) (.int .i64 (i : Nat)) intsT ?_ ?_ ?_ ?_ ?_)
                · exact H0.out.own.below (below_trans HP5.out (by repeat (first | exact Below.refl _ _ | (refine Below.drew ?_) | (refine below_drewN' ?_ _) | (refine below_alloc' ?_ _) | (refine Below.setCell ?_ (by first | exact Nat.le_refl _ | (simp; done) | (simp; omega)) _))))
                · exact ⟨_, _, rfl, by simp [go_sem], rfl⟩
                · have := HW5.out.size; simp; omega
                · rw [List.length_map]; have := H0.out.len; omega
                intro ov' w6 hown' hg
                have hb0 : Below w'.heap.size w' (w5.alloc (.cells #[.int .i64 (i : Nat)] 3)) := below_alloc' HP5.out _
                have hbw6 : Below w.heap.size w w6 := OwnV.grown (H0.out.own.below hb0) (H0.out.bel.trans (hb0.mono H0.out.bel.size)) hg
                have HN := Lib.hid (paI_down H0.out HEV.out hbw6 (by
                  have := hown'
                  rw [List.map_append]
                  exact this) HCE.out.1 HCE.out.2.1 HEM.out (by rw [HDD.out.1, HDD.out.2]; exact HDE.out) HK.out.1 HK.out.2)
                have HB6 := Lib.hid hbw6
                obtain ⟨A6, c6, rfl⟩ := OwnV.shape hown'
                clear hown' hg hb0 hbw6
                go_wp2_with fail
                try go_step3
                change 0 = 0 ∧ _ ∧ _
                refine ⟨rfl, ⟨_, some p, none, kidL lx (i : Nat), kidL ly (i : Nat), 0, ws ++ [i], _, _, _, _, _, _, _, _, _, _, _, _, _, _, _, _, _, _, _, _, _, _, _, _, _, _, _, _, _, _, _, _, _, _, _, _, _, _, _, _, _, _, _, _, _, _, _, _, _, _, _, _, _, _, _, _, _, _, _, _, _, _, _, _, _, _, _, _, _, _, _, _, _, _, _, _, _, _, _, _, _, _, _, _, _, _, _, _, _, rfl, HN.out⟩, ?_⟩
                have hmu := pa_mu2 HXY.out.1 H0.out.bel HB6.out HK.out.1 (kidL_lev (RtN.tn H0.out.x) _ HEV1.out) H0.out.t16
                simp only [pv_none, pv_some] at hmu
                exact hmu
            · subst hij
              have HK := Lib.hid (show RtN w k (some p) (kidL lx (i : Nat)) ∧ RtN w k (some q) (kidL ly (i : Nat)) from ⟨HX.out.2.2.1, HY.out.2.2.1⟩)
              have HEM := Lib.hid (show ∀ z : Nat, t ≤ z → z < i → kidL lx (z : Nat) = [] ∧ kidL ly (z : Nat) = [] from fun z h1 h2 => ⟨HX.out.2.2.2 z h1 h2, HY.out.2.2.2 z h1 h2⟩)
              have HCE := Lib.hid (show t ≤ i ∧ i < 2 ^ k ∧ i < 65536 from ⟨(And.intro HX.out.1 HX.out.2.1).1, (And.intro HX.out.1 HX.out.2.1).2, by have h1 := (And.intro HX.out.1 HX.out.2.1).2; have h2 := pow_le k H0.out.k16; omega⟩)
              have HW := Lib.hid (show wrap64 ((i : Int) + 1) = ((i + 1 : Nat) : Int) by have := HCE.out.2.2; unfold wrap64; omega)
              have HNP := Lib.hid (fun W (hb : Below w3.heap.size w3 W) => dnode_any W k (some p) _ (HK.out.1.below (HW3.out.trans (hb.mono HW3.out.size))) H0.out.k1 H0.out.k16)
              have HNQ := Lib.hid (fun W (hb : Below w3.heap.size w3 W) => dnode_any W k (some q) _ (HK.out.2.below (HW3.out.trans (hb.mono HW3.out.size))) H0.out.k1 H0.out.k16)
              simp only [pv_none, pv_some] at HNP HNQ
              obtain ⟨dp, hdp⟩ : ∃ d, digL (kidL lx (i : Nat)) = d := ⟨_, rfl⟩
              obtain ⟨dq, hdq⟩ : ∃ d, digL (kidL ly (i : Nat)) = d := ⟨_, rfl⟩
              rw [hdp] at HNP
              rw [hdq] at HNQ
              have HDD := Lib.hid (And.intro hdp hdq)
              clear hdp hdq
              go_wp2_with fail
              refine (HNP.out _ (Below.refl _ _)).mono ?_
              rintro e w4 ⟨rfl, hb4⟩
              have HB4 := Lib.hid (show Below w3.heap.size w3 w4 from hb4)
              clear hb4
              go_wp2_with fail
              refine (HNQ.out _ HB4.out).mono ?_
              rintro e w5 ⟨rfl, hb5⟩
              have HB5 := Lib.hid (HB4.out.trans (hb5.mono HB4.out.size))
              have HW5 := Lib.hid (HW3.out.trans (HB5.out.mono HW3.out.size))
              have HP5 := Lib.hid (HP3.out.trans (HB5.out.mono HP3.out.size))
              clear hb5
              by_cases hde : dp = dq
              · have hde1 : (dp == dq) = true := by simpa using hde
                have HDE := Lib.hid hde
                clear hde
                go_wp2_with fail
                go_step3
                (try rw [HW.out])
                have hN := paI_next H0.out HP5.out HCE.out.1 HCE.out.2.2 HEM.out (by rw [HDD.out.1, HDD.out.2]; exact HDE.out)
                refine ⟨rfl, ⟨_, some bx, some bY, lx, ly, i + 1, ws, _, _, _, _, _, _, _, _, _, _, _, _, _, _, _, _, _, _, _, _, _, _, _, _, _, _, _, _, _, _, _, _, _, _, _, _, _, _, _, _, _, _, _, _, _, _, _, _, _, _, _, _, _, _, _, _, _, _, _, _, _, _, _, _, _, _, _, _, _, _, _, _, _, _, _, _, _, _, _, _, _, _, _, _, _, _, _, _, _, rfl, hN⟩, ?_⟩
                exact pa_mu1 HXY.out.1 H0.out.bel HW5.out HCE.out.1 HCE.out.2.2
              · have hde1 : (dp == dq) = false := by simpa using hde
                have HDE := Lib.hid hde
                clear hde
                go_wp2_with (at_builtin; refine wpList_append_V rfl (.tmp 92) (.tmp 94) rfl w (ws.map fun (x : Nat) => Value.int .i64 (x : Nat)) (.int .i64 (i : Nat)) intsT ?_ ?_ ?_ ?_ ?_)
                · exact H0.out.own.below (below_trans HP5.out (by repeat (first | exact Below.refl _ _ | (refine Below.drew ?_) | (refine below_drewN' ?_ _) | (refine below_alloc' ?_ _) | (refine Below.setCell ?_ (by first | exact Nat.le_refl _ | (simp; done) | (simp; omega)) _))))
                · exact ⟨_, _, rfl, by simp [go_sem], rfl⟩
                · have := HW5.out.size; simp; omega
                · rw [List.length_map]; have := H0.out.len; omega
                intro ov' w6 hown' hg
                have hb0 : Below w'.heap.size w' (w5.alloc (.cells #[.int .i64 (i : Nat)] 3)) := below_alloc' HP5.out _
                have hbw6 : Below w.heap.size w w6 := OwnV.grown (H0.out.own.below hb0) (H0.out.bel.trans (hb0.mono H0.out.bel.size)) hg
                have HN := Lib.hid (paI_down H0.out HEV.out hbw6 (by
                  have := hown'
                  rw [List.map_append]
                  exact this) HCE.out.1 HCE.out.2.1 HEM.out (by rw [HDD.out.1, HDD.out.2]; exact HDE.out) HK.out.1 HK.out.2)
                have HB6 := Lib.hid hbw6
                obtain ⟨A6, c6, rfl⟩ := OwnV.shape hown'
                clear hown' hg hb0 hbw6
                go_wp2_with fail
                try go_step3
                change 0 = 0 ∧ _ ∧ _
                refine ⟨rfl, ⟨_, some p, some q, kidL lx (i : Nat), kidL ly (i : Nat), 0, ws ++ [i], _, _, _, _, _, _, _, _, _, _, _, _, _, _, _, _, _, _, _, _, _, _, _, _, _, _, _, _, _, _, _, _, _, _, _, _, _, _, _, _, _, _, _, _, _, _, _, _, _, _, _, _, _, _, _, _, _, _, _, _, _, _, _, _, _, _, _, _, _, _, _, _, _, _, _, _, _, _, _, _, _, _, _, _, _, _, _, _, _, rfl, HN.out⟩, ?_⟩
                have hmu := pa_mu2 HXY.out.1 H0.out.bel HB6.out HK.out.1 (kidL_lev (RtN.tn H0.out.x) _ HEV1.out) H0.out.t16
                simp only [pv_none, pv_some] at hmu
                exact hmu
            · have hij1 : (j : Int) < (i : Int) := by omega
              have hij2 : ¬ (i : Int) < (j : Int) := by omega
              have HIJ := Lib.hid hij
              clear hij
              have HK := Lib.hid (show RtN w k (none) (kidL lx (j : Nat)) ∧ RtN w k (some q) (kidL ly (j : Nat)) from ⟨HX.out.2.2.2 j HY.out.1 HIJ.out, HY.out.2.2.1⟩)
              have HEM := Lib.hid (show ∀ z : Nat, t ≤ z → z < j → kidL lx (z : Nat) = [] ∧ kidL ly (z : Nat) = [] from fun z h1 h2 => ⟨HX.out.2.2.2 z h1 (Nat.lt_trans h2 HIJ.out), HY.out.2.2.2 z h1 h2⟩)
              have HCE := Lib.hid (show t ≤ j ∧ j < 2 ^ k ∧ j < 65536 from ⟨(And.intro HY.out.1 HY.out.2.1).1, (And.intro HY.out.1 HY.out.2.1).2, by have h1 := (And.intro HY.out.1 HY.out.2.1).2; have h2 := pow_le k H0.out.k16; omega⟩)
              have HW := Lib.hid (show wrap64 ((j : Int) + 1) = ((j + 1 : Nat) : Int) by have := HCE.out.2.2; unfold wrap64; omega)
              have HNP := Lib.hid (fun W (hb : Below w3.heap.size w3 W) => dnode_any W k (none) _ (HK.out.1.below (HW3.out.trans (hb.mono HW3.out.size))) H0.out.k1 H0.out.k16)
              have HNQ := Lib.hid (fun W (hb : Below w3.heap.size w3 W) => dnode_any W k (some q) _ (HK.out.2.below (HW3.out.trans (hb.mono HW3.out.size))) H0.out.k1 H0.out.k16)
              simp only [pv_none, pv_some] at HNP HNQ
              obtain ⟨dp, hdp⟩ : ∃ d, digL (kidL lx (j : Nat)) = d := ⟨_, rfl⟩
              obtain ⟨dq, hdq⟩ : ∃ d, digL (kidL ly (j : Nat)) = d := ⟨_, rfl⟩
              rw [hdp] at HNP
              rw [hdq] at HNQ
              have HDD := Lib.hid (And.intro hdp hdq)
              clear hdp hdq
              go_wp2_with fail
              refine (HNP.out _ (Below.refl _ _)).mono ?_
              rintro e w4 ⟨rfl, hb4⟩
              have HB4 := Lib.hid (show Below w3.heap.size w3 w4 from hb4)
              clear hb4
              go_wp2_with fail
              refine (HNQ.out _ HB4.out).mono ?_
              rintro e w5 ⟨rfl, hb5⟩
              have HB5 := Lib.hid (HB4.out.trans (hb5.mono HB4.out.size))
              have HW5 := Lib.hid (HW3.out.trans (HB5.out.mono HW3.out.size))
              have HP5 := Lib.hid (HP3.out.trans (HB5.out.mono HP3.out.size))
              clear hb5
              by_cases hde : dp = dq
              · have hde1 : (dp == dq) = true := by simpa using hde
                have HDE := Lib.hid hde
                clear hde
                go_wp2_with fail
                go_step3
                (try rw [HW.out])
                have hN := paI_next H0.out HP5.out HCE.out.1 HCE.out.2.2 HEM.out (by rw [HDD.out.1, HDD.out.2]; exact HDE.out)
                refine ⟨rfl, ⟨_, some bx, some bY, lx, ly, j + 1, ws, _, _, _, _, _, _, _, _, _, _, _, _, _, _, _, _, _, _, _, _, _, _, _, _, _, _, _, _, _, _, _, _, _, _, _, _, _, _, _, _, _, _, _, _, _, _, _, _, _, _, _, _, _, _, _, _, _, _, _, _, _, _, _, _, _, _, _, _, _, _, _, _, _, _, _, _, _, _, _, _, _, _, _, _, _, _, _, _, _, rfl, hN⟩, ?_⟩
                exact pa_mu1 HXY.out.1 H0.out.bel HW5.out HCE.out.1 HCE.out.2.2
              · have hde1 : (dp == dq) = false := by simpa using hde
                have HDE := Lib.hid hde
                clear hde
                go_wp2_with (at_builtin; refine wpList_append_V rfl (.tmp 92) (.tmp 94) rfl w (ws.map fun (x : Nat) => Value.int .i64 (x : Nat)) (.int .i64 (j : Nat)) intsT ?_ ?_ ?_ ?_ ?_)
                · exact H0.out.own.below (below_trans HP5.out (by repeat (first | exact Below.refl _ _ | (refine Below.drew ?_) | (refine below_drewN' ?_ _) | (refine below_alloc' ?_ _) | (refine Below.setCell ?_ (by first | exact Nat.le_refl _ | (simp; done) | (simp; omega)) _))))
                · exact ⟨_, _, rfl, by simp [go_sem], rfl⟩
                · have := HW5.out.size; simp; omega
                · rw [List.length_map]; have := H0.out.len; omega
                intro ov' w6 hown' hg
                have hb0 : Below w'.heap.size w' (w5.alloc (.cells #[.int .i64 (j : Nat)] 3)) := below_alloc' HP5.out _
                have hbw6 : Below w.heap.size w w6 := OwnV.grown (H0.out.own.below hb0) (H0.out.bel.trans (hb0.mono H0.out.bel.size)) hg
                have HN := Lib.hid (paI_down H0.out HEV.out hbw6 (by
                  have := hown'
                  rw [List.map_append]
                  exact this) HCE.out.1 HCE.out.2.1 HEM.out (by rw [HDD.out.1, HDD.out.2]; exact HDE.out) HK.out.1 HK.out.2)
                have HB6 := Lib.hid hbw6
                obtain ⟨A6, c6, rfl⟩ := OwnV.shape hown'
                clear hown' hg hb0 hbw6
                go_wp2_with fail
                try go_step3
                change 0 = 0 ∧ _ ∧ _
                refine ⟨rfl, ⟨_, none, some q, kidL lx (j : Nat), kidL ly (j : Nat), 0, ws ++ [j], _, _, _, _, _, _, _, _, _, _, _, _, _, _, _, _, _, _, _, _, _, _, _, _, _, _, _, _, _, _, _, _, _, _, _, _, _, _, _, _, _, _, _, _, _, _, _, _, _, _, _, _, _, _, _, _, _, _, _, _, _, _, _, _, _, _, _, _, _, _, _, _, _, _, _, _, _, _, _, _, _, _, _, _, _, _, _, _, _, rfl, HN.out⟩, ?_⟩
                have hmu := pa_mu2 HXY.out.1 H0.out.bel HB6.out HK.out.1 (kidL_lev (RtN.tn H0.out.x) _ HEV1.out) H0.out.t16
                simp only [pv_none, pv_some] at hmu
                exact hmu
    · intro Q' hQ' hR
      have HQ' := Lib.hid hQ'
      clear hQ' hR
      go_wp2_with fail
      refine (HKA.out _ (Below.refl _ _)).mono ?_
      rintro e w1 ⟨rfl, hw⟩
      obtain rfl := hw.symm
      clear hw
      go_wp2_with fail
      refine (HKB.out _ (Below.refl _ _)).mono ?_
      rintro e w1 ⟨rfl, hw⟩
      obtain rfl := hw.symm
      clear hw
      go_wp2_with fail
      refine (HRA.out _ (Below.refl _ _)).mono ?_
      rintro e w1 ⟨rfl, hw⟩
      obtain rfl := hw.symm
      clear hw
      go_wp2_with fail
      refine (HRB.out _ (Below.refl _ _)).mono ?_
      rintro e w1 ⟨rfl, hw⟩
      obtain rfl := hw.symm
      clear hw
      go_wp2_with fail
      refine (HNA.out _ (Below.refl _ _)).mono ?_
      rintro e w1 ⟨rfl, hb1⟩
      have HZ1 := Lib.hid hb1
      clear hb1
      go_wp2_with fail
      refine (HNB.out _ HZ1.out).mono ?_
      rintro e w2 ⟨rfl, hb2⟩
      have HZ2 := Lib.hid (HZ1.out.trans (hb2.mono HZ1.out.size))
      clear hb2
      go_wp2_with fail
      go_step3
      simp only [Exit.then]
      rename_i hK
      refine hK _ _ ?_
      refine HQ'.out _ _ ?_
      rw [← HQQ.out.1, ← HQQ.out.2]
      exact ⟨_, ra, rb, la, lb, 0, [], _, _, _, _, _, _, _, _, _, _, _, _, _, _, _, _, _, _, _, _, _, _, _, _, _, _, _, _, _, _, _, _, _, _, _, _, _, _, _, _, _, _, _, _, _, _, _, _, _, _, _, _, _, _, _, _, _, _, _, _, _, _, _, _, _, _, _, _, _, _, _, _, _, _, _, _, _, _, _, _, _, _, _, _, _, _, _, _, _, rfl, OwnV.lit' HZ2.out, HAB.out.1, HAB.out.2.1, (fun c hc => absurd hc (Nat.not_lt_zero _)), (fun ps h => h), Nat.zero_le _, (by have := lev_le la; simp; omega), below_alloc' HZ2.out _, HAB.out.2.2.1, HAB.out.2.2.2⟩
end Go.Proofs.Ytjokcagggmjgmaa
/-! DigH -/
namespace Go.Proofs.Ytjokcagggmjgmaa
open Go.RowKit
set_option linter.unusedVariables false
set_option linter.unusedSimpArgs false
set_option maxRecDepth 100000

def intV (l : List Nat) : List Value := l.map fun (x : Nat) => Value.int .i64 (x : Nat)
theorem src_ints {W w : World} {v : Value} {l : List Nat} (h : OwnV 3 W w v (intV l)) : Src w 1 l.length v (intV l) := by
  have hl : (intV l).length = l.length := by unfold intV; rw [List.length_map]
  obtain ⟨A, c, rfl, hx⟩ := h.rd
  refine ⟨by rw [hl, Nat.mul_one], fun u hu => ?_, A, c, by rw [hl], fun hA => ?_, fun ad had j u hj => ?_⟩
  · unfold intV at hu
    obtain ⟨x, _, rfl⟩ := List.mem_map.1 hu
    rfl
  · subst hA
    obtain ⟨_, h2⟩ := h
    rcases h2 with ⟨e, h0⟩ | ⟨g, cap, cur, e, _⟩
    · injection e with e1 e2 e3
      rw [hl] at e2
      exact ⟨e2, e3⟩
    · injection e with e1; cases e1
  · obtain ⟨hj1, hj2⟩ := List.getElem?_eq_some_iff.1 hj
    obtain ⟨b, o, e1, hc⟩ := hx (by omega)
    rw [had] at e1
    injection e1 with e1
    subst e1
    have := hc j hj1
    rw [hj2] at this
    rw [show (⟨b, o, none⟩ : Addr).add j = ⟨b, o + j, none⟩ by
      unfold Addr.add; split
      · rename_i h; subst h; rfl
      · rfl]
    exact this
theorem wpList_append_Is {w : World} {ops : Array Oper} {rest : List Oper} {o : Oper} {a : Act} {Q : Exit → Act → World → Prop} (hgd : o.guard = none) (s x : Operand)
    (ho : o.op = .call { callee := .builtin .append, args := #[s, x], argTypes := #[32, 32] }) (W : World) (l ys : List Nat)
    (hown : OwnV 3 W w (a.eval s) (intV l)) (hx : Src w 1 ys.length (a.eval x) (intV ys)) (hb : W.heap.size ≤ w.heap.size) (hlen : l.length + ys.length ≤ 100000)
    (h : ∀ v' w', OwnV 3 W w' v' (intV (l ++ ys)) → w.grownBy w' (a.eval s).ownBlock → wpList Try.prog ops Q rest (a.put o.dst v') w') : wpList Try.prog ops Q (o :: rest) a w := by
  refine wpList_plain hgd fun K hK => ?_
  have hll : (intV l).length = l.length := by unfold intV; rw [List.length_map]
  obtain ⟨v', w', hrun, r1, r2⟩ := run_append_src (P := Try.prog) w W.heap.size 32 o.type 3 _ 1 8 intsT.und intsT.info intsT.one (by omega) (a.eval s) (intV l).length (intV l) hown (a.eval x) ys.length (intV ys) hx (by simp only [maxLen]; omega) (by omega) hb
  unfold Oper.wp
  simp [execOp, ho, resolve, invoke, builtin, hrun, Result.andThen]
  refine hK _ _ (h v' w' ?_ r2)
  unfold OwnV
  have e1 : intV (l ++ ys) = intV l ++ intV ys := by unfold intV; rw [List.map_append]
  have e2 : (intV ys).length = ys.length := by unfold intV; rw [List.length_map]
  rw [e1, List.length_append, e2]
  exact r1
theorem rShape_u {k : Nat} {l : List En} (h : Tn k l) (w : World) (v : Value) (hv : RdE w v l) (he : EtS k l) :
    Calls Try.prog 36 #[v] w fun e w' => ∃ (Au : Option Addr) (cu : Nat) (Ap : Option Addr) (np cp : Nat) (dn : Bool) (vv : Int), e = .returned (.agg #[.int .i64 ((lev l : Int) - 1), .slice Au (preL l).length cu, .slice Ap np cp, .bool dn, .int .u64 vv]) ∧
      RdU w' (.slice Au (preL l).length cu) (pti (preL l)) ∧ Below w.heap.size w w' := by
  refine (rShape_nd h w w v hv (Below.refl _ _) he).mono ?_
  rintro e w1 ⟨x, rfl, hx1, hb1⟩
  obtain ⟨u, plv, rfl, hu, hplv⟩ := hx1.rd hb1
  rw [h.sh_pre] at hu
  obtain ⟨Au, cu, rfl, _⟩ := RdU.point hu
  obtain ⟨Ap, cp, rfl, _⟩ := hplv
  exact ⟨Au, cu, Ap, _, cp, _, _, by rw [h.sh_lv], hu, hb1⟩
/-- what ref18.Part hands back -/
def RPartP (W : World) (k : Nat) (la lb : List En) (e : Ending) (w' : World) : Prop := ∃ v ws, e = .returned v ∧ OwnV 3 W w' v (intV ws) ∧ PartR k la lb ws ∧ ws.length ≤ lev la ∧ Below W.heap.size W w'
theorem rpart_short (w : World) (k : Nat) (la lb : List En) (va vb : Value) (hva : RdE w va la) (hvb : RdE w vb lb) (hta : la = [] ∨ Tn k la) (htb : lb = [] ∨ Tn k lb) (h : la.length < 2 ∨ lb.length < 2) :
    Calls Try.prog 14 #[va, vb] w fun e w' => RPartP w k la lb e w' := by
  have hev : evB la lb = false := by
    unfold evB
    have h1 := tn_lev hta
    have h2 := tn_lev htb
    by_cases h3 : 1 ≤ lev la
    · have : ¬ lev la = lev lb := by omega
      rw [decide_eq_false this]; simp
    · rw [decide_eq_false h3]; rfl
  have HPR := Lib.hid (PartR.stop (k := k) la lb hev)
  obtain ⟨A, c, rfl, _, _⟩ := hva
  obtain ⟨B, d, rfl, _, _⟩ := hvb
  by_cases hl : la.length < 2
  · have hl1 : (la.length : Int) < 2 := by omega
    clear hev hta htb h hl
    go_enter Try.func14, Try.ntmps14
    go_wp2_with fail
    go_ret
    exact ⟨_, [], rfl, OwnV.lit (Nat.le_refl _) rfl, HPR.out, by simp, (by repeat (first | exact Below.refl _ _ | (refine Below.drew ?_) | (refine below_drewN' ?_ _) | (refine below_alloc' ?_ _) | (refine Below.setCell ?_ (by first | exact Nat.le_refl _ | (simp; done) | (simp; omega)) _)))⟩
  · have hl1 : ¬ (la.length : Int) < 2 := by omega
    have hl2 : (lb.length : Int) < 2 := by omega
    clear hev hta htb h hl
    go_enter Try.func14, Try.ntmps14
    go_wp2_with fail
    go_ret
    exact ⟨_, [], rfl, OwnV.lit (Nat.le_refl _) rfl, HPR.out, by simp, (by repeat (first | exact Below.refl _ _ | (refine Below.drew ?_) | (refine below_drewN' ?_ _) | (refine below_alloc' ?_ _) | (refine Below.setCell ?_ (by first | exact Nat.le_refl _ | (simp; done) | (simp; omega)) _)))⟩
theorem preL_len' {k : Nat} {l : List En} (h : Tn k l) : (preL l).length = k := by
  cases h with
  | one e h => rw [preL_one]; exact h
  | node n pre ks hk hn => rw [hk.preL]; exact hk.preLen.1
theorem rnode_l (w : World) (k : Nat) (l : List En) (v : Value) (h : l = [] ∨ Tn k l) (k16 : k ≤ 16) (hv : RdE w v l) (he : EtS k l) : Calls Try.prog 12 #[v] w fun e w' => e = .returned (.int .u64 (digL l)) ∧ Below w.heap.size w w' := by
  rcases h with rfl | h
  · exact rnode_nil w v hv
  · exact rnode_tn h k16 w v hv he
theorem ev_bad {a b : List En} (h : ¬ (lev a = lev b ∧ preL a = preL b)) : evB a b = false := by
  unfold evB
  by_cases h1 : lev a = lev b
  · have h2 : ¬ preL a = preL b := fun e => h ⟨h1, e⟩
    rw [decide_eq_false h2]; simp
  · rw [decide_eq_false h1]; simp
set_option maxHeartbeats 8000000 in
theorem rpart_n (n : Nat) (k : Nat) (k1 : 1 ≤ k) (k7 : k ≤ 7) : ∀ (w : World) (la lb : List En) (va vb : Value), lev la ≤ n → RdE w va la → RdE w vb lb → EtS k la → EtS k lb → (la = [] ∨ Tn k la) → (lb = [] ∨ Tn k lb) →
    Calls Try.prog 14 #[va, vb] w fun e w' => RPartP w k la lb e w' := by
  induction n with
  | zero =>
    intro w la lb va vb hlev hva hvb hea heb hta htb
    exact rpart_short w k la lb va vb hva hvb hta htb (.inl ((tn_lev hta).2 (by omega)))
  | succ n ih =>
    intro w la lb va vb hlev hva hvb hea heb hta htb
    by_cases hs : la.length < 2 ∨ lb.length < 2
    · exact rpart_short w k la lb va vb hva hvb hta htb hs
    · have hla : Tn k la := by rcases hta with rfl | h; (exact absurd (Or.inl (by simp)) hs); exact h
      have hlb : Tn k lb := by rcases htb with rfl | h; (exact absurd (Or.inr (by simp)) hs); exact h
      have HSA := Lib.hid (fun W (hb : Below w.heap.size w W) => rShape_u hla W va (hva.below hb) hea)
      have HSB := Lib.hid (fun W (hb : Below w.heap.size w W) => rShape_u hlb W vb (hvb.below hb) heb)
      have hlev0 : 1 ≤ lev la := by have := tn_lev hta; omega
      have hpl : (preL la).length = k ∧ (preL lb).length = k := ⟨preL_len' hla, preL_len' hlb⟩
      have HKA := Lib.hid (fun W (j : Nat) (hb : Below w.heap.size w W) => rkid_any W k la va (j : Nat) (hva.below hb) hea hta (by omega))
      have HKB := Lib.hid (fun W (j : Nat) (hb : Below w.heap.size w W) => rkid_any W k lb vb (j : Nat) (hvb.below hb) heb htb (by omega))
      have HNA := Lib.hid (fun W (j : Nat) v (hv : RdE W v (kidL la (j : Nat))) => rnode_l W k _ v (kidL_tn hta _) (by omega) hv (kidL_ets hta hea _))
      have HNB := Lib.hid (fun W (j : Nat) v (hv : RdE W v (kidL lb (j : Nat))) => rnode_l W k _ v (kidL_tn htb _) (by omega) hv (kidL_ets htb heb _))
      have HIH := Lib.hid (fun W (j : Nat) v v2 (hv : RdE W v (kidL la (j : Nat))) (hv2 : RdE W v2 (kidL lb (j : Nat))) => ih W (kidL la (j : Nat)) (kidL lb (j : Nat)) v v2 (by have := kidL_lev hta (j : Nat) hlev0; omega) hv hv2 (kidL_ets hta hea _) (kidL_ets htb heb _) (kidL_tn hta _) (kidL_tn htb _))
      have HKL := Lib.hid (fun (j : Nat) => kidL_lev hta (j : Nat) hlev0)
      obtain ⟨A, c, rfl, _, hx⟩ := hva
      obtain ⟨B, d, rfl, _, _⟩ := hvb
      obtain ⟨b0, o0, rfl, hc⟩ := hx (by omega)
      obtain ⟨u0, k0, ku0, y9⟩ := hc 0 (by omega)
      have hpk := hea.et.len _ (List.getElem_mem (show 0 < la.length by omega))
      obtain ⟨Ap, cp, rfl, y8⟩ := RdU.point ku0
      clear y8 y9
      rw [hpk] at k0
      simp only [Nat.zero_mul, Nat.add_zero] at k0
      have HK0 := Lib.hid k0
      have hl1 : ¬ (la.length : Int) < 2 := by omega
      have hl2 : ¬ (lb.length : Int) < 2 := by omega
      have hl3 : (0 : Int) < (la.length : Int) := by omega
      have hl4 : 0 < la.length := by omega
      by_cases hlv : lev la = lev lb
      · by_cases hpr : preL la = preL lb
        · have hev : evB la lb = true := by unfold evB; rw [decide_eq_true hlev0, decide_eq_true hlv, decide_eq_true hpr]; rfl
          have HEV := Lib.hid hev
          have HPL := Lib.hid (show (preL la).length ≤ 7 by omega)
          have HDC := Lib.hid (show decide (preL la = preL lb) = true from decide_eq_true hpr)
          rw [← hlv] at HSB
          obtain ⟨pa, hpa⟩ : ∃ p, preL la = p := ⟨_, rfl⟩
          obtain ⟨pb, hpb⟩ : ∃ p, preL lb = p := ⟨_, rfl⟩
          rw [hpa] at HSA HPL HDC
          rw [hpb] at HSB HDC
          obtain ⟨za, hza⟩ : ∃ z, ((lev la : Nat) : Int) - 1 = z := ⟨_, rfl⟩
          rw [hza] at HSA HSB
          have hne : (za != za) = false := by simp
          have HPW := Lib.hid (fun W => rPow_any k W (by omega))
          have hP7 : 2 ^ k ≤ 128 := Nat.pow_le_pow_right (by omega) k7
          obtain ⟨P, hP⟩ : ∃ P, 2 ^ k = P := ⟨_, rfl⟩
          rw [hP] at HPW hP7
          have HPP := Lib.hid (And.intro hP hP7)
          have hwp : wrap64 ((P : Nat) : Int) = (P : Int) := by unfold wrap64; omega
          have HWP := Lib.hid hwp
          clear ih hlev hea heb hta htb hs hla hlb hpl hx hc k0 ku0 hpk hlv hpr hev hpa hpb hza hP hlev0
          go_enter Try.func14, Try.ntmps14
          go_wp2_with fail
          refine (HSA.out _ (by repeat (first | exact Below.refl _ _ | (refine Below.drew ?_) | (refine below_drewN' ?_ _) | (refine below_alloc' ?_ _) | (refine Below.setCell ?_ (by first | exact Nat.le_refl _ | (simp; done) | (simp; omega)) _)))).mono ?_
          rintro e w1 ⟨Au, cu, Aq, nq, cq, dA, vA, rfl, hua, hb1⟩
          have HO1 := Lib.hid ((OwnV.lit (W := w) (Nat.le_refl _) rfl : OwnV 3 w (w.alloc (.cells #[] 3)) _ []).below hb1)
          have HB1 := Lib.hid (show Below w.heap.size w w1 from below_trans (by repeat (first | exact Below.refl _ _ | (refine Below.drew ?_) | (refine below_drewN' ?_ _) | (refine below_alloc' ?_ _) | (refine Below.setCell ?_ (by first | exact Nat.le_refl _ | (simp; done) | (simp; omega)) _))) hb1)
          have HUA := Lib.hid hua
          clear hua hb1
          go_wp2_with fail
          refine (HSB.out w1 HB1.out).mono ?_
          rintro e w2 ⟨Bu, cv, Br, nr, cr, dB, vB, rfl, hub, hb2⟩
          have HB2 := Lib.hid (HB1.out.trans (hb2.mono HB1.out.size))
          have HO2 := Lib.hid (HO1.out.below hb2)
          have HUA2 := Lib.hid (HUA.out.below hb2)
          have HUB2 := Lib.hid hub
          clear hub hb2
          go_wp2_with fail
          refine (Same_any _ _ (pti pa) (pti pb) _ (HUA2.out.below (by repeat (first | exact Below.refl _ _ | (refine Below.drew ?_) | (refine below_drewN' ?_ _) | (refine below_alloc' ?_ _) | (refine Below.setCell ?_ (by first | exact Nat.le_refl _ | (simp; done) | (simp; omega)) _)))) (HUB2.out.below (by repeat (first | exact Below.refl _ _ | (refine Below.drew ?_) | (refine below_drewN' ?_ _) | (refine below_alloc' ?_ _) | (refine Below.setCell ?_ (by first | exact Nat.le_refl _ | (simp; done) | (simp; omega)) _)))) (by rw [pti_len]; have := HPL.out; omega)).mono ?_
          rintro e w3 ⟨rfl, hdr⟩
          obtain ⟨n3, hw3⟩ := hdr
          have HB23 := Lib.hid (show Below w2.heap.size w2 w3 by rw [hw3]; exact (by repeat (first | exact Below.refl _ _ | (refine Below.drew ?_) | (refine below_drewN' ?_ _) | (refine below_alloc' ?_ _) | (refine Below.setCell ?_ (by first | exact Nat.le_refl _ | (simp; done) | (simp; omega)) _))))
          have HB3 := Lib.hid (HB2.out.trans (HB23.out.mono HB2.out.size))
          have HO3 := Lib.hid (HO2.out.below HB23.out)
          clear hw3
          rw [pti_inj, HDC.out]
          go_wp2_with fail
          go_loopw [8, 9, 10] (fun av _ _ wr => ∃ j : Nat, j ≤ P ∧ av = .int .i64 (j : Nat) ∧ (∀ z < j, digL (kidL la (z : Nat)) = digL (kidL lb (z : Nat))) ∧ Below w3.heap.size w3 wr) (fun av _ _ _ => P - (intOf av).toNat)
          case atStart => exact ⟨0, Nat.zero_le _, rfl, fun z hz => absurd hz (Nat.not_lt_zero _), Below.refl _ _⟩
          case round =>
            obtain ⟨j, hj, rfl, hall, hb⟩ := hrel
            have HAL := Lib.hid hall
            have HJ3 := Lib.hid hb
            have HJ := Lib.hid (HB3.out.trans (hb.mono HB3.out.size))
            have k9 := Below.keeps HJ.out _ _ HK0.out
            have hl9 := World.block_lt_of_cell? wr _ k9
            clear hall hb
            by_cases hlt : j < P
            · have h3 : (j : Int) < (P : Int) := by omega
              have HW := Lib.hid (show wrap64 ((j : Int) + 1) = ((j + 1 : Nat) : Int) by have := HPP.out.2; unfold wrap64; omega)
              go_wp2_with fail
              refine (HPW.out _).mono ?_
              rintro e w4 ⟨rfl, hw⟩
              obtain rfl := hw.symm
              clear hw
              go_wp2_with fail
              refine (HKA.out _ j HJ.out).mono ?_
              rintro e w4 ⟨vp, rfl, hp4, hb4⟩
              have HX4 := Lib.hid (show Below wr.heap.size wr w4 from hb4)
              have HP4 := Lib.hid hp4
              obtain ⟨A4, c4, rfl, _⟩ := hp4
              clear hb4
              go_wp2_with fail
              refine (HKB.out _ j (HJ.out.trans (HX4.out.mono HJ.out.size))).mono ?_
              rintro e w5 ⟨vq, rfl, hq5, hb5⟩
              have HX5 := Lib.hid (HX4.out.trans (hb5.mono HX4.out.size))
              have HP5 := Lib.hid (And.intro (HP4.out.below hb5) hq5)
              obtain ⟨A5, c5, rfl, _⟩ := hq5
              clear hb5
              go_wp2_with fail
              refine (HNA.out w5 j _ HP5.out.1).mono ?_
              rintro e w6 ⟨rfl, hb6⟩
              have HX6 := Lib.hid (HX5.out.trans (hb6.mono HX5.out.size))
              have HP6 := Lib.hid (And.intro (HP5.out.1.below hb6) (HP5.out.2.below hb6))
              clear hb6
              go_wp2_with fail
              refine (HNB.out w6 j _ HP6.out.2).mono ?_
              rintro e w7 ⟨rfl, hb7⟩
              have HX7 := Lib.hid (HX6.out.trans (hb7.mono HX6.out.size))
              have HP7 := Lib.hid (And.intro (HP6.out.1.below hb7) (HP6.out.2.below hb7))
              have HJ7 := Lib.hid (HJ.out.trans (HX7.out.mono HJ.out.size))
              clear hb7
              obtain ⟨dp, hdp⟩ : ∃ d, digL (kidL la (j : Nat)) = d := ⟨_, rfl⟩
              obtain ⟨dq, hdq⟩ : ∃ d, digL (kidL lb (j : Nat)) = d := ⟨_, rfl⟩
              rw [hdp, hdq]
              have HDD := Lib.hid (And.intro hdp hdq)
              clear hdp hdq
              by_cases hde : dp = dq
              · have hde1 : (dp != dq) = false := by simp [hde]
                have HDE := Lib.hid hde
                clear hde
                go_wp2_with fail
                go_roundw
                case rel => exact ⟨j + 1, by omega, (by first | rw [HW.out] | rfl | simp), fun z hz => by
                  by_cases e : z = j
                  · rw [e, HDD.out.1, HDD.out.2]; exact HDE.out
                  · exact HAL.out z (by omega), HJ3.out.trans (HX7.out.mono HJ3.out.size)⟩
                case measure => (first | (rw [intOf_of' HW.out, intOf_of' rfl]; omega) | (simp [intOf]; omega) | (simp [intOf] <;> omega))
              · have hde1 : (dp != dq) = true := by simp [hde]
                have HDE := Lib.hid hde
                clear hde
                go_wp2_with fail
                refine (HIH.out _ j _ _ (HP7.out.1.below (by repeat (first | exact Below.refl _ _ | (refine Below.drew ?_) | (refine below_drewN' ?_ _) | (refine below_alloc' ?_ _) | (refine Below.setCell ?_ (by first | exact Nat.le_refl _ | (simp; done) | (simp; omega)) _)))) (HP7.out.2.below (by repeat (first | exact Below.refl _ _ | (refine Below.drew ?_) | (refine below_drewN' ?_ _) | (refine below_alloc' ?_ _) | (refine Below.setCell ?_ (by first | exact Nat.le_refl _ | (simp; done) | (simp; omega)) _))))).mono ?_
                rintro e w8 ⟨v8, ws, rfl, ho8, hpr8, hlen8, hb8⟩
                have HO8 := Lib.hid (show OwnV 3 w w8 (.slice (some ⟨w7.heap.size, 0, none⟩) 1 1) (intV [j]) from (show OwnV 3 w (w7.alloc (.cells #[.int .i64 (j : Nat)] 3)) (.slice (some ⟨w7.heap.size, 0, none⟩) 1 1) (intV [j]) from World.ownsRow_lit w7 #[.int .i64 (j : Nat)] 1 HJ7.out.size (by simp [maxLen]) (by simp)).below hb8)
                have HS8 := Lib.hid (src_ints ho8)
                have HB8 := Lib.hid (show Below w.heap.size w w8 from (below_trans HJ7.out (by repeat (first | exact Below.refl _ _ | (refine Below.drew ?_) | (refine below_drewN' ?_ _) | (refine below_alloc' ?_ _) | (refine Below.setCell ?_ (by first | exact Nat.le_refl _ | (simp; done) | (simp; omega)) _)))).trans (hb8.mono (below_trans HJ7.out (by repeat (first | exact Below.refl _ _ | (refine Below.drew ?_) | (refine below_drewN' ?_ _) | (refine below_alloc' ?_ _) | (refine Below.setCell ?_ (by first | exact Nat.le_refl _ | (simp; done) | (simp; omega)) _)))).size))
                have HPR := Lib.hid (show PartR k la lb (j :: ws) from .some la lb j ws HEV.out (by have := HPP.out.1; omega) HAL.out (by rw [HDD.out.1, HDD.out.2]; exact HDE.out) hpr8)
                have HLN := Lib.hid (show ws.length + 1 ≤ lev la by have := HKL.out j; omega)
                have HL64 := Lib.hid (lev_le la)
                clear ho8 hpr8 hlen8 hb8
                go_wp2_with (at_builtin; refine wpList_append_Is rfl (.tmp 62) (.tmp 65) rfl w [j] ws ?_ ?_ ?_ ?_ ?_)
                · exact HO8.out
                · exact HS8.out
                · exact HB8.out.size
                · have := HLN.out; have := HL64.out; simp; omega
                intro v9 w9 hown9 hg9
                have HF := Lib.hid (And.intro hown9 (OwnV.grown HO8.out HB8.out hg9))
                clear hown9 hg9
                go_wp2_with fail
                go_ret
                exact ⟨_, j :: ws, rfl, HF.out.1, HPR.out, HLN.out, HF.out.2⟩
            · have h3 : ¬ (j : Int) < (P : Int) := by omega
              have HPR := Lib.hid (show PartR k la lb [] from .none la lb HEV.out fun z hz => HAL.out z (by have := HPP.out.1; omega))
              go_wp2_with fail
              refine (HPW.out _).mono ?_
              rintro e w4 ⟨rfl, hw⟩
              obtain rfl := hw.symm
              clear hw
              go_wp2_with fail
              go_ret
              exact ⟨_, [], rfl, HO3.out.below HJ3.out, HPR.out, by simp, HJ.out⟩
        · have HPR := Lib.hid (PartR.stop (k := k) la lb (ev_bad fun h => hpr h.2))
          have HPL := Lib.hid (show (preL la).length ≤ 7 by omega)
          have HDC := Lib.hid (show decide (preL la = preL lb) = false from decide_eq_false hpr)
          rw [← hlv] at HSB
          obtain ⟨pa, hpa⟩ : ∃ p, preL la = p := ⟨_, rfl⟩
          obtain ⟨pb, hpb⟩ : ∃ p, preL lb = p := ⟨_, rfl⟩
          rw [hpa] at HSA HPL HDC
          rw [hpb] at HSB HDC
          obtain ⟨za, hza⟩ : ∃ z, ((lev la : Nat) : Int) - 1 = z := ⟨_, rfl⟩
          rw [hza] at HSA HSB
          have hne : (za != za) = false := by simp
          clear ih hlev hea heb hta htb hs hla hlb hpl hx hc k0 ku0 hpk hlv hpr hpa hpb hza hlev0
          go_enter Try.func14, Try.ntmps14
          go_wp2_with fail
          refine (HSA.out _ (by repeat (first | exact Below.refl _ _ | (refine Below.drew ?_) | (refine below_drewN' ?_ _) | (refine below_alloc' ?_ _) | (refine Below.setCell ?_ (by first | exact Nat.le_refl _ | (simp; done) | (simp; omega)) _)))).mono ?_
          rintro e w1 ⟨Au, cu, Aq, nq, cq, dA, vA, rfl, hua, hb1⟩
          have HO1 := Lib.hid ((OwnV.lit (W := w) (Nat.le_refl _) rfl : OwnV 3 w (w.alloc (.cells #[] 3)) _ []).below hb1)
          have HB1 := Lib.hid (show Below w.heap.size w w1 from below_trans (by repeat (first | exact Below.refl _ _ | (refine Below.drew ?_) | (refine below_drewN' ?_ _) | (refine below_alloc' ?_ _) | (refine Below.setCell ?_ (by first | exact Nat.le_refl _ | (simp; done) | (simp; omega)) _))) hb1)
          have HUA := Lib.hid hua
          clear hua hb1
          go_wp2_with fail
          refine (HSB.out w1 HB1.out).mono ?_
          rintro e w2 ⟨Bu, cv, Br, nr, cr, dB, vB, rfl, hub, hb2⟩
          have HB2 := Lib.hid (HB1.out.trans (hb2.mono HB1.out.size))
          have HO2 := Lib.hid (HO1.out.below hb2)
          have HUA2 := Lib.hid (HUA.out.below hb2)
          have HUB2 := Lib.hid hub
          clear hub hb2
          go_wp2_with fail
          refine (Same_any _ _ (pti pa) (pti pb) _ (HUA2.out.below (by repeat (first | exact Below.refl _ _ | (refine Below.drew ?_) | (refine below_drewN' ?_ _) | (refine below_alloc' ?_ _) | (refine Below.setCell ?_ (by first | exact Nat.le_refl _ | (simp; done) | (simp; omega)) _)))) (HUB2.out.below (by repeat (first | exact Below.refl _ _ | (refine Below.drew ?_) | (refine below_drewN' ?_ _) | (refine below_alloc' ?_ _) | (refine Below.setCell ?_ (by first | exact Nat.le_refl _ | (simp; done) | (simp; omega)) _)))) (by rw [pti_len]; have := HPL.out; omega)).mono ?_
          rintro e w3 ⟨rfl, hdr⟩
          obtain ⟨n3, hw3⟩ := hdr
          have HB23 := Lib.hid (show Below w2.heap.size w2 w3 by rw [hw3]; exact (by repeat (first | exact Below.refl _ _ | (refine Below.drew ?_) | (refine below_drewN' ?_ _) | (refine below_alloc' ?_ _) | (refine Below.setCell ?_ (by first | exact Nat.le_refl _ | (simp; done) | (simp; omega)) _))))
          have HB3 := Lib.hid (HB2.out.trans (HB23.out.mono HB2.out.size))
          have HO3 := Lib.hid (HO2.out.below HB23.out)
          clear hw3
          rw [pti_inj, HDC.out]
          go_wp2_with fail
          go_ret
          exact ⟨_, [], rfl, HO3.out, HPR.out, by simp, HB3.out⟩
      · have HPR := Lib.hid (PartR.stop (k := k) la lb (ev_bad fun h => hlv h.1))
        obtain ⟨za, hza⟩ : ∃ z, ((lev la : Nat) : Int) - 1 = z := ⟨_, rfl⟩
        obtain ⟨zb, hzb⟩ : ∃ z, ((lev lb : Nat) : Int) - 1 = z := ⟨_, rfl⟩
        have hzz : ¬ za = zb := by omega
        rw [hza] at HSA
        rw [hzb] at HSB
        have hne : (za != zb) = true := by simp [hzz]
        generalize preL la = pa at *
        generalize preL lb = pb at *
        clear ih hlev hea heb hta htb hs hla hlb hpl hx hc k0 ku0 hpk hlv hza hzb hlev0
        go_enter Try.func14, Try.ntmps14
        go_wp2_with fail
        refine (HSA.out _ (by repeat (first | exact Below.refl _ _ | (refine Below.drew ?_) | (refine below_drewN' ?_ _) | (refine below_alloc' ?_ _) | (refine Below.setCell ?_ (by first | exact Nat.le_refl _ | (simp; done) | (simp; omega)) _)))).mono ?_
        rintro e w1 ⟨Au, cu, Aq, nq, cq, dA, vA, rfl, hua, hb1⟩
        have HO1 := Lib.hid ((OwnV.lit (W := w) (Nat.le_refl _) rfl : OwnV 3 w (w.alloc (.cells #[] 3)) _ []).below hb1)
        have HB1 := Lib.hid (show Below w.heap.size w w1 from below_trans (by repeat (first | exact Below.refl _ _ | (refine Below.drew ?_) | (refine below_drewN' ?_ _) | (refine below_alloc' ?_ _) | (refine Below.setCell ?_ (by first | exact Nat.le_refl _ | (simp; done) | (simp; omega)) _))) hb1)
        have HUA := Lib.hid hua
        clear hua hb1
        go_wp2_with fail
        refine (HSB.out w1 HB1.out).mono ?_
        rintro e w2 ⟨Bu, cv, Br, nr, cr, dB, vB, rfl, hub, hb2⟩
        have HB2 := Lib.hid (HB1.out.trans (hb2.mono HB1.out.size))
        have HO2 := Lib.hid (HO1.out.below hb2)
        have HUA2 := Lib.hid (HUA.out.below hb2)
        have HUB2 := Lib.hid hub
        clear hub hb2
        go_wp2_with fail
        go_ret
        exact ⟨_, [], rfl, HO2.out.below (by repeat (first | exact Below.refl _ _ | (refine Below.drew ?_) | (refine below_drewN' ?_ _) | (refine below_alloc' ?_ _) | (refine Below.setCell ?_ (by first | exact Nat.le_refl _ | (simp; done) | (simp; omega)) _))), HPR.out, by simp, below_trans HB2.out (by repeat (first | exact Below.refl _ _ | (refine Below.drew ?_) | (refine below_drewN' ?_ _) | (refine below_alloc' ?_ _) | (refine Below.setCell ?_ (by first | exact Nat.le_refl _ | (simp; done) | (simp; omega)) _)))⟩
end Go.Proofs.Ytjokcagggmjgmaa
/-! DigI -/
namespace Go.Proofs.Ytjokcagggmjgmaa
open Go.RowKit
set_option linter.unusedVariables false
set_option linter.unusedSimpArgs false
set_option maxRecDepth 100000

theorem intV_rd {W w : World} {v : Value} {l : List Nat} (h : OwnV 3 W w v (intV l)) : RdI w v (l.map fun (x : Nat) => (x : Int)) := by
  have := h.rd
  unfold RdI
  rw [List.map_map]
  exact this
set_option maxHeartbeats 400000 in
theorem sameInts_eq (va vb : Value) (xs : List Int) (w : World) (ha : RdI w va xs) (hb : RdI w vb xs) (hl : xs.length < 9223372036854775807) :
    Calls Try.prog 13 #[va, vb] w fun e w' => e = .returned (.bool true) ∧ Below w.heap.size w w' := by
  obtain ⟨A, c, rfl, ga⟩ := ha.slice
  obtain ⟨B, d, rfl, gb⟩ := hb.slice
  have GA := Lib.hid ga
  have GB := Lib.hid gb
  have HL := Lib.hid hl
  have hne : ((xs.length : Int) != (xs.length : Int)) = false := by simp
  clear ha hb ga gb hl
  go_enter Try.func13, Try.ntmps13
  go_wp2
  go_loopw [5] (fun i wr => ∃ k n : Nat, k ≤ xs.length ∧ i = .int .i64 k ∧ wr = w.drewN n) (fun i _ => xs.length - (intOf i).toNat)
  case atStart => exact ⟨0, 0, Nat.zero_le _, rfl, rfl⟩
  case round =>
    obtain ⟨k, n, hk, rfl, rfl⟩ := hrel
    by_cases hlt : k < xs.length
    · obtain ⟨b, o, rfl, hc⟩ := GA.out (by omega)
      obtain ⟨b2, o2, rfl, hc2⟩ := GB.out (by omega)
      have h1 := hc k hlt
      have h2 := hc2 k hlt
      have h3 : (k : Int) < (xs.length : Int) := by omega
      have h5 : (0 : Int) ≤ (k : Int) := by omega
      have HW := Lib.hid (show wrap64 ((k : Int) + 1) = ((k + 1 : Nat) : Int) by have := HL.out; unfold wrap64; omega)
      have hev : (xs[k] != xs[k]) = false := by simp
      clear hc hc2
      go_wp2
      go_quiet (fail)
      go_wp2
      go_roundw
      case rel => exact ⟨k + 1, n + nq, by omega, by first | (rw [HW.out]) | go_num | rfl, by first | rfl | exact World.drewN_drewN ..⟩
      case measure => (first | (rw [intOf_of' HW.out, intOf_of' rfl]; omega) | (simp [intOf]; omega) | (simp [intOf] <;> omega))
    · have h3 : ¬ (k : Int) < (xs.length : Int) := by omega
      go_wp2
      go_ret
      exact ⟨rfl, drewN_below _ _⟩
theorem dpart_dim (w : World) (a b k k2 : Nat) (la lb : List En) (ha : TrR w a k la) (hb : TrR w b k2 lb) (hk : k ≠ k2) :
    Calls Try.prog 11 #[.pointer (some ⟨a, 0, none⟩), .pointer (some ⟨b, 0, none⟩)] w fun e w' => e = .returned (.tuple #[.slice none 0 0, .bool false, .int .i64 2]) ∧ Below w.heap.size w w' := by
  have HKA := Lib.hid (fun W (hw : Below w.heap.size w W) => tk_any W a k (Below.keeps hw _ _ ha.c0))
  have HKB := Lib.hid (fun W (hw : Below w.heap.size w W) => tk_any W b k2 (Below.keeps hw _ _ hb.c0))
  have hn1 : ¬ (k : Int) = (k2 : Int) := by omega
  have hn2 : ((k : Int) == (k2 : Int)) = false := by simp; omega
  have hn3 : ((k : Int) != (k2 : Int)) = true := by simp; omega
  clear ha hb hk
  go_enter Try.func11, Try.ntmps11
  go_wp2_with fail
  refine wp_scope_jumps3 0 (fun _ _ => False) (fun _ _ => 0) rfl ?_ ?_
  · exact fun a w h => h.elim
  · intro Q' hQ' hR
    have HR := Lib.hid hR
    clear hQ' hR
    go_wp2_with fail
    refine (HKA.out _ (Below.refl _ _)).mono ?_
    rintro e w1 ⟨rfl, hw⟩
    obtain rfl := hw.symm
    clear hw
    go_wp2_with fail
    refine (HKB.out _ (Below.refl _ _)).mono ?_
    rintro e w1 ⟨rfl, hw⟩
    obtain rfl := hw.symm
    clear hw
    go_wp2_with fail
    refine HR.out _ _ ?_
    refine bodyPost_ret (v := .tuple #[.slice none 0 0, .bool false, .int .i64 2]) (by simp [results, Try.results11, go_sem]) rfl ?_
    exact ⟨rfl, (by repeat (first | exact Below.refl _ _ | (refine Below.drew ?_) | (refine below_drewN' ?_ _) | (refine below_alloc' ?_ _) | (refine Below.setCell ?_ (by first | exact Nat.le_refl _ | (simp; done) | (simp; omega)) _)))⟩
end Go.Proofs.Ytjokcagggmjgmaa
/-! AwkD -/
namespace Go.Proofs.Ytjokcagggmjgmaa
open Go.RowKit
set_option linter.unusedVariables false
set_option linter.unusedSimpArgs false
set_option maxRecDepth 100000

theorem awd_ne : ((stirI (stirI basisI ((1 : Nat) : Int)) 0) == (stirI (stirI basisI ((2 : Nat) : Int)) 0)) = false := by kernel_rfl
theorem awd_del : delE [1, 2] (insE [1, 2] 3 []) = [] := by first | rfl | kernel_rfl
theorem awd_get : getE (insE [1, 2] 3 []) [1, 2] = some 3 := by first | rfl | kernel_rfl
set_option maxHeartbeats 2000000 in
theorem awakeD_any (w : World) : Calls Try.prog 7 #[] w fun e w' => e = .returned (.bool true) ∧ Below w.heap.size w w' := by
  have HN1 := Lib.hid (fun W => tnew_any W 1 (by omega) (by omega))
  have HN2 := Lib.hid (fun W => tnew_any W 2 (by omega) (by omega))
  have HT1 := Lib.hid (fun W t (h : TrR W t 1 []) => dtree_any W t 1 [] h)
  have HT2 := Lib.hid (fun W t (h : TrR W t 2 []) => dtree_any W t 2 [] h)
  have HPU := Lib.hid (fun W t vp (h : TrR W t 2 []) (hp : RdU W vp (pti [1, 2])) => tput_any W t 2 3 [1, 2] [] vp h hp rfl (by decide) (by decide))
  have HDE := Lib.hid (fun W t vp (h : TrR W t 2 (insE [1, 2] 3 [])) (hp : RdU W vp (pti [1, 2])) => tdel_any W t 2 [1, 2] _ vp h hp rfl (by decide))
  have hne := awd_ne
  obtain ⟨d1, hd1⟩ : ∃ d, stirI (stirI basisI ((1 : Nat) : Int)) 0 = d := ⟨_, rfl⟩
  obtain ⟨d2, hd2⟩ : ∃ d, stirI (stirI basisI ((2 : Nat) : Int)) 0 = d := ⟨_, rfl⟩
  rw [dig_nil, hd1] at HT1
  rw [dig_nil, hd2] at HT2
  rw [hd1, hd2] at hne
  have hne2 : ¬ d1 = d2 := by simpa using hne
  have hne3 : (d1 != d2) = true := by simp [bne, hne]
  rw [show ((1 : Nat) : Int) = 1 from rfl] at HN1
  rw [show ((2 : Nat) : Int) = 2 from rfl] at HN2
  rw [show ((3 : Nat) : Int) = 3 from rfl] at HPU
  clear hd1 hd2
  go_enter Try.func7, Try.ntmps7
  go_wp2_with fail
  refine (HN1.out _).mono ?_
  rintro e w1 ⟨a, rfl, ha, hb1⟩
  have HA1 := Lib.hid ha
  have HB1 := Lib.hid hb1
  clear ha hb1
  go_wp2_with fail
  refine (HN2.out _).mono ?_
  rintro e w2 ⟨b, rfl, hb, hb2⟩
  have HA2 := Lib.hid (And.intro (HA1.out.bel hb2) hb)
  have HB2 := Lib.hid (HB1.out.trans (hb2.mono HB1.out.size))
  clear hb hb2
  go_wp2_with fail
  refine (HPU.out _ b _ (HA2.out.2.bel (by repeat (first | exact Below.refl _ _ | (refine Below.drew ?_) | (refine below_drewN' ?_ _) | (refine below_alloc' ?_ _) | (refine Below.setCell ?_ (by first | exact Nat.le_refl _ | (simp; done) | (simp; omega)) _)))) (RdU.two (by go_simp) (by go_simp))).mono ?_
  rintro e w3 ⟨g, rfl, hg, hb3, _, _⟩
  have hb23 : Below w2.heap.size w2 w3 := below_trans (by repeat (first | exact Below.refl _ _ | (refine Below.drew ?_) | (refine below_drewN' ?_ _) | (refine below_alloc' ?_ _) | (refine Below.setCell ?_ (by first | exact Nat.le_refl _ | (simp; done) | (simp; omega)) _))) hb3
  have HA3 := Lib.hid (And.intro (HA2.out.1.bel hb23) (And.intro (HA2.out.2.bel hb23) hg))
  have HB3 := Lib.hid (HB2.out.trans (hb23.mono HB2.out.size))
  clear hg hb3 hb23
  go_wp2_with fail
  refine (HDE.out _ g _ (HA3.out.2.2.bel (by repeat (first | exact Below.refl _ _ | (refine Below.drew ?_) | (refine below_drewN' ?_ _) | (refine below_alloc' ?_ _) | (refine Below.setCell ?_ (by first | exact Nat.le_refl _ | (simp; done) | (simp; omega)) _)))) (RdU.two (by go_simp) (by go_simp))).mono ?_
  rintro e w4 ⟨hb4, hcase⟩
  obtain ⟨g4, rfl, hg4⟩ : ∃ g4, e = .returned (.tuple #[.pointer (some ⟨g4, 0, none⟩), .int .i64 0]) ∧ TrR w4 g4 2 [] := by
    rcases hcase with ⟨h, _⟩ | ⟨x, g4, _, h, h2, _⟩
    · rw [awd_get] at h; cases h
    · rw [awd_del] at h2; exact ⟨g4, h, h2⟩
  have hb34 : Below w3.heap.size w3 w4 := below_trans (by repeat (first | exact Below.refl _ _ | (refine Below.drew ?_) | (refine below_drewN' ?_ _) | (refine below_alloc' ?_ _) | (refine Below.setCell ?_ (by first | exact Nat.le_refl _ | (simp; done) | (simp; omega)) _))) hb4
  have HA4 := Lib.hid (And.intro (HA3.out.1.bel hb34) (And.intro (HA3.out.2.1.bel hb34) hg4))
  have HB4 := Lib.hid (HB3.out.trans (hb34.mono HB3.out.size))
  clear hg4 hb4 hb34 hcase
  have HX4 := Lib.hid (Below.refl w4.heap.size w4)
  go_wp2_with fail
  refine (HT1.out w4 a HA4.out.1).mono ?_
  rintro e w5 ⟨rfl, hb5⟩
  have HX5 := Lib.hid (show Below w4.heap.size w4 w5 from hb5)
  clear hb5
  go_wp2_with fail
  refine (HT2.out w5 b (HA4.out.2.1.bel HX5.out)).mono ?_
  rintro e w6 ⟨rfl, hb6⟩
  have HX6 := Lib.hid (HX5.out.trans (hb6.mono HX5.out.size))
  clear hb6
  go_wp2_with fail
  refine (HT2.out w6 b (HA4.out.2.1.bel HX6.out)).mono ?_
  rintro e w7 ⟨rfl, hb7⟩
  have HX7 := Lib.hid (HX6.out.trans (hb7.mono HX6.out.size))
  clear hb7
  go_wp2_with fail
  refine (HT2.out w7 g4 (HA4.out.2.2.bel HX7.out)).mono ?_
  rintro e w8 ⟨rfl, hb8⟩
  have HX8 := Lib.hid (HX7.out.trans (hb8.mono HX7.out.size))
  clear hb8
  go_wp2_with fail
  refine (dnode_nil w8).mono ?_
  rintro e w9 ⟨rfl, hb9⟩
  have HX9 := Lib.hid (HB4.out.trans ((HX8.out.trans (hb9.mono HX8.out.size)).mono HB4.out.size))
  clear hb9
  go_wp2_with fail
  go_ret
  exact ⟨rfl, HX9.out⟩
end Go.Proofs.Ytjokcagggmjgmaa
/-! TwoA -/
namespace Go.Proofs.Ytjokcagggmjgmaa
open Go.RowKit
set_option linter.unusedVariables false
set_option linter.unusedSimpArgs false
set_option maxRecDepth 100000

def TwoP (W : World) (k : Nat) (a b : List En) (e : Ending) (w' : World) : Prop := ∃ t u va vb, e = .returned (.tuple #[.pointer (some ⟨t, 0, none⟩), .pointer (some ⟨u, 0, none⟩), va, vb, .bool true]) ∧ TrR w' t k a ∧ TrR w' u k b ∧ RdE w' va a ∧ RdE w' vb b ∧ Below W.heap.size W w'
set_option maxHeartbeats 4000000 in
theorem two_any (w : World) (k : Nat) (l acts : List Ac) (vl v : Value) (k1 : 1 ≤ k) (k16 : k ≤ 16) (hvl : RdA w vl l) (hv : RdA w v acts) (hol : ∀ a ∈ l, a.Ok) (ho : ∀ a ∈ acts, a.Ok) (hl : l.length + acts.length ≤ 900) :
    Calls Try.prog 9 #[.int .i64 (k : Nat), vl, v] w fun e w' => TwoP w k (playL k [] l) (playL k (playL k [] l) acts) e w' := by
  have HGR := Lib.hid (grown_any w k l vl k1 k16 hvl hol (by omega))
  have hes : EtS k (playL k [] l) := EtS.play ⟨Et.nil k, by omega, by simp⟩ _ hol (by simp; omega)
  have hln : (playL k [] l).length + acts.length ≤ 900 := by have := play_len k [] l; simp at this; omega
  have HD := Lib.hid (And.intro hes hln)
  have HO := Lib.hid ho
  have HV := Lib.hid hv
  obtain ⟨A, c, rfl, hx⟩ := hv
  obtain ⟨A2, c2, rfl, _⟩ := hvl
  clear k1 k16 ho hl hx hol hes hln
  generalize playL k [] l = in_ at *
  go_enter Try.func9, Try.ntmps9
  go_wp2_with fail
  refine HGR.out.mono ?_
  rintro e w1 ⟨t, va, rfl, ht, hin, hb⟩
  have HT := Lib.hid (And.intro ht (And.intro hin hb))
  have HX := Lib.hid (HV.out.below hb)
  obtain ⟨A3, c3, rfl, _⟩ := hin
  clear ht hb
  go_wp2_with fail
  go_loopw [14, 15, 16] (fun tv vin iv wr => ∃ (t' j : Nat), j ≤ acts.length ∧ tv = .pointer (some ⟨t', 0, none⟩) ∧ iv = .int .i64 (j : Nat) ∧ TrR wr t' k (playL k in_ (acts.take j)) ∧ RdE wr vin (playL k in_ (acts.take j)) ∧ Below w1.heap.size w1 wr) (fun _ _ iv _ => acts.length - (intOf iv).toNat)
  case atStart => exact ⟨t, 0, Nat.zero_le _, rfl, rfl, HT.out.1.bel (by repeat (first | exact Below.refl _ _ | (refine Below.drew ?_) | (refine below_drewN' ?_ _) | (refine below_alloc' ?_ _) | (refine Below.setCell ?_ (by first | exact Nat.le_refl _ | (simp; done) | (simp; omega)) _))), HT.out.2.1.below (by repeat (first | exact Below.refl _ _ | (refine Below.drew ?_) | (refine below_drewN' ?_ _) | (refine below_alloc' ?_ _) | (refine Below.setCell ?_ (by first | exact Nat.le_refl _ | (simp; done) | (simp; omega)) _))), (by repeat (first | exact Below.refl _ _ | (refine Below.drew ?_) | (refine below_drewN' ?_ _) | (refine below_alloc' ?_ _) | (refine Below.setCell ?_ (by first | exact Nat.le_refl _ | (simp; done) | (simp; omega)) _)))⟩
  case round =>
    obtain ⟨t', j, hj, rfl, rfl, ht, hin, hb⟩ := hrel
    by_cases hlt : j < acts.length
    · have h3 : (j : Int) < (acts.length : Int) := by omega
      have h5 : (0 : Int) ≤ (j : Int) := by omega
      have HW := Lib.hid (show wrap64 ((j : Int) + 1) = ((j + 1 : Nat) : Int) by have := HD.out.2; unfold wrap64; omega)
      obtain ⟨A', c', e', hx⟩ := HX.out
      simp only [Value.slice.injEq] at e'
      obtain ⟨rfl, _, rfl⟩ := e'
      obtain ⟨b2, o2, rfl, hc⟩ := hx (by omega)
      obtain ⟨u, k0, k1, ku, k2⟩ := (hc j hlt).keep (Below.keeps hb)
      have hoj := HO.out acts[j] (List.getElem_mem hlt)
      have hpl := play_take k in_ acts j hlt
      have HES : EtS k (playL k in_ (acts.take j)) := EtS.play HD.out.1 _ (fun a ha => HO.out a (List.mem_of_mem_take ha)) (by rw [List.length_take]; have := HD.out.2; omega)
      have HDN := Lib.hid (done_any wr t' k acts[j] _ _ _ ht hin HES ku hoj)
      rw [← hpl] at HDN
      have HB := Lib.hid hb
      have hlb := World.block_lt_of_cell? wr _ k0
      obtain ⟨Au, cu, rfl, _⟩ := RdU.point ku
      obtain ⟨AI, cI, rfl, _⟩ := hin
      generalize acts[j] = ac at *
      generalize playL k in_ (acts.take j) = l1 at *
      clear hc hoj HES hpl hb ht ku hx
      go_wp2_with fail
      refine HDN.out.mono ?_
      rintro e w2 ⟨t2, vin2, rfl, ht2, hin2, hb2⟩
      have HN := Lib.hid (And.intro ht2 (And.intro hin2 (HB.out.trans (hb2.mono HB.out.size))))
      clear ht2 hin2 hb2
      go_wp2_with fail
      go_roundw
      case rel => exact ⟨t2, j + 1, by omega, rfl, (by first | rw [HW.out] | rfl | simp), HN.out.1, HN.out.2.1, HN.out.2.2⟩
      case measure => (first | (rw [intOf_of' HW.out, intOf_of' rfl]; omega) | (simp [intOf]; omega) | (simp [intOf] <;> omega))
    · have h3 : ¬ (j : Int) < (acts.length : Int) := by omega
      have e : acts.take j = acts := List.take_of_length_le (by omega)
      rw [e] at ht hin
      have HN := Lib.hid (And.intro ht (And.intro hin hb))
      obtain ⟨AI, cI, rfl, _⟩ := hin
      clear ht hb
      go_wp2_with fail
      (try simp only [Exit.inBlock, Exit.then])
      refine bodyPost_ret (v := .tuple #[.pointer (some ⟨t, 0, none⟩), .pointer (some ⟨t', 0, none⟩), .slice A3 in_.length c3, .slice AI (playL k in_ acts).length cI, .bool true]) (by simp [results, Try.results9, go_sem]) rfl ?_
      exact ⟨t, t', _, _, rfl, HT.out.1.bel HN.out.2.2, HN.out.1, HT.out.2.1.below HN.out.2.2, HN.out.2.1, HT.out.2.2.trans (HN.out.2.2.mono HT.out.2.2.size)⟩
end Go.Proofs.Ytjokcagggmjgmaa
/-! OpenC -/
namespace Go.Proofs.Ytjokcagggmjgmaa
open Go.RowKit Go.ChangeShapes Go.WideShapes Go.Deep
set_option linter.unusedVariables false

section
variable {H : Type} {enc : TypeId × Value → H} {P : Program} {w : World} {base : Nat} {spare : Nat → Bool} {held : Bool}
theorem open_slice_fields {t e : TypeId} {fs : Array Field} {fuel : Nat} {cs : List Value} {x : DataW H × List MemPlace} (ht : P.underlying t = some (.slice e)) (he : P.underlying e = some (.struct fs))
    (hone : oneCellFields P fs = true) (hC : P.cellsOf e = fs.size) (h : DataW.trod enc P w base spare held fuel t cs = some x) :
    (cs = [.slice none 0 0]) ∨
    ∃ (a : Addr) (len cap m : Nat), cs = [.slice (some a) len cap] ∧ len ≤ cap ∧ cap ≤ maxLen ∧ m = (if spare a.block then cap else len) ∧
      ∀ i, i < m → ∀ (j : Nat) (f : Field), fs[j]? = some f → ∃ (v : Value) (y : DataW H × List MemPlace) (n : Nat), w.cell? (a.add (i * fs.size + j)) = some v ∧ DataW.trod enc P w base spare held n f.type [v] = some y := by
  rcases open_slice ht h with h0 | ⟨a, len, cap, m, n, D, Pl, hcs, hb, hl, hm, hmm, hx, hi⟩
  · exact .inl h0.1
  · refine .inr ⟨a, len, cap, m, hcs, hl, hm, hmm, fun i him => ?_⟩
    obtain ⟨cs', hc, ht'⟩ := hi i him
    rw [hC] at hc
    obtain ⟨ys, n', hn', hy, hlen, hyl, hf⟩ := DataW.trod_struct he ht'
    obtain ⟨_, hcl, hat⟩ := World.cells?_some hc
    intro j f hj
    obtain ⟨ho, hk⟩ := hone_of hone j f hj
    have hjl : j < fs.size := (Array.getElem?_eq_some_iff.1 hj).1
    have hcell := hat j hjl
    have hv : cs'[j]? = some (cs'[j]'(by omega)) := List.getElem?_eq_getElem (by omega)
    have h1 := hf j f hj
    rw [ho, hk] at h1
    have hone' : (cs'.drop j).take 1 = [cs'[j]'(by omega)] := by
      rw [List.drop_eq_getElem_cons (by omega)]
      rfl
    rw [hone'] at h1
    have hys : ys[j]? = some (ys[j]'(by omega)) := List.getElem?_eq_getElem (by omega)
    refine ⟨_, _, n', ?_, h1.trans hys⟩
    rw [← Go.Deep.add_add, hcell, hv]
end
theorem spot_none {w : World} {a : Addr} {v : Value} (h : w.cell? a = some v) : ∃ b o, a = ⟨b, o, none⟩ := by
  obtain ⟨b, o, sp⟩ := a
  cases sp with
  | none => exact ⟨b, o, rfl⟩
  | some q => simp [World.cell?] at h; split at h <;> cases h
theorem add_plain (b o j : Nat) : (⟨b, o, none⟩ : Addr).add j = ⟨b, o + j, none⟩ := by
  unfold Addr.add; split
  · rename_i h; subst h; rfl
  · rfl
theorem pti_toNat {xs : List Int} (h : ∀ x ∈ xs, 0 ≤ x ∧ x ≤ 18446744073709551615) : pti (xs.map Int.toNat) = xs := by
  unfold pti
  rw [List.map_map]
  conv => rhs; rw [← List.map_id xs]
  apply List.map_congr_left
  intro x hx
  have := h x hx
  simp only [Function.comp_apply, id]
  omega
instance : Inhabited Ch := ⟨⟨[], false, false, 0, 0⟩⟩
end Go.Proofs.Ytjokcagggmjgmaa
/-! OpenA -/
namespace Go.Proofs.Ytjokcagggmjgmaa
open Go.RowKit Go.ChangeShapes Go.WideShapes Go.Deep
set_option linter.unusedVariables false

/-- an act's numbers, whatever its point's length -/
def Ac.OkV (a : Ac) : Prop := (∀ c ∈ a.p, c < 2 ^ 64) ∧ a.v < 2 ^ 64
theorem open_acts {H : Type} {enc : TypeId × Value → H} {W : World} {base : Nat} {held : Bool} {v : Value} {x : DataW H × List MemPlace} {fuel : Nat}
    (h : DataW.trod enc Try.prog W base (fun _ => true) held fuel 22 [v] = some x) :
    ∃ l, RdA W v l ∧ (∀ c ∈ l, Ac.OkV c) ∧ l.length ≤ maxLen ∧ ∃ A n c, v = .slice A n c ∧ n ≤ c ∧ c ≤ maxLen ∧ (0 < c → ∃ b o, A = some ⟨b, o, none⟩) := by
  have hu : ∃ fs, Try.prog.underlying 48 = some (.struct fs) ∧ fs.size = 3 ∧ (fs[0]?.map (·.type) = some 4) ∧ (fs[1]?.map (·.type) = some 46) ∧ (fs[2]?.map (·.type) = some 35) ∧ oneCellFields Try.prog fs = true ∧ Try.prog.cellsOf 48 = fs.size :=
    ⟨_, Try.underlying48, by kernel_rfl, by kernel_rfl, by kernel_rfl, by kernel_rfl, by kernel_rfl, by kernel_rfl⟩
  obtain ⟨fs, he, hs, t0, t1, t2, hone, hC⟩ := hu
  rcases open_slice_fields Try.underlying22 he hone hC h with h0 | ⟨a, len, cap, m, hcs, hl, hm, hmm, hf⟩
  · simp only [List.cons.injEq, and_true] at h0
    subst h0
    exact ⟨[], ⟨none, 0, rfl, fun h => absurd h (by simp)⟩, fun c hc => by simp at hc, by simp [maxLen], none, 0, 0, rfl, Nat.le_refl _, Nat.zero_le _, fun h => absurd h (by omega)⟩
  · simp only [List.cons.injEq, and_true] at hcs
    subst hcs
    have hlm : len ≤ m := by rw [hmm]; split <;> omega
    rw [hs] at hf
    have hmc : m = cap := by rw [hmm]; rfl
    have hab : 0 < cap → ∃ b o, a = ⟨b, o, none⟩ := by
      intro h0
      obtain ⟨f0, q0, r0⟩ := Option.map_eq_some_iff.1 t0
      obtain ⟨v0, y0, n0, c0, d0⟩ := hf 0 (by omega) 0 f0 q0
      exact spot_none (by simpa [Addr.add] using c0)
    have each : ∀ i, i < len → ∃ c, (Ac.OkV c) ∧ ∃ b o, a = ⟨b, o, none⟩ ∧ AcAt W b (o + i * 3) c := by
      intro i hi
      have hfi := hf i (by omega)
      obtain ⟨f0, q0, r0⟩ := Option.map_eq_some_iff.1 t0
      obtain ⟨f1, q1, r1⟩ := Option.map_eq_some_iff.1 t1
      obtain ⟨f2, q2, r2⟩ := Option.map_eq_some_iff.1 t2
      obtain ⟨v0, y0, n0, c0, d0⟩ := hfi 0 f0 q0
      obtain ⟨v1, y1, n1, c1, d1⟩ := hfi 1 f1 q1
      obtain ⟨v2, y2, n2, c2, d2⟩ := hfi 2 f2 q2
      rw [r0] at d0; rw [r1] at d1; rw [r2] at d2
      obtain ⟨b, o, ha⟩ := hab (by omega)
      subst ha
      rw [add_plain] at c0 c1 c2
      obtain ⟨b0, e0, _⟩ := DataW.trod_bool Try.underlying4 d0
      obtain ⟨i2, e2, _, w2⟩ := DataW.trod_int Try.underlying35 d2
      simp only [List.cons.injEq, and_true] at e0 e2
      subst e0 e2
      have hp1 : ∃ xs : List Int, (∀ x ∈ xs, 0 ≤ x ∧ x ≤ 18446744073709551615) ∧ RdU W v1 xs := by
        rcases open_ints Try.underlying46 Try.underlying35 (by kernel_rfl) d1 with ⟨hcs, _⟩ | ⟨x, l, c, zs, hcs, _, hl, hm, hz, _, hcell, hwz⟩
        · simp only [List.cons.injEq, and_true] at hcs
          subst hcs
          exact ⟨[], fun x hx => by simp at hx, RdU.nil _ _ _⟩
        · simp only [List.cons.injEq, and_true] at hcs
          subst hcs
          obtain ⟨xs, _, _, h3, h4⟩ := RdU.of_row (w := W) (a := some x) (len := l) (cap := c) (zs := zs) (.inr ⟨_, rfl, hl, hm, by simpa using hz, hcell, hwz⟩)
          exact ⟨xs, h3, h4⟩
      obtain ⟨xs1, hx1, hv1⟩ := hp1
      have ho1 : ∀ y ∈ xs1.map Int.toNat, y < 2 ^ 64 := fun y hy => by
        simp only [List.mem_map] at hy
        obtain ⟨z, hz, rfl⟩ := hy
        have := hx1 z hz
        omega
      have g2 := bounds_u64 w2
      refine ⟨(⟨b0, xs1.map Int.toNat, i2.toNat⟩ : Ac), ⟨ho1, by show i2.toNat < 2 ^ 64; omega⟩, b, o, rfl, ?_⟩
      have z0 : W.cell? ⟨b, o + i * 3, none⟩ = some (.bool b0) := by simpa [Nat.add_assoc] using c0
      have z1 : W.cell? ⟨b, o + i * 3 + 1, none⟩ = some v1 := by simpa [Nat.add_assoc] using c1
      have y1' : RdU W v1 (pti (xs1.map Int.toNat)) := by rw [pti_toNat hx1]; exact hv1
      have z2 : W.cell? ⟨b, o + i * 3 + 2, none⟩ = some (.int .u64 (i2.toNat : Nat)) := by rw [show ((i2.toNat : Nat) : Int) = i2 by omega]; simpa [Nat.add_assoc] using c2
      exact ⟨v1, z0, by simpa [Nat.add_assoc] using z1, y1', by simpa [Nat.add_assoc] using z2⟩
    obtain ⟨f, hF⟩ := choose_lt each
    refine ⟨(List.range len).map f, ⟨some a, cap, by simp, fun hp => ?_⟩, ?_, by simp; omega, some a, len, cap, rfl, hl, hm, fun h => ?_⟩
    · have hp' : 0 < len := by simpa using hp
      obtain ⟨_, b, o, ha, _⟩ := hF 0 hp'
      refine ⟨b, o, by rw [ha], fun j hj => ?_⟩
      obtain ⟨_, b', o', ha', hc⟩ := hF j (by simpa using hj)
      rw [ha] at ha'
      injection ha' with e1 e2
      subst e1 e2
      simpa using hc
    · intro c hc
      simp only [List.mem_map, List.mem_range] at hc
      obtain ⟨j, hj, rfl⟩ := hc
      exact (hF j hj).1
    · obtain ⟨b, o, ha⟩ := hab h
      exact ⟨b, o, by rw [ha]⟩
end Go.Proofs.Ytjokcagggmjgmaa
/-! LawDigParts -/
namespace Go.Proofs.Ytjokcagggmjgmaa
open Go.RowKit
set_option linter.unusedVariables false
set_option linter.unusedSimpArgs false
set_option maxRecDepth 100000

theorem heavyA_okB {l : List Ac} {most : Nat} (h : heavyL l most = false) : l.length ≤ most ∧ ∀ a ∈ l, a.p.length ≤ 40 := by
  unfold heavyL at h
  rw [Bool.or_eq_false_iff] at h
  refine ⟨by have := of_decide_eq_false h.1; omega, fun a ha => ?_⟩
  have := List.any_eq_false.1 h.2 a ha
  simp at this
  omega
set_option maxHeartbeats 8000000 in
theorem digestParts_any (w : World) (k o : Int) (l m : List Ac) (vl vm : Value) (hl : RdA w vl l) (hm : RdA w vm m) (hlo : ∀ a ∈ l, a.OkV) (hmo : ∀ a ∈ m, a.OkV) (hll : l.length ≤ maxLen) (hml : m.length ≤ maxLen) :
    Calls Try.prog 3 #[.int .i64 k, .int .i64 o, vl, vm] w fun e w' => e = .returned (.bool true) ∧ Below w.heap.size w w' := by
  have HAW := Lib.hid (fun w' => awakeD_any w')
  have HH1 := Lib.hid (fun w' (hb : Below w.heap.size w w') => heavyA_any w' l vl 24 (hl.below hb) hll)
  have HH2 := Lib.hid (fun w' (hb : Below w.heap.size w w') => heavyA_any w' m vm 24 (hm.below hb) hml)
  have HV := Lib.hid (And.intro hl (And.intro hm (And.intro hlo hmo)))
  obtain ⟨A1, q1, rfl, z1⟩ := hl
  obtain ⟨A2, q2, rfl, z2⟩ := hm
  clear z1 z2 hlo hmo hll hml
  obtain ⟨h1, hh1⟩ : ∃ b, heavyL l 24 = b := ⟨_, rfl⟩
  obtain ⟨h2, hh2⟩ : ∃ b, heavyL m 24 = b := ⟨_, rfl⟩
  rw [hh1] at HH1
  rw [hh2] at HH2
  have HHH := Lib.hid (And.intro hh1 hh2)
  clear hh1 hh2
  cases h1 with
  | true =>
    go_enter Try.func3, Try.ntmps3
    go_wp2_with fail
    refine (HAW.out _).mono ?_
    rintro e w1 ⟨rfl, hb1⟩
    have HB := Lib.hid hb1
    clear hb1
    go_wp2_with fail
    refine (HH1.out _ HB.out).mono ?_
    rintro e w2 ⟨rfl, hw⟩
    obtain rfl := hw.symm
    clear hw
    go_wp2_with fail
    go_ret
    exact ⟨rfl, HB.out⟩
  | false =>
  cases h2 with
  | true =>
    go_enter Try.func3, Try.ntmps3
    go_wp2_with fail
    refine (HAW.out _).mono ?_
    rintro e w1 ⟨rfl, hb1⟩
    have HB := Lib.hid hb1
    clear hb1
    go_wp2_with fail
    refine (HH1.out _ HB.out).mono ?_
    rintro e w2 ⟨rfl, hw⟩
    obtain rfl := hw.symm
    clear hw
    go_wp2_with fail
    refine (HH2.out _ HB.out).mono ?_
    rintro e w2 ⟨rfl, hw⟩
    obtain rfl := hw.symm
    clear hw
    go_wp2_with fail
    go_ret
    exact ⟨rfl, HB.out⟩
  | false =>
    by_cases g1 : k < 1
    · go_enter Try.func3, Try.ntmps3
      go_wp2_with fail
      refine (HAW.out _).mono ?_
      rintro e w1 ⟨rfl, hb1⟩
      have HB := Lib.hid hb1
      clear hb1
      go_wp2_with fail
      refine (HH1.out _ HB.out).mono ?_
      rintro e w2 ⟨rfl, hw⟩
      obtain rfl := hw.symm
      clear hw
      go_wp2_with fail
      refine (HH2.out _ HB.out).mono ?_
      rintro e w2 ⟨rfl, hw⟩
      obtain rfl := hw.symm
      clear hw
      go_wp2_with fail
      go_ret
      exact ⟨rfl, HB.out⟩
    · by_cases g2 : k > 7
      · go_enter Try.func3, Try.ntmps3
        go_wp2_with fail
        refine (HAW.out _).mono ?_
        rintro e w1 ⟨rfl, hb1⟩
        have HB := Lib.hid hb1
        clear hb1
        go_wp2_with fail
        refine (HH1.out _ HB.out).mono ?_
        rintro e w2 ⟨rfl, hw⟩
        obtain rfl := hw.symm
        clear hw
        go_wp2_with fail
        refine (HH2.out _ HB.out).mono ?_
        rintro e w2 ⟨rfl, hw⟩
        obtain rfl := hw.symm
        clear hw
        go_wp2_with fail
        go_ret
        exact ⟨rfl, HB.out⟩
      · by_cases g3 : o < 1
        · go_enter Try.func3, Try.ntmps3
          go_wp2_with fail
          refine (HAW.out _).mono ?_
          rintro e w1 ⟨rfl, hb1⟩
          have HB := Lib.hid hb1
          clear hb1
          go_wp2_with fail
          refine (HH1.out _ HB.out).mono ?_
          rintro e w2 ⟨rfl, hw⟩
          obtain rfl := hw.symm
          clear hw
          go_wp2_with fail
          refine (HH2.out _ HB.out).mono ?_
          rintro e w2 ⟨rfl, hw⟩
          obtain rfl := hw.symm
          clear hw
          go_wp2_with fail
          go_ret
          exact ⟨rfl, HB.out⟩
        · by_cases g4 : o > 16
          · go_enter Try.func3, Try.ntmps3
            go_wp2_with fail
            refine (HAW.out _).mono ?_
            rintro e w1 ⟨rfl, hb1⟩
            have HB := Lib.hid hb1
            clear hb1
            go_wp2_with fail
            refine (HH1.out _ HB.out).mono ?_
            rintro e w2 ⟨rfl, hw⟩
            obtain rfl := hw.symm
            clear hw
            go_wp2_with fail
            refine (HH2.out _ HB.out).mono ?_
            rintro e w2 ⟨rfl, hw⟩
            obtain rfl := hw.symm
            clear hw
            go_wp2_with fail
            go_ret
            exact ⟨rfl, HB.out⟩
          · obtain ⟨n, rfl⟩ : ∃ n : Nat, k = n := ⟨k.toNat, by omega⟩
            obtain ⟨p, rfl⟩ : ∃ p : Nat, o = p := ⟨o.toNat, by omega⟩
            have o1 := heavyA_okB HHH.out.1
            have o2 := heavyA_okB HHH.out.2
            have n1 : 1 ≤ n := by omega
            have n7 : n ≤ 7 := by omega
            have l24 : l.length ≤ 24 := o1.1
            have m24 : m.length ≤ 24 := o2.1
            have ok1 : ∀ a ∈ l, a.Ok := fun a ha => ⟨o1.2 a ha, (HV.out.2.2.1 a ha).1, (HV.out.2.2.1 a ha).2⟩
            have ok2 : ∀ a ∈ m, a.Ok := fun a ha => ⟨o2.2 a ha, (HV.out.2.2.2 a ha).1, (HV.out.2.2.2 a ha).2⟩
            have HTW := Lib.hid (fun W (hb : Below w.heap.size w W) => two_any W n l m _ _ n1 (by omega) (HV.out.1.below hb) (HV.out.2.1.below hb) ok1 ok2 (by omega))
            have hin : EtS n (playL n [] l) := EtS.play ⟨Et.nil n, by omega, by simp⟩ _ ok1 (by simp; omega)
            have hinl : (playL n [] l).length ≤ 24 := by have := play_len n [] l; simp at this; omega
            have hon : EtS n (playL n (playL n [] l) m) := EtS.play hin _ ok2 (by omega)
            generalize playL n (playL n [] l) m = on at *
            generalize playL n [] l = in_ at *
            have HES := Lib.hid (And.intro hin hon)
            have HKN := Lib.hid (And.intro n1 n7)
            have HNW := Lib.hid (fun W => tnew_any W p (by omega) (by omega))
            have HPT := Lib.hid (fun W a b (ha : TrR W a n in_) (hb : TrR W b n on) => dpart_any W a b n in_ on ha hb)
            by_cases hpn : n = p
            · subst hpn
              have HPX := Lib.hid (fun W a b (ha : TrR W a n in_) (hb : TrR W b n []) => dpart_any W a b n in_ [] ha hb)
              clear o1 o2 n1 n7 l24 m24 ok1 ok2 hin hinl hon
              go_enter Try.func3, Try.ntmps3
              go_wp2_with fail
              refine (HAW.out _).mono ?_
              rintro e w1 ⟨rfl, hb1⟩
              have HB := Lib.hid hb1
              clear hb1
              go_wp2_with fail
              refine (HH1.out _ HB.out).mono ?_
              rintro e w2 ⟨rfl, hw⟩
              obtain rfl := hw.symm
              clear hw
              go_wp2_with fail
              refine (HH2.out _ HB.out).mono ?_
              rintro e w2 ⟨rfl, hw⟩
              obtain rfl := hw.symm
              clear hw
              go_wp2_with fail
              refine (HTW.out _ HB.out).mono ?_
              rintro e w2 ⟨a, b, va, vb, rfl, ha, hb, hva, hvb, hb2⟩
              have HT := Lib.hid (And.intro ha (And.intro hb (And.intro hva hvb)))
              have HB2 := Lib.hid (HB.out.trans (hb2.mono HB.out.size))
              have htna : in_ = [] ∨ Tn n in_ := by obtain ⟨r, _, h⟩ := ha.c1; exact h.tn
              have htnb : on = [] ∨ Tn n on := by obtain ⟨r, _, h⟩ := hb.c1; exact h.tn
              have HN1 := Lib.hid (fun W v (hv : RdE W v in_) => rnode_l W n in_ v htna (by have := HKN.out; omega) hv HES.out.1)
              have HN2 := Lib.hid (fun W v (hv : RdE W v on) => rnode_l W n on v htnb (by have := HKN.out; omega) hv HES.out.2)
              have HRP := Lib.hid (fun W v u (hv : RdE W v in_) (hu : RdE W u on) => rpart_n (lev in_) n HKN.out.1 HKN.out.2 W in_ on v u (Nat.le_refl _) hv hu HES.out.1 HES.out.2 htna htnb)
              obtain ⟨A4, q4, rfl, _⟩ := hva
              obtain ⟨A6, q6, rfl, _⟩ := hvb
              clear ha hb hb2 htna htnb
              go_wp2_with fail
              refine (HNW.out _).mono ?_
              rintro e w3 ⟨x, rfl, hx, hb3⟩
              have HB3 := Lib.hid (HB2.out.trans (hb3.mono HB2.out.size))
              have HT3 := Lib.hid (And.intro (HT.out.1.bel hb3) (And.intro (HT.out.2.1.bel hb3) (And.intro (HT.out.2.2.1.below hb3) (HT.out.2.2.2.below hb3))))
              have HX3 := Lib.hid hx
              clear hx hb3
              go_wp2_with fail
              refine (HPX.out w3 a x HT3.out.1 HX3.out).mono ?_
              rintro e w4 ⟨hb4, hcase⟩
              have HG4 := Lib.hid (show Below w3.heap.size w3 w4 from hb4)
              clear hb4
              rcases hcase with ⟨_, rfl⟩ | ⟨v4, ws4, _, rfl, hown4, _⟩
              · go_wp2_with fail
                refine (HPT.out w4 a b (HT3.out.1.bel HG4.out) (HT3.out.2.1.bel HG4.out)).mono ?_
                rintro e w5 ⟨hb5, hcase⟩
                have HG5 := Lib.hid (HG4.out.trans (hb5.mono HG4.out.size))
                clear hb5
                rcases hcase with ⟨heq, rfl⟩ | ⟨v5, ws, hne, rfl, hown, hpr⟩
                · rw [heq] at HN1
                  obtain ⟨dq, hdq⟩ : ∃ d, digL on = d := ⟨_, rfl⟩
                  rw [hdq] at HN1 HN2
                  have hde1 : (dq != dq) = false := by simp
                  clear heq hdq
                  go_wp2_with fail
                  refine (HN1.out w5 _ (HT3.out.2.2.1.below HG5.out)).mono ?_
                  rintro e w6 ⟨rfl, hb6⟩
                  have HG6 := Lib.hid (HG5.out.trans (hb6.mono HG5.out.size))
                  clear hb6
                  go_wp2_with fail
                  refine (HN2.out w6 _ (HT3.out.2.2.2.below HG6.out)).mono ?_
                  rintro e w7 ⟨rfl, hb7⟩
                  have HG7 := Lib.hid (HG6.out.trans (hb7.mono HG6.out.size))
                  clear hb7
                  go_wp2_with fail
                  go_ret
                  exact ⟨rfl, HB3.out.trans (HG7.out.mono HB3.out.size)⟩
                · have HPR := Lib.hid hpr
                  have HOW := Lib.hid (intV_rd hown)
                  obtain ⟨A5, n5, c5, rfl⟩ : ∃ A n c, v5 = .slice A n c := let ⟨A, c, h⟩ := OwnV.shape hown; ⟨A, _, c, h⟩
                  obtain ⟨dp, hdp⟩ : ∃ d, digL in_ = d := ⟨_, rfl⟩
                  obtain ⟨dq, hdq⟩ : ∃ d, digL on = d := ⟨_, rfl⟩
                  rw [hdp, hdq] at hne
                  rw [hdp] at HN1
                  rw [hdq] at HN2
                  have HDD := Lib.hid (And.intro hdp hdq)
                  have hde1 : (dp != dq) = true := by simp [hne]
                  clear hpr hown hdp hdq
                  go_wp2_with fail
                  refine (HN1.out w5 _ (HT3.out.2.2.1.below HG5.out)).mono ?_
                  rintro e w6 ⟨rfl, hb6⟩
                  have HG6 := Lib.hid (HG5.out.trans (hb6.mono HG5.out.size))
                  have HG56 := Lib.hid (show Below w5.heap.size w5 w6 from hb6)
                  clear hb6
                  go_wp2_with fail
                  refine (HN2.out w6 _ (HT3.out.2.2.2.below HG6.out)).mono ?_
                  rintro e w7 ⟨rfl, hb7⟩
                  have HG7 := Lib.hid (HG6.out.trans (hb7.mono HG6.out.size))
                  have HG57 := Lib.hid (HG56.out.trans (hb7.mono HG56.out.size))
                  clear hb7
                  go_wp2_with fail
                  refine (HRP.out w7 _ _ (HT3.out.2.2.1.below HG7.out) (HT3.out.2.2.2.below HG7.out)).mono ?_
                  rintro e w8 ⟨v8, ws8, rfl, hown8, hpr8, hl8, hb8⟩
                  have hww : ws8 = ws := hpr8.det HPR.out
                  subst hww
                  have HG8 := Lib.hid (HG7.out.trans (hb8.mono HG7.out.size))
                  have HS8 := Lib.hid (sameInts_eq _ _ _ w8 (HOW.out.below (HG57.out.trans (hb8.mono HG57.out.size))) (intV_rd hown8) (by rw [List.length_map]; have := lev_le in_; omega))
                  obtain ⟨A8, n8, c8, rfl⟩ : ∃ A n c, v8 = .slice A n c := let ⟨A, c, h⟩ := OwnV.shape hown8; ⟨A, _, c, h⟩
                  clear hown8 hpr8 hl8 hb8
                  go_wp2_with fail
                  refine (HS8.out).mono ?_
                  rintro e w9 ⟨rfl, hb9⟩
                  have HG9 := Lib.hid (HG8.out.trans (hb9.mono HG8.out.size))
                  clear hb9
                  go_wp2_with fail
                  go_ret
                  exact ⟨rfl, HB3.out.trans (HG9.out.mono HB3.out.size)⟩
              · obtain ⟨A9, c9, rfl⟩ := OwnV.shape hown4
                clear hown4
                go_wp2_with fail
                refine (HPT.out w4 a b (HT3.out.1.bel HG4.out) (HT3.out.2.1.bel HG4.out)).mono ?_
                rintro e w5 ⟨hb5, hcase⟩
                have HG5 := Lib.hid (HG4.out.trans (hb5.mono HG4.out.size))
                clear hb5
                rcases hcase with ⟨heq, rfl⟩ | ⟨v5, ws, hne, rfl, hown, hpr⟩
                · rw [heq] at HN1
                  obtain ⟨dq, hdq⟩ : ∃ d, digL on = d := ⟨_, rfl⟩
                  rw [hdq] at HN1 HN2
                  have hde1 : (dq != dq) = false := by simp
                  clear heq hdq
                  go_wp2_with fail
                  refine (HN1.out w5 _ (HT3.out.2.2.1.below HG5.out)).mono ?_
                  rintro e w6 ⟨rfl, hb6⟩
                  have HG6 := Lib.hid (HG5.out.trans (hb6.mono HG5.out.size))
                  clear hb6
                  go_wp2_with fail
                  refine (HN2.out w6 _ (HT3.out.2.2.2.below HG6.out)).mono ?_
                  rintro e w7 ⟨rfl, hb7⟩
                  have HG7 := Lib.hid (HG6.out.trans (hb7.mono HG6.out.size))
                  clear hb7
                  go_wp2_with fail
                  go_ret
                  exact ⟨rfl, HB3.out.trans (HG7.out.mono HB3.out.size)⟩
                · have HPR := Lib.hid hpr
                  have HOW := Lib.hid (intV_rd hown)
                  obtain ⟨A5, n5, c5, rfl⟩ : ∃ A n c, v5 = .slice A n c := let ⟨A, c, h⟩ := OwnV.shape hown; ⟨A, _, c, h⟩
                  obtain ⟨dp, hdp⟩ : ∃ d, digL in_ = d := ⟨_, rfl⟩
                  obtain ⟨dq, hdq⟩ : ∃ d, digL on = d := ⟨_, rfl⟩
                  rw [hdp, hdq] at hne
                  rw [hdp] at HN1
                  rw [hdq] at HN2
                  have HDD := Lib.hid (And.intro hdp hdq)
                  have hde1 : (dp != dq) = true := by simp [hne]
                  clear hpr hown hdp hdq
                  go_wp2_with fail
                  refine (HN1.out w5 _ (HT3.out.2.2.1.below HG5.out)).mono ?_
                  rintro e w6 ⟨rfl, hb6⟩
                  have HG6 := Lib.hid (HG5.out.trans (hb6.mono HG5.out.size))
                  have HG56 := Lib.hid (show Below w5.heap.size w5 w6 from hb6)
                  clear hb6
                  go_wp2_with fail
                  refine (HN2.out w6 _ (HT3.out.2.2.2.below HG6.out)).mono ?_
                  rintro e w7 ⟨rfl, hb7⟩
                  have HG7 := Lib.hid (HG6.out.trans (hb7.mono HG6.out.size))
                  have HG57 := Lib.hid (HG56.out.trans (hb7.mono HG56.out.size))
                  clear hb7
                  go_wp2_with fail
                  refine (HRP.out w7 _ _ (HT3.out.2.2.1.below HG7.out) (HT3.out.2.2.2.below HG7.out)).mono ?_
                  rintro e w8 ⟨v8, ws8, rfl, hown8, hpr8, hl8, hb8⟩
                  have hww : ws8 = ws := hpr8.det HPR.out
                  subst hww
                  have HG8 := Lib.hid (HG7.out.trans (hb8.mono HG7.out.size))
                  have HS8 := Lib.hid (sameInts_eq _ _ _ w8 (HOW.out.below (HG57.out.trans (hb8.mono HG57.out.size))) (intV_rd hown8) (by rw [List.length_map]; have := lev_le in_; omega))
                  obtain ⟨A8, n8, c8, rfl⟩ : ∃ A n c, v8 = .slice A n c := let ⟨A, c, h⟩ := OwnV.shape hown8; ⟨A, _, c, h⟩
                  clear hown8 hpr8 hl8 hb8
                  go_wp2_with fail
                  refine (HS8.out).mono ?_
                  rintro e w9 ⟨rfl, hb9⟩
                  have HG9 := Lib.hid (HG8.out.trans (hb9.mono HG8.out.size))
                  clear hb9
                  go_wp2_with fail
                  go_ret
                  exact ⟨rfl, HB3.out.trans (HG9.out.mono HB3.out.size)⟩
            · have HPX := Lib.hid (fun W a b (ha : TrR W a n in_) (hb : TrR W b p []) => dpart_dim W a b n p in_ [] ha hb hpn)
              have e1 : ((p : Int) != (n : Int)) = true := by simp; omega
              have e2 : ¬ (p : Int) = (n : Int) := by omega
              clear o1 o2 n1 n7 l24 m24 ok1 ok2 hin hinl hon
              go_enter Try.func3, Try.ntmps3
              go_wp2_with fail
              refine (HAW.out _).mono ?_
              rintro e w1 ⟨rfl, hb1⟩
              have HB := Lib.hid hb1
              clear hb1
              go_wp2_with fail
              refine (HH1.out _ HB.out).mono ?_
              rintro e w2 ⟨rfl, hw⟩
              obtain rfl := hw.symm
              clear hw
              go_wp2_with fail
              refine (HH2.out _ HB.out).mono ?_
              rintro e w2 ⟨rfl, hw⟩
              obtain rfl := hw.symm
              clear hw
              go_wp2_with fail
              refine (HTW.out _ HB.out).mono ?_
              rintro e w2 ⟨a, b, va, vb, rfl, ha, hb, hva, hvb, hb2⟩
              have HT := Lib.hid (And.intro ha (And.intro hb (And.intro hva hvb)))
              have HB2 := Lib.hid (HB.out.trans (hb2.mono HB.out.size))
              have htna : in_ = [] ∨ Tn n in_ := by obtain ⟨r, _, h⟩ := ha.c1; exact h.tn
              have htnb : on = [] ∨ Tn n on := by obtain ⟨r, _, h⟩ := hb.c1; exact h.tn
              have HN1 := Lib.hid (fun W v (hv : RdE W v in_) => rnode_l W n in_ v htna (by have := HKN.out; omega) hv HES.out.1)
              have HN2 := Lib.hid (fun W v (hv : RdE W v on) => rnode_l W n on v htnb (by have := HKN.out; omega) hv HES.out.2)
              have HRP := Lib.hid (fun W v u (hv : RdE W v in_) (hu : RdE W u on) => rpart_n (lev in_) n HKN.out.1 HKN.out.2 W in_ on v u (Nat.le_refl _) hv hu HES.out.1 HES.out.2 htna htnb)
              obtain ⟨A4, q4, rfl, _⟩ := hva
              obtain ⟨A6, q6, rfl, _⟩ := hvb
              clear ha hb hb2 htna htnb
              go_wp2_with fail
              refine (HNW.out _).mono ?_
              rintro e w3 ⟨x, rfl, hx, hb3⟩
              have HB3 := Lib.hid (HB2.out.trans (hb3.mono HB2.out.size))
              have HT3 := Lib.hid (And.intro (HT.out.1.bel hb3) (And.intro (HT.out.2.1.bel hb3) (And.intro (HT.out.2.2.1.below hb3) (HT.out.2.2.2.below hb3))))
              have HX3 := Lib.hid hx
              clear hx hb3
              go_wp2_with fail
              refine (HPX.out w3 a x HT3.out.1 HX3.out).mono ?_
              rintro e w4 ⟨rfl, hb4⟩
              have HG4 := Lib.hid (show Below w3.heap.size w3 w4 from hb4)
              clear hb4
              go_wp2_with fail
              refine (HPT.out w4 a b (HT3.out.1.bel HG4.out) (HT3.out.2.1.bel HG4.out)).mono ?_
              rintro e w5 ⟨hb5, hcase⟩
              have HG5 := Lib.hid (HG4.out.trans (hb5.mono HG4.out.size))
              clear hb5
              rcases hcase with ⟨heq, rfl⟩ | ⟨v5, ws, hne, rfl, hown, hpr⟩
              · rw [heq] at HN1
                obtain ⟨dq, hdq⟩ : ∃ d, digL on = d := ⟨_, rfl⟩
                rw [hdq] at HN1 HN2
                have hde1 : (dq != dq) = false := by simp
                clear heq hdq
                go_wp2_with fail
                refine (HN1.out w5 _ (HT3.out.2.2.1.below HG5.out)).mono ?_
                rintro e w6 ⟨rfl, hb6⟩
                have HG6 := Lib.hid (HG5.out.trans (hb6.mono HG5.out.size))
                clear hb6
                go_wp2_with fail
                refine (HN2.out w6 _ (HT3.out.2.2.2.below HG6.out)).mono ?_
                rintro e w7 ⟨rfl, hb7⟩
                have HG7 := Lib.hid (HG6.out.trans (hb7.mono HG6.out.size))
                clear hb7
                go_wp2_with fail
                go_ret
                exact ⟨rfl, HB3.out.trans (HG7.out.mono HB3.out.size)⟩
              · have HPR := Lib.hid hpr
                have HOW := Lib.hid (intV_rd hown)
                obtain ⟨A5, n5, c5, rfl⟩ : ∃ A n c, v5 = .slice A n c := let ⟨A, c, h⟩ := OwnV.shape hown; ⟨A, _, c, h⟩
                obtain ⟨dp, hdp⟩ : ∃ d, digL in_ = d := ⟨_, rfl⟩
                obtain ⟨dq, hdq⟩ : ∃ d, digL on = d := ⟨_, rfl⟩
                rw [hdp, hdq] at hne
                rw [hdp] at HN1
                rw [hdq] at HN2
                have HDD := Lib.hid (And.intro hdp hdq)
                have hde1 : (dp != dq) = true := by simp [hne]
                clear hpr hown hdp hdq
                go_wp2_with fail
                refine (HN1.out w5 _ (HT3.out.2.2.1.below HG5.out)).mono ?_
                rintro e w6 ⟨rfl, hb6⟩
                have HG6 := Lib.hid (HG5.out.trans (hb6.mono HG5.out.size))
                have HG56 := Lib.hid (show Below w5.heap.size w5 w6 from hb6)
                clear hb6
                go_wp2_with fail
                refine (HN2.out w6 _ (HT3.out.2.2.2.below HG6.out)).mono ?_
                rintro e w7 ⟨rfl, hb7⟩
                have HG7 := Lib.hid (HG6.out.trans (hb7.mono HG6.out.size))
                have HG57 := Lib.hid (HG56.out.trans (hb7.mono HG56.out.size))
                clear hb7
                go_wp2_with fail
                refine (HRP.out w7 _ _ (HT3.out.2.2.1.below HG7.out) (HT3.out.2.2.2.below HG7.out)).mono ?_
                rintro e w8 ⟨v8, ws8, rfl, hown8, hpr8, hl8, hb8⟩
                have hww : ws8 = ws := hpr8.det HPR.out
                subst hww
                have HG8 := Lib.hid (HG7.out.trans (hb8.mono HG7.out.size))
                have HS8 := Lib.hid (sameInts_eq _ _ _ w8 (HOW.out.below (HG57.out.trans (hb8.mono HG57.out.size))) (intV_rd hown8) (by rw [List.length_map]; have := lev_le in_; omega))
                obtain ⟨A8, n8, c8, rfl⟩ : ∃ A n c, v8 = .slice A n c := let ⟨A, c, h⟩ := OwnV.shape hown8; ⟨A, _, c, h⟩
                clear hown8 hpr8 hl8 hb8
                go_wp2_with fail
                refine (HS8.out).mono ?_
                rintro e w9 ⟨rfl, hb9⟩
                have HG9 := Lib.hid (HG8.out.trans (hb9.mono HG8.out.size))
                clear hb9
                go_wp2_with fail
                go_ret
                exact ⟨rfl, HB3.out.trans (HG9.out.mono HB3.out.size)⟩
end Go.Proofs.Ytjokcagggmjgmaa
