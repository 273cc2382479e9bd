/-
  The walk of pantilelaw19.awake.
-/
import Derived.Test.YtlmgabhdeeehmaaPkW2
import Derived.Laws.IdiomStrings
namespace Go.Proofs.Ytlmgabhdeeehmaa
open Go.RowKit
set_option linter.unusedVariables false
set_option linter.unusedSimpArgs false

set_option maxRecDepth 8000 in
theorem new_one (w : World) : Calls Try.prog 67 #[.int .i64 1] w fun e w' => e = .returned (.tuple #[.pointer (some ⟨w.heap.size, 0, none⟩), .int .i64 0]) ∧ w' = w.alloc (.cells #[.int .i64 1, .pointer none] 226) := by
  go_enter Try.func67, Try.ntmps67
  go_wp2_with fail
  refine Calls.mono (P := Try.prog) (f := 120) (R := fun e w' => e = .returned (.tuple #[.pointer (some ⟨w.heap.size, 0, none⟩), .int .i64 0]) ∧ w' = w.alloc (.cells #[.int .i64 1, .pointer none] 226)) ?_ ?_
  · go_enter Try.func120, Try.ntmps120
    go_wp2_with fail
    go_ret2
    exact ⟨rfl, rfl⟩
  rintro e w' ⟨rfl, rfl⟩
  go_wp2_with fail
  go_ret2
  exact ⟨rfl, rfl⟩

theorem each_nil (f : Value) (w : World) : Calls Try.prog 188 #[.pointer none, f] w fun e w' => e = .returned (.bool true) ∧ w' = w := by
  go_enter Try.func188, Try.ntmps188
  go_wp2_with fail
  go_ret
  exact ⟨rfl, rfl⟩
theorem all_nil (w : World) : Calls Try.prog 143 #[.pointer none] w fun e w' => e = .returned (.slice none 0 0) ∧ Below w.heap.size w w' := by
  have hmf : ∀ (fn : Fn) (first cap : Array Value) (w : World), (Instr.makeFunc fn first cap).run Try.prog w = .ok (.func fn first cap) w := fun _ _ _ _ => rfl
  go_enter Try.func143, Try.ntmps143
  go_wp2_with fail
  refine (each_nil _ _).mono ?_
  rintro e w1 ⟨rfl, rfl⟩
  go_wp2_with fail
  go_ret
  exact ⟨rfl, (by repeat (first | exact Below.refl _ _ | assumption | (refine Below.drew ?_) | (refine below_drewN' ?_ _) | (refine below_alloc' ?_ _)))⟩
set_option maxRecDepth 8000 in
theorem root_any (w : World) (b : Nat) (v : Value) (k0 : w.cell? ⟨b, 1, none⟩ = some v) : Calls Try.prog 122 #[.pointer (some ⟨b, 0, none⟩)] w fun e w' => e = .returned v ∧ w' = w := by
  have hb := World.block_lt_of_cell? w _ k0
  go_enter Try.func122, Try.ntmps122
  go_wp2_with fail
  go_ret
  exact ⟨rfl, rfl⟩
set_option maxRecDepth 8000 in
theorem k_any (w : World) (b : Nat) (v : Value) (k0 : w.cell? ⟨b, 0, none⟩ = some v) : Calls Try.prog 121 #[.pointer (some ⟨b, 0, none⟩)] w fun e w' => e = .returned v ∧ w' = w := by
  have hb := World.block_lt_of_cell? w _ k0
  go_enter Try.func121, Try.ntmps121
  go_wp2_with fail
  go_ret
  exact ⟨rfl, rfl⟩
set_option maxRecDepth 8000 in
theorem sums_nil (w : World) : Calls Try.prog 187 #[.pointer none] w fun e w' => e = .returned (.agg #[.int .u64 0, .int .u64 0, .int .u64 0, .int .u64 0]) ∧ Below w.heap.size w w' := by
  go_enter Try.func187, Try.ntmps187
  go_wp2_with fail
  refine bodyPost_ret (v := .agg #[.int .u64 0, .int .u64 0, .int .u64 0, .int .u64 0]) (by simp [results, Try.results187, go_sem]) rfl ⟨rfl, (by (repeat (refine Below.setCell ?_ (by first | exact Nat.le_refl _ | (simp; done) | (simp; omega) | omega) _)); exact (by repeat (first | exact Below.refl _ _ | assumption | (refine Below.drew ?_) | (refine below_drewN' ?_ _) | (refine below_alloc' ?_ _))))⟩
set_option maxRecDepth 8000 in
theorem len_none (w : World) (b : Nat) (k0 : w.cell? ⟨b, 1, none⟩ = some (.pointer none)) : Calls Try.prog 142 #[.pointer (some ⟨b, 0, none⟩)] w fun e w' => e = .returned (.int .i64 0) ∧ Below w.heap.size w w' := by
  have hfd : ∀ w : World, (Instr.field 246 (.agg #[.int .u64 0, .int .u64 0, .int .u64 0, .int .u64 0]) 0).run Try.prog w = .ok (.int .u64 0) w := fun _ => by kernel_rfl
  go_enter Try.func142, Try.ntmps142
  go_wp2_with fail
  refine (root_any _ _ _ k0).mono ?_
  rintro e w1 ⟨rfl, rfl⟩
  go_wp2_with fail
  refine (sums_nil _).mono ?_
  rintro e w2 ⟨rfl, hb2⟩
  have HB2 := Lib.hid hb2
  clear hb2
  go_wp2_with fail
  go_ret
  exact ⟨rfl, HB2.out⟩
set_option maxRecDepth 8000 in
set_option maxHeartbeats 1000000 in
theorem tree_none (w : World) (b : Nat) (k0 : w.cell? ⟨b, 0, none⟩ = some (.int .i64 1)) (k1 : w.cell? ⟨b, 1, none⟩ = some (.pointer none)) :
    Calls Try.prog 92 #[.pointer (some ⟨b, 0, none⟩)] w fun e w' => ∃ A c, e = .returned (.tuple #[.slice A 4 c, .int .i64 0]) ∧ RdB w' (.slice A 4 c) [80, 72, 1, 0] ∧ Below w.heap.size w w' := by
  have hbl := World.block_lt_of_cell? w _ k0
  have K0 := Lib.hid k0
  have K1 := Lib.hid k1
  clear k0 k1
  go_enter Try.func92, Try.ntmps92
  go_wp2_with fail
  refine (k_any _ _ _ K0.out).mono ?_
  rintro e w1 ⟨rfl, hw⟩
  obtain rfl := hw.symm
  go_wp2_with fail
  refine (len_none _ _ K1.out).mono ?_
  rintro e w2 ⟨rfl, hb2⟩
  have HB2 := Lib.hid hb2
  clear hb2
  go_wp2_with fail
  refine (begin_any 80 72 1 0 w2 (by decide) (by decide)).mono ?_
  rintro e w3 ⟨G, rfl, hI3⟩
  rw [show hd (80 : UInt8).toNat (72 : UInt8).toNat 1 0 = [80, 72, 1, 0] by decide] at hI3
  have HI3 := Lib.hid hI3
  have HB3 := Lib.hid (HB2.out.trans (hI3.bel.mono HB2.out.size))
  clear hI3
  go_wp2_with fail
  refine (root_any _ _ _ (Below.keeps HB3.out _ _ K1.out)).mono ?_
  rintro e w4 ⟨rfl, hw⟩
  obtain rfl := hw.symm
  go_wp2_with fail
  refine (all_nil _).mono ?_
  rintro e w5 ⟨rfl, hb5⟩
  have HI5 := Lib.hid (HI3.out.below hb5)
  have HB5 := Lib.hid (HB3.out.trans (hb5.mono HB3.out.size))
  clear hb5
  go_wp2_with fail
  go_loopw [18] (fun i wr => i = .int .i64 0 ∧ wr = w5) (fun _ _ => 0)
  case atStart => exact ⟨rfl, rfl⟩
  case round =>
    obtain ⟨rfl, rfl⟩ := hrel
    obtain ⟨vb, vl, hblk, hown, hpt, hb, hG⟩ := HI5.out
    obtain ⟨q0, q1, qf⟩ := cells_of_two hblk
    have hlG := lt_of_block hblk
    have hrd := hown.rd
    obtain ⟨A, c, rfl⟩ := hown.shape
    have HR := Lib.hid hrd
    clear hblk hown hpt hb hG hrd
    go_wp2_with fail
    go_ret2
    exact ⟨A, c, rfl, HR.out, HB5.out⟩

theorem conv_str {w : World} {v : Value} (l : List UInt8) (h : RdB w v (l.map UInt8.toNat)) : (convert 73 9 v).run Try.prog w = .ok (.string ⟨l.toArray⟩) w := by
  obtain ⟨A, c, rfl, ⟨h1, h2, h3⟩, hx⟩ := h
  have hlm : (l.map UInt8.toNat).length = l.length := List.length_map ..
  rw [hlm]
  by_cases h0 : 0 < l.length
  · obtain ⟨b, o, rfl, hc⟩ := hx (by omega)
    refine run_convert_bytes_back w 73 9 5 ⟨b, o, none⟩ c l Try.underlying73 Try.underlying5 Try.underlying9 fun j hj => ?_
    rw [addr_plain, hc j (by omega)]
    simp
  · have hl : l = [] := List.eq_nil_of_length_eq_zero (by omega)
    subst hl
    cases A with
    | none => exact run_convert_bytes_string w 73 9 5 none 0 c Try.underlying73 Try.underlying5 Try.underlying9
    | some a => exact run_convert_bytes_back w 73 9 5 a c [] Try.underlying73 Try.underlying5 Try.underlying9 fun j hj => absurd hj (by simp)
set_option maxRecDepth 8000 in
theorem awake19_any (w : World) : Calls Try.prog 45 #[] w fun e w' => e = .returned (.bool true) ∧ Below w.heap.size w w' := by
  go_enter Try.func45, Try.ntmps45
  go_wp2_with fail
  refine (new_one _).mono ?_
  rintro e w1 ⟨rfl, rfl⟩
  go_wp2_with fail
  refine (tree_none _ _ ?_ ?_).mono ?_
  · simp [go_sem]
  · simp [go_sem]
  rintro e w2 ⟨A, c, rfl, hr, hb⟩
  have HB := Lib.hid ((show Below w.heap.size w _ from below_alloc' (Below.refl _ _) _).trans (hb.mono (by simp)))
  have hcv := conv_str [80, 72, 1, 0] hr
  clear hr hb
  go_wp2_with fail
  go_ret
  exact ⟨rfl, HB.out⟩
end Go.Proofs.Ytlmgabhdeeehmaa
