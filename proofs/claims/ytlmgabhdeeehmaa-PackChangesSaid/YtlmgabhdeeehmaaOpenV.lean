/-
  An argument that is a slice of changes, with the bounds of its values.
-/
import Derived.Test.YtlmgabhdeeehmaaOpenC
import Derived.Test.YtlmgabhdeeehmaaPkC
namespace Go.Proofs.Ytlmgabhdeeehmaa
open Go.RowKit Go.ChangeShapes Go.WideShapes Go.Deep
set_option linter.unusedVariables false

theorem open_changesV {H : Type} {enc : TypeId × Value → H} {W : World} {base : Nat} {held : Bool} {v : Value} {x : DataW H × List MemPlace} {fuel : Nat}
    (h : DataW.trod enc Try.prog W base (fun _ => true) held fuel 62 [v] = some x) :
    ∃ l : List Ch, RdC W v l ∧ (OkC l ∧ OkV l) ∧ l.length ≤ maxLen ∧ ∃ A n c, v = .slice A n c ∧ n ≤ c ∧ c ≤ maxLen ∧ (0 < c → ∃ b o, A = some ⟨b, o, none⟩) := by
  have hu : ∃ fs, Try.prog.underlying 114 = some (.struct fs) ∧ fs.size = 5 ∧ (fs[0]?.map (·.type) = some 22) ∧ (fs[1]?.map (·.type) = some 4) ∧ (fs[2]?.map (·.type) = some 4) ∧ (fs[3]?.map (·.type) = some 32) ∧ (fs[4]?.map (·.type) = some 32) ∧ oneCellFields Try.prog fs = true ∧ Try.prog.cellsOf 114 = fs.size :=
    ⟨_, Try.underlying114, by kernel_rfl, by kernel_rfl, by kernel_rfl, by kernel_rfl, by kernel_rfl, by kernel_rfl, by kernel_rfl, by kernel_rfl⟩
  obtain ⟨fs, he, hs, t0, t1, t2, t3, t4, hone, hC⟩ := hu
  rcases open_slice_fields Try.underlying62 he hone hC h with h0 | ⟨a, len, cap, m, hcs, hl, hm, hmm, hf⟩
  · simp only [List.cons.injEq, and_true] at h0
    subst h0
    exact ⟨[], ⟨none, 0, rfl, fun h => absurd h (by simp)⟩, ⟨fun c hc => by simp at hc, fun c hc => by simp at hc⟩, by simp [maxLen], none, 0, 0, rfl, Nat.le_refl _, Nat.zero_le _, fun h => absurd h (by omega)⟩
  · simp only [List.cons.injEq, and_true] at hcs
    subst hcs
    have hlm : len ≤ m := by rw [hmm]; split <;> omega
    rw [hs] at hf
    have hmc : m = cap := by rw [hmm]; rfl
    have hab : 0 < cap → ∃ b o, a = ⟨b, o, none⟩ := by
      intro h0
      obtain ⟨f0, q0, r0⟩ := Option.map_eq_some_iff.1 t0
      obtain ⟨v0, y0, n0, c0, d0⟩ := hf 0 (by omega) 0 f0 q0
      exact spot_none (by simpa [Addr.add] using c0)
    have each : ∀ i, i < len → ∃ c : Ch, ((∀ x ∈ c.p, x < 2 ^ 64) ∧ c.old < 2 ^ 64 ∧ c.new < 2 ^ 64) ∧ ∃ b o, a = ⟨b, o, none⟩ ∧ ChAt W b (o + i * 5) c := by
      intro i hi
      have hfi := hf i (by omega)
      obtain ⟨f0, q0, r0⟩ := Option.map_eq_some_iff.1 t0
      obtain ⟨f1, q1, r1⟩ := Option.map_eq_some_iff.1 t1
      obtain ⟨f2, q2, r2⟩ := Option.map_eq_some_iff.1 t2
      obtain ⟨f3, q3, r3⟩ := Option.map_eq_some_iff.1 t3
      obtain ⟨f4, q4, r4⟩ := Option.map_eq_some_iff.1 t4
      obtain ⟨v0, y0, n0, c0, d0⟩ := hfi 0 f0 q0
      obtain ⟨v1, y1, n1, c1, d1⟩ := hfi 1 f1 q1
      obtain ⟨v2, y2, n2, c2, d2⟩ := hfi 2 f2 q2
      obtain ⟨v3, y3, n3, c3, d3⟩ := hfi 3 f3 q3
      obtain ⟨v4, y4, n4, c4, d4⟩ := hfi 4 f4 q4
      rw [r0] at d0; rw [r1] at d1; rw [r2] at d2; rw [r3] at d3; rw [r4] at d4
      obtain ⟨b, o, ha⟩ := hab (by omega)
      subst ha
      rw [add_plain] at c0 c1 c2 c3 c4
      obtain ⟨b1, e1, _⟩ := DataW.trod_bool Try.underlying4 d1
      obtain ⟨b2, e2, _⟩ := DataW.trod_bool Try.underlying4 d2
      obtain ⟨i3, e3, _, w3⟩ := DataW.trod_int Try.underlying32 d3
      obtain ⟨i4, e4, _, w4⟩ := DataW.trod_int Try.underlying32 d4
      simp only [List.cons.injEq, and_true] at e1 e2 e3 e4
      subst e1 e2 e3 e4
      have g3 := bounds_u64 w3
      have g4 := bounds_u64 w4
      have hp : ∃ xs : List Int, (∀ x ∈ xs, 0 ≤ x ∧ x ≤ 18446744073709551615) ∧ RdU W v0 xs := by
        rcases open_ints Try.underlying22 Try.underlying32 (by kernel_rfl) d0 with ⟨hcs, _⟩ | ⟨x, l, c, zs, hcs, _, hl, hm, hz, _, hcell, hwz⟩
        · simp only [List.cons.injEq, and_true] at hcs
          subst hcs
          exact ⟨[], fun x hx => by simp at hx, RdU.nil _ _ _⟩
        · simp only [List.cons.injEq, and_true] at hcs
          subst hcs
          obtain ⟨xs, _, _, h3, h4⟩ := RdU.of_row (w := W) (a := some x) (len := l) (cap := c) (zs := zs) (.inr ⟨_, rfl, hl, hm, by simpa using hz, hcell, hwz⟩)
          exact ⟨xs, h3, h4⟩
      obtain ⟨xs, h5, h6⟩ := hp
      refine ⟨⟨xs.map Int.toNat, b1, b2, i3.toNat, i4.toNat⟩, ⟨fun y hy => ?_, by show i3.toNat < 2 ^ 64; omega, by show i4.toNat < 2 ^ 64; omega⟩, b, o, rfl, v0, by simpa [Nat.add_assoc] using c0, by rw [pti_toNat h5]; exact h6, ?_, ?_, ?_, ?_⟩
      · simp only [List.mem_map] at hy
        obtain ⟨z, hz, rfl⟩ := hy
        have := h5 z hz
        omega
      · rw [Nat.add_assoc]; exact c1
      · rw [Nat.add_assoc]; exact c2
      · rw [Nat.add_assoc, show ((i3.toNat : Nat) : Int) = i3 by omega]; exact c3
      · rw [Nat.add_assoc, show ((i4.toNat : Nat) : Int) = i4 by omega]; exact c4
    obtain ⟨f, hF⟩ := choose_lt each
    refine ⟨(List.range len).map f, ⟨some a, cap, by simp, fun hp => ?_⟩, ?_, by simp; omega, some a, len, cap, rfl, hl, hm, fun h => ?_⟩
    · have hp' : 0 < len := by simpa using hp
      obtain ⟨_, b, o, ha, _⟩ := hF 0 hp'
      refine ⟨b, o, by rw [ha], fun j hj => ?_⟩
      obtain ⟨_, b', o', ha', hc⟩ := hF j (by simpa using hj)
      rw [ha] at ha'
      injection ha' with e1 e2
      subst e1 e2
      simpa using hc
    · constructor
      all_goals
        intro c hc
        simp only [List.mem_map, List.mem_range] at hc
        obtain ⟨i, hi, rfl⟩ := hc
        first | exact (hF i hi).1.1 | exact (hF i hi).1.2
    · obtain ⟨b, o, ha⟩ := hab h
      exact ⟨b, o, by rw [ha]⟩
end Go.Proofs.Ytlmgabhdeeehmaa
