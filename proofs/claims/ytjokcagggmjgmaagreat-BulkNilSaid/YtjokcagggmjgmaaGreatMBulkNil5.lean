/-
  Texts that the proof of BulkNil leans on, part 5: contracts of functions, and plain laws.
-/
import Derived.Test.YtjokcagggmjgmaaGreatMBulkNil4
import Derived.Deep.Slices
import Derived.Deep.Fields
import Derived.ChangeSame
import Derived.ProofKit
import Derived.OpenShut
/-! SrtA -/
namespace Go.Proofs.YtjokcagggmjgmaaGreat
open Go.RowKit
set_option linter.unusedVariables false
set_option linter.unusedSimpArgs false
set_option maxRecDepth 100000

theorem order_any (w : World) (p q : List Nat) (u1 u2 : Value) (x y : Nat) (h1 : RdU w u1 (pti p)) (h2 : RdU w u2 (pti q)) (hl : p.length = q.length) (k1 : 1 ≤ p.length) (k16 : p.length ≤ 16) (hp : ∀ c ∈ p, c < 2 ^ 64) (hq : ∀ c ∈ q, c < 2 ^ 64) :
    Calls Tryz.prog 119 #[.agg #[u1, .int .u64 (x : Nat)], .agg #[u2, .int .u64 (y : Nat)]] w fun e w' => e = .returned (.int .i64 (Zb.cmp p q)) ∧ Below w.heap.size w w' := by
  have HC := Lib.hid (fun w' (hb : Below w.heap.size w w') => zCmp_any p q u1 u2 w' (h1.below hb) (h2.below hb) hl k1 k16 hp hq)
  obtain ⟨A1, c1, rfl, _⟩ := RdU.point h1
  obtain ⟨A2, c2, rfl, _⟩ := RdU.point h2
  clear h1 h2 hl k1 k16 hp hq
  generalize Zb.cmp p q = z at *
  go_enter Tryz.func119, Tryz.ntmps119
  go_wp2_with fail
  refine (HC.out _ (by repeat (first | exact Below.refl _ _ | (refine Below.drew ?_) | (refine below_drewN' ?_ _) | (refine below_alloc' ?_ _) | (refine Below.setCell ?_ (by first | exact Nat.le_refl _ | (simp; done) | (simp; omega)) _)))).mono ?_
  rintro e w2 ⟨rfl, hw⟩
  obtain rfl := hw.symm
  clear hw
  go_wp2_with fail
  go_ret
  exact ⟨rfl, (by repeat (first | exact Below.refl _ _ | (refine Below.drew ?_) | (refine below_drewN' ?_ _) | (refine below_alloc' ?_ _) | (refine Below.setCell ?_ (by first | exact Nat.le_refl _ | (simp; done) | (simp; omega)) _)))⟩
/-- the row at block g, with room for n, holds the elements xs -/
structure PR (W0 w : World) (g n : Nat) (xs : List Pe) : Prop where
  cells : ∃ cur, w.heap[g]? = some (.cells cur 51 (0, 0)) ∧ cur.size = n * 2 ∧ xs.length ≤ n ∧ ∀ j (h : j < xs.length), cur[j * 2]? = some xs[j].1 ∧ cur[j * 2 + 1]? = some (.int .u64 (xs[j].2.v : Nat))
  pts : ∀ x ∈ xs, RdU W0 x.1 (pti x.2.p)
  low : W0.heap.size ≤ g
  bel : Below W0.heap.size W0 w
theorem PR.at' {W0 w : World} {g n : Nat} {xs : List Pe} (h : PR W0 w g n xs) (j : Nat) (hj : j < xs.length) : w.cell? ⟨g, j * 2, none⟩ = some xs[j].1 ∧ w.cell? ⟨g, j * 2 + 1, none⟩ = some (.int .u64 (xs[j].2.v : Nat)) := by
  obtain ⟨cur, h1, h2, h3, h4⟩ := h.cells
  obtain ⟨a, b⟩ := h4 j hj
  exact ⟨by simp [World.cell?, h1, a], by simp [World.cell?, h1, b]⟩
theorem PR.thaw {W0 w : World} {g n : Nat} {xs : List Pe} (h : PR W0 w g n xs) (j : Nat) : w.frozen? ⟨g, j, none⟩ = false := by
  obtain ⟨cur, h1, _⟩ := h.cells
  simp [World.frozen?, h1]
theorem PR.lt {W0 w : World} {g n : Nat} {xs : List Pe} (h : PR W0 w g n xs) : g < w.heap.size := by
  obtain ⟨cur, h1, _⟩ := h.cells
  exact kr_lt h1
theorem PR.step {W0 w w' : World} {g n : Nat} {xs : List Pe} (h : PR W0 w g n xs) (hb : Below w.heap.size w w') : PR W0 w' g n xs := by
  obtain ⟨cur, h1, h2⟩ := h.cells
  exact ⟨⟨cur, (hb.block g h.lt).trans h1, h2⟩, h.pts, h.low, h.bel.trans (hb.mono h.bel.size)⟩
theorem PR.set {W0 w : World} {g n j : Nat} {xs : List Pe} (h : PR W0 w g n xs) (hj : j < xs.length) (x : Pe) (hx : RdU W0 x.1 (pti x.2.p)) :
    PR W0 ((w.setCell ⟨g, j * 2, none⟩ x.1).setCell ⟨g, j * 2 + 1, none⟩ (.int .u64 (x.2.v : Nat))) g n (xs.set j x) := by
  obtain ⟨cur, h1, h2, h3, h4⟩ := h.cells
  refine ⟨⟨_, kr_set (kr_set h1), by simpa using h2, by simpa using h3, fun i hi => ?_⟩, fun y hy => ?_, h.low, (h.bel.setCell (p := ⟨g, _, none⟩) h.low _).setCell (p := ⟨g, _, none⟩) h.low _⟩
  · rw [List.length_set] at hi
    obtain ⟨a, b⟩ := h4 i hi
    by_cases e : i = j
    · subst e
      simp only [List.getElem_set_self]
      refine ⟨?_, ?_⟩
      · rw [Array.getElem?_setIfInBounds_ne (by omega)]
        exact Array.getElem?_setIfInBounds_self_of_lt (by omega)
      · exact Array.getElem?_setIfInBounds_self_of_lt (by simp; omega)
    · rw [List.getElem_set_ne (by omega)]
      refine ⟨?_, ?_⟩ <;> rw [Array.getElem?_setIfInBounds_ne (by omega), Array.getElem?_setIfInBounds_ne (by omega)] <;> assumption
  · rcases List.mem_or_eq_of_mem_set hy with hy | rfl
    · exact h.pts y hy
    · exact hx
theorem swap_mid (A : List Pe) (y x : Pe) (B : List Pe) : ((A ++ y :: x :: B).set (A.length + 1) y).set A.length x = A ++ x :: y :: B := by
  rw [List.set_append_right _ _ (by omega), Nat.add_sub_cancel_left]
  simp [List.set_append_right]
theorem Srt.append {P Q : List Pe} (hp : Srt P) (hq : Srt Q) (h : ∀ x ∈ P, ∀ y ∈ Q, ek x ≤ ek y) : Srt (P ++ Q) := List.pairwise_append.2 ⟨hp, hq, h⟩
/-- what the insertion sort leaves -/
def InsR (W0 : World) (g n : Nat) (A S B : List Pe) (e : Ending) (w' : World) : Prop := ∃ S', e = .returned (.tuple #[]) ∧ PR W0 w' g n (A ++ (S' ++ B)) ∧ S'.length = S.length ∧ Stb S S' ∧ Srt S'
/-- what stands ahead of a round of the inner loop: x is on its way down -/
structure InI (W0 wr : World) (g n a : Nat) (A S R B : List Pe) (x : Pe) (P Q : List Pe) : Prop where
  pr : PR W0 wr g n (A ++ (P ++ x :: (Q ++ (R ++ B))))
  srt : Srt (P ++ Q)
  stb : Stb S (P ++ x :: (Q ++ R))
  gt : ∀ y ∈ Q, ek x < ek y
  len : P.length + Q.length + 1 + R.length = S.length
theorem InI.done {W0 wr : World} {g n a : Nat} {A S R B : List Pe} {x : Pe} {P Q : List Pe} (h : InI W0 wr g n a A S R B x P Q) (hle : ∀ y ∈ P, ek y ≤ ek x) :
    PR W0 wr g n (A ++ ((P ++ x :: Q) ++ (R ++ B))) ∧ Srt (P ++ x :: Q) ∧ Stb S ((P ++ x :: Q) ++ R) ∧ (P ++ x :: Q).length + R.length = S.length ∧ 1 ≤ (P ++ x :: Q).length := by
  refine ⟨by simpa using h.pr, ?_, by simpa using h.stb, by have := h.len; simp; omega, by simp; omega⟩
  obtain ⟨h1, h2, h3⟩ := List.pairwise_append.1 h.srt
  refine List.pairwise_append.2 ⟨h1, List.pairwise_cons.2 ⟨fun z hz => Nat.le_of_lt (h.gt z hz), h2⟩, fun y hy z hz => ?_⟩
  rcases List.mem_cons.1 hz with rfl | hz
  · exact hle y hy
  · exact h3 y hy z hz
theorem InI.step {W0 wr w' : World} {g n a : Nat} {A S R B : List Pe} {x : Pe} {P Q : List Pe} (h : InI W0 wr g n a A S R B x P Q) (hb : Below wr.heap.size wr w') : InI W0 w' g n a A S R B x P Q :=
  ⟨h.pr.step hb, h.srt, h.stb, h.gt, h.len⟩
/-- x has gone down by one -/
theorem InI.down {W0 wr w' : World} {g n a : Nat} {A S R B : List Pe} {x y : Pe} {P Q : List Pe} (h : InI W0 wr g n a A S R B x (P ++ [y]) Q) (hlt : ek x < ek y) (hpr : PR W0 w' g n (A ++ (P ++ x :: y :: (Q ++ (R ++ B))))) :
    InI W0 w' g n a A S R B x P (y :: Q) := by
  refine ⟨by simpa using hpr, by simpa using h.srt, ?_, fun z hz => ?_, by have := h.len; simp at this ⊢; omega⟩
  · refine h.stb.trans ?_
    have e1 : (P ++ [y]) ++ x :: (Q ++ R) = P ++ (([y] ++ [x]) ++ (Q ++ R)) := by simp
    have e2 : P ++ x :: ((y :: Q) ++ R) = P ++ (([x] ++ [y]) ++ (Q ++ R)) := by simp
    rw [e1, e2]
    refine (Stb.refl P).append ((Stb.swap fun u hu v hv => ?_).append (Stb.refl _))
    obtain rfl := List.mem_singleton.1 hu
    obtain rfl := List.mem_singleton.1 hv
    omega
  · rcases List.mem_cons.1 hz with rfl | hz
    · exact hlt
    · exact h.gt z hz
set_option maxHeartbeats 4000000 in
theorem isort_any (W0 w : World) (g n a b m c k : Nat) (A S B : List Pe) (hA : A.length = a) (hb : a + S.length = b) (hm : (A ++ (S ++ B)).length = m) (hmm : m ≤ 1000) (k1 : 1 ≤ k) (k16 : k ≤ 16) (h : PR W0 w g n (A ++ (S ++ B)))
    (hk : ∀ x ∈ A ++ (S ++ B), x.2.p.length = k ∧ ∀ q ∈ x.2.p, q < 2 ^ 64) (hpos : S ≠ []) :
    Calls Tryz.prog 178 #[.slice (some ⟨g, 0, none⟩) m c, .int .i64 (a : Nat), .int .i64 (b : Nat), .func (.func 119) #[] #[]] w fun e w' => InsR W0 g n A S B e w' := by
  have hent := enters_lit' Tryz.func119 (by kernel_rfl) (by kernel_rfl)
  have hml : A.length + S.length + B.length = m := by rw [← hm]; simp; omega
  have HD := Lib.hid (And.intro hA (And.intro hb (And.intro hml hmm)))
  have HK := Lib.hid (And.intro hk (And.intro k1 k16))
  have HPR := Lib.hid h
  have hwa : wrap64 ((a : Int) + 1) = ((a + 1 : Nat) : Int) := by unfold wrap64; omega
  have HWA := Lib.hid hwa
  obtain ⟨x0, S0, rfl⟩ : ∃ x S0, S = x :: S0 := by cases S with
    | nil => exact absurd rfl hpos
    | cons x S0 => exact ⟨x, S0, rfl⟩
  clear hA hb hm hmm k1 k16 h hk hpos hml
  go_enter Tryz.func178, Tryz.ntmps178
  go_wp2_with fail
  go_loopw [8, 9] (fun iv _ wr => ∃ (S1 S2 : List Pe), iv = .int .i64 ((a + S1.length : Nat) : Int) ∧ 1 ≤ S1.length ∧ S1.length + S2.length = (x0 :: S0).length ∧ PR W0 wr g n (A ++ (S1 ++ (S2 ++ B))) ∧ Srt S1 ∧ Stb (x0 :: S0) (S1 ++ S2)) (fun iv _ _ => a + (x0 :: S0).length - (intOf iv).toNat)
  case atStart => exact ⟨[x0], S0, by first | (rw [HWA.out]; rfl) | simp, by simp, by simp; omega, HPR.out, List.pairwise_singleton _ _, Stb.refl _⟩
  case round =>
    obtain ⟨S1, S2, rfl, h1, h2, hpr, hsrt, hstb⟩ := hrel
    have HI := Lib.hid (And.intro h1 (And.intro h2 (And.intro hpr (And.intro hsrt hstb))))
    obtain ⟨i, hi⟩ : ∃ i, a + S1.length = i := ⟨_, rfl⟩
    rw [hi]
    have HIE := Lib.hid hi
    have hbi : i ≤ b ∧ (i < b ↔ S2 ≠ []) := by
      have := HD.out
      refine ⟨by omega, fun h => ?_, fun h => ?_⟩
      · intro e; rw [e, List.length_nil] at h2; omega
      · have := List.length_pos_iff.2 h; omega
    have HW := Lib.hid (show wrap64 ((i : Int) + 1) = ((i + 1 : Nat) : Int) by have := HD.out; unfold wrap64; omega)
    by_cases hib : i < b
    · obtain ⟨x, R, rfl⟩ : ∃ x R, S2 = x :: R := by cases S2 with
        | nil => exact absurd rfl (hbi.2.1 hib)
        | cons x R => exact ⟨x, R, rfl⟩
      have h3 : (i : Int) < (b : Int) := by omega
      have HIN : Hid (InI W0 wr g n a A (x0 :: S0) R B x S1 []) := Lib.hid ⟨by simpa using hpr, by simpa using hsrt, by simpa using hstb, by simp, by simp at h2 ⊢; omega⟩
      clear h1 h2 hpr hsrt hstb hi hbi
      go_wp2_with fail
      go_loopw [9] (fun jv wr => ∃ (P Q : List Pe), jv = .int .i64 ((a + P.length : Nat) : Int) ∧ InI W0 wr g n a A (x0 :: S0) R B x P Q) (fun jv _ => (intOf jv).toNat)
      case atStart => exact ⟨S1, [], by rw [HIE.out], HIN.out⟩
      case round =>
        obtain ⟨P, Q, rfl, hin⟩ := hrel
        have HN := Lib.hid hin
        rcases List.eq_nil_or_concat P with rfl | ⟨P', y, rfl⟩
        · clear hin
          simp only [List.length_nil, Nat.add_zero]
          go_wp2_with fail
          refine wp_region_vals 16 [fun z9 _ => z9 = .int .i64 (a : Nat),
            fun z9 _ => z9 = .int .i64 (a : Nat),
            fun z9 _ => z9 = .bool false,
            fun z9 _ => z9 = .bool false,
            fun z9 _ => z9 = undef,
            fun z9 _ => z9 = undef,
            fun z9 _ => z9 = undef,
            fun z9 _ => z9 = undef,
            fun z9 _ => z9 = undef,
            fun z9 _ => z9 = undef,
            fun z9 _ => z9 = undef,
            fun z9 _ => z9 = undef,
            fun z9 _ => z9 = undef,
            fun z9 _ => z9 = undef,
            fun z9 _ => z9 = undef,
            fun z9 _ => z9 = undef]
            (by kernel_rfl) (by kernel_rfl) (by kernel_rfl) (by kernel_rfl) ?_ ?_ ?_
          · intro V hV v w1 w2 h hb
            simp only [List.mem_cons, List.not_mem_nil, or_false] at hV
            rcases hV with rfl | rfl | rfl | rfl | rfl | rfl | rfl | rfl | rfl | rfl | rfl | rfl | rfl | rfl | rfl | rfl
            all_goals first | exact h | (exact h)
          · intro iq oq hiq hoq
            match iq, hiq with
            | 0, _ =>
            obtain rfl := Option.some.inj hoq
            intro a1 w1 K hk hK
            have e9 : a1.tmps.getD 9 undef = .int .i64 (a : Nat) := hk.same 9 (by simp)
            simp [Region.wanted, Oper.wp, Act.eval, go_sem, e9]
            exact hK _ _ (Below.refl _ _) rfl
            | 1, _ =>
            obtain rfl := Option.some.inj hoq
            intro a1 w1 K hk hK
            have e1 : a1.tmps.getD 1 undef = .int .i64 (a : Nat) := hk.same 1 (by simp)
            simp [Region.wanted, Oper.wp, Act.eval, go_sem, e1]
            exact hK _ _ (Below.refl _ _) rfl
            | 2, _ =>
            obtain rfl := Option.some.inj hoq
            intro a1 w1 K hk hK
            have d18 : a1.tmps.getD 18 undef = .int .i64 (a : Nat) := hk.deps ⟨0, .data⟩ (by simp) rfl _ _ rfl rfl
            have d19 : a1.tmps.getD 19 undef = .int .i64 (a : Nat) := hk.deps ⟨1, .data⟩ (by simp) rfl _ _ rfl rfl
            simp [Region.wanted, Oper.wp, Act.eval, go_sem, d18, d19]
            exact hK _ _ (Below.refl _ _) rfl
            | 3, _ =>
            obtain rfl := Option.some.inj hoq
            intro a1 w1 K hk hK
            have d20 : a1.tmps.getD 20 undef = .bool false := hk.deps ⟨2, .data⟩ (by simp) rfl _ _ rfl rfl
            simp [Region.wanted, Oper.wp, Act.eval, go_sem, d20]
            exact hK _ _ (Below.refl _ _) rfl
            | 4, _ =>
            obtain rfl := Option.some.inj hoq
            intro a1 w1 K hk hK
            have e3 : a1.tmps.getD 3 undef = .func (.func 119) #[] #[] := hk.same 3 (by simp)
            have gd : a1.tmps[21]? = some (.bool false) := getD_bool (hk.deps ⟨3, .guard⟩ (by simp) rfl _ _ rfl rfl)
            simp [Region.wanted, Oper.wp, Act.eval, go_sem, e3, gd, yielded]
            exact hK _ _ (Below.refl _ _) rfl
            | 5, _ =>
            obtain rfl := Option.some.inj hoq
            intro a1 w1 K hk hK
            have e0 : a1.tmps.getD 0 undef = .slice (some ⟨g, 0, none⟩) m c := hk.same 0 (by simp)
            have gd : a1.tmps[21]? = some (.bool false) := getD_bool (hk.deps ⟨3, .guard⟩ (by simp) rfl _ _ rfl rfl)
            simp [Region.wanted, Oper.wp, Act.eval, go_sem, e0, gd, yielded]
            exact hK _ _ (Below.refl _ _) rfl
            | 6, _ =>
            obtain rfl := Option.some.inj hoq
            intro a1 w1 K hk hK
            have e9 : a1.tmps.getD 9 undef = .int .i64 (a : Nat) := hk.same 9 (by simp)
            have gd : a1.tmps[21]? = some (.bool false) := getD_bool (hk.deps ⟨3, .guard⟩ (by simp) rfl _ _ rfl rfl)
            simp [Region.wanted, Oper.wp, Act.eval, go_sem, e9, gd, yielded]
            exact hK _ _ (Below.refl _ _) rfl
            | 7, _ =>
            obtain rfl := Option.some.inj hoq
            intro a1 w1 K hk hK
            have d23 : a1.tmps.getD 23 undef = undef := hk.deps ⟨5, .data⟩ (by simp) rfl _ _ rfl rfl
            have d24 : a1.tmps.getD 24 undef = undef := hk.deps ⟨6, .data⟩ (by simp) rfl _ _ rfl rfl
            have gd : a1.tmps[21]? = some (.bool false) := getD_bool (hk.deps ⟨3, .guard⟩ (by simp) rfl _ _ rfl rfl)
            simp [Region.wanted, Oper.wp, Act.eval, go_sem, d23, d24, gd, yielded]
            exact hK _ _ (Below.refl _ _) rfl
            | 8, _ =>
            obtain rfl := Option.some.inj hoq
            intro a1 w1 K hk hK
            have d25 : a1.tmps.getD 25 undef = undef := hk.deps ⟨7, .data⟩ (by simp) rfl _ _ rfl rfl
            have gd : a1.tmps[21]? = some (.bool false) := getD_bool (hk.deps ⟨3, .guard⟩ (by simp) rfl _ _ rfl rfl)
            simp [Region.wanted, Oper.wp, Act.eval, go_sem, d25, gd, yielded]
            exact hK _ _ (Below.refl _ _) rfl
            | 9, _ =>
            obtain rfl := Option.some.inj hoq
            intro a1 w1 K hk hK
            have e0 : a1.tmps.getD 0 undef = .slice (some ⟨g, 0, none⟩) m c := hk.same 0 (by simp)
            have gd : a1.tmps[21]? = some (.bool false) := getD_bool (hk.deps ⟨3, .guard⟩ (by simp) rfl _ _ rfl rfl)
            simp [Region.wanted, Oper.wp, Act.eval, go_sem, e0, gd, yielded]
            exact hK _ _ (Below.refl _ _) rfl
            | 10, _ =>
            obtain rfl := Option.some.inj hoq
            intro a1 w1 K hk hK
            have e9 : a1.tmps.getD 9 undef = .int .i64 (a : Nat) := hk.same 9 (by simp)
            have gd : a1.tmps[21]? = some (.bool false) := getD_bool (hk.deps ⟨3, .guard⟩ (by simp) rfl _ _ rfl rfl)
            simp [Region.wanted, Oper.wp, Act.eval, go_sem, e9, gd, yielded]
            exact hK _ _ (Below.refl _ _) rfl
            | 11, _ =>
            obtain rfl := Option.some.inj hoq
            intro a1 w1 K hk hK
            have d28 : a1.tmps.getD 28 undef = undef := hk.deps ⟨10, .data⟩ (by simp) rfl _ _ rfl rfl
            have gd : a1.tmps[21]? = some (.bool false) := getD_bool (hk.deps ⟨3, .guard⟩ (by simp) rfl _ _ rfl rfl)
            simp [Region.wanted, Oper.wp, Act.eval, go_sem, d28, gd, yielded]
            exact hK _ _ (Below.refl _ _) rfl
            | 12, _ =>
            obtain rfl := Option.some.inj hoq
            intro a1 w1 K hk hK
            have d27 : a1.tmps.getD 27 undef = undef := hk.deps ⟨9, .data⟩ (by simp) rfl _ _ rfl rfl
            have d29 : a1.tmps.getD 29 undef = undef := hk.deps ⟨11, .data⟩ (by simp) rfl _ _ rfl rfl
            have gd : a1.tmps[21]? = some (.bool false) := getD_bool (hk.deps ⟨3, .guard⟩ (by simp) rfl _ _ rfl rfl)
            simp [Region.wanted, Oper.wp, Act.eval, go_sem, d27, d29, gd, yielded]
            exact hK _ _ (Below.refl _ _) rfl
            | 13, _ =>
            obtain rfl := Option.some.inj hoq
            intro a1 w1 K hk hK
            have d30 : a1.tmps.getD 30 undef = undef := hk.deps ⟨12, .data⟩ (by simp) rfl _ _ rfl rfl
            have gd : a1.tmps[21]? = some (.bool false) := getD_bool (hk.deps ⟨3, .guard⟩ (by simp) rfl _ _ rfl rfl)
            simp [Region.wanted, Oper.wp, Act.eval, go_sem, d30, gd, yielded]
            exact hK _ _ (Below.refl _ _) rfl
            | 14, _ =>
            obtain rfl := Option.some.inj hoq
            intro a1 w1 K hk hK
            have d22 : a1.tmps.getD 22 undef = undef := hk.deps ⟨4, .data⟩ (by simp) rfl _ _ rfl rfl
            have d26 : a1.tmps.getD 26 undef = undef := hk.deps ⟨8, .data⟩ (by simp) rfl _ _ rfl rfl
            have d31 : a1.tmps.getD 31 undef = undef := hk.deps ⟨13, .data⟩ (by simp) rfl _ _ rfl rfl
            have gd : a1.tmps[21]? = some (.bool false) := getD_bool (hk.deps ⟨3, .guard⟩ (by simp) rfl _ _ rfl rfl)
            simp [Region.wanted, Oper.wp, Act.eval, go_sem, d22, d26, d31, gd, yielded]
            exact hK _ _ (Below.refl _ _) rfl
            | 15, _ =>
            obtain rfl := Option.some.inj hoq
            intro a1 w1 K hk hK
            have d32 : a1.tmps.getD 32 undef = undef := hk.deps ⟨14, .data⟩ (by simp) rfl _ _ rfl rfl
            have gd : a1.tmps[21]? = some (.bool false) := getD_bool (hk.deps ⟨3, .guard⟩ (by simp) rfl _ _ rfl rfl)
            simp [Region.wanted, Oper.wp, Act.eval, go_sem, d32, gd, yielded]
            exact hK _ _ (Below.refl _ _) rfl
            | k + 16, hk => exact absurd hk (by omega)
          · intro vs w3 hl hb3 hv
            match vs, hl with
            | [v0, v1, v2, v3, v4, v5, v6, v7, v8, v9, v10, v11, v12, v13, v14, v15], _ =>
            obtain rfl : v0 = .int .i64 (a : Nat) := hv 0 (by omega)
            obtain rfl : v1 = .int .i64 (a : Nat) := hv 1 (by omega)
            obtain rfl : v2 = .bool false := hv 2 (by omega)
            obtain rfl : v3 = .bool false := hv 3 (by omega)
            obtain rfl : v4 = undef := hv 4 (by omega)
            obtain rfl : v5 = undef := hv 5 (by omega)
            obtain rfl : v6 = undef := hv 6 (by omega)
            obtain rfl : v7 = undef := hv 7 (by omega)
            obtain rfl : v8 = undef := hv 8 (by omega)
            obtain rfl : v9 = undef := hv 9 (by omega)
            obtain rfl : v10 = undef := hv 10 (by omega)
            obtain rfl : v11 = undef := hv 11 (by omega)
            obtain rfl : v12 = undef := hv 12 (by omega)
            obtain rfl : v13 = undef := hv 13 (by omega)
            obtain rfl : v14 = undef := hv 14 (by omega)
            obtain rfl : v15 = undef := hv 15 (by omega)
            clear hv
            simp only [putAll, List.take_succ_cons, List.take_zero, List.drop_succ_cons, List.drop_zero, Act.put, List.setIfInBounds_toArray, List.set_cons_succ, List.set_cons_zero]
            have DN := Lib.hid ((HN.out.step (show Below wr.heap.size wr w3 from hb3)).done (by simp))
            clear hb3
            go_wp2_with fail
            go_roundw
            case rel =>
              obtain ⟨d1, d2, d3, d4, d5⟩ := DN.out
              exact ⟨[] ++ x :: Q, R, by rw [HW.out]; congr 2; have e1 := HI.out.2.1; have e2 := HIE.out; have e3 := HD.out.2.1; simp only [List.length_cons] at e1 e3 d4; omega, d5, d4, d1, d2, d3⟩
            case measure => rw [intOf_of' HW.out, intOf_nat]; have e3 := HD.out.2.1; omega
        · rw [List.concat_eq_append] at *
          obtain ⟨uy, py, vy⟩ := y
          have hmy : (⟨uy, ⟨py, vy⟩⟩ : Pe) ∈ A ++ ((P' ++ [(⟨uy, ⟨py, vy⟩⟩ : Pe)]) ++ x :: (Q ++ (R ++ B))) := by simp
          have hmx : x ∈ A ++ ((P' ++ [(⟨uy, ⟨py, vy⟩⟩ : Pe)]) ++ x :: (Q ++ (R ++ B))) := by simp
          have hsub : ∀ z, z ∈ A ++ ((P' ++ [(⟨uy, ⟨py, vy⟩⟩ : Pe)]) ++ x :: (Q ++ (R ++ B))) → z ∈ A ++ ((x0 :: S0) ++ B) := by
            intro z hz
            have h1 := hin.stb.mem (x := z)
            simp only [List.mem_append, List.mem_cons] at hz h1 ⊢
            rcases hz with hz | hz | hz | hz | hz | hz
            · exact .inl hz
            · exact .inr (.inl (h1.2 (.inl hz)))
            · exact .inr (.inl (h1.2 (.inr (.inl hz))))
            · exact .inr (.inl (h1.2 (.inr (.inr (.inl hz)))))
            · exact .inr (.inl (h1.2 (.inr (.inr (.inr hz)))))
            · exact .inr (.inr hz)
          obtain ⟨ky, oy⟩ := HK.out.1 _ (hsub _ hmy)
          obtain ⟨kx, ox⟩ := HK.out.1 _ (hsub _ hmx)
          have ruy := hin.pr.pts _ hmy
          have rux := hin.pr.pts _ hmx
          obtain ⟨ux, px, vx⟩ := x
          simp only at ky oy kx ox ruy rux
          have hE : A ++ ((P' ++ [(⟨uy, ⟨py, vy⟩⟩ : Pe)]) ++ (⟨ux, ⟨px, vx⟩⟩ : Pe) :: (Q ++ (R ++ B))) = (A ++ P') ++ (⟨uy, ⟨py, vy⟩⟩ : Pe) :: (⟨ux, ⟨px, vx⟩⟩ : Pe) :: (Q ++ (R ++ B)) := by simp
          have hpr2 := hin.pr
          rw [hE] at hpr2
          obtain ⟨t, ht⟩ : ∃ t, (A ++ P').length = t := ⟨_, rfl⟩
          have hT1 : t + 1 < ((A ++ P') ++ (⟨uy, ⟨py, vy⟩⟩ : Pe) :: (⟨ux, ⟨px, vx⟩⟩ : Pe) :: (Q ++ (R ++ B))).length := by rw [← ht]; simp; omega
          obtain ⟨q0, q1⟩ := hpr2.at' t (by omega)
          obtain ⟨k0, k1⟩ := hpr2.at' (t + 1) hT1
          have g1 : ((A ++ P') ++ (⟨uy, ⟨py, vy⟩⟩ : Pe) :: (⟨ux, ⟨px, vx⟩⟩ : Pe) :: (Q ++ (R ++ B)))[t]'(by omega) = ⟨uy, ⟨py, vy⟩⟩ := by subst ht; simp
          have g2 : ((A ++ P') ++ (⟨uy, ⟨py, vy⟩⟩ : Pe) :: (⟨ux, ⟨px, vx⟩⟩ : Pe) :: (Q ++ (R ++ B)))[t + 1]'hT1 = ⟨ux, ⟨px, vx⟩⟩ := by subst ht; rw [List.getElem_append_right (by omega)]; simp
          rw [g1] at q0 q1
          rw [g2] at k0 k1
          have HOR := Lib.hid (fun W (hb2 : Below wr.heap.size wr W) => order_any W px py ux uy vx vy (rux.below (hin.pr.bel.trans (hb2.mono hin.pr.bel.size))) (ruy.below (hin.pr.bel.trans (hb2.mono hin.pr.bel.size))) (by omega) (by have := HK.out.2.1; omega) (by have := HK.out.2.2; omega) ox oy)
          have hthaw : ∀ q, wr.frozen? ⟨g, q, none⟩ = false := fun q => hpr2.thaw q
          have HP2 := Lib.hid (And.intro hpr2 (And.intro ht (And.intro rux ruy)))
          have HLEN := Lib.hid hin.len
          obtain ⟨Ax, cx, rfl, _⟩ := RdU.point rux
          obtain ⟨Ay, cy, rfl, _⟩ := RdU.point ruy
          have HKK := Lib.hid (And.intro kx ky)
          rw [kx] at k0 HOR
          rw [ky] at q0 HOR
          simp only at q0 q1 k0 k1
          have htm : t + 1 < m := by
            have e1 := HD.out.1; have e3 := HD.out.2.2.1; have e2 := HN.out.len; have e4 : A.length + P'.length = t := by rw [← ht]; simp
            simp only [List.length_append, List.length_singleton] at e2
            omega
          have hta : a ≤ t := by have e1 := HD.out.1; have e4 : A.length + P'.length = t := by rw [← ht]; simp
                                 omega
          have HJT := Lib.hid (show a + P'.length = t by have e1 := HD.out.1; have e4 : A.length + P'.length = t := by rw [← ht]; simp
                                                         omega)
          have hjv : ((a + (P' ++ [(⟨.slice Ay py.length cy, ⟨py, vy⟩⟩ : Pe)]).length : Nat) : Int) = (t : Int) + 1 := by
            have e1 := HJT.out
            simp only [List.length_append, List.length_singleton]
            omega
          rw [hjv]
          have ht1 : (0 : Int) ≤ (t : Int) := by omega
          have ht2 : (t : Int) < (m : Int) := by omega
          have ht3 : (t : Int) + 1 < (m : Int) := by omega
          have ht4 : (0 : Int) ≤ (t : Int) + 1 := by omega
          have ht5 : (t : Int) + 1 > (a : Int) := by omega
          have ht6 : t < m := by omega
          have ht7 : t + 1 < m := htm
          have hgl := hin.pr.lt
          have hwt2 : IntKind.i64.wrap (t : Int) = (t : Int) := by have := HD.out; rw [IntKind.wrap_i64]; omega
          have hwt : wrap64 (t : Int) = (t : Int) := by have := HD.out; unfold wrap64; omega
          obtain ⟨z, hz⟩ : ∃ z, Zb.cmp px py = z := ⟨_, rfl⟩
          rw [hz] at HOR
          have HZ := Lib.hid (show z < 0 ↔ pkey px < pkey py from hz ▸ cmp_neg px py)
          obtain ⟨zb, hzb⟩ : ∃ zb, decide (z < 0) = zb := ⟨_, rfl⟩
          have HZB := Lib.hid hzb
          clear hz hin hpr2 hE ruy rux oy ox ky kx hsub hmy hmx g1 g2 hT1 hjv hta htm ht
          go_wp2_with fail
          refine wp_region_vals 16 [fun z9 _ => z9 = .int .i64 ((t : Int) + 1),
            fun z9 _ => z9 = .int .i64 (a : Nat),
            fun z9 _ => z9 = .bool true,
            fun z9 _ => z9 = .bool true,
            fun z9 _ => z9 = .func (.func 119) #[] #[],
            fun z9 _ => z9 = .slice (some ⟨g, 0, none⟩) m c,
            fun z9 _ => z9 = .int .i64 ((t : Int) + 1),
            fun z9 _ => z9 = .pointer (some ⟨g, (t + 1) * 2, none⟩),
            fun z9 _ => z9 = .agg #[.slice Ax k cx, .int .u64 (vx : Nat)],
            fun z9 _ => z9 = .slice (some ⟨g, 0, none⟩) m c,
            fun z9 _ => z9 = .int .i64 ((t : Int) + 1),
            fun z9 _ => z9 = .int .i64 (t : Nat),
            fun z9 _ => z9 = .pointer (some ⟨g, t * 2, none⟩),
            fun z9 _ => z9 = .agg #[.slice Ay k cy, .int .u64 (vy : Nat)],
            fun z9 _ => z9 = .int .i64 z,
            fun z9 _ => z9 = .bool zb]
            (by kernel_rfl) (by kernel_rfl) (by kernel_rfl) (by kernel_rfl) ?_ ?_ ?_
          · intro V hV v w1 w2 h hb
            simp only [List.mem_cons, List.not_mem_nil, or_false] at hV
            rcases hV with rfl | rfl | rfl | rfl | rfl | rfl | rfl | rfl | rfl | rfl | rfl | rfl | rfl | rfl | rfl | rfl
            all_goals first | exact h | (exact h)
          · intro iq oq hiq hoq
            match iq, hiq with
            | 0, _ =>
            obtain rfl := Option.some.inj hoq
            intro a1 w1 K hk hK
            have e9 : a1.tmps.getD 9 undef = .int .i64 ((t : Int) + 1) := hk.same 9 (by simp)
            simp [Region.wanted, Oper.wp, Act.eval, go_sem, e9, k0, k1, q0, q1, ht1, ht2, ht3, ht4, ht5, ht6, ht7, hgl, hent, hzb, hwt, hwt2]
            exact hK _ _ (Below.refl _ _) rfl
            | 1, _ =>
            obtain rfl := Option.some.inj hoq
            intro a1 w1 K hk hK
            have e1 : a1.tmps.getD 1 undef = .int .i64 (a : Nat) := hk.same 1 (by simp)
            simp [Region.wanted, Oper.wp, Act.eval, go_sem, e1, k0, k1, q0, q1, ht1, ht2, ht3, ht4, ht5, ht6, ht7, hgl, hent, hzb, hwt, hwt2]
            exact hK _ _ (Below.refl _ _) rfl
            | 2, _ =>
            obtain rfl := Option.some.inj hoq
            intro a1 w1 K hk hK
            have d18 : a1.tmps.getD 18 undef = .int .i64 ((t : Int) + 1) := hk.deps ⟨0, .data⟩ (by simp) rfl _ _ rfl rfl
            have d19 : a1.tmps.getD 19 undef = .int .i64 (a : Nat) := hk.deps ⟨1, .data⟩ (by simp) rfl _ _ rfl rfl
            simp [Region.wanted, Oper.wp, Act.eval, go_sem, d18, d19, k0, k1, q0, q1, ht1, ht2, ht3, ht4, ht5, ht6, ht7, hgl, hent, hzb, hwt, hwt2]
            exact hK _ _ (Below.refl _ _) rfl
            | 3, _ =>
            obtain rfl := Option.some.inj hoq
            intro a1 w1 K hk hK
            have d20 : a1.tmps.getD 20 undef = .bool true := hk.deps ⟨2, .data⟩ (by simp) rfl _ _ rfl rfl
            simp [Region.wanted, Oper.wp, Act.eval, go_sem, d20, k0, k1, q0, q1, ht1, ht2, ht3, ht4, ht5, ht6, ht7, hgl, hent, hzb, hwt, hwt2]
            exact hK _ _ (Below.refl _ _) rfl
            | 4, _ =>
            obtain rfl := Option.some.inj hoq
            intro a1 w1 K hk hK
            have e3 : a1.tmps.getD 3 undef = .func (.func 119) #[] #[] := hk.same 3 (by simp)
            have gd : a1.tmps[21]? = some (.bool true) := getD_bool (hk.deps ⟨3, .guard⟩ (by simp) rfl _ _ rfl rfl)
            simp [Region.wanted, Oper.wp, Act.eval, go_sem, e3, gd, yielded, k0, k1, q0, q1, ht1, ht2, ht3, ht4, ht5, ht6, ht7, hgl, hent, hzb, hwt, hwt2]
            exact hK _ _ (Below.refl _ _) rfl
            | 5, _ =>
            obtain rfl := Option.some.inj hoq
            intro a1 w1 K hk hK
            have e0 : a1.tmps.getD 0 undef = .slice (some ⟨g, 0, none⟩) m c := hk.same 0 (by simp)
            have gd : a1.tmps[21]? = some (.bool true) := getD_bool (hk.deps ⟨3, .guard⟩ (by simp) rfl _ _ rfl rfl)
            simp [Region.wanted, Oper.wp, Act.eval, go_sem, e0, gd, yielded, k0, k1, q0, q1, ht1, ht2, ht3, ht4, ht5, ht6, ht7, hgl, hent, hzb, hwt, hwt2]
            exact hK _ _ (Below.refl _ _) rfl
            | 6, _ =>
            obtain rfl := Option.some.inj hoq
            intro a1 w1 K hk hK
            have e9 : a1.tmps.getD 9 undef = .int .i64 ((t : Int) + 1) := hk.same 9 (by simp)
            have gd : a1.tmps[21]? = some (.bool true) := getD_bool (hk.deps ⟨3, .guard⟩ (by simp) rfl _ _ rfl rfl)
            simp [Region.wanted, Oper.wp, Act.eval, go_sem, e9, gd, yielded, k0, k1, q0, q1, ht1, ht2, ht3, ht4, ht5, ht6, ht7, hgl, hent, hzb, hwt, hwt2]
            exact hK _ _ (Below.refl _ _) rfl
            | 7, _ =>
            obtain rfl := Option.some.inj hoq
            intro a1 w1 K hk hK
            have d23 : a1.tmps.getD 23 undef = .slice (some ⟨g, 0, none⟩) m c := hk.deps ⟨5, .data⟩ (by simp) rfl _ _ rfl rfl
            have d24 : a1.tmps.getD 24 undef = .int .i64 ((t : Int) + 1) := hk.deps ⟨6, .data⟩ (by simp) rfl _ _ rfl rfl
            have gd : a1.tmps[21]? = some (.bool true) := getD_bool (hk.deps ⟨3, .guard⟩ (by simp) rfl _ _ rfl rfl)
            simp [Region.wanted, Oper.wp, Act.eval, go_sem, d23, d24, gd, yielded, k0, k1, q0, q1, ht1, ht2, ht3, ht4, ht5, ht6, ht7, hgl, hent, hzb, hwt, hwt2]
            exact hK _ _ (Below.refl _ _) rfl
            | 8, _ =>
            obtain rfl := Option.some.inj hoq
            intro a1 w1 K hk hK
            have d25 : a1.tmps.getD 25 undef = .pointer (some ⟨g, (t + 1) * 2, none⟩) := hk.deps ⟨7, .data⟩ (by simp) rfl _ _ rfl rfl
            have gd : a1.tmps[21]? = some (.bool true) := getD_bool (hk.deps ⟨3, .guard⟩ (by simp) rfl _ _ rfl rfl)
            have c0 : w1.cell? ⟨g, (t + 1) * 2, none⟩ = some (.slice Ax k cx) := Below.keeps hk.ext _ _ (by simp [go_sem, k0, k1, q0, q1, ht1, ht2, ht3, ht4, ht5, ht6, ht7, hgl, hent, hzb, hwt, hwt2])
            have c1 : w1.cell? ⟨g, (t + 1) * 2 + 1, none⟩ = some (.int .u64 (vx : Nat)) := Below.keeps hk.ext _ _ (by simp [go_sem, k0, k1, q0, q1, ht1, ht2, ht3, ht4, ht5, ht6, ht7, hgl, hent, hzb, hwt, hwt2])
            have c2 : w1.cell? ⟨g, t * 2, none⟩ = some (.slice Ay k cy) := Below.keeps hk.ext _ _ (by simp [go_sem, k0, k1, q0, q1, ht1, ht2, ht3, ht4, ht5, ht6, ht7, hgl, hent, hzb, hwt, hwt2])
            have c3 : w1.cell? ⟨g, t * 2 + 1, none⟩ = some (.int .u64 (vy : Nat)) := Below.keeps hk.ext _ _ (by simp [go_sem, k0, k1, q0, q1, ht1, ht2, ht3, ht4, ht5, ht6, ht7, hgl, hent, hzb, hwt, hwt2])
            simp [Region.wanted, Oper.wp, Act.eval, go_sem, d25, gd, yielded, c0, c1, c2, c3, k0, k1, q0, q1, ht1, ht2, ht3, ht4, ht5, ht6, ht7, hgl, hent, hzb, hwt, hwt2]
            exact hK _ _ (Below.refl _ _) rfl
            | 9, _ =>
            obtain rfl := Option.some.inj hoq
            intro a1 w1 K hk hK
            have e0 : a1.tmps.getD 0 undef = .slice (some ⟨g, 0, none⟩) m c := hk.same 0 (by simp)
            have gd : a1.tmps[21]? = some (.bool true) := getD_bool (hk.deps ⟨3, .guard⟩ (by simp) rfl _ _ rfl rfl)
            simp [Region.wanted, Oper.wp, Act.eval, go_sem, e0, gd, yielded, k0, k1, q0, q1, ht1, ht2, ht3, ht4, ht5, ht6, ht7, hgl, hent, hzb, hwt, hwt2]
            exact hK _ _ (Below.refl _ _) rfl
            | 10, _ =>
            obtain rfl := Option.some.inj hoq
            intro a1 w1 K hk hK
            have e9 : a1.tmps.getD 9 undef = .int .i64 ((t : Int) + 1) := hk.same 9 (by simp)
            have gd : a1.tmps[21]? = some (.bool true) := getD_bool (hk.deps ⟨3, .guard⟩ (by simp) rfl _ _ rfl rfl)
            simp [Region.wanted, Oper.wp, Act.eval, go_sem, e9, gd, yielded, k0, k1, q0, q1, ht1, ht2, ht3, ht4, ht5, ht6, ht7, hgl, hent, hzb, hwt, hwt2]
            exact hK _ _ (Below.refl _ _) rfl
            | 11, _ =>
            obtain rfl := Option.some.inj hoq
            intro a1 w1 K hk hK
            have d28 : a1.tmps.getD 28 undef = .int .i64 ((t : Int) + 1) := hk.deps ⟨10, .data⟩ (by simp) rfl _ _ rfl rfl
            have gd : a1.tmps[21]? = some (.bool true) := getD_bool (hk.deps ⟨3, .guard⟩ (by simp) rfl _ _ rfl rfl)
            simp [Region.wanted, Oper.wp, Act.eval, go_sem, d28, gd, yielded, k0, k1, q0, q1, ht1, ht2, ht3, ht4, ht5, ht6, ht7, hgl, hent, hzb, hwt, hwt2]
            exact hK _ _ (Below.refl _ _) rfl
            | 12, _ =>
            obtain rfl := Option.some.inj hoq
            intro a1 w1 K hk hK
            have d27 : a1.tmps.getD 27 undef = .slice (some ⟨g, 0, none⟩) m c := hk.deps ⟨9, .data⟩ (by simp) rfl _ _ rfl rfl
            have d29 : a1.tmps.getD 29 undef = .int .i64 (t : Nat) := hk.deps ⟨11, .data⟩ (by simp) rfl _ _ rfl rfl
            have gd : a1.tmps[21]? = some (.bool true) := getD_bool (hk.deps ⟨3, .guard⟩ (by simp) rfl _ _ rfl rfl)
            simp [Region.wanted, Oper.wp, Act.eval, go_sem, d27, d29, gd, yielded, k0, k1, q0, q1, ht1, ht2, ht3, ht4, ht5, ht6, ht7, hgl, hent, hzb, hwt, hwt2]
            exact hK _ _ (Below.refl _ _) rfl
            | 13, _ =>
            obtain rfl := Option.some.inj hoq
            intro a1 w1 K hk hK
            have d30 : a1.tmps.getD 30 undef = .pointer (some ⟨g, t * 2, none⟩) := hk.deps ⟨12, .data⟩ (by simp) rfl _ _ rfl rfl
            have gd : a1.tmps[21]? = some (.bool true) := getD_bool (hk.deps ⟨3, .guard⟩ (by simp) rfl _ _ rfl rfl)
            have c0 : w1.cell? ⟨g, (t + 1) * 2, none⟩ = some (.slice Ax k cx) := Below.keeps hk.ext _ _ (by simp [go_sem, k0, k1, q0, q1, ht1, ht2, ht3, ht4, ht5, ht6, ht7, hgl, hent, hzb, hwt, hwt2])
            have c1 : w1.cell? ⟨g, (t + 1) * 2 + 1, none⟩ = some (.int .u64 (vx : Nat)) := Below.keeps hk.ext _ _ (by simp [go_sem, k0, k1, q0, q1, ht1, ht2, ht3, ht4, ht5, ht6, ht7, hgl, hent, hzb, hwt, hwt2])
            have c2 : w1.cell? ⟨g, t * 2, none⟩ = some (.slice Ay k cy) := Below.keeps hk.ext _ _ (by simp [go_sem, k0, k1, q0, q1, ht1, ht2, ht3, ht4, ht5, ht6, ht7, hgl, hent, hzb, hwt, hwt2])
            have c3 : w1.cell? ⟨g, t * 2 + 1, none⟩ = some (.int .u64 (vy : Nat)) := Below.keeps hk.ext _ _ (by simp [go_sem, k0, k1, q0, q1, ht1, ht2, ht3, ht4, ht5, ht6, ht7, hgl, hent, hzb, hwt, hwt2])
            simp [Region.wanted, Oper.wp, Act.eval, go_sem, d30, gd, yielded, c0, c1, c2, c3, k0, k1, q0, q1, ht1, ht2, ht3, ht4, ht5, ht6, ht7, hgl, hent, hzb, hwt, hwt2]
            exact hK _ _ (Below.refl _ _) rfl
            | 14, _ =>
            obtain rfl := Option.some.inj hoq
            intro a1 w1 K hk hK
            have d22 : a1.tmps.getD 22 undef = .func (.func 119) #[] #[] := hk.deps ⟨4, .data⟩ (by simp) rfl _ _ rfl rfl
            have d26 : a1.tmps.getD 26 undef = .agg #[.slice Ax k cx, .int .u64 (vx : Nat)] := hk.deps ⟨8, .data⟩ (by simp) rfl _ _ rfl rfl
            have d31 : a1.tmps.getD 31 undef = .agg #[.slice Ay k cy, .int .u64 (vy : Nat)] := hk.deps ⟨13, .data⟩ (by simp) rfl _ _ rfl rfl
            have gd : a1.tmps[21]? = some (.bool true) := getD_bool (hk.deps ⟨3, .guard⟩ (by simp) rfl _ _ rfl rfl)
            simp [Region.wanted, Oper.wp, Act.eval, go_sem, d22, d26, d31, gd, yielded, k0, k1, q0, q1, ht1, ht2, ht3, ht4, ht5, ht6, ht7, hgl, hent, hzb, hwt, hwt2]
            refine (HOR.out _ (below_trans (by repeat (first | exact Below.refl _ _ | (refine Below.drew ?_) | (refine below_drewN' ?_ _) | (refine below_alloc' ?_ _) | (refine Below.setCell ?_ (by first | exact Nat.le_refl _ | (simp; done) | (simp; omega)) _))) hk.ext)).mono ?_
            rintro e w9 ⟨rfl, hb9⟩
            exact hK _ _ hb9 rfl
            | 15, _ =>
            obtain rfl := Option.some.inj hoq
            intro a1 w1 K hk hK
            have d32 : a1.tmps.getD 32 undef = .int .i64 z := hk.deps ⟨14, .data⟩ (by simp) rfl _ _ rfl rfl
            have gd : a1.tmps[21]? = some (.bool true) := getD_bool (hk.deps ⟨3, .guard⟩ (by simp) rfl _ _ rfl rfl)
            simp [Region.wanted, Oper.wp, Act.eval, go_sem, d32, gd, yielded, k0, k1, q0, q1, ht1, ht2, ht3, ht4, ht5, ht6, ht7, hgl, hent, hzb, hwt, hwt2]
            exact hK _ _ (Below.refl _ _) rfl
            | k + 16, hk => exact absurd hk (by omega)
          · intro vs w3 hl hb3 hv
            match vs, hl with
            | [v0, v1, v2, v3, v4, v5, v6, v7, v8, v9, v10, v11, v12, v13, v14, v15], _ =>
            obtain rfl : v0 = .int .i64 ((t : Int) + 1) := hv 0 (by omega)
            obtain rfl : v1 = .int .i64 (a : Nat) := hv 1 (by omega)
            obtain rfl : v2 = .bool true := hv 2 (by omega)
            obtain rfl : v3 = .bool true := hv 3 (by omega)
            obtain rfl : v4 = .func (.func 119) #[] #[] := hv 4 (by omega)
            obtain rfl : v5 = .slice (some ⟨g, 0, none⟩) m c := hv 5 (by omega)
            obtain rfl : v6 = .int .i64 ((t : Int) + 1) := hv 6 (by omega)
            obtain rfl : v7 = .pointer (some ⟨g, (t + 1) * 2, none⟩) := hv 7 (by omega)
            obtain rfl : v8 = .agg #[.slice Ax k cx, .int .u64 (vx : Nat)] := hv 8 (by omega)
            obtain rfl : v9 = .slice (some ⟨g, 0, none⟩) m c := hv 9 (by omega)
            obtain rfl : v10 = .int .i64 ((t : Int) + 1) := hv 10 (by omega)
            obtain rfl : v11 = .int .i64 (t : Nat) := hv 11 (by omega)
            obtain rfl : v12 = .pointer (some ⟨g, t * 2, none⟩) := hv 12 (by omega)
            obtain rfl : v13 = .agg #[.slice Ay k cy, .int .u64 (vy : Nat)] := hv 13 (by omega)
            obtain rfl : v14 = .int .i64 z := hv 14 (by omega)
            obtain rfl : v15 = .bool zb := hv 15 (by omega)
            clear hv
            simp only [putAll, List.take_succ_cons, List.take_zero, List.drop_succ_cons, List.drop_zero, Act.put, List.setIfInBounds_toArray, List.set_cons_succ, List.set_cons_zero]
            have HN4 := Lib.hid (HN.out.step (show Below wr.heap.size wr w3 from hb3))
            have HS3 := Lib.hid (show Below wr.heap.size wr w3 from hb3)
            replace k0 := Below.keeps hb3 _ _ k0
            replace k1 := Below.keeps hb3 _ _ k1
            replace q0 := Below.keeps hb3 _ _ q0
            replace q1 := Below.keeps hb3 _ _ q1
            replace hgl := Nat.lt_of_lt_of_le hgl hb3.size
            clear hb3 hzb hthaw
            cases zb with
            | false =>
              have DN := Lib.hid (HN4.out.done (fun u hu => by
                have hyx : pkey py ≤ pkey px := by have h1 := HZ.out; have h2 := of_decide_eq_false HZB.out; omega
                rcases List.mem_append.1 hu with hu | hu
                · have h3 := (List.pairwise_append.1 (List.pairwise_append.1 HN4.out.srt).1).2.2 u hu _ (List.mem_singleton.2 rfl)
                  exact Nat.le_trans h3 hyx
                · obtain rfl := List.mem_singleton.1 hu
                  exact hyx))
              clear k0 k1 q0 q1 hgl
              go_wp2_with fail
              go_roundw
              case rel =>
                obtain ⟨d1, d2, d3, d4, d5⟩ := DN.out
                exact ⟨_, R, by rw [HW.out]; congr 2; have e1 := HI.out.2.1; have e2 := HIE.out; have e3 := HD.out.2.1; simp only [List.length_cons] at e1 e3 d4; omega, d5, d4, d1, d2, d3⟩
              case measure => rw [intOf_of' HW.out, intOf_nat]; have e3 := HD.out.2.1; omega
            | true =>
              have hthaw : ∀ q, w3.frozen? ⟨g, q, none⟩ = false := fun q => HN4.out.pr.thaw q
              go_wp2_with fail
              go_region
              go_wp2_with fail
              go_roundw
              case rel =>
                refine ⟨P', (⟨.slice Ay py.length cy, ⟨py, vy⟩⟩ : Pe) :: Q, by first | (rw [hwt]; congr 2; have := HJT.out; omega) | (congr 2; have := HJT.out; omega), HN4.out.down (show pkey px < pkey py from HZ.out.1 (of_decide_eq_true HZB.out)) ?_⟩
                have hp3 := HP2.out.1.step HS3.out
                have hT : t + 1 < ((A ++ P') ++ (⟨.slice Ay py.length cy, ⟨py, vy⟩⟩ : Pe) :: (⟨.slice Ax px.length cx, ⟨px, vx⟩⟩ : Pe) :: (Q ++ (R ++ B))).length := by rw [← HP2.out.2.1]; simp; omega
                have h5 := (hp3.set hT (⟨.slice Ay py.length cy, ⟨py, vy⟩⟩ : Pe) HP2.out.2.2.2).set (j := t) (by rw [List.length_set]; omega) (⟨.slice Ax px.length cx, ⟨px, vx⟩⟩ : Pe) HP2.out.2.2.1
                have h6 := swap_mid (A ++ P') (⟨.slice Ay py.length cy, ⟨py, vy⟩⟩ : Pe) (⟨.slice Ax px.length cx, ⟨px, vx⟩⟩ : Pe) (Q ++ (R ++ B))
                rw [HP2.out.2.1] at h6
                rw [h6] at h5
                have h7 := h5.step (Below.drew (Below.refl _ _))
                simp only [HKK.out.1, HKK.out.2] at h7 ⊢
                simpa using h7
              case measure => first | (rw [intOf_of' hwt, intOf_of' rfl]; omega) | (rw [intOf_of' rfl, intOf_of' rfl]; omega) | (simp [intOf]; omega)
    · obtain rfl : S2 = [] := by
        cases S2 with
        | nil => rfl
        | cons x R => exact absurd (hbi.2.2 (by simp)) hib
      have h3 : ¬ (i : Int) < (b : Int) := by omega
      clear h1 h2 hpr hsrt hstb hi hbi
      go_wp2_with fail
      go_end0
      exact ⟨S1, rfl, by simpa using HI.out.2.2.1, by have := HI.out.2.1; simpa using this, by simpa using HI.out.2.2.2.2, HI.out.2.2.2.1⟩
end Go.Proofs.YtjokcagggmjgmaaGreat
/-! SrtC -/
namespace Go.Proofs.YtjokcagggmjgmaaGreat
open Go.RowKit
set_option linter.unusedVariables false
set_option linter.unusedSimpArgs false
set_option maxRecDepth 100000

theorem eclone_any (w : World) (l : List En) (v : Value) (hv : RdE w v l) (hl : l.length ≤ 1000) : Calls Tryz.prog 117 #[v] w fun e w' => ∃ v', e = .returned v' ∧ OwnE w w' v' l ∧ Below w.heap.size w w' := by
  have HS := Lib.hid (fun w' (hb : Below w.heap.size w w') => hv.src hb)
  have HL := Lib.hid hl
  obtain ⟨A, c, rfl, ⟨h1, h2, h3⟩, hx⟩ := hv
  cases A with
  | none =>
    have hl0 : l = [] := by
      cases l with
      | nil => rfl
      | cons x l => obtain ⟨b, o, h, _⟩ := hx (by simp); cases h
    subst hl0
    have he : ∀ w : World, (binOp .eql 28 (.slice none 0 c) (.slice none 0 0)).run Tryz.prog w = .ok (.bool true) w := fun _ => rfl
    clear h1 h2 h3 hx hl
    simp only [List.length_nil]
    go_enter Tryz.func117, Tryz.ntmps117
    go_wp2_with fail
    go_ret
    exact ⟨_, rfl, OwnE.nil _ _, Below.refl _ _⟩
  | some a =>
    have he : ∀ w : World, (binOp .eql 28 (.slice (some a) l.length c) (.slice none 0 0)).run Tryz.prog w = .ok (.bool false) w := fun _ => rfl
    clear h1 h2 h3 hx hl
    go_enter Tryz.func117, Tryz.ntmps117
    go_wp2_with (at_builtin; refine wpList_append_E rfl (.tmp 5) (.tmp 6) rfl w [] l (OwnE.lit (Nat.le_refl _) rfl) (HS.out _ (by repeat (first | exact Below.refl _ _ | (refine Below.drew ?_) | (refine below_drewN' ?_ _) | (refine below_alloc' ?_ _) | (refine Below.setCell ?_ (by first | exact Nat.le_refl _ | (simp; done) | (simp; omega)) _)))) (by repeat (first | exact Below.refl _ _ | (refine Below.drew ?_) | (refine below_drewN' ?_ _) | (refine below_alloc' ?_ _) | (refine Below.setCell ?_ (by first | exact Nat.le_refl _ | (simp; done) | (simp; omega)) _))) (by have := HL.out; simp; omega) ?_)
    intro v' w' hown hb
    have HO := Lib.hid (And.intro hown hb)
    clear hown hb
    go_wp2_with fail
    go_ret
    exact ⟨_, rfl, HO.out.1, HO.out.2⟩
theorem cellsE_pe {w : World} {cs : List Value} {l : List En} (h : CellsE w cs l) : ∃ xs : List Pe, xs.map (·.2) = l ∧ (∀ x ∈ xs, RdU w x.1 (pti x.2.p)) ∧ cs.length = xs.length * 2 ∧
    ∀ j (hj : j < xs.length), cs[j * 2]? = some xs[j].1 ∧ cs[j * 2 + 1]? = some (.int .u64 (xs[j].2.v : Nat)) := by
  induction l generalizing cs with
  | nil => obtain rfl : cs = [] := h; exact ⟨[], rfl, by simp, rfl, fun j hj => by simp at hj⟩
  | cons e l ih =>
    obtain ⟨u, ds, rfl, hu, h⟩ := h
    obtain ⟨xs, h1, h2, h3, h4⟩ := ih h
    refine ⟨(u, e) :: xs, by simp [h1], ?_, by simp [h3]; omega, ?_⟩
    · intro x hx
      rcases List.mem_cons.1 hx with rfl | hx
      · exact hu
      · exact h2 x hx
    · intro j hj
      cases j with
      | zero => simp
      | succ j =>
        obtain ⟨a, b⟩ := h4 j (by simpa using hj)
        refine ⟨?_, ?_⟩
        · rw [show (j + 1) * 2 = j * 2 + 1 + 1 by omega]; simpa using a
        · rw [show (j + 1) * 2 + 1 = j * 2 + 1 + 1 + 1 by omega]; simpa using b
theorem OwnE.pr {W w : World} {v : Value} {l : List En} (h : OwnE W w v l) (hb : Below W.heap.size W w) (hne : l ≠ []) : ∃ g n xs, v = .slice (some ⟨g, 0, none⟩) l.length n ∧ PR W w g n xs ∧ xs.map (·.2) = l := by
  obtain ⟨cs, ⟨h1, h2⟩, h3⟩ := h
  obtain ⟨xs, e1, e2, e3, e4⟩ := cellsE_pe h3
  have hlen : xs.length = l.length := by rw [← e1]; simp
  rcases h2 with ⟨_, h0⟩ | ⟨g, cap, cur, rfl, hg, hh, hcap, hm, hs, ht⟩
  · exact absurd (List.length_eq_zero_iff.1 h0) hne
  · refine ⟨g, cap, xs, rfl, ⟨⟨cur, hh, hs, by omega, fun j hj => ?_⟩, e2, hg, hb⟩, e1⟩
    obtain ⟨a, b⟩ := e4 j hj
    have key : ∀ i x, cs[i]? = some x → cur[i]? = some x := fun i x hi => by
      rw [← ht] at hi
      have hil := (List.getElem?_eq_some_iff.1 hi).1
      rw [List.length_take] at hil
      rw [List.getElem?_take_of_lt (by omega), Array.getElem?_toList] at hi
      exact hi
    exact ⟨key _ _ a, key _ _ b⟩
/-- the stable sort does what it is to do, for rows up to N -/
def SortR (W0 : World) (g n : Nat) (xs : List Pe) (e : Ending) (w' : World) : Prop := ∃ ys, e = .returned (.tuple #[]) ∧ PR W0 w' g n ys ∧ ys.length = xs.length ∧ Stb xs ys ∧ Srt ys
def SortOk (N : Nat) : Prop := ∀ (W0 w : World) (g n c k : Nat) (xs : List Pe), xs.length ≤ N → xs ≠ [] → 1 ≤ k → k ≤ 16 → PR W0 w g n xs → (∀ x ∈ xs, x.2.p.length = k ∧ ∀ q ∈ x.2.p, q < 2 ^ 64) →
  Calls Tryz.prog 118 #[.slice (some ⟨g, 0, none⟩) xs.length c, .func (.func 119) #[] #[]] w fun e w' => SortR W0 g n xs e w'
set_option maxHeartbeats 1000000 in
theorem stc_small (W0 w : World) (g n c k : Nat) (xs : List Pe) (hl : xs.length ≤ 19) (hne : xs ≠ []) (k1 : 1 ≤ k) (k16 : k ≤ 16) (h : PR W0 w g n xs) (hk : ∀ x ∈ xs, x.2.p.length = k ∧ ∀ q ∈ x.2.p, q < 2 ^ 64) :
    Calls Tryz.prog 163 #[.slice (some ⟨g, 0, none⟩) xs.length c, .int .i64 (xs.length : Nat), .func (.func 119) #[] #[]] w fun e w' => SortR W0 g n xs e w' := by
  have HI := Lib.hid (fun w' (hb : Below w.heap.size w w') => isort_any W0 w' g n 0 xs.length xs.length c k [] xs [] rfl (by simp) (by simp) (by omega) k1 k16 (by simpa using h.step hb) (by simpa using hk) hne)
  have h20 : ¬ (20 : Int) ≤ (xs.length : Int) := by omega
  have h21 : ¬ (20 : Int) < (xs.length : Int) := by omega
  clear h hk hl
  go_enter Tryz.func163, Tryz.ntmps163
  go_wp2_with fail
  go_loopw [7, 8] (fun av bv wr => av = .int .i64 0 ∧ bv = .int .i64 20 ∧ wr = w) (fun _ _ _ => 0)
  case atStart => exact ⟨rfl, rfl, rfl⟩
  case round =>
    obtain ⟨rfl, rfl, hw⟩ := hrel
    subst hw
    go_wp2_with fail
    refine (HI.out _ (Below.refl _ _)).mono ?_
    rintro e w2 ⟨S', rfl, hp, hl2, hs, hsrt⟩
    have HF := Lib.hid (And.intro hp (And.intro hl2 (And.intro hs hsrt)))
    clear hp hl2 hs hsrt
    go_wp2_with fail
    go_loopw [6, 7, 8, 9] (fun bv _ _ _ wr => bv = .int .i64 20 ∧ wr = w2) (fun _ _ _ _ _ => 0)
    case atStart => exact ⟨rfl, rfl⟩
    case round =>
      obtain ⟨rfl, hw⟩ := hrel
      subst hw
      go_wp2_with fail
      go_end0
      exact ⟨S', rfl, by simpa using HF.out.1, HF.out.2.1, HF.out.2.2.1, HF.out.2.2.2⟩
theorem sort_small : SortOk 19 := by
  intro W0 w g n c k xs hl hne k1 k16 h hk
  have HI := Lib.hid (stc_small W0 w g n c k xs hl hne k1 k16 h hk)
  clear h hk hl hne k1 k16
  go_enter Tryz.func118, Tryz.ntmps118
  go_wp2_with fail
  refine HI.out.mono ?_
  rintro e w2 ⟨ys, rfl, h1, h2, h3, h4⟩
  have HF := Lib.hid (And.intro h1 (And.intro h2 (And.intro h3 h4)))
  clear h1 h2 h3 h4
  go_wp2_with fail
  go_end0
  exact ⟨ys, rfl, HF.out.1, HF.out.2.1, HF.out.2.2.1, HF.out.2.2.2⟩
end Go.Proofs.YtjokcagggmjgmaaGreat
/-! SrtD -/
namespace Go.Proofs.YtjokcagggmjgmaaGreat
open Go.RowKit
set_option linter.unusedVariables false
set_option linter.unusedSimpArgs false
set_option maxRecDepth 100000

theorem PR.room {W0 w : World} {g n : Nat} {xs : List Pe} (h : PR W0 w g n xs) (j : Nat) (hj : j < n * 2) : (w.cell? ⟨g, j, none⟩).isSome = true := by
  obtain ⟨cur, h1, h2, _⟩ := h.cells
  simp [World.cell?, h1, h2, hj]
theorem wpList_append_room {W0 w : World} {ops : Array Oper} {rest : List Oper} {o : Oper} {a : Act} {Q : Exit → Act → World → Prop} (hgd : o.guard = none) (s x : Operand)
    (ho : o.op = .call { callee := .builtin .append, args := #[s, x], argTypes := #[28, 28] }) (g n r b2 cc : Nat) (xs : List Pe) (u : Value) (v : Nat) (hpr : PR W0 w g n xs) (hr : r < n)
    (hs : a.eval s = .slice (some ⟨g, 0, none⟩) r n) (hx : a.eval x = .slice (some ⟨b2, 0, none⟩) 1 cc) (h0 : w.cell? ⟨b2, 0, none⟩ = some u) (h1 : w.cell? ⟨b2, 1, none⟩ = some (.int .u64 (v : Nat))) (hu : u.oneCell' = true)
    (h : wpList Tryz.prog ops Q rest (a.put o.dst (.slice (some ⟨g, 0, none⟩) (r + 1) n)) ((w.setCell ⟨g, r * 2, none⟩ u).setCell ⟨g, r * 2 + 1, none⟩ (.int .u64 (v : Nat)))) : wpList Tryz.prog ops Q (o :: rest) a w := by
  obtain ⟨i, hi, hz0, hz1, hz2⟩ := info_parts entryInfo
  have hrun := run_append_room_cells (P := Tryz.prog) w 28 o.type 51 i Tryz.underlying28 hi g 0 r n ⟨b2, 0, none⟩ 1 cc [u, .int .u64 (v : Nat)] (by rw [hz1]; rfl) (fun j y hj => by
    match j with
    | 0 => simp at hj; subst hj; simpa [Addr.add] using h0
    | 1 => simp at hj; subst hj; simpa [Addr.add] using h1
    | j + 2 => simp at hj) (fun y hy => by
    rcases List.mem_cons.1 hy with rfl | hy
    · exact hu
    · obtain rfl := List.mem_singleton.1 hy; rfl) (by omega) (fun j hj => by
    rw [hz1]; exact hpr.room _ (by simp at hj; omega)) (fun j hj => by rw [hz1]; exact hpr.thaw _)
  rw [hz1, Nat.zero_add] at hrun
  rw [← hs, ← hx] at hrun
  exact wpList_append_run hgd s x ho hrun h
theorem isort_nil (w : World) (A : Option Addr) (c : Nat) : Calls Tryz.prog 178 #[.slice A 0 c, .int .i64 0, .int .i64 0, .func (.func 119) #[] #[]] w fun e w' => e = .returned (.tuple #[]) ∧ w' = w := by
  go_enter Tryz.func178, Tryz.ntmps178
  go_wp2_with fail
  go_loopw [8, 9] (fun iv _ wr => iv = .int .i64 1 ∧ wr = w) (fun _ _ _ => 0)
  case atStart => exact ⟨rfl, rfl⟩
  case round =>
    obtain ⟨rfl, hw⟩ := hrel
    subst hw
    go_wp2_with fail
    go_end0
    exact ⟨rfl, rfl⟩
theorem stc_nil (w : World) (A : Option Addr) (c : Nat) : Calls Tryz.prog 163 #[.slice A 0 c, .int .i64 0, .func (.func 119) #[] #[]] w fun e w' => e = .returned (.tuple #[]) ∧ w' = w := by
  have HI := Lib.hid (isort_nil w A c)
  go_enter Tryz.func163, Tryz.ntmps163
  go_wp2_with fail
  go_loopw [7, 8] (fun av bv wr => av = .int .i64 0 ∧ bv = .int .i64 20 ∧ wr = w) (fun _ _ _ => 0)
  case atStart => exact ⟨rfl, rfl, rfl⟩
  case round =>
    obtain ⟨rfl, rfl, hw⟩ := hrel
    subst hw
    go_wp2_with fail
    refine HI.out.mono ?_
    rintro e w2 ⟨rfl, hw2⟩
    obtain rfl := hw2.symm
    go_wp2_with fail
    go_loopw [6, 7, 8, 9] (fun bv _ _ _ wr8 => bv = .int .i64 20 ∧ wr8 = wr) (fun _ _ _ _ _ => 0)
    case atStart => exact ⟨rfl, rfl⟩
    case round =>
      obtain ⟨rfl, hw⟩ := hrel
      subst hw
      go_wp2_with fail
      go_end0
      exact ⟨rfl, rfl⟩
theorem stb_nil (w : World) (A : Option Addr) (c : Nat) : Calls Tryz.prog 118 #[.slice A 0 c, .func (.func 119) #[] #[]] w fun e w' => e = .returned (.tuple #[]) ∧ w' = w := by
  have HI := Lib.hid (stc_nil w A c)
  go_enter Tryz.func118, Tryz.ntmps118
  go_wp2_with fail
  refine HI.out.mono ?_
  rintro e w2 ⟨rfl, hw2⟩
  obtain rfl := hw2.symm
  go_wp2_with fail
  go_end0
  exact ⟨rfl, rfl⟩
/-- what stands ahead of a round: r are kept, from j on the row is as it was sorted -/
structure SrI (W0 wr : World) (g n : Nat) (ys zs : List Pe) (j r : Nat) : Prop where
  pr : PR W0 wr g n zs
  len : zs.length = ys.length
  rj : r ≤ j
  jm : j ≤ ys.length
  rest : ∀ i (h : i < ys.length) (h' : i < zs.length), j ≤ i → zs[i] = ys[i]
  out : zs.take r ++ lastsL (ys.drop j) = lastsL ys
theorem SrI.skip {W0 wr w' : World} {g n : Nat} {ys zs : List Pe} {j r : Nat} (h : SrI W0 wr g n ys zs j r) (hb : Below wr.heap.size wr w') (hj : j + 1 < ys.length) (he : ek (ys[j]'(by omega)) = ek ys[j + 1]) : SrI W0 w' g n ys zs (j + 1) r := by
  refine ⟨h.pr.step hb, h.len, by have := h.rj; omega, by omega, fun i h1 h2 h3 => h.rest i h1 h2 (by omega), ?_⟩
  rw [← h.out]
  congr 1
  rw [← List.getElem_cons_drop (show j < ys.length by omega), ← List.getElem_cons_drop hj]
  conv => rhs; unfold lastsL
  rw [if_pos he]
theorem SrI.take {W0 wr w' : World} {g n : Nat} {ys zs : List Pe} {j r : Nat} (h : SrI W0 wr g n ys zs j r) (hj : j < ys.length) (hne : ∀ h : j + 1 < ys.length, ek ys[j] ≠ ek (ys[j + 1]'h)) (hpr : PR W0 w' g n (zs.set r ys[j])) : SrI W0 w' g n ys (zs.set r ys[j]) (j + 1) (r + 1) := by
  have hrz : r < zs.length := by have := h.rj; have := h.len; omega
  refine ⟨hpr, by rw [List.length_set]; exact h.len, by have := h.rj; omega, by omega, fun i h1 h2 h3 => ?_, ?_⟩
  · rw [List.length_set] at h2
    rw [List.getElem_set_ne (by have := h.rj; omega)]
    exact h.rest i h1 h2 (by omega)
  · rw [← h.out, List.take_add_one, List.getElem?_set_self hrz]
    have e1 : (zs.set r ys[j]).take r = zs.take r := by rw [List.take_set_of_le (Nat.le_refl _)]
    rw [e1, List.append_assoc]
    congr 1
    rw [← List.getElem_cons_drop hj]
    by_cases hlast : j + 1 < ys.length
    · rw [← List.getElem_cons_drop hlast]
      conv => rhs; unfold lastsL
      rw [if_neg (hne hlast)]
      rfl
    · rw [List.drop_eq_nil_of_le (by omega)]
      rfl
theorem PR.rd {W0 w : World} {g n r : Nat} {zs : List Pe} {l : List En} (h : PR W0 w g n zs) (hr : r ≤ zs.length) (hn : n ≤ maxLen) (hl : (zs.take r).map (·.2) = l) : RdE w (.slice (some ⟨g, 0, none⟩) r n) l := by
  subst hl
  have hlen : ((zs.take r).map (·.2)).length = r := by simp; omega
  refine ⟨some ⟨g, 0, none⟩, n, by rw [hlen], ⟨by rw [hlen]; obtain ⟨_, _, _, h3, _⟩ := h.cells; omega, hn, fun _ => ⟨g, 0, rfl⟩⟩, fun _ => ⟨g, 0, rfl, fun q hq => ?_⟩⟩
  have hq' := hq
  rw [hlen] at hq'
  obtain ⟨a, b⟩ := h.at' q (by omega)
  have e : ((zs.take r).map (·.2))[q]'hq = (zs[q]'(by omega)).2 := by simp
  rw [e, Nat.zero_add]
  exact ⟨_, a, (h.pts _ (List.getElem_mem _)).below h.bel, b⟩
/-- a row of entries is handed back -/
def SrtR (W : World) (l : List En) (e : Ending) (w' : World) : Prop := ∃ v, e = .returned v ∧ RdE w' v l ∧ Below W.heap.size W w'
set_option maxHeartbeats 4000000 in
theorem sorted_any (N : Nat) (hS : SortOk N) (w : World) (k : Nat) (l : List En) (v : Value) (hv : RdE w v l) (hlN : l.length ≤ N) (hl : l.length ≤ 1000) (k1 : 1 ≤ k) (k16 : k ≤ 16) (hk : ∀ e ∈ l, e.p.length = k ∧ ∀ q ∈ e.p, q < 2 ^ 64) :
    Calls Tryz.prog 70 #[v] w fun e w' => SrtR w (putsL [] l) e w' := by
  have HC := Lib.hid (eclone_any w l v hv hl)
  obtain ⟨A0, c0, rfl, zz⟩ := hv
  clear zz
  by_cases hne : l = []
  · subst hne
    clear hk hl hlN hS
    go_enter Tryz.func70, Tryz.ntmps70
    go_wp2_with fail
    refine HC.out.mono ?_
    rintro e w1 ⟨v1, rfl, ho, hb⟩
    have hr := ho.rd hb
    obtain ⟨A1, c1, e1, hcc, _⟩ := ho.rd hb
    subst e1
    have HR := Lib.hid (And.intro hr (And.intro hcc hb))
    simp only [List.length_nil] at *
    clear ho hr hb hcc
    go_wp2_with fail
    refine (stb_nil w1 A1 c1).mono ?_
    rintro e w2 ⟨rfl, hw2⟩
    obtain rfl := hw2.symm
    clear hw2
    have h0c : (0 : Int) ≤ (c1 : Int) := by omega
    go_wp2_with fail
    go_loopw [4, 5, 6, 15] (fun ov _ _ iv wr => ov = .slice A1 0 c1 ∧ iv = .int .i64 0 ∧ wr = w1) (fun _ _ _ _ _ => 0)
    case atStart => exact ⟨rfl, rfl, rfl⟩
    case round =>
      obtain ⟨rfl, rfl, hw⟩ := hrel
      subst hw
      go_wp2_with fail
      go_ret
      exact ⟨_, rfl, ⟨A1, c1, rfl, HR.out.2.1, fun h => absurd h (by simp [putsL])⟩, HR.out.2.2⟩
  · have hls : 0 < l.length := List.length_pos_iff.2 hne
    have HD := Lib.hid (And.intro hne (And.intro hlN (And.intro hl (And.intro k1 (And.intro k16 hk)))))
    clear hk hl hlN k1 k16
    go_enter Tryz.func70, Tryz.ntmps70
    go_wp2_with fail
    refine HC.out.mono ?_
    rintro e w1 ⟨v1, rfl, ho, hb⟩
    obtain ⟨g, n, xs, rfl, hpr, hxl⟩ := ho.pr hb HD.out.1
    obtain ⟨_, _, e9, ⟨hcc1, hcc2, _⟩, _⟩ := ho.rd hb
    have hnm : n ≤ maxLen := by simp only [Value.slice.injEq] at e9; have := e9.2.2; omega
    have hlen : l.length = xs.length := by rw [← hxl]; simp
    have hxk : ∀ x ∈ xs, x.2.p.length = k ∧ ∀ q ∈ x.2.p, q < 2 ^ 64 := fun x hx => HD.out.2.2.2.2.2 x.2 (by rw [← hxl]; exact List.mem_map_of_mem hx)
    have HS := Lib.hid (hS w w1 g n n k xs (by have := HD.out.2.1; omega) (by intro h; rw [h, List.length_nil] at hlen; omega) HD.out.2.2.2.1 HD.out.2.2.2.2.1 hpr hxk)
    have HX := Lib.hid (And.intro hxl (And.intro hxk hnm))
    have HXL := Lib.hid (show xs.length ≤ 1000 by rw [← hlen]; exact HD.out.2.2.1)
    rw [hlen] at *
    clear ho hb hpr hxl hxk e9 hcc1 hcc2 hnm hlen
    go_wp2_with fail
    refine HS.out.mono ?_
    rintro e w2 ⟨ys, rfl, hp2, hyl, hst, hsr⟩
    have HY := Lib.hid (And.intro hp2 (And.intro hyl (And.intro hst hsr)))
    have hyk : ∀ y ∈ ys, y.2.p.length = k ∧ ∀ q ∈ y.2.p, q < 2 ^ 64 := fun y hy => HX.out.2.1 y (hst.mem.2 hy)
    have HYK := Lib.hid hyk
    obtain ⟨m, hm⟩ : ∃ m, xs.length = m := ⟨_, rfl⟩
    have HLN := Lib.hid (And.intro (hyl.trans hm) (show m ≤ 1000 by rw [← hm]; exact HXL.out))
    rw [hm] at *
    clear hp2 hst hsr hyk hyl hm HS
    have h0c : (0 : Int) ≤ (n : Int) := by omega
    go_wp2_with fail
    go_loopw [4, 5, 6, 15] (fun ov _ _ iv wr => ∃ (zs : List Pe) (j r : Nat), ov = .slice (some ⟨g, 0, none⟩) r n ∧ iv = .int .i64 (j : Nat) ∧ SrI w wr g n ys zs j r) (fun _ _ _ iv _ => m - (intOf iv).toNat)
    case atStart => exact ⟨ys, 0, 0, rfl, rfl, ⟨HY.out.1, rfl, Nat.le_refl _, Nat.zero_le _, fun i h1 h2 _ => rfl, by simp⟩⟩
    case round =>
      obtain ⟨zs, j, r, rfl, rfl, hI⟩ := hrel
      have HI := Lib.hid hI
      have hym : ys.length = m := HLN.out.1
      have hzm : zs.length = m := hI.len.trans hym
      have hm1000 := HLN.out.2
      by_cases hj : j < m
      · have hjz : j < zs.length := by omega
        have hjy : j < ys.length := by omega
        obtain ⟨q0, q1⟩ := hI.pr.at' j hjz
        have hzj := hI.rest j hjy hjz (Nat.le_refl _)
        have hmy : ys[j] ∈ ys := List.getElem_mem hjy
        have rux := hI.pr.pts zs[j] (List.getElem_mem hjz)
        rw [hzj] at q0 q1 rux
        obtain ⟨kx, ox⟩ := HYK.out _ hmy
        obtain ⟨X, hX⟩ : ∃ X, ys[j] = X := ⟨_, rfl⟩
        rw [hX] at q0 q1 rux kx ox
        obtain ⟨ux, px, vx⟩ := X
        simp only at q0 q1 rux kx ox
        have HRX := Lib.hid (And.intro hX (And.intro rux (And.intro kx ox)))
        obtain ⟨Ax, cx, hux, _⟩ := RdU.point rux
        rw [kx] at hux
        have HUX := Lib.hid hux
        rw [hux] at q0
        have hj1 : (0 : Int) ≤ (j : Int) := by omega
        have hj2 : (j : Int) < (m : Int) := by omega
        have hj3 : (0 : Int) ≤ (j : Int) + 1 := by omega
        have hgl := hI.pr.lt
        have hwj2 : IntKind.i64.wrap ((j : Int) + 1) = (j : Int) + 1 := by rw [IntKind.wrap_i64]; omega
        have hwj : wrap64 ((j : Int) + 1) = (j : Int) + 1 := by unfold wrap64; omega
        have HBI := Lib.hid (And.intro hj1 (And.intro hj2 (And.intro hwj hwj2)))
        clear hI hjz hzj hmy rux kx ox hX hux
        go_wp2_with fail
        obtain ⟨W, hW⟩ : ∃ W, wr.alloc (Obj.cells #[Value.slice Ax k cx, Value.int IntKind.u64 (vx : Nat)] 51) = W := ⟨_, rfl⟩
        have HBW := Lib.hid (show Below wr.heap.size wr W from hW ▸ below_alloc' (Below.refl _ _) _)
        obtain ⟨E, hE⟩ : ∃ E, wr.heap.size = E := ⟨_, rfl⟩
        have e0 : W.cell? ⟨E, 0, none⟩ = some (.slice Ax k cx) := by rw [← hW, ← hE]; simp only [World.cell?, heap_alloc_new]; rfl
        have e1 : W.cell? ⟨E, 1, none⟩ = some (.int .u64 (vx : Nat)) := by rw [← hW, ← hE]; simp only [World.cell?, heap_alloc_new]; rfl
        have hEl : E < W.heap.size := by rw [← hW, ← hE]; simp
        rw [hW, hE]
        replace q0 := Below.keeps HBW.out _ _ q0
        replace q1 := Below.keeps HBW.out _ _ q1
        have HGW := Lib.hid (show g < W.heap.size from Nat.lt_of_lt_of_le hgl HBW.out.size)
        have HRN := Lib.hid (show r < n by have := HI.out.rj; obtain ⟨_, _, _, h3, _⟩ := HI.out.pr.cells; have := HLN.out.1; have := HI.out.len; omega)
        clear hW hE hgl q0 q1
        by_cases hj5 : j + 1 < m
        · have hjz2 : j + 1 < zs.length := by omega
          have hjy2 : j + 1 < ys.length := by omega
          obtain ⟨k0, k1⟩ := HI.out.pr.at' (j + 1) hjz2
          have hzj := HI.out.rest (j + 1) hjy2 hjz2 (by omega)
          have ruy := HI.out.pr.pts zs[j + 1] (List.getElem_mem hjz2)
          rw [hzj] at k0 k1 ruy
          obtain ⟨ky, oy⟩ := HYK.out _ (List.getElem_mem hjy2)
          obtain ⟨Y, hY⟩ : ∃ Y, ys[j + 1] = Y := ⟨_, rfl⟩
          rw [hY] at k0 k1 ruy ky oy
          obtain ⟨uy, py, vy⟩ := Y
          simp only at k0 k1 ruy ky oy
          have HRY := Lib.hid (And.intro hY ky)
          have HOR := Lib.hid (fun W2 (hb2 : Below W.heap.size W W2) => order_any W2 px py ux uy vx vy (HRX.out.2.1.below (HI.out.pr.bel.trans ((below_trans HBW.out hb2).mono HI.out.pr.bel.size))) (ruy.below (HI.out.pr.bel.trans ((below_trans HBW.out hb2).mono HI.out.pr.bel.size))) (by rw [HRX.out.2.2.1, ky]) (by rw [HRX.out.2.2.1]; exact HD.out.2.2.2.1) (by rw [HRX.out.2.2.1]; exact HD.out.2.2.2.2.1) HRX.out.2.2.2 oy)
          obtain ⟨Ay, cy, huy, _⟩ := RdU.point ruy
          rw [ky] at huy
          rw [HUX.out, huy] at HOR
          rw [huy] at k0
          replace k0 := Below.keeps HBW.out _ _ k0
          replace k1 := Below.keeps HBW.out _ _ k1
          have hgl := HGW.out
          obtain ⟨z, hz⟩ : ∃ z, Zb.cmp px py = z := ⟨_, rfl⟩
          rw [hz] at HOR
          have HZ := Lib.hid (show z = 0 ↔ pkey px = pkey py from hz ▸ cmp_zero px py)
          obtain ⟨zb, hzb⟩ : ∃ zb, (z == 0) = zb := ⟨_, rfl⟩
          have HZB := Lib.hid (show zb = true ↔ z = 0 by rw [← hzb]; exact beq_iff_eq)
          have hj4 : (j : Int) + 1 < (m : Int) := by omega
          clear hz hzj ruy ky oy hY huy hym hzm hm1000
          refine wp_region_vals 14 [fun z9 _ => z9 = .int .i64 (j : Nat),
            fun z9 _ => z9 = .int .i64 ((j : Int) + 1),
            fun z9 _ => z9 = .slice (some ⟨g, 0, none⟩) m n,
            fun z9 _ => z9 = .int .i64 (m : Nat),
            fun z9 _ => z9 = .bool true,
            fun z9 _ => z9 = .bool true,
            fun z9 _ => z9 = .agg #[.slice Ax k cx, .int .u64 (vx : Nat)],
            fun z9 _ => z9 = .slice (some ⟨g, 0, none⟩) m n,
            fun z9 _ => z9 = .int .i64 (j : Nat),
            fun z9 _ => z9 = .int .i64 ((j : Int) + 1),
            fun z9 _ => z9 = .pointer (some ⟨g, (j + 1) * 2, none⟩),
            fun z9 _ => z9 = .agg #[.slice Ay k cy, .int .u64 (vy : Nat)],
            fun z9 _ => z9 = .int .i64 z,
            fun z9 _ => z9 = .bool zb]
            (by kernel_rfl) (by kernel_rfl) (by kernel_rfl) (by kernel_rfl) ?_ ?_ ?_
          · intro V hV v w1 w2 h hb
            simp only [List.mem_cons, List.not_mem_nil, or_false] at hV
            rcases hV with rfl | rfl | rfl | rfl | rfl | rfl | rfl | rfl | rfl | rfl | rfl | rfl | rfl | rfl
            all_goals first | exact h | (exact h)
          · intro iq oq hiq hoq
            match iq, hiq with
            | 0, _ =>
            obtain rfl := Option.some.inj hoq
            intro a1 w1 K hk hK
            have e5 : a1.tmps.getD 5 undef = .int .i64 (j : Nat) := hk.same 5 (by simp)
            simp [Region.wanted, Oper.wp, Act.eval, go_sem, e5, e0, e1, k0, k1, hj1, hj2, hj3, hj4, hj5, hEl, hgl, hzb, hwj, hwj2]
            exact hK _ _ (Below.refl _ _) rfl
            | 1, _ =>
            obtain rfl := Option.some.inj hoq
            intro a1 w1 K hk hK
            have d20 : a1.tmps.getD 20 undef = .int .i64 (j : Nat) := hk.deps ⟨0, .data⟩ (by simp) rfl _ _ rfl rfl
            simp [Region.wanted, Oper.wp, Act.eval, go_sem, d20, e0, e1, k0, k1, hj1, hj2, hj3, hj4, hj5, hEl, hgl, hzb, hwj, hwj2]
            exact hK _ _ (Below.refl _ _) rfl
            | 2, _ =>
            obtain rfl := Option.some.inj hoq
            intro a1 w1 K hk hK
            have e3 : a1.tmps.getD 3 undef = .slice (some ⟨g, 0, none⟩) m n := hk.same 3 (by simp)
            simp [Region.wanted, Oper.wp, Act.eval, go_sem, e3, e0, e1, k0, k1, hj1, hj2, hj3, hj4, hj5, hEl, hgl, hzb, hwj, hwj2]
            exact hK _ _ (Below.refl _ _) rfl
            | 3, _ =>
            obtain rfl := Option.some.inj hoq
            intro a1 w1 K hk hK
            have d22 : a1.tmps.getD 22 undef = .slice (some ⟨g, 0, none⟩) m n := hk.deps ⟨2, .data⟩ (by simp) rfl _ _ rfl rfl
            simp [Region.wanted, Oper.wp, Act.eval, go_sem, d22, e0, e1, k0, k1, hj1, hj2, hj3, hj4, hj5, hEl, hgl, hzb, hwj, hwj2]
            exact hK _ _ (Below.refl _ _) rfl
            | 4, _ =>
            obtain rfl := Option.some.inj hoq
            intro a1 w1 K hk hK
            have d21 : a1.tmps.getD 21 undef = .int .i64 ((j : Int) + 1) := hk.deps ⟨1, .data⟩ (by simp) rfl _ _ rfl rfl
            have d23 : a1.tmps.getD 23 undef = .int .i64 (m : Nat) := hk.deps ⟨3, .data⟩ (by simp) rfl _ _ rfl rfl
            simp [Region.wanted, Oper.wp, Act.eval, go_sem, d21, d23, e0, e1, k0, k1, hj1, hj2, hj3, hj4, hj5, hEl, hgl, hzb, hwj, hwj2]
            exact hK _ _ (Below.refl _ _) rfl
            | 5, _ =>
            obtain rfl := Option.some.inj hoq
            intro a1 w1 K hk hK
            have d24 : a1.tmps.getD 24 undef = .bool true := hk.deps ⟨4, .data⟩ (by simp) rfl _ _ rfl rfl
            simp [Region.wanted, Oper.wp, Act.eval, go_sem, d24, e0, e1, k0, k1, hj1, hj2, hj3, hj4, hj5, hEl, hgl, hzb, hwj, hwj2]
            exact hK _ _ (Below.refl _ _) rfl
            | 6, _ =>
            obtain rfl := Option.some.inj hoq
            intro a1 w1 K hk hK
            have e6 : a1.tmps.getD 6 undef = .pointer (some ⟨E, 0, none⟩) := hk.same 6 (by simp)
            have gd : a1.tmps[25]? = some (.bool true) := getD_bool (hk.deps ⟨5, .guard⟩ (by simp) rfl _ _ rfl rfl)
            have c0 : w1.cell? ⟨E, 0, none⟩ = some (.slice Ax k cx) := Below.keeps hk.ext _ _ (by simp [go_sem, e0, e1, k0, k1, hj1, hj2, hj3, hj4, hj5, hEl, hgl, hzb, hwj, hwj2])
            have c1 : w1.cell? ⟨E, 1, none⟩ = some (.int .u64 (vx : Nat)) := Below.keeps hk.ext _ _ (by simp [go_sem, e0, e1, k0, k1, hj1, hj2, hj3, hj4, hj5, hEl, hgl, hzb, hwj, hwj2])
            have c2 : w1.cell? ⟨g, (j + 1) * 2, none⟩ = some (.slice Ay k cy) := Below.keeps hk.ext _ _ (by simp [go_sem, e0, e1, k0, k1, hj1, hj2, hj3, hj4, hj5, hEl, hgl, hzb, hwj, hwj2])
            have c3 : w1.cell? ⟨g, (j + 1) * 2 + 1, none⟩ = some (.int .u64 (vy : Nat)) := Below.keeps hk.ext _ _ (by simp [go_sem, e0, e1, k0, k1, hj1, hj2, hj3, hj4, hj5, hEl, hgl, hzb, hwj, hwj2])
            simp [Region.wanted, Oper.wp, Act.eval, go_sem, e6, gd, yielded, c0, c1, c2, c3, e0, e1, k0, k1, hj1, hj2, hj3, hj4, hj5, hEl, hgl, hzb, hwj, hwj2]
            exact hK _ _ (Below.refl _ _) rfl
            | 7, _ =>
            obtain rfl := Option.some.inj hoq
            intro a1 w1 K hk hK
            have e3 : a1.tmps.getD 3 undef = .slice (some ⟨g, 0, none⟩) m n := hk.same 3 (by simp)
            have gd : a1.tmps[25]? = some (.bool true) := getD_bool (hk.deps ⟨5, .guard⟩ (by simp) rfl _ _ rfl rfl)
            simp [Region.wanted, Oper.wp, Act.eval, go_sem, e3, gd, yielded, e0, e1, k0, k1, hj1, hj2, hj3, hj4, hj5, hEl, hgl, hzb, hwj, hwj2]
            exact hK _ _ (Below.refl _ _) rfl
            | 8, _ =>
            obtain rfl := Option.some.inj hoq
            intro a1 w1 K hk hK
            have e5 : a1.tmps.getD 5 undef = .int .i64 (j : Nat) := hk.same 5 (by simp)
            have gd : a1.tmps[25]? = some (.bool true) := getD_bool (hk.deps ⟨5, .guard⟩ (by simp) rfl _ _ rfl rfl)
            simp [Region.wanted, Oper.wp, Act.eval, go_sem, e5, gd, yielded, e0, e1, k0, k1, hj1, hj2, hj3, hj4, hj5, hEl, hgl, hzb, hwj, hwj2]
            exact hK _ _ (Below.refl _ _) rfl
            | 9, _ =>
            obtain rfl := Option.some.inj hoq
            intro a1 w1 K hk hK
            have d28 : a1.tmps.getD 28 undef = .int .i64 (j : Nat) := hk.deps ⟨8, .data⟩ (by simp) rfl _ _ rfl rfl
            have gd : a1.tmps[25]? = some (.bool true) := getD_bool (hk.deps ⟨5, .guard⟩ (by simp) rfl _ _ rfl rfl)
            simp [Region.wanted, Oper.wp, Act.eval, go_sem, d28, gd, yielded, e0, e1, k0, k1, hj1, hj2, hj3, hj4, hj5, hEl, hgl, hzb, hwj, hwj2]
            exact hK _ _ (Below.refl _ _) rfl
            | 10, _ =>
            obtain rfl := Option.some.inj hoq
            intro a1 w1 K hk hK
            have d27 : a1.tmps.getD 27 undef = .slice (some ⟨g, 0, none⟩) m n := hk.deps ⟨7, .data⟩ (by simp) rfl _ _ rfl rfl
            have d29 : a1.tmps.getD 29 undef = .int .i64 ((j : Int) + 1) := hk.deps ⟨9, .data⟩ (by simp) rfl _ _ rfl rfl
            have gd : a1.tmps[25]? = some (.bool true) := getD_bool (hk.deps ⟨5, .guard⟩ (by simp) rfl _ _ rfl rfl)
            simp [Region.wanted, Oper.wp, Act.eval, go_sem, d27, d29, gd, yielded, e0, e1, k0, k1, hj1, hj2, hj3, hj4, hj5, hEl, hgl, hzb, hwj, hwj2]
            exact hK _ _ (Below.refl _ _) rfl
            | 11, _ =>
            obtain rfl := Option.some.inj hoq
            intro a1 w1 K hk hK
            have d30 : a1.tmps.getD 30 undef = .pointer (some ⟨g, (j + 1) * 2, none⟩) := hk.deps ⟨10, .data⟩ (by simp) rfl _ _ rfl rfl
            have gd : a1.tmps[25]? = some (.bool true) := getD_bool (hk.deps ⟨5, .guard⟩ (by simp) rfl _ _ rfl rfl)
            have c0 : w1.cell? ⟨E, 0, none⟩ = some (.slice Ax k cx) := Below.keeps hk.ext _ _ (by simp [go_sem, e0, e1, k0, k1, hj1, hj2, hj3, hj4, hj5, hEl, hgl, hzb, hwj, hwj2])
            have c1 : w1.cell? ⟨E, 1, none⟩ = some (.int .u64 (vx : Nat)) := Below.keeps hk.ext _ _ (by simp [go_sem, e0, e1, k0, k1, hj1, hj2, hj3, hj4, hj5, hEl, hgl, hzb, hwj, hwj2])
            have c2 : w1.cell? ⟨g, (j + 1) * 2, none⟩ = some (.slice Ay k cy) := Below.keeps hk.ext _ _ (by simp [go_sem, e0, e1, k0, k1, hj1, hj2, hj3, hj4, hj5, hEl, hgl, hzb, hwj, hwj2])
            have c3 : w1.cell? ⟨g, (j + 1) * 2 + 1, none⟩ = some (.int .u64 (vy : Nat)) := Below.keeps hk.ext _ _ (by simp [go_sem, e0, e1, k0, k1, hj1, hj2, hj3, hj4, hj5, hEl, hgl, hzb, hwj, hwj2])
            simp [Region.wanted, Oper.wp, Act.eval, go_sem, d30, gd, yielded, c0, c1, c2, c3, e0, e1, k0, k1, hj1, hj2, hj3, hj4, hj5, hEl, hgl, hzb, hwj, hwj2]
            exact hK _ _ (Below.refl _ _) rfl
            | 12, _ =>
            obtain rfl := Option.some.inj hoq
            intro a1 w1 K hk hK
            have d26 : a1.tmps.getD 26 undef = .agg #[.slice Ax k cx, .int .u64 (vx : Nat)] := hk.deps ⟨6, .data⟩ (by simp) rfl _ _ rfl rfl
            have d31 : a1.tmps.getD 31 undef = .agg #[.slice Ay k cy, .int .u64 (vy : Nat)] := hk.deps ⟨11, .data⟩ (by simp) rfl _ _ rfl rfl
            have gd : a1.tmps[25]? = some (.bool true) := getD_bool (hk.deps ⟨5, .guard⟩ (by simp) rfl _ _ rfl rfl)
            simp [Region.wanted, Oper.wp, Act.eval, go_sem, d26, d31, gd, yielded, e0, e1, k0, k1, hj1, hj2, hj3, hj4, hj5, hEl, hgl, hzb, hwj, hwj2]
            refine (HOR.out _ (below_trans (by repeat (first | exact Below.refl _ _ | (refine Below.drew ?_) | (refine below_drewN' ?_ _) | (refine below_alloc' ?_ _) | (refine Below.setCell ?_ (by first | exact Nat.le_refl _ | (simp; done) | (simp; omega)) _))) hk.ext)).mono ?_
            rintro e w9 ⟨rfl, hb9⟩
            exact hK _ _ hb9 rfl
            | 13, _ =>
            obtain rfl := Option.some.inj hoq
            intro a1 w1 K hk hK
            have d32 : a1.tmps.getD 32 undef = .int .i64 z := hk.deps ⟨12, .data⟩ (by simp) rfl _ _ rfl rfl
            have gd : a1.tmps[25]? = some (.bool true) := getD_bool (hk.deps ⟨5, .guard⟩ (by simp) rfl _ _ rfl rfl)
            simp [Region.wanted, Oper.wp, Act.eval, go_sem, d32, gd, yielded, e0, e1, k0, k1, hj1, hj2, hj3, hj4, hj5, hEl, hgl, hzb, hwj, hwj2]
            exact hK _ _ (Below.refl _ _) rfl
          · intro vs w3 hl hb3 hv
            match vs, hl with
            | [v0, v1, v2, v3, v4, v5, v6, v7, v8, v9, v10, v11, v12, v13], _ =>
            obtain rfl : v0 = .int .i64 (j : Nat) := hv 0 (by omega)
            obtain rfl : v1 = .int .i64 ((j : Int) + 1) := hv 1 (by omega)
            obtain rfl : v2 = .slice (some ⟨g, 0, none⟩) m n := hv 2 (by omega)
            obtain rfl : v3 = .int .i64 (m : Nat) := hv 3 (by omega)
            obtain rfl : v4 = .bool true := hv 4 (by omega)
            obtain rfl : v5 = .bool true := hv 5 (by omega)
            obtain rfl : v6 = .agg #[.slice Ax k cx, .int .u64 (vx : Nat)] := hv 6 (by omega)
            obtain rfl : v7 = .slice (some ⟨g, 0, none⟩) m n := hv 7 (by omega)
            obtain rfl : v8 = .int .i64 (j : Nat) := hv 8 (by omega)
            obtain rfl : v9 = .int .i64 ((j : Int) + 1) := hv 9 (by omega)
            obtain rfl : v10 = .pointer (some ⟨g, (j + 1) * 2, none⟩) := hv 10 (by omega)
            obtain rfl : v11 = .agg #[.slice Ay k cy, .int .u64 (vy : Nat)] := hv 11 (by omega)
            obtain rfl : v12 = .int .i64 z := hv 12 (by omega)
            obtain rfl : v13 = .bool zb := hv 13 (by omega)
            clear hv
            simp only [putAll, List.take_succ_cons, List.take_zero, List.drop_succ_cons, List.drop_zero, Act.put, List.setIfInBounds_toArray, List.set_cons_succ, List.set_cons_zero]
            cases zb with
            | true =>
              have HNX := Lib.hid (HI.out.skip (show Below wr.heap.size wr w3 from below_trans HBW.out hb3) (by rw [HLN.out.1]; exact hj5) (by have := HZ.out.1 (HZB.out.1 rfl); rw [HRX.out.1, HRY.out.1]; exact this))
              go_wp2_with fail
              go_roundw
              case rel =>
                skip
                exact ⟨zs, j + 1, r, rfl, by first | (rw [hwj]; rfl) | rfl, HNX.out⟩
              case measure => first | (rw [intOf_of' hwj, intOf_of' rfl]; omega) | (rw [intOf_of' rfl, intOf_of' rfl]; omega) | (simp [intOf]; omega)
            | false =>
              have HNE := Lib.hid (show ∀ h : j + 1 < ys.length, ek (ys[j]'(by omega)) ≠ ek (ys[j + 1]'h) from fun h hh => by rw [HRX.out.1, HRY.out.1] at hh; exact Bool.noConfusion (HZB.out.2 (HZ.out.2 hh)))
              clear k0 k1 hgl
              have HPW := Lib.hid (HI.out.pr.step (below_trans HBW.out hb3))
              have HBB := Lib.hid (show Below wr.heap.size wr w3 from below_trans HBW.out hb3)
              replace e0 := Below.keeps hb3 _ _ e0
              replace e1 := Below.keeps hb3 _ _ e1
              replace hEl := Nat.lt_of_lt_of_le hEl hb3.size
              clear hb3
              have hrm : r < n := HRN.out
              go_wp2_with ((at_builtin; refine wpList_append_room (W0 := w) rfl (.tmp 35) (.tmp 37) rfl g n r _ _ zs (.slice Ax k cx) vx (HPW.out.step (by repeat (first | exact Below.refl _ _ | (refine Below.drew ?_) | (refine below_drewN' ?_ _) | (refine below_alloc' ?_ _) | (refine Below.setCell ?_ (by first | exact Nat.le_refl _ | (simp; done) | (simp; omega)) _)))) hrm rfl rfl ?_ ?_ rfl ?_))
              try case refine_1 => simp only [World.cell?, heap_alloc_new]; rfl
              try case refine_2 => simp only [World.cell?, heap_alloc_new]; rfl
              go_roundw
              case rel =>
                have hyj : j < ys.length := by rw [HLN.out.1]; exact hj
                have hrz : r < zs.length := by have := HI.out.rj; have := HI.out.len; omega
                have h5 := (HPW.out.step (show Below w3.heap.size w3 (w3.alloc (Obj.cells #[Value.slice Ax k cx, Value.int IntKind.u64 (vx : Nat)] 51)) from below_alloc' (Below.refl _ _) _)).set (j := r) hrz (⟨.slice Ax k cx, ⟨px, vx⟩⟩ : Pe) (by have := HRX.out.2.1; rw [HUX.out] at this; exact this)
                have h6 : ys[j] = (⟨.slice Ax k cx, ⟨px, vx⟩⟩ : Pe) := by rw [HRX.out.1, HUX.out]
                refine ⟨zs.set r ys[j], j + 1, r + 1, rfl, by first | (rw [hwj]; rfl) | rfl, HI.out.take hyj HNE.out ?_⟩
                rw [h6]
                exact h5
              case measure => first | (rw [intOf_of' hwj, intOf_of' rfl]; omega) | (rw [intOf_of' rfl, intOf_of' rfl]; omega) | (simp [intOf]; omega)
        · have HNE := Lib.hid (show ∀ h : j + 1 < ys.length, ek (ys[j]'(by omega)) ≠ ek (ys[j + 1]'h) from fun h hh => by have := HLN.out.1; omega)
          have hj4 : ¬ ((j : Int) + 1 < (m : Int)) := by omega
          clear hym hzm hm1000
          refine wp_region_vals 14 [fun z9 _ => z9 = .int .i64 (j : Nat),
            fun z9 _ => z9 = .int .i64 ((j : Int) + 1),
            fun z9 _ => z9 = .slice (some ⟨g, 0, none⟩) m n,
            fun z9 _ => z9 = .int .i64 (m : Nat),
            fun z9 _ => z9 = .bool false,
            fun z9 _ => z9 = .bool false,
            fun z9 _ => z9 = undef,
            fun z9 _ => z9 = undef,
            fun z9 _ => z9 = undef,
            fun z9 _ => z9 = undef,
            fun z9 _ => z9 = undef,
            fun z9 _ => z9 = undef,
            fun z9 _ => z9 = undef,
            fun z9 _ => z9 = undef]
            (by kernel_rfl) (by kernel_rfl) (by kernel_rfl) (by kernel_rfl) ?_ ?_ ?_
          · intro V hV v w1 w2 h hb
            simp only [List.mem_cons, List.not_mem_nil, or_false] at hV
            rcases hV with rfl | rfl | rfl | rfl | rfl | rfl | rfl | rfl | rfl | rfl | rfl | rfl | rfl | rfl
            all_goals first | exact h | (exact h)
          · intro iq oq hiq hoq
            match iq, hiq with
            | 0, _ =>
            obtain rfl := Option.some.inj hoq
            intro a1 w1 K hk hK
            have e5 : a1.tmps.getD 5 undef = .int .i64 (j : Nat) := hk.same 5 (by simp)
            simp [Region.wanted, Oper.wp, Act.eval, go_sem, e5, hj1, hj2, hj4, hwj, hwj2]
            exact hK _ _ (Below.refl _ _) rfl
            | 1, _ =>
            obtain rfl := Option.some.inj hoq
            intro a1 w1 K hk hK
            have d20 : a1.tmps.getD 20 undef = .int .i64 (j : Nat) := hk.deps ⟨0, .data⟩ (by simp) rfl _ _ rfl rfl
            simp [Region.wanted, Oper.wp, Act.eval, go_sem, d20, hj1, hj2, hj4, hwj, hwj2]
            exact hK _ _ (Below.refl _ _) rfl
            | 2, _ =>
            obtain rfl := Option.some.inj hoq
            intro a1 w1 K hk hK
            have e3 : a1.tmps.getD 3 undef = .slice (some ⟨g, 0, none⟩) m n := hk.same 3 (by simp)
            simp [Region.wanted, Oper.wp, Act.eval, go_sem, e3, hj1, hj2, hj4, hwj, hwj2]
            exact hK _ _ (Below.refl _ _) rfl
            | 3, _ =>
            obtain rfl := Option.some.inj hoq
            intro a1 w1 K hk hK
            have d22 : a1.tmps.getD 22 undef = .slice (some ⟨g, 0, none⟩) m n := hk.deps ⟨2, .data⟩ (by simp) rfl _ _ rfl rfl
            simp [Region.wanted, Oper.wp, Act.eval, go_sem, d22, hj1, hj2, hj4, hwj, hwj2]
            exact hK _ _ (Below.refl _ _) rfl
            | 4, _ =>
            obtain rfl := Option.some.inj hoq
            intro a1 w1 K hk hK
            have d21 : a1.tmps.getD 21 undef = .int .i64 ((j : Int) + 1) := hk.deps ⟨1, .data⟩ (by simp) rfl _ _ rfl rfl
            have d23 : a1.tmps.getD 23 undef = .int .i64 (m : Nat) := hk.deps ⟨3, .data⟩ (by simp) rfl _ _ rfl rfl
            simp [Region.wanted, Oper.wp, Act.eval, go_sem, d21, d23, hj1, hj2, hj4, hwj, hwj2]
            exact hK _ _ (Below.refl _ _) rfl
            | 5, _ =>
            obtain rfl := Option.some.inj hoq
            intro a1 w1 K hk hK
            have d24 : a1.tmps.getD 24 undef = .bool false := hk.deps ⟨4, .data⟩ (by simp) rfl _ _ rfl rfl
            simp [Region.wanted, Oper.wp, Act.eval, go_sem, d24, hj1, hj2, hj4, hwj, hwj2]
            exact hK _ _ (Below.refl _ _) rfl
            | 6, _ =>
            obtain rfl := Option.some.inj hoq
            intro a1 w1 K hk hK
            have e6 : a1.tmps.getD 6 undef = .pointer (some ⟨E, 0, none⟩) := hk.same 6 (by simp)
            have gd : a1.tmps[25]? = some (.bool false) := getD_bool (hk.deps ⟨5, .guard⟩ (by simp) rfl _ _ rfl rfl)
            simp [Region.wanted, Oper.wp, Act.eval, go_sem, e6, gd, yielded, hj1, hj2, hj4, hwj, hwj2]
            exact hK _ _ (Below.refl _ _) rfl
            | 7, _ =>
            obtain rfl := Option.some.inj hoq
            intro a1 w1 K hk hK
            have e3 : a1.tmps.getD 3 undef = .slice (some ⟨g, 0, none⟩) m n := hk.same 3 (by simp)
            have gd : a1.tmps[25]? = some (.bool false) := getD_bool (hk.deps ⟨5, .guard⟩ (by simp) rfl _ _ rfl rfl)
            simp [Region.wanted, Oper.wp, Act.eval, go_sem, e3, gd, yielded, hj1, hj2, hj4, hwj, hwj2]
            exact hK _ _ (Below.refl _ _) rfl
            | 8, _ =>
            obtain rfl := Option.some.inj hoq
            intro a1 w1 K hk hK
            have e5 : a1.tmps.getD 5 undef = .int .i64 (j : Nat) := hk.same 5 (by simp)
            have gd : a1.tmps[25]? = some (.bool false) := getD_bool (hk.deps ⟨5, .guard⟩ (by simp) rfl _ _ rfl rfl)
            simp [Region.wanted, Oper.wp, Act.eval, go_sem, e5, gd, yielded, hj1, hj2, hj4, hwj, hwj2]
            exact hK _ _ (Below.refl _ _) rfl
            | 9, _ =>
            obtain rfl := Option.some.inj hoq
            intro a1 w1 K hk hK
            have d28 : a1.tmps.getD 28 undef = undef := hk.deps ⟨8, .data⟩ (by simp) rfl _ _ rfl rfl
            have gd : a1.tmps[25]? = some (.bool false) := getD_bool (hk.deps ⟨5, .guard⟩ (by simp) rfl _ _ rfl rfl)
            simp [Region.wanted, Oper.wp, Act.eval, go_sem, d28, gd, yielded, hj1, hj2, hj4, hwj, hwj2]
            exact hK _ _ (Below.refl _ _) rfl
            | 10, _ =>
            obtain rfl := Option.some.inj hoq
            intro a1 w1 K hk hK
            have d27 : a1.tmps.getD 27 undef = undef := hk.deps ⟨7, .data⟩ (by simp) rfl _ _ rfl rfl
            have d29 : a1.tmps.getD 29 undef = undef := hk.deps ⟨9, .data⟩ (by simp) rfl _ _ rfl rfl
            have gd : a1.tmps[25]? = some (.bool false) := getD_bool (hk.deps ⟨5, .guard⟩ (by simp) rfl _ _ rfl rfl)
            simp [Region.wanted, Oper.wp, Act.eval, go_sem, d27, d29, gd, yielded, hj1, hj2, hj4, hwj, hwj2]
            exact hK _ _ (Below.refl _ _) rfl
            | 11, _ =>
            obtain rfl := Option.some.inj hoq
            intro a1 w1 K hk hK
            have d30 : a1.tmps.getD 30 undef = undef := hk.deps ⟨10, .data⟩ (by simp) rfl _ _ rfl rfl
            have gd : a1.tmps[25]? = some (.bool false) := getD_bool (hk.deps ⟨5, .guard⟩ (by simp) rfl _ _ rfl rfl)
            simp [Region.wanted, Oper.wp, Act.eval, go_sem, d30, gd, yielded, hj1, hj2, hj4, hwj, hwj2]
            exact hK _ _ (Below.refl _ _) rfl
            | 12, _ =>
            obtain rfl := Option.some.inj hoq
            intro a1 w1 K hk hK
            have d26 : a1.tmps.getD 26 undef = undef := hk.deps ⟨6, .data⟩ (by simp) rfl _ _ rfl rfl
            have d31 : a1.tmps.getD 31 undef = undef := hk.deps ⟨11, .data⟩ (by simp) rfl _ _ rfl rfl
            have gd : a1.tmps[25]? = some (.bool false) := getD_bool (hk.deps ⟨5, .guard⟩ (by simp) rfl _ _ rfl rfl)
            simp [Region.wanted, Oper.wp, Act.eval, go_sem, d26, d31, gd, yielded, hj1, hj2, hj4, hwj, hwj2]
            exact hK _ _ (Below.refl _ _) rfl
            | 13, _ =>
            obtain rfl := Option.some.inj hoq
            intro a1 w1 K hk hK
            have d32 : a1.tmps.getD 32 undef = undef := hk.deps ⟨12, .data⟩ (by simp) rfl _ _ rfl rfl
            have gd : a1.tmps[25]? = some (.bool false) := getD_bool (hk.deps ⟨5, .guard⟩ (by simp) rfl _ _ rfl rfl)
            simp [Region.wanted, Oper.wp, Act.eval, go_sem, d32, gd, yielded, hj1, hj2, hj4, hwj, hwj2]
            exact hK _ _ (Below.refl _ _) rfl
          · intro vs w3 hl hb3 hv
            match vs, hl with
            | [v0, v1, v2, v3, v4, v5, v6, v7, v8, v9, v10, v11, v12, v13], _ =>
            obtain rfl : v0 = .int .i64 (j : Nat) := hv 0 (by omega)
            obtain rfl : v1 = .int .i64 ((j : Int) + 1) := hv 1 (by omega)
            obtain rfl : v2 = .slice (some ⟨g, 0, none⟩) m n := hv 2 (by omega)
            obtain rfl : v3 = .int .i64 (m : Nat) := hv 3 (by omega)
            obtain rfl : v4 = .bool false := hv 4 (by omega)
            obtain rfl : v5 = .bool false := hv 5 (by omega)
            obtain rfl : v6 = undef := hv 6 (by omega)
            obtain rfl : v7 = undef := hv 7 (by omega)
            obtain rfl : v8 = undef := hv 8 (by omega)
            obtain rfl : v9 = undef := hv 9 (by omega)
            obtain rfl : v10 = undef := hv 10 (by omega)
            obtain rfl : v11 = undef := hv 11 (by omega)
            obtain rfl : v12 = undef := hv 12 (by omega)
            obtain rfl : v13 = undef := hv 13 (by omega)
            clear hv
            simp only [putAll, List.take_succ_cons, List.take_zero, List.drop_succ_cons, List.drop_zero, Act.put, List.setIfInBounds_toArray, List.set_cons_succ, List.set_cons_zero]
            have HPW := Lib.hid (HI.out.pr.step (below_trans HBW.out hb3))
            have HBB := Lib.hid (show Below wr.heap.size wr w3 from below_trans HBW.out hb3)
            replace e0 := Below.keeps hb3 _ _ e0
            replace e1 := Below.keeps hb3 _ _ e1
            replace hEl := Nat.lt_of_lt_of_le hEl hb3.size
            clear hb3
            have hrm : r < n := HRN.out
            go_wp2_with ((at_builtin; refine wpList_append_room (W0 := w) rfl (.tmp 35) (.tmp 37) rfl g n r _ _ zs (.slice Ax k cx) vx (HPW.out.step (by repeat (first | exact Below.refl _ _ | (refine Below.drew ?_) | (refine below_drewN' ?_ _) | (refine below_alloc' ?_ _) | (refine Below.setCell ?_ (by first | exact Nat.le_refl _ | (simp; done) | (simp; omega)) _)))) hrm rfl rfl ?_ ?_ rfl ?_))
            try case refine_1 => simp only [World.cell?, heap_alloc_new]; rfl
            try case refine_2 => simp only [World.cell?, heap_alloc_new]; rfl
            go_roundw
            case rel =>
              have hyj : j < ys.length := by rw [HLN.out.1]; exact hj
              have hrz : r < zs.length := by have := HI.out.rj; have := HI.out.len; omega
              have h5 := (HPW.out.step (show Below w3.heap.size w3 (w3.alloc (Obj.cells #[Value.slice Ax k cx, Value.int IntKind.u64 (vx : Nat)] 51)) from below_alloc' (Below.refl _ _) _)).set (j := r) hrz (⟨.slice Ax k cx, ⟨px, vx⟩⟩ : Pe) (by have := HRX.out.2.1; rw [HUX.out] at this; exact this)
              have h6 : ys[j] = (⟨.slice Ax k cx, ⟨px, vx⟩⟩ : Pe) := by rw [HRX.out.1, HUX.out]
              refine ⟨zs.set r ys[j], j + 1, r + 1, rfl, by first | (rw [hwj]; rfl) | rfl, HI.out.take hyj HNE.out ?_⟩
              rw [h6]
              exact h5
            case measure => first | (rw [intOf_of' hwj, intOf_of' rfl]; omega) | (rw [intOf_of' rfl, intOf_of' rfl]; omega) | (simp [intOf]; omega)
      · have hjm : j = m := by have := hI.jm; omega
        subst hjm
        have hj2 : ¬ ((j : Int) < (j : Int)) := by omega
        have hdr : ys.drop j = [] := List.drop_eq_nil_of_le (by omega)
        have hout : zs.take r = lastsL ys := by have := hI.out; rw [hdr] at this; simpa [lastsL] using this
        have HF := Lib.hid (And.intro hout hI)
        clear hI hzm hym hm1000 hdr hout
        go_wp2_with fail
        go_ret
        refine ⟨_, rfl, ?_, ?_⟩
        · have e1 := lasts_puts (k := k) HY.out.2.2.2 HY.out.2.2.1 HX.out.2.1
          rw [HX.out.1, ← HF.out.1] at e1
          exact HF.out.2.pr.rd (by have := HF.out.2.rj; have := HF.out.2.len; have := HLN.out.1; omega) HX.out.2.2 e1
        · exact HF.out.2.pr.bel
end Go.Proofs.YtjokcagggmjgmaaGreat
/-! MakA -/
namespace Go.Proofs.YtjokcagggmjgmaaGreat
open Go.RowKit
set_option linter.unusedVariables false
set_option linter.unusedSimpArgs false
set_option maxRecDepth 100000

def TellE (w : World) (f : FuncId) (cb : Array Value) (l : List En) (p : En → Bool) : Prop := ∀ c ∈ l, ∀ u w', RdU w' u (pti c.p) → Below w.heap.size w w' → Calls Tryz.prog f (#[.agg #[u, .int .u64 (c.v : Nat)]] ++ cb) w' fun e w'' => e = .returned (.bool (p c)) ∧ Below w'.heap.size w' w''
def IdxE (W : World) (l : List En) (p : En → Bool) (e : Ending) (w' : World) : Prop := ∃ i : Int, e = .returned (.int .i64 i) ∧ (decide (0 ≤ i) = l.any p) ∧ Below W.heap.size W w'
set_option maxHeartbeats 1000000 in
theorem eIndex_any (w : World) (f : FuncId) (cb : Array Value) (l : List En) (v : Value) (p : En → Bool) (hl : RdE w v l) (hn : l.length ≤ 1000) (hf : TellE w f cb l p)
    (hent : ∀ (args : Array Value) (w : World), (callFunc f args).run Tryz.prog w = .ok (.enter f args) w) : Calls Tryz.prog 162 #[v, .func (.func f) #[] cb] w fun e w' => IdxE w l p e w' := by
  obtain ⟨A, cc, rfl, _, hx⟩ := hl
  have HX := Lib.hid hx
  have HF := Lib.hid (And.intro hf hn)
  clear hx hf hn
  go_enter Tryz.func162, Tryz.ntmps162
  go_wp2_with fail
  go_loopw [5, 8] (fun _ iv wr => ∃ j : Nat, j ≤ l.length ∧ iv = .int .i64 (j : Nat) ∧ (l.take j).any p = false ∧ Below w.heap.size w wr) (fun _ iv _ => l.length - (intOf iv).toNat)
  case atStart => exact ⟨0, Nat.zero_le _, rfl, by simp, (by repeat (first | exact Below.refl _ _ | (refine Below.drew ?_) | (refine below_drewN' ?_ _) | (refine below_alloc' ?_ _) | (refine Below.setCell ?_ (by first | exact Nat.le_refl _ | (simp; done) | (simp; omega)) _)))⟩
  case round =>
    obtain ⟨j, hj, rfl, hany, hb⟩ := hrel
    have HB := Lib.hid (And.intro hany hb)
    clear hany
    by_cases hlt : j < l.length
    · have h3 : (j : Int) < (l.length : Int) := by omega
      have h5 : (0 : Int) ≤ (j : Int) := by omega
      have HW := Lib.hid (show wrap64 ((j : Int) + 1) = ((j + 1 : Nat) : Int) by have := HF.out.2; unfold wrap64; omega)
      obtain ⟨b2, o2, rfl, hc⟩ := HX.out (by omega)
      obtain ⟨u, k0, ku, k1⟩ := (hc j hlt).keep (Below.keeps hb)
      have htk : (l.take (j + 1)).any p = p l[j] := by rw [← List.take_append_getElem hlt, List.any_append, HB.out.1]; simp
      have HT := Lib.hid (And.intro htk (fun h : p l[j] = true => (List.any_eq_true.2 ⟨_, List.getElem_mem hlt, h⟩ : l.any p = true)))
      have HCL := Lib.hid (fun W (hu : RdU W u (pti l[j].p)) (hb : Below w.heap.size w W) => HF.out.1 l[j] (List.getElem_mem hlt) u W hu hb)
      have HU := Lib.hid ku
      have hlb := World.block_lt_of_cell? wr _ k0
      obtain ⟨Au, cu, rfl, _⟩ := RdU.point ku
      generalize l[j] = c at *
      clear hc htk hb ku
      cases hp : p c with
      | true =>
        rw [hp] at HT HCL
        go_wp2_with fail
        refine (HCL.out _ (HU.out.below (by repeat (first | exact Below.refl _ _ | (refine Below.drew ?_) | (refine below_drewN' ?_ _) | (refine below_alloc' ?_ _) | (refine Below.setCell ?_ (by first | exact Nat.le_refl _ | (simp; done) | (simp; omega)) _)))) (HB.out.2.trans ((show Below wr.heap.size wr _ from (by repeat (first | exact Below.refl _ _ | (refine Below.drew ?_) | (refine below_drewN' ?_ _) | (refine below_alloc' ?_ _) | (refine Below.setCell ?_ (by first | exact Nat.le_refl _ | (simp; done) | (simp; omega)) _)))).mono HB.out.2.size))).mono ?_
        rintro e w2 ⟨rfl, hb2⟩
        have HF2 := Lib.hid (HB.out.2.trans ((below_trans (by repeat (first | exact Below.refl _ _ | (refine Below.drew ?_) | (refine below_drewN' ?_ _) | (refine below_alloc' ?_ _) | (refine Below.setCell ?_ (by first | exact Nat.le_refl _ | (simp; done) | (simp; omega)) _))) hb2).mono HB.out.2.size))
        clear hb2
        go_wp2_with fail
        go_ret
        exact ⟨_, rfl, by rw [HT.out.2 (by first | exact rfl | trivial)]; simp, HF2.out⟩
      | false =>
        rw [hp] at HT HCL
        go_wp2_with fail
        refine (HCL.out _ (HU.out.below (by repeat (first | exact Below.refl _ _ | (refine Below.drew ?_) | (refine below_drewN' ?_ _) | (refine below_alloc' ?_ _) | (refine Below.setCell ?_ (by first | exact Nat.le_refl _ | (simp; done) | (simp; omega)) _)))) (HB.out.2.trans ((show Below wr.heap.size wr _ from (by repeat (first | exact Below.refl _ _ | (refine Below.drew ?_) | (refine below_drewN' ?_ _) | (refine below_alloc' ?_ _) | (refine Below.setCell ?_ (by first | exact Nat.le_refl _ | (simp; done) | (simp; omega)) _)))).mono HB.out.2.size))).mono ?_
        rintro e w2 ⟨rfl, hb2⟩
        have HF2 := Lib.hid (HB.out.2.trans ((below_trans (by repeat (first | exact Below.refl _ _ | (refine Below.drew ?_) | (refine below_drewN' ?_ _) | (refine below_alloc' ?_ _) | (refine Below.setCell ?_ (by first | exact Nat.le_refl _ | (simp; done) | (simp; omega)) _))) hb2).mono HB.out.2.size))
        clear hb2
        go_wp2_with fail
        go_roundw
        case rel => exact ⟨j + 1, by omega, (by first | rw [HW.out] | rfl | simp), HT.out.1, HF2.out⟩
        case measure => (first | (rw [intOf_of' HW.out, intOf_of' rfl]; omega) | (simp [intOf]; omega) | (simp [intOf] <;> omega))
    · have h3 : ¬ (j : Int) < (l.length : Int) := by omega
      have e : l.take j = l := List.take_of_length_le (by omega)
      rw [e] at HB
      clear hb
      go_wp2_with fail
      go_ret
      exact ⟨-1, rfl, by rw [HB.out.1]; rfl, HB.out.2⟩
theorem eContains_any (w : World) (f : FuncId) (cb : Array Value) (l : List En) (v : Value) (p : En → Bool) (hl : RdE w v l) (hn : l.length ≤ 1000) (hf : TellE w f cb l p)
    (hent : ∀ (args : Array Value) (w : World), (callFunc f args).run Tryz.prog w = .ok (.enter f args) w) : Calls Tryz.prog 114 #[v, .func (.func f) #[] cb] w fun e w' => e = .returned (.bool (l.any p)) ∧ Below w.heap.size w w' := by
  have HI := Lib.hid (eIndex_any w f cb l v p hl hn hf hent)
  obtain ⟨A, cc, rfl, _, hx⟩ := hl
  clear hx hf hn hent
  go_enter Tryz.func114, Tryz.ntmps114
  go_wp2_with fail
  refine HI.out.mono ?_
  rintro e w2 ⟨i, rfl, hi, hb⟩
  have HB := Lib.hid (And.intro hi hb)
  clear hi hb
  go_wp2_with fail
  go_ret
  exact ⟨by rw [← HB.out.1]; rfl, HB.out.2⟩
theorem dims1_any (w : World) (B : Nat) (k : Int) (c : En) (u : Value) (hB : w.cell? ⟨B, 0, none⟩ = some (.int .i64 k)) (hu : RdU w u (pti c.p)) :
    Calls Tryz.prog 115 (#[.agg #[u, .int .u64 (c.v : Nat)]] ++ #[.pointer (some ⟨B, 0, none⟩)]) w fun e w' => e = .returned (.bool (((c.p.length : Nat) : Int) != k)) ∧ Below w.heap.size w w' := by
  have hlb := World.block_lt_of_cell? w _ hB
  obtain ⟨Au, cu, rfl, _⟩ := RdU.point hu
  clear hu
  obtain ⟨p, x⟩ := c
  obtain ⟨n, hn⟩ : ∃ n, p.length = n := ⟨_, rfl⟩
  simp only [hn]
  clear hn
  go_enter Tryz.func115, Tryz.ntmps115
  go_wp2_with fail
  go_ret
  exact ⟨rfl, (by repeat (first | exact Below.refl _ _ | (refine Below.drew ?_) | (refine below_drewN' ?_ _) | (refine below_alloc' ?_ _) | (refine Below.setCell ?_ (by first | exact Nat.le_refl _ | (simp; done) | (simp; omega)) _)))⟩
theorem dims_any (w : World) (k : Int) (l : List En) (v : Value) (hl : RdE w v l) (hn : l.length ≤ 1000) :
    Calls Tryz.prog 67 #[.int .i64 k, v] w fun e w' => e = .returned (.bool (l.all fun c => ((c.p.length : Nat) : Int) == k)) ∧ Below w.heap.size w w' := by
  have hent := enters_lit' Tryz.func115 (by kernel_rfl) (by kernel_rfl)
  have HC := Lib.hid (fun W (hb : Below w.heap.size w W) (B : Nat) (hB : W.cell? ⟨B, 0, none⟩ = some (.int .i64 k)) => eContains_any W 115 #[.pointer (some ⟨B, 0, none⟩)] l v (fun c => ((c.p.length : Nat) : Int) != k) (hl.below hb) hn (fun c _ u w' hu hb' => dims1_any w' B k c u (Below.keeps hb' _ _ hB) hu) hent)
  have hall : (l.all fun c => ((c.p.length : Nat) : Int) == k) = !(l.any fun c => ((c.p.length : Nat) : Int) != k) := by
    simp [List.all_eq_not_any_not, bne]
  rw [hall]
  obtain ⟨A, cc, rfl, _⟩ := hl
  clear hn hent hall
  go_enter Tryz.func67, Tryz.ntmps67
  go_wp2_with fail
  refine (HC.out _ (by repeat (first | exact Below.refl _ _ | (refine Below.drew ?_) | (refine below_drewN' ?_ _) | (refine below_alloc' ?_ _) | (refine Below.setCell ?_ (by first | exact Nat.le_refl _ | (simp; done) | (simp; omega)) _))) w.heap.size (by simp [go_sem])).mono ?_
  rintro e w2 ⟨rfl, hb2⟩
  have HF2 := Lib.hid (show Below w.heap.size w w2 from below_trans (by repeat (first | exact Below.refl _ _ | (refine Below.drew ?_) | (refine below_drewN' ?_ _) | (refine below_alloc' ?_ _) | (refine Below.setCell ?_ (by first | exact Nat.le_refl _ | (simp; done) | (simp; omega)) _))) hb2)
  clear hb2
  go_wp2_with fail
  go_ret
  exact ⟨rfl, HF2.out⟩
theorem nd_k (w : World) (k g : Nat) (l : List En) (hn : Nd w k g l) : Calls Tryz.prog 111 #[.pointer (some ⟨g, 0, none⟩)] w fun e w' => e = .returned (.int .i64 (k : Nat)) ∧ w' = w := by
  obtain ⟨va, kp, hh⟩ := hn.hd
  obtain ⟨hpl, _⟩ := hn.pre_ok
  obtain ⟨u, c1, hu⟩ := hh.c1
  obtain ⟨A0, c0, rfl, _⟩ := RdU.point hu
  exact nk_any w g k A0 c0 (by rw [hpl] at c1; exact c1)
theorem of_nd (w : World) (k g : Nat) (l : List En) (hn : Nd w k g l) (k1 : 1 ≤ k) (k16 : k ≤ 16) :
    Calls Tryz.prog 68 #[.int .i64 (k : Nat), .pointer (some ⟨g, 0, none⟩)] w fun e w' => ∃ t, e = .returned (.tuple #[.pointer (some ⟨t, 0, none⟩), .int .i64 0]) ∧ TrR w' t k l ∧ Below w.heap.size w w' := by
  have HD := Lib.hid (And.intro k1 (And.intro k16 hn))
  have h1 : ¬ (k : Int) < 1 := by omega
  have h2 : ¬ (k : Int) > 16 := by omega
  have h3 : decide ((k : Int) < 1) = false := by simp; omega
  have h4 : decide ((k : Int) > 16) = false := by simp; omega
  have HK := Lib.hid (nd_k w k g l hn)
  clear k1 k16 hn
  go_enter Tryz.func68, Tryz.ntmps68
  go_wp2_with fail
  refine HK.out.mono ?_
  rintro e w2 ⟨rfl, hw⟩
  obtain rfl := hw.symm
  clear hw
  go_wp2_with fail
  go_ret2
  exact ⟨_, rfl, ⟨by simp [go_sem], ⟨some g, by simp [go_sem, pv], HD.out.2.2.bel (by repeat (first | exact Below.refl _ _ | (refine Below.drew ?_) | (refine below_drewN' ?_ _) | (refine below_alloc' ?_ _) | (refine Below.setCell ?_ (by first | exact Nat.le_refl _ | (simp; done) | (simp; omega)) _)))⟩, HD.out.1, HD.out.2.1, _, alloc_blk _ _⟩, (by repeat (first | exact Below.refl _ _ | (refine Below.drew ?_) | (refine below_drewN' ?_ _) | (refine below_alloc' ?_ _) | (refine Below.setCell ?_ (by first | exact Nat.le_refl _ | (simp; done) | (simp; omega)) _)))⟩
end Go.Proofs.YtjokcagggmjgmaaGreat
/-! MakB -/
namespace Go.Proofs.YtjokcagggmjgmaaGreat
open Go.RowKit
set_option linter.unusedVariables false
set_option linter.unusedSimpArgs false
set_option maxRecDepth 100000

theorem puts_mem {k : Nat} {a l : List En} (ha : Et k a) (hl : ∀ e ∈ l, e.p.length = k ∧ ∀ x ∈ e.p, x < 2 ^ 64) : ∀ e ∈ putsL a l, e ∈ a ∨ e ∈ l := by
  induction l generalizing a with
  | nil => exact fun e he => .inl he
  | cons c l ih =>
    intro e he
    have hc := hl c (by simp)
    rcases ih (ha.ins c.v hc.1 hc.2) (fun e he => hl e (by simp [he])) e he with h | h
    · rcases ha.mem_ins.1 h with h | h
      · exact .inr (by rw [h]; exact List.mem_cons_self)
      · exact .inl h.1
    · exact .inr (List.mem_cons_of_mem _ h)
def MakR (W : World) (k : Nat) (l : List En) (e : Ending) (w' : World) : Prop := ∃ t, e = .returned (.tuple #[.pointer (some ⟨t, 0, none⟩), .int .i64 0]) ∧ TrR w' t k l ∧ Below W.heap.size W w'
set_option maxHeartbeats 2000000 in
theorem make_any (N : Nat) (hS : SortOk N) (w : World) (k : Nat) (l : List En) (v : Value) (hv : RdE w v l) (hlN : l.length ≤ N) (hl : l.length ≤ 1000) (k1 : 1 ≤ k) (k16 : k ≤ 16) (hk : ∀ e ∈ l, e.p.length = k ∧ ∀ q ∈ e.p, q < 2 ^ 64) (hvs : ∀ e ∈ l, e.v < 2 ^ 64) :
    Calls Tryz.prog 27 #[.int .i64 (k : Nat), v] w fun e w' => MakR w k (putsL [] l) e w' := by
  have HNEW := Lib.hid (tnew_any w k k1 k16)
  have HDI := Lib.hid (fun W (hb : Below w.heap.size w W) => dims_any W (k : Nat) l v (hv.below hb) hl)
  have hall : (l.all fun c => ((c.p.length : Nat) : Int) == (k : Int)) = true := List.all_eq_true.2 fun c hc => by rw [(hk c hc).1]; simp
  rw [hall] at HDI
  have HSO := Lib.hid (fun W (hb : Below w.heap.size w W) => sorted_any N hS W k l v (hv.below hb) hlN hl k1 k16 hk)
  have hets : EtS k (putsL [] l) := ⟨(Et.nil k).puts hk, by omega, Nat.le_trans (puts_len [] l) (by simpa using hl)⟩
  have hpv : ∀ e ∈ putsL [] l, e.v < 2 ^ 64 := fun e he => hvs e ((puts_mem (Et.nil k) hk e he).resolve_left (by simp))
  obtain ⟨m, hm⟩ : ∃ m, putsL [] l = m := ⟨_, rfl⟩
  rw [hm] at HSO hets hpv
  rw [hm]
  have HE := Lib.hid (And.intro hets (And.intro hpv (And.intro k1 k16)))
  obtain ⟨A, c, rfl, _⟩ := hv
  clear hall hets hpv hm hk hvs hl hlN k1 k16 hS
  go_enter Tryz.func27, Tryz.ntmps27
  go_wp2_with fail
  refine HNEW.out.mono ?_
  rintro e w1 ⟨g, rfl, ht, hb⟩
  have HT := Lib.hid (And.intro ht hb)
  clear ht hb
  go_wp2_with fail
  refine (HDI.out _ HT.out.2).mono ?_
  rintro e w2 ⟨rfl, hb⟩
  have HB2 := Lib.hid (HT.out.2.trans (hb.mono HT.out.2.size))
  have HK := Lib.hid (tk_any w2 g k (HT.out.1.bel hb).c0)
  clear hb
  go_wp2_with fail
  refine HK.out.mono ?_
  rintro e w3 ⟨rfl, hw⟩
  obtain rfl := hw.symm
  clear hw
  go_wp2_with fail
  refine (HSO.out _ HB2.out).mono ?_
  rintro e w4 ⟨v4, rfl, hr4, hb4⟩
  have HB4 := Lib.hid (HB2.out.trans (hb4.mono HB2.out.size))
  clear hb4
  by_cases hne : m = []
  · subst hne
    obtain ⟨A4, c4, rfl, _⟩ := hr4
    simp only [List.length_nil]
    have HBN := Lib.hid (bld_nil w4 A4 c4)
    have HOF := Lib.hid (of_nil w4 k HE.out.2.2.1 HE.out.2.2.2)
    go_wp2_with fail
    refine HBN.out.mono ?_
    rintro e w5 ⟨rfl, hw⟩
    obtain rfl := hw.symm
    clear hw
    go_wp2_with fail
    refine HOF.out.mono ?_
    rintro e w6 ⟨t, rfl, ht6, hb6⟩
    have HF := Lib.hid (And.intro ht6 (HB4.out.trans (hb6.mono HB4.out.size)))
    clear ht6 hb6
    go_wp2_with fail
    go_ret2
    exact ⟨t, rfl, HF.out.1, HF.out.2⟩
  · have HBN := Lib.hid (build_any k HE.out.2.2.1 HE.out.2.2.2 _ m w4 v4 (Nat.le_refl _) hr4 HE.out.1 hne HE.out.2.1)
    obtain ⟨A4, c4, rfl, _⟩ := hr4
    go_wp2_with fail
    refine HBN.out.mono ?_
    rintro e w5 ⟨g5, rfl, hn5, hb5⟩
    have HOF := Lib.hid (of_nd w5 k g5 m hn5 HE.out.2.2.1 HE.out.2.2.2)
    have HB5 := Lib.hid (HB4.out.trans (hb5.mono HB4.out.size))
    clear hb5 hn5
    go_wp2_with fail
    refine HOF.out.mono ?_
    rintro e w6 ⟨t, rfl, ht6, hb6⟩
    have HF := Lib.hid (And.intro ht6 (HB5.out.trans (hb6.mono HB5.out.size)))
    clear ht6 hb6
    go_wp2_with fail
    go_ret2
    exact ⟨t, rfl, HF.out.1, HF.out.2⟩
end Go.Proofs.YtjokcagggmjgmaaGreat
/-! AwkA -/
namespace Go.Proofs.YtjokcagggmjgmaaGreat
open Go.RowKit
set_option linter.unusedVariables false
set_option linter.unusedSimpArgs false
set_option maxRecDepth 100000

theorem RdE.three {w : World} {b c : Nat} {e0 e1 e2 : En} (h0 : EnAt w b 0 e0) (h1 : EnAt w b 2 e1) (h2 : EnAt w b 4 e2) (hc : 3 ≤ c ∧ c ≤ maxLen) : RdE w (.slice (some ⟨b, 0, none⟩) 3 c) [e0, e1, e2] :=
  ⟨_, c, rfl, ⟨hc.1, hc.2, fun _ => ⟨_, _, rfl⟩⟩, fun _ => ⟨b, 0, rfl, fun j hj => by
    match j, hj with
    | 0, _ => exact h0
    | 1, _ => exact h1
    | 2, _ => exact h2
    | j + 3, hj => simp at hj; omega⟩⟩
theorem RdE.pair' {w : World} {b c : Nat} {e0 e1 : En} (h0 : EnAt w b 0 e0) (h1 : EnAt w b 2 e1) (hc : 2 ≤ c ∧ c ≤ maxLen) : RdE w (.slice (some ⟨b, 0, none⟩) 2 c) [e0, e1] :=
  ⟨_, c, rfl, ⟨hc.1, hc.2, fun _ => ⟨_, _, rfl⟩⟩, fun _ => ⟨b, 0, rfl, fun j hj => by
    match j, hj with
    | 0, _ => exact h0
    | 1, _ => exact h1
    | j + 2, hj => simp at hj; omega⟩⟩
def xe3 : List En := [⟨[4, 0], 1⟩, ⟨[7, 3], 2⟩, ⟨[4, 0], 3⟩]
def xm2 : List En := [⟨[4, 0], 3⟩, ⟨[7, 3], 2⟩]
theorem xputs : putsL [] xe3 = xm2 := by first | rfl | kernel_rfl
theorem xok3 : ∀ e ∈ xe3, e.p.length = 2 ∧ ∀ q ∈ e.p, q < 2 ^ 64 := by decide
theorem xets : EtS 2 xm2 := ⟨xputs ▸ (Et.nil 2).puts xok3, by decide, by decide⟩
set_option maxHeartbeats 2000000 in
theorem awk_any (w : World) : Calls Tryz.prog 25 #[] w fun e w' => e = .returned (.bool true) ∧ Below w.heap.size w w' := by
  have HM := Lib.hid (fun (W : World) (v : Value) (hv : RdE W v xe3) => make_any 19 sort_small W 2 xe3 v hv (by decide) (by decide) (by decide) (by decide) xok3 (by decide))
  rw [xputs] at HM
  have HI := Lib.hid (fun (W : World) (t : Nat) (v : Value) (ht : TrR W t 2 xm2) (hv : RdE W v xm2) => is07_any W t 2 xm2 v ht hv xets)
  go_enter Tryz.func25, Tryz.ntmps25
  go_wp2_with fail
  refine (HM.out _ _ (RdE.three ?_ ?_ ?_ ?_)).mono ?_
  · exact ⟨.slice (some ⟨w.heap.size, 0, none⟩) 2 2, by simp [go_sem], RdU.two (by simp [go_sem]) (by simp [go_sem]), by simp [go_sem]⟩
  · exact ⟨.slice (some ⟨w.heap.size + 1, 0, none⟩) 2 2, by simp [go_sem], RdU.two (by simp [go_sem]) (by simp [go_sem]), by simp [go_sem]⟩
  · exact ⟨.slice (some ⟨w.heap.size + 1 + 1, 0, none⟩) 2 2, by simp [go_sem], RdU.two (by simp [go_sem]) (by simp [go_sem]), by simp [go_sem]⟩
  · simp [maxLen]
  rintro e w1 ⟨t, rfl, ht, hb1⟩
  have HB1 := Lib.hid (show Below w.heap.size w w1 from below_trans (by repeat (first | exact Below.refl _ _ | (refine Below.drew ?_) | (refine below_drewN' ?_ _) | (refine below_alloc' ?_ _) | (refine Below.setCell ?_ (by first | exact Nat.le_refl _ | (simp; done) | (simp; omega)) _))) hb1)
  have HT1 := Lib.hid ht
  clear hb1 ht
  go_wp2_with fail
  refine (HI.out _ _ _ (HT1.out.bel (by repeat (first | exact Below.refl _ _ | (refine Below.drew ?_) | (refine below_drewN' ?_ _) | (refine below_alloc' ?_ _) | (refine Below.setCell ?_ (by first | exact Nat.le_refl _ | (simp; done) | (simp; omega)) _)))) (RdE.pair' ?_ ?_ ?_)).mono ?_
  · exact ⟨.slice (some ⟨w1.heap.size, 0, none⟩) 2 2, by simp [go_sem], RdU.two (by simp [go_sem]) (by simp [go_sem]), by simp [go_sem]⟩
  · exact ⟨.slice (some ⟨w1.heap.size + 1, 0, none⟩) 2 2, by simp [go_sem], RdU.two (by simp [go_sem]) (by simp [go_sem]), by simp [go_sem]⟩
  · simp [maxLen]
  rintro e w2 ⟨rfl, hb2⟩
  have HB2 := Lib.hid (HB1.out.trans ((below_trans (by repeat (first | exact Below.refl _ _ | (refine Below.drew ?_) | (refine below_drewN' ?_ _) | (refine below_alloc' ?_ _) | (refine Below.setCell ?_ (by first | exact Nat.le_refl _ | (simp; done) | (simp; omega)) _))) hb2).mono HB1.out.size))
  clear hb2
  go_wp2_with fail
  go_ret
  exact ⟨rfl, HB2.out⟩
end Go.Proofs.YtjokcagggmjgmaaGreat
/-! HvyE -/
namespace Go.Proofs.YtjokcagggmjgmaaGreat
open Go.RowKit
set_option linter.unusedVariables false
set_option linter.unusedSimpArgs false
set_option maxRecDepth 100000

def heavyE (l : List En) (most : Int) : Bool := decide ((l.length : Int) > most) || l.any fun a => decide (a.p.length > 40)
theorem heavyE_any (w : World) (l : List En) (v : Value) (most : Int) (hv : RdE w v l) (hl : l.length ≤ maxLen) :
    Calls Tryz.prog 26 #[v, .int .i64 most] w fun e w' => e = .returned (.bool (heavyE l most)) ∧ w' = w := by
  obtain ⟨A, c, rfl, _, hx⟩ := hv
  have HX := Lib.hid hx
  have HL := Lib.hid (show l.length ≤ 9223372036854775807 from Nat.le_trans hl (by decide))
  clear hx hl
  by_cases hm : (l.length : Int) > most
  · have HH := Lib.hid (show heavyE l most = true by unfold heavyE; rw [decide_eq_true hm]; rfl)
    go_enter Tryz.func26, Tryz.ntmps26
    go_wp2_with fail
    go_ret
    exact ⟨by rw [HH.out] <;> rfl, rfl⟩
  · have hh : heavyE l most = l.any fun a => decide (a.p.length > 40) := by unfold heavyE; rw [decide_eq_false hm]; rfl
    have HH := Lib.hid hh
    clear hh
    go_enter Tryz.func26, Tryz.ntmps26
    go_wp2_with fail
    go_loopw [5] (fun iv wr => ∃ j : Nat, j ≤ l.length ∧ iv = .int .i64 (j : Nat) ∧ wr = w ∧ (l.take j).any (fun a => decide (a.p.length > 40)) = false) (fun iv _ => l.length - (intOf iv).toNat)
    case atStart => exact ⟨0, Nat.zero_le _, rfl, rfl, by simp⟩
    case round =>
      obtain ⟨j, hj, rfl, hw, hany⟩ := hrel
      subst hw
      by_cases hlt : j < l.length
      · have h3 : (j : Int) < (l.length : Int) := by omega
        have h5 : (0 : Int) ≤ (j : Int) := by omega
        have HW := Lib.hid (show wrap64 ((j : Int) + 1) = ((j + 1 : Nat) : Int) by have := HL.out; unfold wrap64; omega)
        obtain ⟨b2, o2, rfl, hc⟩ := HX.out (by omega)
        obtain ⟨u, k0, ku, k1⟩ := hc j hlt
        have htk : (l.take (j + 1)).any (fun a => decide (a.p.length > 40)) = decide (l[j].p.length > 40) := by rw [← List.take_append_getElem hlt, List.any_append, hany]; simp
        have hall : decide (l[j].p.length > 40) = true → (l.any fun a => decide (a.p.length > 40)) = true := fun h => List.any_eq_true.2 ⟨_, List.getElem_mem hlt, h⟩
        have HT := Lib.hid (And.intro htk hall)
        have hlb := World.block_lt_of_cell? _ _ k0
        obtain ⟨Au, cu, rfl, _⟩ := RdU.point ku
        generalize l[j] = ac at *
        clear hc htk hall ku hany
        by_cases h40 : (ac.p.length : Int) > 40
        · go_wp2_with fail
          go_ret
          exact ⟨by rw [HH.out, HT.out.2 (by simp; omega)] <;> rfl, rfl⟩
        · go_wp2_with fail
          go_roundw
          case rel => exact ⟨j + 1, by omega, (by first | rw [HW.out] | rfl | simp), (by first | rfl | trivial), by rw [HT.out.1]; simp; omega⟩
          case measure => (first | (rw [intOf_of' HW.out, intOf_of' rfl]; omega) | (simp [intOf]; omega) | (simp [intOf] <;> omega))
      · have h3 : ¬ (j : Int) < (l.length : Int) := by omega
        rw [List.take_of_length_le (by omega)] at hany
        have HA := Lib.hid hany
        clear hany
        go_wp2_with fail
        go_ret
        exact ⟨by rw [HH.out, HA.out] <;> rfl, rfl⟩
theorem puts_none (w : World) (A : Option Addr) (n c : Nat) : Calls Tryz.prog 28 #[.pointer none, .slice A n c] w fun e w' => e = .returned (.tuple #[.pointer none, .int .i64 1]) ∧ w' = w := by
  go_enter Tryz.func28, Tryz.ntmps28
  go_wp2_with fail
  go_ret2
  exact ⟨rfl, rfl⟩
theorem dels_none (w : World) (A : Option Addr) (n c : Nat) : Calls Tryz.prog 32 #[.pointer none, .slice A n c] w fun e w' => e = .returned (.tuple #[.pointer none, .int .i64 0, .int .i64 1]) ∧ w' = w := by
  go_enter Tryz.func32, Tryz.ntmps32
  go_wp2_with fail
  go_ret3
  exact ⟨rfl, rfl⟩
theorem map_none (w : World) (r : Int) (c : Nat) : Calls Tryz.prog 39 #[.pointer none, .int .i64 r, .int .u64 (c : Nat)] w fun e w' => e = .returned (.tuple #[.pointer none, .int .i64 1]) ∧ w' = w := by
  go_enter Tryz.func39, Tryz.ntmps39
  go_wp2_with fail
  go_ret2
  exact ⟨rfl, rfl⟩
theorem where_none (w : World) (a b : Nat) : Calls Tryz.prog 40 #[.pointer none, .int .u64 (a : Nat), .int .u64 (b : Nat)] w fun e w' => e = .returned (.tuple #[.pointer none, .int .i64 1]) ∧ w' = w := by
  go_enter Tryz.func40, Tryz.ntmps40
  go_wp2_with fail
  go_ret2
  exact ⟨rfl, rfl⟩
end Go.Proofs.YtjokcagggmjgmaaGreat
/-! LawNil -/
namespace Go.Proofs.YtjokcagggmjgmaaGreat
open Go.RowKit
set_option linter.unusedVariables false
set_option linter.unusedSimpArgs false
set_option maxRecDepth 100000

set_option maxHeartbeats 2000000 in
theorem bulkNil_any (w : World) (l : List En) (v : Value) (rule : Int) (hv : RdE w v l) (hl : l.length ≤ maxLen) :
    Calls Tryz.prog 9 #[v, .int .i64 rule] w fun e w' => e = .returned (.bool true) ∧ Below w.heap.size w w' := by
  have HH := Lib.hid (fun W (hb : Below w.heap.size w W) => heavyE_any W l v 50 (hv.below hb) hl)
  obtain ⟨A, c, rfl, _⟩ := hv
  clear hl
  obtain ⟨hh, hhe⟩ : ∃ b, heavyE l 50 = b := ⟨_, rfl⟩
  rw [hhe] at HH
  clear hhe
  go_enter Tryz.func9, Tryz.ntmps9
  go_wp2_with fail
  refine (awk_any w).mono ?_
  rintro e w1 ⟨rfl, hb1⟩
  have HB := Lib.hid hb1
  clear hb1
  go_wp2_with fail
  refine (HH.out _ HB.out).mono ?_
  rintro e w2 ⟨rfl, hw⟩
  obtain rfl := hw.symm
  clear hw
  cases hh with
  | true =>
    go_wp2_with fail
    go_ret
    exact ⟨rfl, HB.out⟩
  | false =>
    go_wp2_with fail
    refine (puts_none w1 A l.length c).mono ?_
    rintro e w2 ⟨rfl, hw⟩
    obtain rfl := hw.symm
    clear hw
    go_wp2_with fail
    refine (dels_none w1 none 0 0).mono ?_
    rintro e w2 ⟨rfl, hw⟩
    obtain rfl := hw.symm
    clear hw
    go_wp2_with fail
    refine (map_none w1 rule 5).mono ?_
    rintro e w2 ⟨rfl, hw⟩
    obtain rfl := hw.symm
    clear hw
    go_wp2_with fail
    refine (where_none w1 0 9).mono ?_
    rintro e w2 ⟨rfl, hw⟩
    obtain rfl := hw.symm
    clear hw
    go_wp2_with fail
    go_ret
    exact ⟨rfl, HB.out⟩
end Go.Proofs.YtjokcagggmjgmaaGreat
/-! OpenC -/
namespace Go.Proofs.YtjokcagggmjgmaaGreat
open Go.RowKit Go.ChangeShapes Go.WideShapes Go.Deep
set_option linter.unusedVariables false

section
variable {H : Type} {enc : TypeId × Value → H} {P : Program} {w : World} {base : Nat} {spare : Nat → Bool} {held : Bool}
theorem open_slice_fields {t e : TypeId} {fs : Array Field} {fuel : Nat} {cs : List Value} {x : DataW H × List MemPlace} (ht : P.underlying t = some (.slice e)) (he : P.underlying e = some (.struct fs))
    (hone : oneCellFields P fs = true) (hC : P.cellsOf e = fs.size) (h : DataW.trod enc P w base spare held fuel t cs = some x) :
    (cs = [.slice none 0 0]) ∨
    ∃ (a : Addr) (len cap m : Nat), cs = [.slice (some a) len cap] ∧ len ≤ cap ∧ cap ≤ maxLen ∧ m = (if spare a.block then cap else len) ∧
      ∀ i, i < m → ∀ (j : Nat) (f : Field), fs[j]? = some f → ∃ (v : Value) (y : DataW H × List MemPlace) (n : Nat), w.cell? (a.add (i * fs.size + j)) = some v ∧ DataW.trod enc P w base spare held n f.type [v] = some y := by
  rcases open_slice ht h with h0 | ⟨a, len, cap, m, n, D, Pl, hcs, hb, hl, hm, hmm, hx, hi⟩
  · exact .inl h0.1
  · refine .inr ⟨a, len, cap, m, hcs, hl, hm, hmm, fun i him => ?_⟩
    obtain ⟨cs', hc, ht'⟩ := hi i him
    rw [hC] at hc
    obtain ⟨ys, n', hn', hy, hlen, hyl, hf⟩ := DataW.trod_struct he ht'
    obtain ⟨_, hcl, hat⟩ := World.cells?_some hc
    intro j f hj
    obtain ⟨ho, hk⟩ := hone_of hone j f hj
    have hjl : j < fs.size := (Array.getElem?_eq_some_iff.1 hj).1
    have hcell := hat j hjl
    have hv : cs'[j]? = some (cs'[j]'(by omega)) := List.getElem?_eq_getElem (by omega)
    have h1 := hf j f hj
    rw [ho, hk] at h1
    have hone' : (cs'.drop j).take 1 = [cs'[j]'(by omega)] := by
      rw [List.drop_eq_getElem_cons (by omega)]
      rfl
    rw [hone'] at h1
    have hys : ys[j]? = some (ys[j]'(by omega)) := List.getElem?_eq_getElem (by omega)
    refine ⟨_, _, n', ?_, h1.trans hys⟩
    rw [← Go.Deep.add_add, hcell, hv]
end
theorem spot_none {w : World} {a : Addr} {v : Value} (h : w.cell? a = some v) : ∃ b o, a = ⟨b, o, none⟩ := by
  obtain ⟨b, o, sp⟩ := a
  cases sp with
  | none => exact ⟨b, o, rfl⟩
  | some q => simp [World.cell?] at h; split at h <;> cases h
theorem add_plain (b o j : Nat) : (⟨b, o, none⟩ : Addr).add j = ⟨b, o + j, none⟩ := by
  unfold Addr.add; split
  · rename_i h; subst h; rfl
  · rfl
theorem pti_toNat {xs : List Int} (h : ∀ x ∈ xs, 0 ≤ x ∧ x ≤ 18446744073709551615) : pti (xs.map Int.toNat) = xs := by
  unfold pti
  rw [List.map_map]
  conv => rhs; rw [← List.map_id xs]
  apply List.map_congr_left
  intro x hx
  have := h x hx
  simp only [Function.comp_apply, id]
  omega
instance : Inhabited Ch := ⟨⟨[], false, false, 0, 0⟩⟩
end Go.Proofs.YtjokcagggmjgmaaGreat
/-! OpenV -/
namespace Go.Proofs.YtjokcagggmjgmaaGreat
open Go.RowKit Go.ChangeShapes Go.WideShapes Go.Deep
set_option linter.unusedVariables false

end Go.Proofs.YtjokcagggmjgmaaGreat
/-! OpenE -/
namespace Go.Proofs.YtjokcagggmjgmaaGreat
open Go.RowKit Go.ChangeShapes Go.WideShapes Go.Deep
set_option linter.unusedVariables false

/-- an entry's numbers, whatever its point's length -/
def En.OkV (a : En) : Prop := (∀ c ∈ a.p, c < 2 ^ 64) ∧ a.v < 2 ^ 64
theorem open_ents {H : Type} {enc : TypeId × Value → H} {W : World} {base : Nat} {held : Bool} {v : Value} {x : DataW H × List MemPlace} {fuel : Nat}
    (h : DataW.trod enc Tryz.prog W base (fun _ => true) held fuel 28 [v] = some x) :
    ∃ l, RdE W v l ∧ (∀ c ∈ l, En.OkV c) ∧ l.length ≤ maxLen ∧ ∃ A n c, v = .slice A n c ∧ n ≤ c ∧ c ≤ maxLen ∧ (0 < c → ∃ b o, A = some ⟨b, o, none⟩) := by
  have hu : ∃ fs, Tryz.prog.underlying 51 = some (.struct fs) ∧ fs.size = 2 ∧ (fs[0]?.map (·.type) = some 48) ∧ (fs[1]?.map (·.type) = some 49) ∧ oneCellFields Tryz.prog fs = true ∧ Tryz.prog.cellsOf 51 = fs.size :=
    ⟨_, Tryz.underlying51, by kernel_rfl, by kernel_rfl, by kernel_rfl, by kernel_rfl, by kernel_rfl⟩
  obtain ⟨fs, he, hs, t0, t1, hone, hC⟩ := hu
  rcases open_slice_fields Tryz.underlying28 he hone hC h with h0 | ⟨a, len, cap, m, hcs, hl, hm, hmm, hf⟩
  · simp only [List.cons.injEq, and_true] at h0
    subst h0
    exact ⟨[], ⟨none, 0, rfl, ⟨Nat.le_refl _, Nat.zero_le _, fun h => absurd h (by omega)⟩, fun h => absurd h (by simp)⟩, fun c hc => by simp at hc, by simp [maxLen], none, 0, 0, rfl, Nat.le_refl _, Nat.zero_le _, fun h => absurd h (by omega)⟩
  · simp only [List.cons.injEq, and_true] at hcs
    subst hcs
    have hlm : len ≤ m := by rw [hmm]; split <;> omega
    rw [hs] at hf
    have hmc : m = cap := by rw [hmm]; rfl
    have hab : 0 < cap → ∃ b o, a = ⟨b, o, none⟩ := by
      intro h0
      obtain ⟨f0, q0, r0⟩ := Option.map_eq_some_iff.1 t0
      obtain ⟨v0, y0, n0, c0, d0⟩ := hf 0 (by omega) 0 f0 q0
      exact spot_none (by simpa [Addr.add] using c0)
    have each : ∀ i, i < len → ∃ c, (En.OkV c) ∧ ∃ b o, a = ⟨b, o, none⟩ ∧ EnAt W b (o + i * 2) c := by
      intro i hi
      have hfi := hf i (by omega)
      obtain ⟨f0, q0, r0⟩ := Option.map_eq_some_iff.1 t0
      obtain ⟨f1, q1, r1⟩ := Option.map_eq_some_iff.1 t1
      obtain ⟨v0, y0, n0, c0, d0⟩ := hfi 0 f0 q0
      obtain ⟨v1, y1, n1, c1, d1⟩ := hfi 1 f1 q1
      rw [r0] at d0; rw [r1] at d1
      obtain ⟨b, o, ha⟩ := hab (by omega)
      subst ha
      rw [add_plain] at c0 c1
      obtain ⟨i1, e1, _, w1⟩ := DataW.trod_int Tryz.underlying49 d1
      simp only [List.cons.injEq, and_true] at e1
      subst e1
      have hp0 : ∃ xs : List Int, (∀ x ∈ xs, 0 ≤ x ∧ x ≤ 18446744073709551615) ∧ RdU W v0 xs := by
        rcases open_ints Tryz.underlying48 Tryz.underlying49 (by kernel_rfl) d0 with ⟨hcs, _⟩ | ⟨x, l, c, zs, hcs, _, hl, hm, hz, _, hcell, hwz⟩
        · simp only [List.cons.injEq, and_true] at hcs
          subst hcs
          exact ⟨[], fun x hx => by simp at hx, RdU.nil _ _ _⟩
        · simp only [List.cons.injEq, and_true] at hcs
          subst hcs
          obtain ⟨xs, _, _, h3, h4⟩ := RdU.of_row (w := W) (a := some x) (len := l) (cap := c) (zs := zs) (.inr ⟨_, rfl, hl, hm, by simpa using hz, hcell, hwz⟩)
          exact ⟨xs, h3, h4⟩
      obtain ⟨xs0, hx0, hv0⟩ := hp0
      have ho0 : ∀ y ∈ xs0.map Int.toNat, y < 2 ^ 64 := fun y hy => by
        simp only [List.mem_map] at hy
        obtain ⟨z, hz, rfl⟩ := hy
        have := hx0 z hz
        omega
      have g1 := bounds_u64 w1
      refine ⟨(⟨xs0.map Int.toNat, i1.toNat⟩ : En), ⟨ho0, by show i1.toNat < 2 ^ 64; omega⟩, b, o, rfl, ?_⟩
      have z0 : W.cell? ⟨b, o + i * 2, none⟩ = some v0 := by simpa [Nat.add_assoc] using c0
      have y0' : RdU W v0 (pti (xs0.map Int.toNat)) := by rw [pti_toNat hx0]; exact hv0
      have z1 : W.cell? ⟨b, o + i * 2 + 1, none⟩ = some (.int .u64 (i1.toNat : Nat)) := by rw [show ((i1.toNat : Nat) : Int) = i1 by omega]; simpa [Nat.add_assoc] using c1
      exact ⟨v0, by simpa [Nat.add_assoc] using z0, y0', by simpa [Nat.add_assoc] using z1⟩
    obtain ⟨f, hF⟩ := choose_lt each
    refine ⟨(List.range len).map f, ⟨some a, cap, by simp, ⟨by simp; omega, hm, fun h => by obtain ⟨b, o, ha⟩ := hab h; exact ⟨b, o, by rw [ha]⟩⟩, fun hp => ?_⟩, ?_, by simp; omega, some a, len, cap, rfl, hl, hm, fun h => ?_⟩
    · have hp' : 0 < len := by simpa using hp
      obtain ⟨_, b, o, ha, _⟩ := hF 0 hp'
      refine ⟨b, o, by rw [ha], fun j hj => ?_⟩
      obtain ⟨_, b', o', ha', hc⟩ := hF j (by simpa using hj)
      rw [ha] at ha'
      injection ha' with e1 e2
      subst e1 e2
      simpa using hc
    · intro c hc
      simp only [List.mem_map, List.mem_range] at hc
      obtain ⟨j, hj, rfl⟩ := hc
      exact (hF j hj).1
    · obtain ⟨b, o, ha⟩ := hab h
      exact ⟨b, o, by rw [ha]⟩
end Go.Proofs.YtjokcagggmjgmaaGreat
