/-
  Texts that the proof of PlaneTrees leans on, part 7: contracts of functions, and plain laws.
-/
import Derived.Test.YtjokcagggmjgmaaGreatMPlaneTrees6
/-! SrtA -/
namespace Go.Proofs.YtjokcagggmjgmaaGreat
open Go.RowKit
set_option linter.unusedVariables false
set_option linter.unusedSimpArgs false
set_option maxRecDepth 100000

theorem order_any (w : World) (p q : List Nat) (u1 u2 : Value) (x y : Nat) (h1 : RdU w u1 (pti p)) (h2 : RdU w u2 (pti q)) (hl : p.length = q.length) (k1 : 1 ≤ p.length) (k16 : p.length ≤ 16) (hp : ∀ c ∈ p, c < 2 ^ 64) (hq : ∀ c ∈ q, c < 2 ^ 64) :
    Calls Tryz.prog 119 #[.agg #[u1, .int .u64 (x : Nat)], .agg #[u2, .int .u64 (y : Nat)]] w fun e w' => e = .returned (.int .i64 (Zb.cmp p q)) ∧ Below w.heap.size w w' := by
  have HC := Lib.hid (fun w' (hb : Below w.heap.size w w') => zCmp_any p q u1 u2 w' (h1.below hb) (h2.below hb) hl k1 k16 hp hq)
  obtain ⟨A1, c1, rfl, _⟩ := RdU.point h1
  obtain ⟨A2, c2, rfl, _⟩ := RdU.point h2
  clear h1 h2 hl k1 k16 hp hq
  generalize Zb.cmp p q = z at *
  go_enter Tryz.func119, Tryz.ntmps119
  go_wp2_with fail
  refine (HC.out _ (by repeat (first | exact Below.refl _ _ | (refine Below.drew ?_) | (refine below_drewN' ?_ _) | (refine below_alloc' ?_ _) | (refine Below.setCell ?_ (by first | exact Nat.le_refl _ | (simp; done) | (simp; omega)) _)))).mono ?_
  rintro e w2 ⟨rfl, hw⟩
  obtain rfl := hw.symm
  clear hw
  go_wp2_with fail
  go_ret
  exact ⟨rfl, (by repeat (first | exact Below.refl _ _ | (refine Below.drew ?_) | (refine below_drewN' ?_ _) | (refine below_alloc' ?_ _) | (refine Below.setCell ?_ (by first | exact Nat.le_refl _ | (simp; done) | (simp; omega)) _)))⟩
/-- the row at block g, with room for n, holds the elements xs -/
structure PR (W0 w : World) (g n : Nat) (xs : List Pe) : Prop where
  cells : ∃ cur, w.heap[g]? = some (.cells cur 51 (0, 0)) ∧ cur.size = n * 2 ∧ xs.length ≤ n ∧ ∀ j (h : j < xs.length), cur[j * 2]? = some xs[j].1 ∧ cur[j * 2 + 1]? = some (.int .u64 (xs[j].2.v : Nat))
  pts : ∀ x ∈ xs, RdU W0 x.1 (pti x.2.p)
  low : W0.heap.size ≤ g
  bel : Below W0.heap.size W0 w
theorem PR.at' {W0 w : World} {g n : Nat} {xs : List Pe} (h : PR W0 w g n xs) (j : Nat) (hj : j < xs.length) : w.cell? ⟨g, j * 2, none⟩ = some xs[j].1 ∧ w.cell? ⟨g, j * 2 + 1, none⟩ = some (.int .u64 (xs[j].2.v : Nat)) := by
  obtain ⟨cur, h1, h2, h3, h4⟩ := h.cells
  obtain ⟨a, b⟩ := h4 j hj
  exact ⟨by simp [World.cell?, h1, a], by simp [World.cell?, h1, b]⟩
theorem PR.thaw {W0 w : World} {g n : Nat} {xs : List Pe} (h : PR W0 w g n xs) (j : Nat) : w.frozen? ⟨g, j, none⟩ = false := by
  obtain ⟨cur, h1, _⟩ := h.cells
  simp [World.frozen?, h1]
theorem PR.lt {W0 w : World} {g n : Nat} {xs : List Pe} (h : PR W0 w g n xs) : g < w.heap.size := by
  obtain ⟨cur, h1, _⟩ := h.cells
  exact kr_lt h1
theorem PR.step {W0 w w' : World} {g n : Nat} {xs : List Pe} (h : PR W0 w g n xs) (hb : Below w.heap.size w w') : PR W0 w' g n xs := by
  obtain ⟨cur, h1, h2⟩ := h.cells
  exact ⟨⟨cur, (hb.block g h.lt).trans h1, h2⟩, h.pts, h.low, h.bel.trans (hb.mono h.bel.size)⟩
theorem PR.set {W0 w : World} {g n j : Nat} {xs : List Pe} (h : PR W0 w g n xs) (hj : j < xs.length) (x : Pe) (hx : RdU W0 x.1 (pti x.2.p)) :
    PR W0 ((w.setCell ⟨g, j * 2, none⟩ x.1).setCell ⟨g, j * 2 + 1, none⟩ (.int .u64 (x.2.v : Nat))) g n (xs.set j x) := by
  obtain ⟨cur, h1, h2, h3, h4⟩ := h.cells
  refine ⟨⟨_, kr_set (kr_set h1), by simpa using h2, by simpa using h3, fun i hi => ?_⟩, fun y hy => ?_, h.low, (h.bel.setCell (p := ⟨g, _, none⟩) h.low _).setCell (p := ⟨g, _, none⟩) h.low _⟩
  · rw [List.length_set] at hi
    obtain ⟨a, b⟩ := h4 i hi
    by_cases e : i = j
    · subst e
      simp only [List.getElem_set_self]
      refine ⟨?_, ?_⟩
      · rw [Array.getElem?_setIfInBounds_ne (by omega)]
        exact Array.getElem?_setIfInBounds_self_of_lt (by omega)
      · exact Array.getElem?_setIfInBounds_self_of_lt (by simp; omega)
    · rw [List.getElem_set_ne (by omega)]
      refine ⟨?_, ?_⟩ <;> rw [Array.getElem?_setIfInBounds_ne (by omega), Array.getElem?_setIfInBounds_ne (by omega)] <;> assumption
  · rcases List.mem_or_eq_of_mem_set hy with hy | rfl
    · exact h.pts y hy
    · exact hx
theorem swap_mid (A : List Pe) (y x : Pe) (B : List Pe) : ((A ++ y :: x :: B).set (A.length + 1) y).set A.length x = A ++ x :: y :: B := by
  rw [List.set_append_right _ _ (by omega), Nat.add_sub_cancel_left]
  simp [List.set_append_right]
theorem Srt.append {P Q : List Pe} (hp : Srt P) (hq : Srt Q) (h : ∀ x ∈ P, ∀ y ∈ Q, ek x ≤ ek y) : Srt (P ++ Q) := List.pairwise_append.2 ⟨hp, hq, h⟩
/-- what the insertion sort leaves -/
def InsR (W0 : World) (g n : Nat) (A S B : List Pe) (e : Ending) (w' : World) : Prop := ∃ S', e = .returned (.tuple #[]) ∧ PR W0 w' g n (A ++ (S' ++ B)) ∧ S'.length = S.length ∧ Stb S S' ∧ Srt S'
/-- what stands ahead of a round of the inner loop: x is on its way down -/
structure InI (W0 wr : World) (g n a : Nat) (A S R B : List Pe) (x : Pe) (P Q : List Pe) : Prop where
  pr : PR W0 wr g n (A ++ (P ++ x :: (Q ++ (R ++ B))))
  srt : Srt (P ++ Q)
  stb : Stb S (P ++ x :: (Q ++ R))
  gt : ∀ y ∈ Q, ek x < ek y
  len : P.length + Q.length + 1 + R.length = S.length
theorem InI.done {W0 wr : World} {g n a : Nat} {A S R B : List Pe} {x : Pe} {P Q : List Pe} (h : InI W0 wr g n a A S R B x P Q) (hle : ∀ y ∈ P, ek y ≤ ek x) :
    PR W0 wr g n (A ++ ((P ++ x :: Q) ++ (R ++ B))) ∧ Srt (P ++ x :: Q) ∧ Stb S ((P ++ x :: Q) ++ R) ∧ (P ++ x :: Q).length + R.length = S.length ∧ 1 ≤ (P ++ x :: Q).length := by
  refine ⟨by simpa using h.pr, ?_, by simpa using h.stb, by have := h.len; simp; omega, by simp; omega⟩
  obtain ⟨h1, h2, h3⟩ := List.pairwise_append.1 h.srt
  refine List.pairwise_append.2 ⟨h1, List.pairwise_cons.2 ⟨fun z hz => Nat.le_of_lt (h.gt z hz), h2⟩, fun y hy z hz => ?_⟩
  rcases List.mem_cons.1 hz with rfl | hz
  · exact hle y hy
  · exact h3 y hy z hz
theorem InI.step {W0 wr w' : World} {g n a : Nat} {A S R B : List Pe} {x : Pe} {P Q : List Pe} (h : InI W0 wr g n a A S R B x P Q) (hb : Below wr.heap.size wr w') : InI W0 w' g n a A S R B x P Q :=
  ⟨h.pr.step hb, h.srt, h.stb, h.gt, h.len⟩
/-- x has gone down by one -/
theorem InI.down {W0 wr w' : World} {g n a : Nat} {A S R B : List Pe} {x y : Pe} {P Q : List Pe} (h : InI W0 wr g n a A S R B x (P ++ [y]) Q) (hlt : ek x < ek y) (hpr : PR W0 w' g n (A ++ (P ++ x :: y :: (Q ++ (R ++ B))))) :
    InI W0 w' g n a A S R B x P (y :: Q) := by
  refine ⟨by simpa using hpr, by simpa using h.srt, ?_, fun z hz => ?_, by have := h.len; simp at this ⊢; omega⟩
  · refine h.stb.trans ?_
    have e1 : (P ++ [y]) ++ x :: (Q ++ R) = P ++ (([y] ++ [x]) ++ (Q ++ R)) := by simp
    have e2 : P ++ x :: ((y :: Q) ++ R) = P ++ (([x] ++ [y]) ++ (Q ++ R)) := by simp
    rw [e1, e2]
    refine (Stb.refl P).append ((Stb.swap fun u hu v hv => ?_).append (Stb.refl _))
    obtain rfl := List.mem_singleton.1 hu
    obtain rfl := List.mem_singleton.1 hv
    omega
  · rcases List.mem_cons.1 hz with rfl | hz
    · exact hlt
    · exact h.gt z hz
set_option maxHeartbeats 4000000 in
theorem isort_any (W0 w : World) (g n a b m c k : Nat) (A S B : List Pe) (hA : A.length = a) (hb : a + S.length = b) (hm : (A ++ (S ++ B)).length = m) (hmm : m ≤ 1000) (k1 : 1 ≤ k) (k16 : k ≤ 16) (h : PR W0 w g n (A ++ (S ++ B)))
    (hk : ∀ x ∈ A ++ (S ++ B), x.2.p.length = k ∧ ∀ q ∈ x.2.p, q < 2 ^ 64) (hpos : S ≠ []) :
    Calls Tryz.prog 178 #[.slice (some ⟨g, 0, none⟩) m c, .int .i64 (a : Nat), .int .i64 (b : Nat), .func (.func 119) #[] #[]] w fun e w' => InsR W0 g n A S B e w' := by
  have hent := enters_lit' Tryz.func119 (by kernel_rfl) (by kernel_rfl)
  have hml : A.length + S.length + B.length = m := by rw [← hm]; simp; omega
  have HD := Lib.hid (And.intro hA (And.intro hb (And.intro hml hmm)))
  have HK := Lib.hid (And.intro hk (And.intro k1 k16))
  have HPR := Lib.hid h
  have hwa : wrap64 ((a : Int) + 1) = ((a + 1 : Nat) : Int) := by unfold wrap64; omega
  have HWA := Lib.hid hwa
  obtain ⟨x0, S0, rfl⟩ : ∃ x S0, S = x :: S0 := by cases S with
    | nil => exact absurd rfl hpos
    | cons x S0 => exact ⟨x, S0, rfl⟩
  clear hA hb hm hmm k1 k16 h hk hpos hml
  go_enter Tryz.func178, Tryz.ntmps178
  go_wp2_with fail
  go_loopw [8, 9] (fun iv _ wr => ∃ (S1 S2 : List Pe), iv = .int .i64 ((a + S1.length : Nat) : Int) ∧ 1 ≤ S1.length ∧ S1.length + S2.length = (x0 :: S0).length ∧ PR W0 wr g n (A ++ (S1 ++ (S2 ++ B))) ∧ Srt S1 ∧ Stb (x0 :: S0) (S1 ++ S2)) (fun iv _ _ => a + (x0 :: S0).length - (intOf iv).toNat)
  case atStart => exact ⟨[x0], S0, by first | (rw [HWA.out]; rfl) | simp, by simp, by simp; omega, HPR.out, List.pairwise_singleton _ _, Stb.refl _⟩
  case round =>
    obtain ⟨S1, S2, rfl, h1, h2, hpr, hsrt, hstb⟩ := hrel
    have HI := Lib.hid (And.intro h1 (And.intro h2 (And.intro hpr (And.intro hsrt hstb))))
    obtain ⟨i, hi⟩ : ∃ i, a + S1.length = i := ⟨_, rfl⟩
    rw [hi]
    have HIE := Lib.hid hi
    have hbi : i ≤ b ∧ (i < b ↔ S2 ≠ []) := by
      have := HD.out
      refine ⟨by omega, fun h => ?_, fun h => ?_⟩
      · intro e; rw [e, List.length_nil] at h2; omega
      · have := List.length_pos_iff.2 h; omega
    have HW := Lib.hid (show wrap64 ((i : Int) + 1) = ((i + 1 : Nat) : Int) by have := HD.out; unfold wrap64; omega)
    by_cases hib : i < b
    · obtain ⟨x, R, rfl⟩ : ∃ x R, S2 = x :: R := by cases S2 with
        | nil => exact absurd rfl (hbi.2.1 hib)
        | cons x R => exact ⟨x, R, rfl⟩
      have h3 : (i : Int) < (b : Int) := by omega
      have HIN : Hid (InI W0 wr g n a A (x0 :: S0) R B x S1 []) := Lib.hid ⟨by simpa using hpr, by simpa using hsrt, by simpa using hstb, by simp, by simp at h2 ⊢; omega⟩
      clear h1 h2 hpr hsrt hstb hi hbi
      go_wp2_with fail
      go_loopw [9] (fun jv wr => ∃ (P Q : List Pe), jv = .int .i64 ((a + P.length : Nat) : Int) ∧ InI W0 wr g n a A (x0 :: S0) R B x P Q) (fun jv _ => (intOf jv).toNat)
      case atStart => exact ⟨S1, [], by rw [HIE.out], HIN.out⟩
      case round =>
        obtain ⟨P, Q, rfl, hin⟩ := hrel
        have HN := Lib.hid hin
        rcases List.eq_nil_or_concat P with rfl | ⟨P', y, rfl⟩
        · clear hin
          simp only [List.length_nil, Nat.add_zero]
          go_wp2_with fail
          refine wp_region_vals 16 [fun z9 _ => z9 = .int .i64 (a : Nat),
            fun z9 _ => z9 = .int .i64 (a : Nat),
            fun z9 _ => z9 = .bool false,
            fun z9 _ => z9 = .bool false,
            fun z9 _ => z9 = undef,
            fun z9 _ => z9 = undef,
            fun z9 _ => z9 = undef,
            fun z9 _ => z9 = undef,
            fun z9 _ => z9 = undef,
            fun z9 _ => z9 = undef,
            fun z9 _ => z9 = undef,
            fun z9 _ => z9 = undef,
            fun z9 _ => z9 = undef,
            fun z9 _ => z9 = undef,
            fun z9 _ => z9 = undef,
            fun z9 _ => z9 = undef]
            (by kernel_rfl) (by kernel_rfl) (by kernel_rfl) (by kernel_rfl) ?_ ?_ ?_
          · intro V hV v w1 w2 h hb
            simp only [List.mem_cons, List.not_mem_nil, or_false] at hV
            rcases hV with rfl | rfl | rfl | rfl | rfl | rfl | rfl | rfl | rfl | rfl | rfl | rfl | rfl | rfl | rfl | rfl
            all_goals first | exact h | (exact h)
          · intro iq oq hiq hoq
            match iq, hiq with
            | 0, _ =>
            obtain rfl := Option.some.inj hoq
            intro a1 w1 K hk hK
            have e9 : a1.tmps.getD 9 undef = .int .i64 (a : Nat) := hk.same 9 (by simp)
            simp [Region.wanted, Oper.wp, Act.eval, go_sem, e9]
            exact hK _ _ (Below.refl _ _) rfl
            | 1, _ =>
            obtain rfl := Option.some.inj hoq
            intro a1 w1 K hk hK
            have e1 : a1.tmps.getD 1 undef = .int .i64 (a : Nat) := hk.same 1 (by simp)
            simp [Region.wanted, Oper.wp, Act.eval, go_sem, e1]
            exact hK _ _ (Below.refl _ _) rfl
            | 2, _ =>
            obtain rfl := Option.some.inj hoq
            intro a1 w1 K hk hK
            have d18 : a1.tmps.getD 18 undef = .int .i64 (a : Nat) := hk.deps ⟨0, .data⟩ (by simp) rfl _ _ rfl rfl
            have d19 : a1.tmps.getD 19 undef = .int .i64 (a : Nat) := hk.deps ⟨1, .data⟩ (by simp) rfl _ _ rfl rfl
            simp [Region.wanted, Oper.wp, Act.eval, go_sem, d18, d19]
            exact hK _ _ (Below.refl _ _) rfl
            | 3, _ =>
            obtain rfl := Option.some.inj hoq
            intro a1 w1 K hk hK
            have d20 : a1.tmps.getD 20 undef = .bool false := hk.deps ⟨2, .data⟩ (by simp) rfl _ _ rfl rfl
            simp [Region.wanted, Oper.wp, Act.eval, go_sem, d20]
            exact hK _ _ (Below.refl _ _) rfl
            | 4, _ =>
            obtain rfl := Option.some.inj hoq
            intro a1 w1 K hk hK
            have e3 : a1.tmps.getD 3 undef = .func (.func 119) #[] #[] := hk.same 3 (by simp)
            have gd : a1.tmps[21]? = some (.bool false) := getD_bool (hk.deps ⟨3, .guard⟩ (by simp) rfl _ _ rfl rfl)
            simp [Region.wanted, Oper.wp, Act.eval, go_sem, e3, gd, yielded]
            exact hK _ _ (Below.refl _ _) rfl
            | 5, _ =>
            obtain rfl := Option.some.inj hoq
            intro a1 w1 K hk hK
            have e0 : a1.tmps.getD 0 undef = .slice (some ⟨g, 0, none⟩) m c := hk.same 0 (by simp)
            have gd : a1.tmps[21]? = some (.bool false) := getD_bool (hk.deps ⟨3, .guard⟩ (by simp) rfl _ _ rfl rfl)
            simp [Region.wanted, Oper.wp, Act.eval, go_sem, e0, gd, yielded]
            exact hK _ _ (Below.refl _ _) rfl
            | 6, _ =>
            obtain rfl := Option.some.inj hoq
            intro a1 w1 K hk hK
            have e9 : a1.tmps.getD 9 undef = .int .i64 (a : Nat) := hk.same 9 (by simp)
            have gd : a1.tmps[21]? = some (.bool false) := getD_bool (hk.deps ⟨3, .guard⟩ (by simp) rfl _ _ rfl rfl)
            simp [Region.wanted, Oper.wp, Act.eval, go_sem, e9, gd, yielded]
            exact hK _ _ (Below.refl _ _) rfl
            | 7, _ =>
            obtain rfl := Option.some.inj hoq
            intro a1 w1 K hk hK
            have d23 : a1.tmps.getD 23 undef = undef := hk.deps ⟨5, .data⟩ (by simp) rfl _ _ rfl rfl
            have d24 : a1.tmps.getD 24 undef = undef := hk.deps ⟨6, .data⟩ (by simp) rfl _ _ rfl rfl
            have gd : a1.tmps[21]? = some (.bool false) := getD_bool (hk.deps ⟨3, .guard⟩ (by simp) rfl _ _ rfl rfl)
            simp [Region.wanted, Oper.wp, Act.eval, go_sem, d23, d24, gd, yielded]
            exact hK _ _ (Below.refl _ _) rfl
            | 8, _ =>
            obtain rfl := Option.some.inj hoq
            intro a1 w1 K hk hK
            have d25 : a1.tmps.getD 25 undef = undef := hk.deps ⟨7, .data⟩ (by simp) rfl _ _ rfl rfl
            have gd : a1.tmps[21]? = some (.bool false) := getD_bool (hk.deps ⟨3, .guard⟩ (by simp) rfl _ _ rfl rfl)
            simp [Region.wanted, Oper.wp, Act.eval, go_sem, d25, gd, yielded]
            exact hK _ _ (Below.refl _ _) rfl
            | 9, _ =>
            obtain rfl := Option.some.inj hoq
            intro a1 w1 K hk hK
            have e0 : a1.tmps.getD 0 undef = .slice (some ⟨g, 0, none⟩) m c := hk.same 0 (by simp)
            have gd : a1.tmps[21]? = some (.bool false) := getD_bool (hk.deps ⟨3, .guard⟩ (by simp) rfl _ _ rfl rfl)
            simp [Region.wanted, Oper.wp, Act.eval, go_sem, e0, gd, yielded]
            exact hK _ _ (Below.refl _ _) rfl
            | 10, _ =>
            obtain rfl := Option.some.inj hoq
            intro a1 w1 K hk hK
            have e9 : a1.tmps.getD 9 undef = .int .i64 (a : Nat) := hk.same 9 (by simp)
            have gd : a1.tmps[21]? = some (.bool false) := getD_bool (hk.deps ⟨3, .guard⟩ (by simp) rfl _ _ rfl rfl)
            simp [Region.wanted, Oper.wp, Act.eval, go_sem, e9, gd, yielded]
            exact hK _ _ (Below.refl _ _) rfl
            | 11, _ =>
            obtain rfl := Option.some.inj hoq
            intro a1 w1 K hk hK
            have d28 : a1.tmps.getD 28 undef = undef := hk.deps ⟨10, .data⟩ (by simp) rfl _ _ rfl rfl
            have gd : a1.tmps[21]? = some (.bool false) := getD_bool (hk.deps ⟨3, .guard⟩ (by simp) rfl _ _ rfl rfl)
            simp [Region.wanted, Oper.wp, Act.eval, go_sem, d28, gd, yielded]
            exact hK _ _ (Below.refl _ _) rfl
            | 12, _ =>
            obtain rfl := Option.some.inj hoq
            intro a1 w1 K hk hK
            have d27 : a1.tmps.getD 27 undef = undef := hk.deps ⟨9, .data⟩ (by simp) rfl _ _ rfl rfl
            have d29 : a1.tmps.getD 29 undef = undef := hk.deps ⟨11, .data⟩ (by simp) rfl _ _ rfl rfl
            have gd : a1.tmps[21]? = some (.bool false) := getD_bool (hk.deps ⟨3, .guard⟩ (by simp) rfl _ _ rfl rfl)
            simp [Region.wanted, Oper.wp, Act.eval, go_sem, d27, d29, gd, yielded]
            exact hK _ _ (Below.refl _ _) rfl
            | 13, _ =>
            obtain rfl := Option.some.inj hoq
            intro a1 w1 K hk hK
            have d30 : a1.tmps.getD 30 undef = undef := hk.deps ⟨12, .data⟩ (by simp) rfl _ _ rfl rfl
            have gd : a1.tmps[21]? = some (.bool false) := getD_bool (hk.deps ⟨3, .guard⟩ (by simp) rfl _ _ rfl rfl)
            simp [Region.wanted, Oper.wp, Act.eval, go_sem, d30, gd, yielded]
            exact hK _ _ (Below.refl _ _) rfl
            | 14, _ =>
            obtain rfl := Option.some.inj hoq
            intro a1 w1 K hk hK
            have d22 : a1.tmps.getD 22 undef = undef := hk.deps ⟨4, .data⟩ (by simp) rfl _ _ rfl rfl
            have d26 : a1.tmps.getD 26 undef = undef := hk.deps ⟨8, .data⟩ (by simp) rfl _ _ rfl rfl
            have d31 : a1.tmps.getD 31 undef = undef := hk.deps ⟨13, .data⟩ (by simp) rfl _ _ rfl rfl
            have gd : a1.tmps[21]? = some (.bool false) := getD_bool (hk.deps ⟨3, .guard⟩ (by simp) rfl _ _ rfl rfl)
            simp [Region.wanted, Oper.wp, Act.eval, go_sem, d22, d26, d31, gd, yielded]
            exact hK _ _ (Below.refl _ _) rfl
            | 15, _ =>
            obtain rfl := Option.some.inj hoq
            intro a1 w1 K hk hK
            have d32 : a1.tmps.getD 32 undef = undef := hk.deps ⟨14, .data⟩ (by simp) rfl _ _ rfl rfl
            have gd : a1.tmps[21]? = some (.bool false) := getD_bool (hk.deps ⟨3, .guard⟩ (by simp) rfl _ _ rfl rfl)
            simp [Region.wanted, Oper.wp, Act.eval, go_sem, d32, gd, yielded]
            exact hK _ _ (Below.refl _ _) rfl
            | k + 16, hk => exact absurd hk (by omega)
          · intro vs w3 hl hb3 hv
            match vs, hl with
            | [v0, v1, v2, v3, v4, v5, v6, v7, v8, v9, v10, v11, v12, v13, v14, v15], _ =>
            obtain rfl : v0 = .int .i64 (a : Nat) := hv 0 (by omega)
            obtain rfl : v1 = .int .i64 (a : Nat) := hv 1 (by omega)
            obtain rfl : v2 = .bool false := hv 2 (by omega)
            obtain rfl : v3 = .bool false := hv 3 (by omega)
            obtain rfl : v4 = undef := hv 4 (by omega)
            obtain rfl : v5 = undef := hv 5 (by omega)
            obtain rfl : v6 = undef := hv 6 (by omega)
            obtain rfl : v7 = undef := hv 7 (by omega)
            obtain rfl : v8 = undef := hv 8 (by omega)
            obtain rfl : v9 = undef := hv 9 (by omega)
            obtain rfl : v10 = undef := hv 10 (by omega)
            obtain rfl : v11 = undef := hv 11 (by omega)
            obtain rfl : v12 = undef := hv 12 (by omega)
            obtain rfl : v13 = undef := hv 13 (by omega)
            obtain rfl : v14 = undef := hv 14 (by omega)
            obtain rfl : v15 = undef := hv 15 (by omega)
            clear hv
            simp only [putAll, List.take_succ_cons, List.take_zero, List.drop_succ_cons, List.drop_zero, Act.put, List.setIfInBounds_toArray, List.set_cons_succ, List.set_cons_zero]
            have DN := Lib.hid ((HN.out.step (show Below wr.heap.size wr w3 from hb3)).done (by simp))
            clear hb3
            go_wp2_with fail
            go_roundw
            case rel =>
              obtain ⟨d1, d2, d3, d4, d5⟩ := DN.out
              exact ⟨[] ++ x :: Q, R, by rw [HW.out]; congr 2; have e1 := HI.out.2.1; have e2 := HIE.out; have e3 := HD.out.2.1; simp only [List.length_cons] at e1 e3 d4; omega, d5, d4, d1, d2, d3⟩
            case measure => rw [intOf_of' HW.out, intOf_nat]; have e3 := HD.out.2.1; omega
        · rw [List.concat_eq_append] at *
          obtain ⟨uy, py, vy⟩ := y
          have hmy : (⟨uy, ⟨py, vy⟩⟩ : Pe) ∈ A ++ ((P' ++ [(⟨uy, ⟨py, vy⟩⟩ : Pe)]) ++ x :: (Q ++ (R ++ B))) := by simp
          have hmx : x ∈ A ++ ((P' ++ [(⟨uy, ⟨py, vy⟩⟩ : Pe)]) ++ x :: (Q ++ (R ++ B))) := by simp
          have hsub : ∀ z, z ∈ A ++ ((P' ++ [(⟨uy, ⟨py, vy⟩⟩ : Pe)]) ++ x :: (Q ++ (R ++ B))) → z ∈ A ++ ((x0 :: S0) ++ B) := by
            intro z hz
            have h1 := hin.stb.mem (x := z)
            simp only [List.mem_append, List.mem_cons] at hz h1 ⊢
            rcases hz with hz | hz | hz | hz | hz | hz
            · exact .inl hz
            · exact .inr (.inl (h1.2 (.inl hz)))
            · exact .inr (.inl (h1.2 (.inr (.inl hz))))
            · exact .inr (.inl (h1.2 (.inr (.inr (.inl hz)))))
            · exact .inr (.inl (h1.2 (.inr (.inr (.inr hz)))))
            · exact .inr (.inr hz)
          obtain ⟨ky, oy⟩ := HK.out.1 _ (hsub _ hmy)
          obtain ⟨kx, ox⟩ := HK.out.1 _ (hsub _ hmx)
          have ruy := hin.pr.pts _ hmy
          have rux := hin.pr.pts _ hmx
          obtain ⟨ux, px, vx⟩ := x
          simp only at ky oy kx ox ruy rux
          have hE : A ++ ((P' ++ [(⟨uy, ⟨py, vy⟩⟩ : Pe)]) ++ (⟨ux, ⟨px, vx⟩⟩ : Pe) :: (Q ++ (R ++ B))) = (A ++ P') ++ (⟨uy, ⟨py, vy⟩⟩ : Pe) :: (⟨ux, ⟨px, vx⟩⟩ : Pe) :: (Q ++ (R ++ B)) := by simp
          have hpr2 := hin.pr
          rw [hE] at hpr2
          obtain ⟨t, ht⟩ : ∃ t, (A ++ P').length = t := ⟨_, rfl⟩
          have hT1 : t + 1 < ((A ++ P') ++ (⟨uy, ⟨py, vy⟩⟩ : Pe) :: (⟨ux, ⟨px, vx⟩⟩ : Pe) :: (Q ++ (R ++ B))).length := by rw [← ht]; simp; omega
          obtain ⟨q0, q1⟩ := hpr2.at' t (by omega)
          obtain ⟨k0, k1⟩ := hpr2.at' (t + 1) hT1
          have g1 : ((A ++ P') ++ (⟨uy, ⟨py, vy⟩⟩ : Pe) :: (⟨ux, ⟨px, vx⟩⟩ : Pe) :: (Q ++ (R ++ B)))[t]'(by omega) = ⟨uy, ⟨py, vy⟩⟩ := by subst ht; simp
          have g2 : ((A ++ P') ++ (⟨uy, ⟨py, vy⟩⟩ : Pe) :: (⟨ux, ⟨px, vx⟩⟩ : Pe) :: (Q ++ (R ++ B)))[t + 1]'hT1 = ⟨ux, ⟨px, vx⟩⟩ := by subst ht; rw [List.getElem_append_right (by omega)]; simp
          rw [g1] at q0 q1
          rw [g2] at k0 k1
          have HOR := Lib.hid (fun W (hb2 : Below wr.heap.size wr W) => order_any W px py ux uy vx vy (rux.below (hin.pr.bel.trans (hb2.mono hin.pr.bel.size))) (ruy.below (hin.pr.bel.trans (hb2.mono hin.pr.bel.size))) (by omega) (by have := HK.out.2.1; omega) (by have := HK.out.2.2; omega) ox oy)
          have hthaw : ∀ q, wr.frozen? ⟨g, q, none⟩ = false := fun q => hpr2.thaw q
          have HP2 := Lib.hid (And.intro hpr2 (And.intro ht (And.intro rux ruy)))
          have HLEN := Lib.hid hin.len
          obtain ⟨Ax, cx, rfl, _⟩ := RdU.point rux
          obtain ⟨Ay, cy, rfl, _⟩ := RdU.point ruy
          have HKK := Lib.hid (And.intro kx ky)
          rw [kx] at k0 HOR
          rw [ky] at q0 HOR
          simp only at q0 q1 k0 k1
          have htm : t + 1 < m := by
            have e1 := HD.out.1; have e3 := HD.out.2.2.1; have e2 := HN.out.len; have e4 : A.length + P'.length = t := by rw [← ht]; simp
            simp only [List.length_append, List.length_singleton] at e2
            omega
          have hta : a ≤ t := by have e1 := HD.out.1; have e4 : A.length + P'.length = t := by rw [← ht]; simp
                                 omega
          have HJT := Lib.hid (show a + P'.length = t by have e1 := HD.out.1; have e4 : A.length + P'.length = t := by rw [← ht]; simp
                                                         omega)
          have hjv : ((a + (P' ++ [(⟨.slice Ay py.length cy, ⟨py, vy⟩⟩ : Pe)]).length : Nat) : Int) = (t : Int) + 1 := by
            have e1 := HJT.out
            simp only [List.length_append, List.length_singleton]
            omega
          rw [hjv]
          have ht1 : (0 : Int) ≤ (t : Int) := by omega
          have ht2 : (t : Int) < (m : Int) := by omega
          have ht3 : (t : Int) + 1 < (m : Int) := by omega
          have ht4 : (0 : Int) ≤ (t : Int) + 1 := by omega
          have ht5 : (t : Int) + 1 > (a : Int) := by omega
          have ht6 : t < m := by omega
          have ht7 : t + 1 < m := htm
          have hgl := hin.pr.lt
          have hwt2 : IntKind.i64.wrap (t : Int) = (t : Int) := by have := HD.out; rw [IntKind.wrap_i64]; omega
          have hwt : wrap64 (t : Int) = (t : Int) := by have := HD.out; unfold wrap64; omega
          obtain ⟨z, hz⟩ : ∃ z, Zb.cmp px py = z := ⟨_, rfl⟩
          rw [hz] at HOR
          have HZ := Lib.hid (show z < 0 ↔ pkey px < pkey py from hz ▸ cmp_neg px py)
          obtain ⟨zb, hzb⟩ : ∃ zb, decide (z < 0) = zb := ⟨_, rfl⟩
          have HZB := Lib.hid hzb
          clear hz hin hpr2 hE ruy rux oy ox ky kx hsub hmy hmx g1 g2 hT1 hjv hta htm ht
          go_wp2_with fail
          refine wp_region_vals 16 [fun z9 _ => z9 = .int .i64 ((t : Int) + 1),
            fun z9 _ => z9 = .int .i64 (a : Nat),
            fun z9 _ => z9 = .bool true,
            fun z9 _ => z9 = .bool true,
            fun z9 _ => z9 = .func (.func 119) #[] #[],
            fun z9 _ => z9 = .slice (some ⟨g, 0, none⟩) m c,
            fun z9 _ => z9 = .int .i64 ((t : Int) + 1),
            fun z9 _ => z9 = .pointer (some ⟨g, (t + 1) * 2, none⟩),
            fun z9 _ => z9 = .agg #[.slice Ax k cx, .int .u64 (vx : Nat)],
            fun z9 _ => z9 = .slice (some ⟨g, 0, none⟩) m c,
            fun z9 _ => z9 = .int .i64 ((t : Int) + 1),
            fun z9 _ => z9 = .int .i64 (t : Nat),
            fun z9 _ => z9 = .pointer (some ⟨g, t * 2, none⟩),
            fun z9 _ => z9 = .agg #[.slice Ay k cy, .int .u64 (vy : Nat)],
            fun z9 _ => z9 = .int .i64 z,
            fun z9 _ => z9 = .bool zb]
            (by kernel_rfl) (by kernel_rfl) (by kernel_rfl) (by kernel_rfl) ?_ ?_ ?_
          · intro V hV v w1 w2 h hb
            simp only [List.mem_cons, List.not_mem_nil, or_false] at hV
            rcases hV with rfl | rfl | rfl | rfl | rfl | rfl | rfl | rfl | rfl | rfl | rfl | rfl | rfl | rfl | rfl | rfl
            all_goals first | exact h | (exact h)
          · intro iq oq hiq hoq
            match iq, hiq with
            | 0, _ =>
            obtain rfl := Option.some.inj hoq
            intro a1 w1 K hk hK
            have e9 : a1.tmps.getD 9 undef = .int .i64 ((t : Int) + 1) := hk.same 9 (by simp)
            simp [Region.wanted, Oper.wp, Act.eval, go_sem, e9, k0, k1, q0, q1, ht1, ht2, ht3, ht4, ht5, ht6, ht7, hgl, hent, hzb, hwt, hwt2]
            exact hK _ _ (Below.refl _ _) rfl
            | 1, _ =>
            obtain rfl := Option.some.inj hoq
            intro a1 w1 K hk hK
            have e1 : a1.tmps.getD 1 undef = .int .i64 (a : Nat) := hk.same 1 (by simp)
            simp [Region.wanted, Oper.wp, Act.eval, go_sem, e1, k0, k1, q0, q1, ht1, ht2, ht3, ht4, ht5, ht6, ht7, hgl, hent, hzb, hwt, hwt2]
            exact hK _ _ (Below.refl _ _) rfl
            | 2, _ =>
            obtain rfl := Option.some.inj hoq
            intro a1 w1 K hk hK
            have d18 : a1.tmps.getD 18 undef = .int .i64 ((t : Int) + 1) := hk.deps ⟨0, .data⟩ (by simp) rfl _ _ rfl rfl
            have d19 : a1.tmps.getD 19 undef = .int .i64 (a : Nat) := hk.deps ⟨1, .data⟩ (by simp) rfl _ _ rfl rfl
            simp [Region.wanted, Oper.wp, Act.eval, go_sem, d18, d19, k0, k1, q0, q1, ht1, ht2, ht3, ht4, ht5, ht6, ht7, hgl, hent, hzb, hwt, hwt2]
            exact hK _ _ (Below.refl _ _) rfl
            | 3, _ =>
            obtain rfl := Option.some.inj hoq
            intro a1 w1 K hk hK
            have d20 : a1.tmps.getD 20 undef = .bool true := hk.deps ⟨2, .data⟩ (by simp) rfl _ _ rfl rfl
            simp [Region.wanted, Oper.wp, Act.eval, go_sem, d20, k0, k1, q0, q1, ht1, ht2, ht3, ht4, ht5, ht6, ht7, hgl, hent, hzb, hwt, hwt2]
            exact hK _ _ (Below.refl _ _) rfl
            | 4, _ =>
            obtain rfl := Option.some.inj hoq
            intro a1 w1 K hk hK
            have e3 : a1.tmps.getD 3 undef = .func (.func 119) #[] #[] := hk.same 3 (by simp)
            have gd : a1.tmps[21]? = some (.bool true) := getD_bool (hk.deps ⟨3, .guard⟩ (by simp) rfl _ _ rfl rfl)
            simp [Region.wanted, Oper.wp, Act.eval, go_sem, e3, gd, yielded, k0, k1, q0, q1, ht1, ht2, ht3, ht4, ht5, ht6, ht7, hgl, hent, hzb, hwt, hwt2]
            exact hK _ _ (Below.refl _ _) rfl
            | 5, _ =>
            obtain rfl := Option.some.inj hoq
            intro a1 w1 K hk hK
            have e0 : a1.tmps.getD 0 undef = .slice (some ⟨g, 0, none⟩) m c := hk.same 0 (by simp)
            have gd : a1.tmps[21]? = some (.bool true) := getD_bool (hk.deps ⟨3, .guard⟩ (by simp) rfl _ _ rfl rfl)
            simp [Region.wanted, Oper.wp, Act.eval, go_sem, e0, gd, yielded, k0, k1, q0, q1, ht1, ht2, ht3, ht4, ht5, ht6, ht7, hgl, hent, hzb, hwt, hwt2]
            exact hK _ _ (Below.refl _ _) rfl
            | 6, _ =>
            obtain rfl := Option.some.inj hoq
            intro a1 w1 K hk hK
            have e9 : a1.tmps.getD 9 undef = .int .i64 ((t : Int) + 1) := hk.same 9 (by simp)
            have gd : a1.tmps[21]? = some (.bool true) := getD_bool (hk.deps ⟨3, .guard⟩ (by simp) rfl _ _ rfl rfl)
            simp [Region.wanted, Oper.wp, Act.eval, go_sem, e9, gd, yielded, k0, k1, q0, q1, ht1, ht2, ht3, ht4, ht5, ht6, ht7, hgl, hent, hzb, hwt, hwt2]
            exact hK _ _ (Below.refl _ _) rfl
            | 7, _ =>
            obtain rfl := Option.some.inj hoq
            intro a1 w1 K hk hK
            have d23 : a1.tmps.getD 23 undef = .slice (some ⟨g, 0, none⟩) m c := hk.deps ⟨5, .data⟩ (by simp) rfl _ _ rfl rfl
            have d24 : a1.tmps.getD 24 undef = .int .i64 ((t : Int) + 1) := hk.deps ⟨6, .data⟩ (by simp) rfl _ _ rfl rfl
            have gd : a1.tmps[21]? = some (.bool true) := getD_bool (hk.deps ⟨3, .guard⟩ (by simp) rfl _ _ rfl rfl)
            simp [Region.wanted, Oper.wp, Act.eval, go_sem, d23, d24, gd, yielded, k0, k1, q0, q1, ht1, ht2, ht3, ht4, ht5, ht6, ht7, hgl, hent, hzb, hwt, hwt2]
            exact hK _ _ (Below.refl _ _) rfl
            | 8, _ =>
            obtain rfl := Option.some.inj hoq
            intro a1 w1 K hk hK
            have d25 : a1.tmps.getD 25 undef = .pointer (some ⟨g, (t + 1) * 2, none⟩) := hk.deps ⟨7, .data⟩ (by simp) rfl _ _ rfl rfl
            have gd : a1.tmps[21]? = some (.bool true) := getD_bool (hk.deps ⟨3, .guard⟩ (by simp) rfl _ _ rfl rfl)
            have c0 : w1.cell? ⟨g, (t + 1) * 2, none⟩ = some (.slice Ax k cx) := Below.keeps hk.ext _ _ (by simp [go_sem, k0, k1, q0, q1, ht1, ht2, ht3, ht4, ht5, ht6, ht7, hgl, hent, hzb, hwt, hwt2])
            have c1 : w1.cell? ⟨g, (t + 1) * 2 + 1, none⟩ = some (.int .u64 (vx : Nat)) := Below.keeps hk.ext _ _ (by simp [go_sem, k0, k1, q0, q1, ht1, ht2, ht3, ht4, ht5, ht6, ht7, hgl, hent, hzb, hwt, hwt2])
            have c2 : w1.cell? ⟨g, t * 2, none⟩ = some (.slice Ay k cy) := Below.keeps hk.ext _ _ (by simp [go_sem, k0, k1, q0, q1, ht1, ht2, ht3, ht4, ht5, ht6, ht7, hgl, hent, hzb, hwt, hwt2])
            have c3 : w1.cell? ⟨g, t * 2 + 1, none⟩ = some (.int .u64 (vy : Nat)) := Below.keeps hk.ext _ _ (by simp [go_sem, k0, k1, q0, q1, ht1, ht2, ht3, ht4, ht5, ht6, ht7, hgl, hent, hzb, hwt, hwt2])
            simp [Region.wanted, Oper.wp, Act.eval, go_sem, d25, gd, yielded, c0, c1, c2, c3, k0, k1, q0, q1, ht1, ht2, ht3, ht4, ht5, ht6, ht7, hgl, hent, hzb, hwt, hwt2]
            exact hK _ _ (Below.refl _ _) rfl
            | 9, _ =>
            obtain rfl := Option.some.inj hoq
            intro a1 w1 K hk hK
            have e0 : a1.tmps.getD 0 undef = .slice (some ⟨g, 0, none⟩) m c := hk.same 0 (by simp)
            have gd : a1.tmps[21]? = some (.bool true) := getD_bool (hk.deps ⟨3, .guard⟩ (by simp) rfl _ _ rfl rfl)
            simp [Region.wanted, Oper.wp, Act.eval, go_sem, e0, gd, yielded, k0, k1, q0, q1, ht1, ht2, ht3, ht4, ht5, ht6, ht7, hgl, hent, hzb, hwt, hwt2]
            exact hK _ _ (Below.refl _ _) rfl
            | 10, _ =>
            obtain rfl := Option.some.inj hoq
            intro a1 w1 K hk hK
            have e9 : a1.tmps.getD 9 undef = .int .i64 ((t : Int) + 1) := hk.same 9 (by simp)
            have gd : a1.tmps[21]? = some (.bool true) := getD_bool (hk.deps ⟨3, .guard⟩ (by simp) rfl _ _ rfl rfl)
            simp [Region.wanted, Oper.wp, Act.eval, go_sem, e9, gd, yielded, k0, k1, q0, q1, ht1, ht2, ht3, ht4, ht5, ht6, ht7, hgl, hent, hzb, hwt, hwt2]
            exact hK _ _ (Below.refl _ _) rfl
            | 11, _ =>
            obtain rfl := Option.some.inj hoq
            intro a1 w1 K hk hK
            have d28 : a1.tmps.getD 28 undef = .int .i64 ((t : Int) + 1) := hk.deps ⟨10, .data⟩ (by simp) rfl _ _ rfl rfl
            have gd : a1.tmps[21]? = some (.bool true) := getD_bool (hk.deps ⟨3, .guard⟩ (by simp) rfl _ _ rfl rfl)
            simp [Region.wanted, Oper.wp, Act.eval, go_sem, d28, gd, yielded, k0, k1, q0, q1, ht1, ht2, ht3, ht4, ht5, ht6, ht7, hgl, hent, hzb, hwt, hwt2]
            exact hK _ _ (Below.refl _ _) rfl
            | 12, _ =>
            obtain rfl := Option.some.inj hoq
            intro a1 w1 K hk hK
            have d27 : a1.tmps.getD 27 undef = .slice (some ⟨g, 0, none⟩) m c := hk.deps ⟨9, .data⟩ (by simp) rfl _ _ rfl rfl
            have d29 : a1.tmps.getD 29 undef = .int .i64 (t : Nat) := hk.deps ⟨11, .data⟩ (by simp) rfl _ _ rfl rfl
            have gd : a1.tmps[21]? = some (.bool true) := getD_bool (hk.deps ⟨3, .guard⟩ (by simp) rfl _ _ rfl rfl)
            simp [Region.wanted, Oper.wp, Act.eval, go_sem, d27, d29, gd, yielded, k0, k1, q0, q1, ht1, ht2, ht3, ht4, ht5, ht6, ht7, hgl, hent, hzb, hwt, hwt2]
            exact hK _ _ (Below.refl _ _) rfl
            | 13, _ =>
            obtain rfl := Option.some.inj hoq
            intro a1 w1 K hk hK
            have d30 : a1.tmps.getD 30 undef = .pointer (some ⟨g, t * 2, none⟩) := hk.deps ⟨12, .data⟩ (by simp) rfl _ _ rfl rfl
            have gd : a1.tmps[21]? = some (.bool true) := getD_bool (hk.deps ⟨3, .guard⟩ (by simp) rfl _ _ rfl rfl)
            have c0 : w1.cell? ⟨g, (t + 1) * 2, none⟩ = some (.slice Ax k cx) := Below.keeps hk.ext _ _ (by simp [go_sem, k0, k1, q0, q1, ht1, ht2, ht3, ht4, ht5, ht6, ht7, hgl, hent, hzb, hwt, hwt2])
            have c1 : w1.cell? ⟨g, (t + 1) * 2 + 1, none⟩ = some (.int .u64 (vx : Nat)) := Below.keeps hk.ext _ _ (by simp [go_sem, k0, k1, q0, q1, ht1, ht2, ht3, ht4, ht5, ht6, ht7, hgl, hent, hzb, hwt, hwt2])
            have c2 : w1.cell? ⟨g, t * 2, none⟩ = some (.slice Ay k cy) := Below.keeps hk.ext _ _ (by simp [go_sem, k0, k1, q0, q1, ht1, ht2, ht3, ht4, ht5, ht6, ht7, hgl, hent, hzb, hwt, hwt2])
            have c3 : w1.cell? ⟨g, t * 2 + 1, none⟩ = some (.int .u64 (vy : Nat)) := Below.keeps hk.ext _ _ (by simp [go_sem, k0, k1, q0, q1, ht1, ht2, ht3, ht4, ht5, ht6, ht7, hgl, hent, hzb, hwt, hwt2])
            simp [Region.wanted, Oper.wp, Act.eval, go_sem, d30, gd, yielded, c0, c1, c2, c3, k0, k1, q0, q1, ht1, ht2, ht3, ht4, ht5, ht6, ht7, hgl, hent, hzb, hwt, hwt2]
            exact hK _ _ (Below.refl _ _) rfl
            | 14, _ =>
            obtain rfl := Option.some.inj hoq
            intro a1 w1 K hk hK
            have d22 : a1.tmps.getD 22 undef = .func (.func 119) #[] #[] := hk.deps ⟨4, .data⟩ (by simp) rfl _ _ rfl rfl
            have d26 : a1.tmps.getD 26 undef = .agg #[.slice Ax k cx, .int .u64 (vx : Nat)] := hk.deps ⟨8, .data⟩ (by simp) rfl _ _ rfl rfl
            have d31 : a1.tmps.getD 31 undef = .agg #[.slice Ay k cy, .int .u64 (vy : Nat)] := hk.deps ⟨13, .data⟩ (by simp) rfl _ _ rfl rfl
            have gd : a1.tmps[21]? = some (.bool true) := getD_bool (hk.deps ⟨3, .guard⟩ (by simp) rfl _ _ rfl rfl)
            simp [Region.wanted, Oper.wp, Act.eval, go_sem, d22, d26, d31, gd, yielded, k0, k1, q0, q1, ht1, ht2, ht3, ht4, ht5, ht6, ht7, hgl, hent, hzb, hwt, hwt2]
            refine (HOR.out _ (below_trans (by repeat (first | exact Below.refl _ _ | (refine Below.drew ?_) | (refine below_drewN' ?_ _) | (refine below_alloc' ?_ _) | (refine Below.setCell ?_ (by first | exact Nat.le_refl _ | (simp; done) | (simp; omega)) _))) hk.ext)).mono ?_
            rintro e w9 ⟨rfl, hb9⟩
            exact hK _ _ hb9 rfl
            | 15, _ =>
            obtain rfl := Option.some.inj hoq
            intro a1 w1 K hk hK
            have d32 : a1.tmps.getD 32 undef = .int .i64 z := hk.deps ⟨14, .data⟩ (by simp) rfl _ _ rfl rfl
            have gd : a1.tmps[21]? = some (.bool true) := getD_bool (hk.deps ⟨3, .guard⟩ (by simp) rfl _ _ rfl rfl)
            simp [Region.wanted, Oper.wp, Act.eval, go_sem, d32, gd, yielded, k0, k1, q0, q1, ht1, ht2, ht3, ht4, ht5, ht6, ht7, hgl, hent, hzb, hwt, hwt2]
            exact hK _ _ (Below.refl _ _) rfl
            | k + 16, hk => exact absurd hk (by omega)
          · intro vs w3 hl hb3 hv
            match vs, hl with
            | [v0, v1, v2, v3, v4, v5, v6, v7, v8, v9, v10, v11, v12, v13, v14, v15], _ =>
            obtain rfl : v0 = .int .i64 ((t : Int) + 1) := hv 0 (by omega)
            obtain rfl : v1 = .int .i64 (a : Nat) := hv 1 (by omega)
            obtain rfl : v2 = .bool true := hv 2 (by omega)
            obtain rfl : v3 = .bool true := hv 3 (by omega)
            obtain rfl : v4 = .func (.func 119) #[] #[] := hv 4 (by omega)
            obtain rfl : v5 = .slice (some ⟨g, 0, none⟩) m c := hv 5 (by omega)
            obtain rfl : v6 = .int .i64 ((t : Int) + 1) := hv 6 (by omega)
            obtain rfl : v7 = .pointer (some ⟨g, (t + 1) * 2, none⟩) := hv 7 (by omega)
            obtain rfl : v8 = .agg #[.slice Ax k cx, .int .u64 (vx : Nat)] := hv 8 (by omega)
            obtain rfl : v9 = .slice (some ⟨g, 0, none⟩) m c := hv 9 (by omega)
            obtain rfl : v10 = .int .i64 ((t : Int) + 1) := hv 10 (by omega)
            obtain rfl : v11 = .int .i64 (t : Nat) := hv 11 (by omega)
            obtain rfl : v12 = .pointer (some ⟨g, t * 2, none⟩) := hv 12 (by omega)
            obtain rfl : v13 = .agg #[.slice Ay k cy, .int .u64 (vy : Nat)] := hv 13 (by omega)
            obtain rfl : v14 = .int .i64 z := hv 14 (by omega)
            obtain rfl : v15 = .bool zb := hv 15 (by omega)
            clear hv
            simp only [putAll, List.take_succ_cons, List.take_zero, List.drop_succ_cons, List.drop_zero, Act.put, List.setIfInBounds_toArray, List.set_cons_succ, List.set_cons_zero]
            have HN4 := Lib.hid (HN.out.step (show Below wr.heap.size wr w3 from hb3))
            have HS3 := Lib.hid (show Below wr.heap.size wr w3 from hb3)
            replace k0 := Below.keeps hb3 _ _ k0
            replace k1 := Below.keeps hb3 _ _ k1
            replace q0 := Below.keeps hb3 _ _ q0
            replace q1 := Below.keeps hb3 _ _ q1
            replace hgl := Nat.lt_of_lt_of_le hgl hb3.size
            clear hb3 hzb hthaw
            cases zb with
            | false =>
              have DN := Lib.hid (HN4.out.done (fun u hu => by
                have hyx : pkey py ≤ pkey px := by have h1 := HZ.out; have h2 := of_decide_eq_false HZB.out; omega
                rcases List.mem_append.1 hu with hu | hu
                · have h3 := (List.pairwise_append.1 (List.pairwise_append.1 HN4.out.srt).1).2.2 u hu _ (List.mem_singleton.2 rfl)
                  exact Nat.le_trans h3 hyx
                · obtain rfl := List.mem_singleton.1 hu
                  exact hyx))
              clear k0 k1 q0 q1 hgl
              go_wp2_with fail
              go_roundw
              case rel =>
                obtain ⟨d1, d2, d3, d4, d5⟩ := DN.out
                exact ⟨_, R, by rw [HW.out]; congr 2; have e1 := HI.out.2.1; have e2 := HIE.out; have e3 := HD.out.2.1; simp only [List.length_cons] at e1 e3 d4; omega, d5, d4, d1, d2, d3⟩
              case measure => rw [intOf_of' HW.out, intOf_nat]; have e3 := HD.out.2.1; omega
            | true =>
              have hthaw : ∀ q, w3.frozen? ⟨g, q, none⟩ = false := fun q => HN4.out.pr.thaw q
              go_wp2_with fail
              go_region
              go_wp2_with fail
              go_roundw
              case rel =>
                refine ⟨P', (⟨.slice Ay py.length cy, ⟨py, vy⟩⟩ : Pe) :: Q, by first | (rw [hwt]; congr 2; have := HJT.out; omega) | (congr 2; have := HJT.out; omega), HN4.out.down (show pkey px < pkey py from HZ.out.1 (of_decide_eq_true HZB.out)) ?_⟩
                have hp3 := HP2.out.1.step HS3.out
                have hT : t + 1 < ((A ++ P') ++ (⟨.slice Ay py.length cy, ⟨py, vy⟩⟩ : Pe) :: (⟨.slice Ax px.length cx, ⟨px, vx⟩⟩ : Pe) :: (Q ++ (R ++ B))).length := by rw [← HP2.out.2.1]; simp; omega
                have h5 := (hp3.set hT (⟨.slice Ay py.length cy, ⟨py, vy⟩⟩ : Pe) HP2.out.2.2.2).set (j := t) (by rw [List.length_set]; omega) (⟨.slice Ax px.length cx, ⟨px, vx⟩⟩ : Pe) HP2.out.2.2.1
                have h6 := swap_mid (A ++ P') (⟨.slice Ay py.length cy, ⟨py, vy⟩⟩ : Pe) (⟨.slice Ax px.length cx, ⟨px, vx⟩⟩ : Pe) (Q ++ (R ++ B))
                rw [HP2.out.2.1] at h6
                rw [h6] at h5
                have h7 := h5.step (Below.drew (Below.refl _ _))
                simp only [HKK.out.1, HKK.out.2] at h7 ⊢
                simpa using h7
              case measure => first | (rw [intOf_of' hwt, intOf_of' rfl]; omega) | (rw [intOf_of' rfl, intOf_of' rfl]; omega) | (simp [intOf]; omega)
    · obtain rfl : S2 = [] := by
        cases S2 with
        | nil => rfl
        | cons x R => exact absurd (hbi.2.2 (by simp)) hib
      have h3 : ¬ (i : Int) < (b : Int) := by omega
      clear h1 h2 hpr hsrt hstb hi hbi
      go_wp2_with fail
      go_end0
      exact ⟨S1, rfl, by simpa using HI.out.2.2.1, by have := HI.out.2.1; simpa using this, by simpa using HI.out.2.2.2.2, HI.out.2.2.2.1⟩
end Go.Proofs.YtjokcagggmjgmaaGreat
/-! SrtC -/
namespace Go.Proofs.YtjokcagggmjgmaaGreat
open Go.RowKit
set_option linter.unusedVariables false
set_option linter.unusedSimpArgs false
set_option maxRecDepth 100000

theorem eclone_any (w : World) (l : List En) (v : Value) (hv : RdE w v l) (hl : l.length ≤ 1000) : Calls Tryz.prog 117 #[v] w fun e w' => ∃ v', e = .returned v' ∧ OwnE w w' v' l ∧ Below w.heap.size w w' := by
  have HS := Lib.hid (fun w' (hb : Below w.heap.size w w') => hv.src hb)
  have HL := Lib.hid hl
  obtain ⟨A, c, rfl, ⟨h1, h2, h3⟩, hx⟩ := hv
  cases A with
  | none =>
    have hl0 : l = [] := by
      cases l with
      | nil => rfl
      | cons x l => obtain ⟨b, o, h, _⟩ := hx (by simp); cases h
    subst hl0
    have he : ∀ w : World, (binOp .eql 28 (.slice none 0 c) (.slice none 0 0)).run Tryz.prog w = .ok (.bool true) w := fun _ => rfl
    clear h1 h2 h3 hx hl
    simp only [List.length_nil]
    go_enter Tryz.func117, Tryz.ntmps117
    go_wp2_with fail
    go_ret
    exact ⟨_, rfl, OwnE.nil _ _, Below.refl _ _⟩
  | some a =>
    have he : ∀ w : World, (binOp .eql 28 (.slice (some a) l.length c) (.slice none 0 0)).run Tryz.prog w = .ok (.bool false) w := fun _ => rfl
    clear h1 h2 h3 hx hl
    go_enter Tryz.func117, Tryz.ntmps117
    go_wp2_with (at_builtin; refine wpList_append_E rfl (.tmp 5) (.tmp 6) rfl w [] l (OwnE.lit (Nat.le_refl _) rfl) (HS.out _ (by repeat (first | exact Below.refl _ _ | (refine Below.drew ?_) | (refine below_drewN' ?_ _) | (refine below_alloc' ?_ _) | (refine Below.setCell ?_ (by first | exact Nat.le_refl _ | (simp; done) | (simp; omega)) _)))) (by repeat (first | exact Below.refl _ _ | (refine Below.drew ?_) | (refine below_drewN' ?_ _) | (refine below_alloc' ?_ _) | (refine Below.setCell ?_ (by first | exact Nat.le_refl _ | (simp; done) | (simp; omega)) _))) (by have := HL.out; simp; omega) ?_)
    intro v' w' hown hb
    have HO := Lib.hid (And.intro hown hb)
    clear hown hb
    go_wp2_with fail
    go_ret
    exact ⟨_, rfl, HO.out.1, HO.out.2⟩
theorem cellsE_pe {w : World} {cs : List Value} {l : List En} (h : CellsE w cs l) : ∃ xs : List Pe, xs.map (·.2) = l ∧ (∀ x ∈ xs, RdU w x.1 (pti x.2.p)) ∧ cs.length = xs.length * 2 ∧
    ∀ j (hj : j < xs.length), cs[j * 2]? = some xs[j].1 ∧ cs[j * 2 + 1]? = some (.int .u64 (xs[j].2.v : Nat)) := by
  induction l generalizing cs with
  | nil => obtain rfl : cs = [] := h; exact ⟨[], rfl, by simp, rfl, fun j hj => by simp at hj⟩
  | cons e l ih =>
    obtain ⟨u, ds, rfl, hu, h⟩ := h
    obtain ⟨xs, h1, h2, h3, h4⟩ := ih h
    refine ⟨(u, e) :: xs, by simp [h1], ?_, by simp [h3]; omega, ?_⟩
    · intro x hx
      rcases List.mem_cons.1 hx with rfl | hx
      · exact hu
      · exact h2 x hx
    · intro j hj
      cases j with
      | zero => simp
      | succ j =>
        obtain ⟨a, b⟩ := h4 j (by simpa using hj)
        refine ⟨?_, ?_⟩
        · rw [show (j + 1) * 2 = j * 2 + 1 + 1 by omega]; simpa using a
        · rw [show (j + 1) * 2 + 1 = j * 2 + 1 + 1 + 1 by omega]; simpa using b
theorem OwnE.pr {W w : World} {v : Value} {l : List En} (h : OwnE W w v l) (hb : Below W.heap.size W w) (hne : l ≠ []) : ∃ g n xs, v = .slice (some ⟨g, 0, none⟩) l.length n ∧ PR W w g n xs ∧ xs.map (·.2) = l := by
  obtain ⟨cs, ⟨h1, h2⟩, h3⟩ := h
  obtain ⟨xs, e1, e2, e3, e4⟩ := cellsE_pe h3
  have hlen : xs.length = l.length := by rw [← e1]; simp
  rcases h2 with ⟨_, h0⟩ | ⟨g, cap, cur, rfl, hg, hh, hcap, hm, hs, ht⟩
  · exact absurd (List.length_eq_zero_iff.1 h0) hne
  · refine ⟨g, cap, xs, rfl, ⟨⟨cur, hh, hs, by omega, fun j hj => ?_⟩, e2, hg, hb⟩, e1⟩
    obtain ⟨a, b⟩ := e4 j hj
    have key : ∀ i x, cs[i]? = some x → cur[i]? = some x := fun i x hi => by
      rw [← ht] at hi
      have hil := (List.getElem?_eq_some_iff.1 hi).1
      rw [List.length_take] at hil
      rw [List.getElem?_take_of_lt (by omega), Array.getElem?_toList] at hi
      exact hi
    exact ⟨key _ _ a, key _ _ b⟩
/-- the stable sort does what it is to do, for rows up to N -/
def SortR (W0 : World) (g n : Nat) (xs : List Pe) (e : Ending) (w' : World) : Prop := ∃ ys, e = .returned (.tuple #[]) ∧ PR W0 w' g n ys ∧ ys.length = xs.length ∧ Stb xs ys ∧ Srt ys
def SortOk (N : Nat) : Prop := ∀ (W0 w : World) (g n c k : Nat) (xs : List Pe), xs.length ≤ N → xs ≠ [] → 1 ≤ k → k ≤ 16 → PR W0 w g n xs → (∀ x ∈ xs, x.2.p.length = k ∧ ∀ q ∈ x.2.p, q < 2 ^ 64) →
  Calls Tryz.prog 118 #[.slice (some ⟨g, 0, none⟩) xs.length c, .func (.func 119) #[] #[]] w fun e w' => SortR W0 g n xs e w'
end Go.Proofs.YtjokcagggmjgmaaGreat
/-! SrtD -/
namespace Go.Proofs.YtjokcagggmjgmaaGreat
open Go.RowKit
set_option linter.unusedVariables false
set_option linter.unusedSimpArgs false
set_option maxRecDepth 100000

theorem PR.room {W0 w : World} {g n : Nat} {xs : List Pe} (h : PR W0 w g n xs) (j : Nat) (hj : j < n * 2) : (w.cell? ⟨g, j, none⟩).isSome = true := by
  obtain ⟨cur, h1, h2, _⟩ := h.cells
  simp [World.cell?, h1, h2, hj]
theorem wpList_append_room {W0 w : World} {ops : Array Oper} {rest : List Oper} {o : Oper} {a : Act} {Q : Exit → Act → World → Prop} (hgd : o.guard = none) (s x : Operand)
    (ho : o.op = .call { callee := .builtin .append, args := #[s, x], argTypes := #[28, 28] }) (g n r b2 cc : Nat) (xs : List Pe) (u : Value) (v : Nat) (hpr : PR W0 w g n xs) (hr : r < n)
    (hs : a.eval s = .slice (some ⟨g, 0, none⟩) r n) (hx : a.eval x = .slice (some ⟨b2, 0, none⟩) 1 cc) (h0 : w.cell? ⟨b2, 0, none⟩ = some u) (h1 : w.cell? ⟨b2, 1, none⟩ = some (.int .u64 (v : Nat))) (hu : u.oneCell' = true)
    (h : wpList Tryz.prog ops Q rest (a.put o.dst (.slice (some ⟨g, 0, none⟩) (r + 1) n)) ((w.setCell ⟨g, r * 2, none⟩ u).setCell ⟨g, r * 2 + 1, none⟩ (.int .u64 (v : Nat)))) : wpList Tryz.prog ops Q (o :: rest) a w := by
  obtain ⟨i, hi, hz0, hz1, hz2⟩ := info_parts entryInfo
  have hrun := run_append_room_cells (P := Tryz.prog) w 28 o.type 51 i Tryz.underlying28 hi g 0 r n ⟨b2, 0, none⟩ 1 cc [u, .int .u64 (v : Nat)] (by rw [hz1]; rfl) (fun j y hj => by
    match j with
    | 0 => simp at hj; subst hj; simpa [Addr.add] using h0
    | 1 => simp at hj; subst hj; simpa [Addr.add] using h1
    | j + 2 => simp at hj) (fun y hy => by
    rcases List.mem_cons.1 hy with rfl | hy
    · exact hu
    · obtain rfl := List.mem_singleton.1 hy; rfl) (by omega) (fun j hj => by
    rw [hz1]; exact hpr.room _ (by simp at hj; omega)) (fun j hj => by rw [hz1]; exact hpr.thaw _)
  rw [hz1, Nat.zero_add] at hrun
  rw [← hs, ← hx] at hrun
  exact wpList_append_run hgd s x ho hrun h
theorem isort_nil (w : World) (A : Option Addr) (c : Nat) : Calls Tryz.prog 178 #[.slice A 0 c, .int .i64 0, .int .i64 0, .func (.func 119) #[] #[]] w fun e w' => e = .returned (.tuple #[]) ∧ w' = w := by
  go_enter Tryz.func178, Tryz.ntmps178
  go_wp2_with fail
  go_loopw [8, 9] (fun iv _ wr => iv = .int .i64 1 ∧ wr = w) (fun _ _ _ => 0)
  case atStart => exact ⟨rfl, rfl⟩
  case round =>
    obtain ⟨rfl, hw⟩ := hrel
    subst hw
    go_wp2_with fail
    go_end0
    exact ⟨rfl, rfl⟩
theorem stc_nil (w : World) (A : Option Addr) (c : Nat) : Calls Tryz.prog 163 #[.slice A 0 c, .int .i64 0, .func (.func 119) #[] #[]] w fun e w' => e = .returned (.tuple #[]) ∧ w' = w := by
  have HI := Lib.hid (isort_nil w A c)
  go_enter Tryz.func163, Tryz.ntmps163
  go_wp2_with fail
  go_loopw [7, 8] (fun av bv wr => av = .int .i64 0 ∧ bv = .int .i64 20 ∧ wr = w) (fun _ _ _ => 0)
  case atStart => exact ⟨rfl, rfl, rfl⟩
  case round =>
    obtain ⟨rfl, rfl, hw⟩ := hrel
    subst hw
    go_wp2_with fail
    refine HI.out.mono ?_
    rintro e w2 ⟨rfl, hw2⟩
    obtain rfl := hw2.symm
    go_wp2_with fail
    go_loopw [6, 7, 8, 9] (fun bv _ _ _ wr8 => bv = .int .i64 20 ∧ wr8 = wr) (fun _ _ _ _ _ => 0)
    case atStart => exact ⟨rfl, rfl⟩
    case round =>
      obtain ⟨rfl, hw⟩ := hrel
      subst hw
      go_wp2_with fail
      go_end0
      exact ⟨rfl, rfl⟩
theorem stb_nil (w : World) (A : Option Addr) (c : Nat) : Calls Tryz.prog 118 #[.slice A 0 c, .func (.func 119) #[] #[]] w fun e w' => e = .returned (.tuple #[]) ∧ w' = w := by
  have HI := Lib.hid (stc_nil w A c)
  go_enter Tryz.func118, Tryz.ntmps118
  go_wp2_with fail
  refine HI.out.mono ?_
  rintro e w2 ⟨rfl, hw2⟩
  obtain rfl := hw2.symm
  go_wp2_with fail
  go_end0
  exact ⟨rfl, rfl⟩
/-- what stands ahead of a round: r are kept, from j on the row is as it was sorted -/
structure SrI (W0 wr : World) (g n : Nat) (ys zs : List Pe) (j r : Nat) : Prop where
  pr : PR W0 wr g n zs
  len : zs.length = ys.length
  rj : r ≤ j
  jm : j ≤ ys.length
  rest : ∀ i (h : i < ys.length) (h' : i < zs.length), j ≤ i → zs[i] = ys[i]
  out : zs.take r ++ lastsL (ys.drop j) = lastsL ys
theorem SrI.skip {W0 wr w' : World} {g n : Nat} {ys zs : List Pe} {j r : Nat} (h : SrI W0 wr g n ys zs j r) (hb : Below wr.heap.size wr w') (hj : j + 1 < ys.length) (he : ek (ys[j]'(by omega)) = ek ys[j + 1]) : SrI W0 w' g n ys zs (j + 1) r := by
  refine ⟨h.pr.step hb, h.len, by have := h.rj; omega, by omega, fun i h1 h2 h3 => h.rest i h1 h2 (by omega), ?_⟩
  rw [← h.out]
  congr 1
  rw [← List.getElem_cons_drop (show j < ys.length by omega), ← List.getElem_cons_drop hj]
  conv => rhs; unfold lastsL
  rw [if_pos he]
theorem SrI.take {W0 wr w' : World} {g n : Nat} {ys zs : List Pe} {j r : Nat} (h : SrI W0 wr g n ys zs j r) (hj : j < ys.length) (hne : ∀ h : j + 1 < ys.length, ek ys[j] ≠ ek (ys[j + 1]'h)) (hpr : PR W0 w' g n (zs.set r ys[j])) : SrI W0 w' g n ys (zs.set r ys[j]) (j + 1) (r + 1) := by
  have hrz : r < zs.length := by have := h.rj; have := h.len; omega
  refine ⟨hpr, by rw [List.length_set]; exact h.len, by have := h.rj; omega, by omega, fun i h1 h2 h3 => ?_, ?_⟩
  · rw [List.length_set] at h2
    rw [List.getElem_set_ne (by have := h.rj; omega)]
    exact h.rest i h1 h2 (by omega)
  · rw [← h.out, List.take_add_one, List.getElem?_set_self hrz]
    have e1 : (zs.set r ys[j]).take r = zs.take r := by rw [List.take_set_of_le (Nat.le_refl _)]
    rw [e1, List.append_assoc]
    congr 1
    rw [← List.getElem_cons_drop hj]
    by_cases hlast : j + 1 < ys.length
    · rw [← List.getElem_cons_drop hlast]
      conv => rhs; unfold lastsL
      rw [if_neg (hne hlast)]
      rfl
    · rw [List.drop_eq_nil_of_le (by omega)]
      rfl
theorem PR.rd {W0 w : World} {g n r : Nat} {zs : List Pe} {l : List En} (h : PR W0 w g n zs) (hr : r ≤ zs.length) (hn : n ≤ maxLen) (hl : (zs.take r).map (·.2) = l) : RdE w (.slice (some ⟨g, 0, none⟩) r n) l := by
  subst hl
  have hlen : ((zs.take r).map (·.2)).length = r := by simp; omega
  refine ⟨some ⟨g, 0, none⟩, n, by rw [hlen], ⟨by rw [hlen]; obtain ⟨_, _, _, h3, _⟩ := h.cells; omega, hn, fun _ => ⟨g, 0, rfl⟩⟩, fun _ => ⟨g, 0, rfl, fun q hq => ?_⟩⟩
  have hq' := hq
  rw [hlen] at hq'
  obtain ⟨a, b⟩ := h.at' q (by omega)
  have e : ((zs.take r).map (·.2))[q]'hq = (zs[q]'(by omega)).2 := by simp
  rw [e, Nat.zero_add]
  exact ⟨_, a, (h.pts _ (List.getElem_mem _)).below h.bel, b⟩
/-- a row of entries is handed back -/
def SrtR (W : World) (l : List En) (e : Ending) (w' : World) : Prop := ∃ v, e = .returned v ∧ RdE w' v l ∧ Below W.heap.size W w'
set_option maxHeartbeats 4000000 in
theorem sorted_any (N : Nat) (hS : SortOk N) (w : World) (k : Nat) (l : List En) (v : Value) (hv : RdE w v l) (hlN : l.length ≤ N) (hl : l.length ≤ 1000) (k1 : 1 ≤ k) (k16 : k ≤ 16) (hk : ∀ e ∈ l, e.p.length = k ∧ ∀ q ∈ e.p, q < 2 ^ 64) :
    Calls Tryz.prog 70 #[v] w fun e w' => SrtR w (putsL [] l) e w' := by
  have HC := Lib.hid (eclone_any w l v hv hl)
  obtain ⟨A0, c0, rfl, zz⟩ := hv
  clear zz
  by_cases hne : l = []
  · subst hne
    clear hk hl hlN hS
    go_enter Tryz.func70, Tryz.ntmps70
    go_wp2_with fail
    refine HC.out.mono ?_
    rintro e w1 ⟨v1, rfl, ho, hb⟩
    have hr := ho.rd hb
    obtain ⟨A1, c1, e1, hcc, _⟩ := ho.rd hb
    subst e1
    have HR := Lib.hid (And.intro hr (And.intro hcc hb))
    simp only [List.length_nil] at *
    clear ho hr hb hcc
    go_wp2_with fail
    refine (stb_nil w1 A1 c1).mono ?_
    rintro e w2 ⟨rfl, hw2⟩
    obtain rfl := hw2.symm
    clear hw2
    have h0c : (0 : Int) ≤ (c1 : Int) := by omega
    go_wp2_with fail
    go_loopw [4, 5, 6, 15] (fun ov _ _ iv wr => ov = .slice A1 0 c1 ∧ iv = .int .i64 0 ∧ wr = w1) (fun _ _ _ _ _ => 0)
    case atStart => exact ⟨rfl, rfl, rfl⟩
    case round =>
      obtain ⟨rfl, rfl, hw⟩ := hrel
      subst hw
      go_wp2_with fail
      go_ret
      exact ⟨_, rfl, ⟨A1, c1, rfl, HR.out.2.1, fun h => absurd h (by simp [putsL])⟩, HR.out.2.2⟩
  · have hls : 0 < l.length := List.length_pos_iff.2 hne
    have HD := Lib.hid (And.intro hne (And.intro hlN (And.intro hl (And.intro k1 (And.intro k16 hk)))))
    clear hk hl hlN k1 k16
    go_enter Tryz.func70, Tryz.ntmps70
    go_wp2_with fail
    refine HC.out.mono ?_
    rintro e w1 ⟨v1, rfl, ho, hb⟩
    obtain ⟨g, n, xs, rfl, hpr, hxl⟩ := ho.pr hb HD.out.1
    obtain ⟨_, _, e9, ⟨hcc1, hcc2, _⟩, _⟩ := ho.rd hb
    have hnm : n ≤ maxLen := by simp only [Value.slice.injEq] at e9; have := e9.2.2; omega
    have hlen : l.length = xs.length := by rw [← hxl]; simp
    have hxk : ∀ x ∈ xs, x.2.p.length = k ∧ ∀ q ∈ x.2.p, q < 2 ^ 64 := fun x hx => HD.out.2.2.2.2.2 x.2 (by rw [← hxl]; exact List.mem_map_of_mem hx)
    have HS := Lib.hid (hS w w1 g n n k xs (by have := HD.out.2.1; omega) (by intro h; rw [h, List.length_nil] at hlen; omega) HD.out.2.2.2.1 HD.out.2.2.2.2.1 hpr hxk)
    have HX := Lib.hid (And.intro hxl (And.intro hxk hnm))
    have HXL := Lib.hid (show xs.length ≤ 1000 by rw [← hlen]; exact HD.out.2.2.1)
    rw [hlen] at *
    clear ho hb hpr hxl hxk e9 hcc1 hcc2 hnm hlen
    go_wp2_with fail
    refine HS.out.mono ?_
    rintro e w2 ⟨ys, rfl, hp2, hyl, hst, hsr⟩
    have HY := Lib.hid (And.intro hp2 (And.intro hyl (And.intro hst hsr)))
    have hyk : ∀ y ∈ ys, y.2.p.length = k ∧ ∀ q ∈ y.2.p, q < 2 ^ 64 := fun y hy => HX.out.2.1 y (hst.mem.2 hy)
    have HYK := Lib.hid hyk
    obtain ⟨m, hm⟩ : ∃ m, xs.length = m := ⟨_, rfl⟩
    have HLN := Lib.hid (And.intro (hyl.trans hm) (show m ≤ 1000 by rw [← hm]; exact HXL.out))
    rw [hm] at *
    clear hp2 hst hsr hyk hyl hm HS
    have h0c : (0 : Int) ≤ (n : Int) := by omega
    go_wp2_with fail
    go_loopw [4, 5, 6, 15] (fun ov _ _ iv wr => ∃ (zs : List Pe) (j r : Nat), ov = .slice (some ⟨g, 0, none⟩) r n ∧ iv = .int .i64 (j : Nat) ∧ SrI w wr g n ys zs j r) (fun _ _ _ iv _ => m - (intOf iv).toNat)
    case atStart => exact ⟨ys, 0, 0, rfl, rfl, ⟨HY.out.1, rfl, Nat.le_refl _, Nat.zero_le _, fun i h1 h2 _ => rfl, by simp⟩⟩
    case round =>
      obtain ⟨zs, j, r, rfl, rfl, hI⟩ := hrel
      have HI := Lib.hid hI
      have hym : ys.length = m := HLN.out.1
      have hzm : zs.length = m := hI.len.trans hym
      have hm1000 := HLN.out.2
      by_cases hj : j < m
      · have hjz : j < zs.length := by omega
        have hjy : j < ys.length := by omega
        obtain ⟨q0, q1⟩ := hI.pr.at' j hjz
        have hzj := hI.rest j hjy hjz (Nat.le_refl _)
        have hmy : ys[j] ∈ ys := List.getElem_mem hjy
        have rux := hI.pr.pts zs[j] (List.getElem_mem hjz)
        rw [hzj] at q0 q1 rux
        obtain ⟨kx, ox⟩ := HYK.out _ hmy
        obtain ⟨X, hX⟩ : ∃ X, ys[j] = X := ⟨_, rfl⟩
        rw [hX] at q0 q1 rux kx ox
        obtain ⟨ux, px, vx⟩ := X
        simp only at q0 q1 rux kx ox
        have HRX := Lib.hid (And.intro hX (And.intro rux (And.intro kx ox)))
        obtain ⟨Ax, cx, hux, _⟩ := RdU.point rux
        rw [kx] at hux
        have HUX := Lib.hid hux
        rw [hux] at q0
        have hj1 : (0 : Int) ≤ (j : Int) := by omega
        have hj2 : (j : Int) < (m : Int) := by omega
        have hj3 : (0 : Int) ≤ (j : Int) + 1 := by omega
        have hgl := hI.pr.lt
        have hwj2 : IntKind.i64.wrap ((j : Int) + 1) = (j : Int) + 1 := by rw [IntKind.wrap_i64]; omega
        have hwj : wrap64 ((j : Int) + 1) = (j : Int) + 1 := by unfold wrap64; omega
        have HBI := Lib.hid (And.intro hj1 (And.intro hj2 (And.intro hwj hwj2)))
        clear hI hjz hzj hmy rux kx ox hX hux
        go_wp2_with fail
        obtain ⟨W, hW⟩ : ∃ W, wr.alloc (Obj.cells #[Value.slice Ax k cx, Value.int IntKind.u64 (vx : Nat)] 51) = W := ⟨_, rfl⟩
        have HBW := Lib.hid (show Below wr.heap.size wr W from hW ▸ below_alloc' (Below.refl _ _) _)
        obtain ⟨E, hE⟩ : ∃ E, wr.heap.size = E := ⟨_, rfl⟩
        have e0 : W.cell? ⟨E, 0, none⟩ = some (.slice Ax k cx) := by rw [← hW, ← hE]; simp only [World.cell?, heap_alloc_new]; rfl
        have e1 : W.cell? ⟨E, 1, none⟩ = some (.int .u64 (vx : Nat)) := by rw [← hW, ← hE]; simp only [World.cell?, heap_alloc_new]; rfl
        have hEl : E < W.heap.size := by rw [← hW, ← hE]; simp
        rw [hW, hE]
        replace q0 := Below.keeps HBW.out _ _ q0
        replace q1 := Below.keeps HBW.out _ _ q1
        have HGW := Lib.hid (show g < W.heap.size from Nat.lt_of_lt_of_le hgl HBW.out.size)
        have HRN := Lib.hid (show r < n by have := HI.out.rj; obtain ⟨_, _, _, h3, _⟩ := HI.out.pr.cells; have := HLN.out.1; have := HI.out.len; omega)
        clear hW hE hgl q0 q1
        by_cases hj5 : j + 1 < m
        · have hjz2 : j + 1 < zs.length := by omega
          have hjy2 : j + 1 < ys.length := by omega
          obtain ⟨k0, k1⟩ := HI.out.pr.at' (j + 1) hjz2
          have hzj := HI.out.rest (j + 1) hjy2 hjz2 (by omega)
          have ruy := HI.out.pr.pts zs[j + 1] (List.getElem_mem hjz2)
          rw [hzj] at k0 k1 ruy
          obtain ⟨ky, oy⟩ := HYK.out _ (List.getElem_mem hjy2)
          obtain ⟨Y, hY⟩ : ∃ Y, ys[j + 1] = Y := ⟨_, rfl⟩
          rw [hY] at k0 k1 ruy ky oy
          obtain ⟨uy, py, vy⟩ := Y
          simp only at k0 k1 ruy ky oy
          have HRY := Lib.hid (And.intro hY ky)
          have HOR := Lib.hid (fun W2 (hb2 : Below W.heap.size W W2) => order_any W2 px py ux uy vx vy (HRX.out.2.1.below (HI.out.pr.bel.trans ((below_trans HBW.out hb2).mono HI.out.pr.bel.size))) (ruy.below (HI.out.pr.bel.trans ((below_trans HBW.out hb2).mono HI.out.pr.bel.size))) (by rw [HRX.out.2.2.1, ky]) (by rw [HRX.out.2.2.1]; exact HD.out.2.2.2.1) (by rw [HRX.out.2.2.1]; exact HD.out.2.2.2.2.1) HRX.out.2.2.2 oy)
          obtain ⟨Ay, cy, huy, _⟩ := RdU.point ruy
          rw [ky] at huy
          rw [HUX.out, huy] at HOR
          rw [huy] at k0
          replace k0 := Below.keeps HBW.out _ _ k0
          replace k1 := Below.keeps HBW.out _ _ k1
          have hgl := HGW.out
          obtain ⟨z, hz⟩ : ∃ z, Zb.cmp px py = z := ⟨_, rfl⟩
          rw [hz] at HOR
          have HZ := Lib.hid (show z = 0 ↔ pkey px = pkey py from hz ▸ cmp_zero px py)
          obtain ⟨zb, hzb⟩ : ∃ zb, (z == 0) = zb := ⟨_, rfl⟩
          have HZB := Lib.hid (show zb = true ↔ z = 0 by rw [← hzb]; exact beq_iff_eq)
          have hj4 : (j : Int) + 1 < (m : Int) := by omega
          clear hz hzj ruy ky oy hY huy hym hzm hm1000
          refine wp_region_vals 14 [fun z9 _ => z9 = .int .i64 (j : Nat),
            fun z9 _ => z9 = .int .i64 ((j : Int) + 1),
            fun z9 _ => z9 = .slice (some ⟨g, 0, none⟩) m n,
            fun z9 _ => z9 = .int .i64 (m : Nat),
            fun z9 _ => z9 = .bool true,
            fun z9 _ => z9 = .bool true,
            fun z9 _ => z9 = .agg #[.slice Ax k cx, .int .u64 (vx : Nat)],
            fun z9 _ => z9 = .slice (some ⟨g, 0, none⟩) m n,
            fun z9 _ => z9 = .int .i64 (j : Nat),
            fun z9 _ => z9 = .int .i64 ((j : Int) + 1),
            fun z9 _ => z9 = .pointer (some ⟨g, (j + 1) * 2, none⟩),
            fun z9 _ => z9 = .agg #[.slice Ay k cy, .int .u64 (vy : Nat)],
            fun z9 _ => z9 = .int .i64 z,
            fun z9 _ => z9 = .bool zb]
            (by kernel_rfl) (by kernel_rfl) (by kernel_rfl) (by kernel_rfl) ?_ ?_ ?_
          · intro V hV v w1 w2 h hb
            simp only [List.mem_cons, List.not_mem_nil, or_false] at hV
            rcases hV with rfl | rfl | rfl | rfl | rfl | rfl | rfl | rfl | rfl | rfl | rfl | rfl | rfl | rfl
            all_goals first | exact h | (exact h)
          · intro iq oq hiq hoq
            match iq, hiq with
            | 0, _ =>
            obtain rfl := Option.some.inj hoq
            intro a1 w1 K hk hK
            have e5 : a1.tmps.getD 5 undef = .int .i64 (j : Nat) := hk.same 5 (by simp)
            simp [Region.wanted, Oper.wp, Act.eval, go_sem, e5, e0, e1, k0, k1, hj1, hj2, hj3, hj4, hj5, hEl, hgl, hzb, hwj, hwj2]
            exact hK _ _ (Below.refl _ _) rfl
            | 1, _ =>
            obtain rfl := Option.some.inj hoq
            intro a1 w1 K hk hK
            have d20 : a1.tmps.getD 20 undef = .int .i64 (j : Nat) := hk.deps ⟨0, .data⟩ (by simp) rfl _ _ rfl rfl
            simp [Region.wanted, Oper.wp, Act.eval, go_sem, d20, e0, e1, k0, k1, hj1, hj2, hj3, hj4, hj5, hEl, hgl, hzb, hwj, hwj2]
            exact hK _ _ (Below.refl _ _) rfl
            | 2, _ =>
            obtain rfl := Option.some.inj hoq
            intro a1 w1 K hk hK
            have e3 : a1.tmps.getD 3 undef = .slice (some ⟨g, 0, none⟩) m n := hk.same 3 (by simp)
            simp [Region.wanted, Oper.wp, Act.eval, go_sem, e3, e0, e1, k0, k1, hj1, hj2, hj3, hj4, hj5, hEl, hgl, hzb, hwj, hwj2]
            exact hK _ _ (Below.refl _ _) rfl
            | 3, _ =>
            obtain rfl := Option.some.inj hoq
            intro a1 w1 K hk hK
            have d22 : a1.tmps.getD 22 undef = .slice (some ⟨g, 0, none⟩) m n := hk.deps ⟨2, .data⟩ (by simp) rfl _ _ rfl rfl
            simp [Region.wanted, Oper.wp, Act.eval, go_sem, d22, e0, e1, k0, k1, hj1, hj2, hj3, hj4, hj5, hEl, hgl, hzb, hwj, hwj2]
            exact hK _ _ (Below.refl _ _) rfl
            | 4, _ =>
            obtain rfl := Option.some.inj hoq
            intro a1 w1 K hk hK
            have d21 : a1.tmps.getD 21 undef = .int .i64 ((j : Int) + 1) := hk.deps ⟨1, .data⟩ (by simp) rfl _ _ rfl rfl
            have d23 : a1.tmps.getD 23 undef = .int .i64 (m : Nat) := hk.deps ⟨3, .data⟩ (by simp) rfl _ _ rfl rfl
            simp [Region.wanted, Oper.wp, Act.eval, go_sem, d21, d23, e0, e1, k0, k1, hj1, hj2, hj3, hj4, hj5, hEl, hgl, hzb, hwj, hwj2]
            exact hK _ _ (Below.refl _ _) rfl
            | 5, _ =>
            obtain rfl := Option.some.inj hoq
            intro a1 w1 K hk hK
            have d24 : a1.tmps.getD 24 undef = .bool true := hk.deps ⟨4, .data⟩ (by simp) rfl _ _ rfl rfl
            simp [Region.wanted, Oper.wp, Act.eval, go_sem, d24, e0, e1, k0, k1, hj1, hj2, hj3, hj4, hj5, hEl, hgl, hzb, hwj, hwj2]
            exact hK _ _ (Below.refl _ _) rfl
            | 6, _ =>
            obtain rfl := Option.some.inj hoq
            intro a1 w1 K hk hK
            have e6 : a1.tmps.getD 6 undef = .pointer (some ⟨E, 0, none⟩) := hk.same 6 (by simp)
            have gd : a1.tmps[25]? = some (.bool true) := getD_bool (hk.deps ⟨5, .guard⟩ (by simp) rfl _ _ rfl rfl)
            have c0 : w1.cell? ⟨E, 0, none⟩ = some (.slice Ax k cx) := Below.keeps hk.ext _ _ (by simp [go_sem, e0, e1, k0, k1, hj1, hj2, hj3, hj4, hj5, hEl, hgl, hzb, hwj, hwj2])
            have c1 : w1.cell? ⟨E, 1, none⟩ = some (.int .u64 (vx : Nat)) := Below.keeps hk.ext _ _ (by simp [go_sem, e0, e1, k0, k1, hj1, hj2, hj3, hj4, hj5, hEl, hgl, hzb, hwj, hwj2])
            have c2 : w1.cell? ⟨g, (j + 1) * 2, none⟩ = some (.slice Ay k cy) := Below.keeps hk.ext _ _ (by simp [go_sem, e0, e1, k0, k1, hj1, hj2, hj3, hj4, hj5, hEl, hgl, hzb, hwj, hwj2])
            have c3 : w1.cell? ⟨g, (j + 1) * 2 + 1, none⟩ = some (.int .u64 (vy : Nat)) := Below.keeps hk.ext _ _ (by simp [go_sem, e0, e1, k0, k1, hj1, hj2, hj3, hj4, hj5, hEl, hgl, hzb, hwj, hwj2])
            simp [Region.wanted, Oper.wp, Act.eval, go_sem, e6, gd, yielded, c0, c1, c2, c3, e0, e1, k0, k1, hj1, hj2, hj3, hj4, hj5, hEl, hgl, hzb, hwj, hwj2]
            exact hK _ _ (Below.refl _ _) rfl
            | 7, _ =>
            obtain rfl := Option.some.inj hoq
            intro a1 w1 K hk hK
            have e3 : a1.tmps.getD 3 undef = .slice (some ⟨g, 0, none⟩) m n := hk.same 3 (by simp)
            have gd : a1.tmps[25]? = some (.bool true) := getD_bool (hk.deps ⟨5, .guard⟩ (by simp) rfl _ _ rfl rfl)
            simp [Region.wanted, Oper.wp, Act.eval, go_sem, e3, gd, yielded, e0, e1, k0, k1, hj1, hj2, hj3, hj4, hj5, hEl, hgl, hzb, hwj, hwj2]
            exact hK _ _ (Below.refl _ _) rfl
            | 8, _ =>
            obtain rfl := Option.some.inj hoq
            intro a1 w1 K hk hK
            have e5 : a1.tmps.getD 5 undef = .int .i64 (j : Nat) := hk.same 5 (by simp)
            have gd : a1.tmps[25]? = some (.bool true) := getD_bool (hk.deps ⟨5, .guard⟩ (by simp) rfl _ _ rfl rfl)
            simp [Region.wanted, Oper.wp, Act.eval, go_sem, e5, gd, yielded, e0, e1, k0, k1, hj1, hj2, hj3, hj4, hj5, hEl, hgl, hzb, hwj, hwj2]
            exact hK _ _ (Below.refl _ _) rfl
            | 9, _ =>
            obtain rfl := Option.some.inj hoq
            intro a1 w1 K hk hK
            have d28 : a1.tmps.getD 28 undef = .int .i64 (j : Nat) := hk.deps ⟨8, .data⟩ (by simp) rfl _ _ rfl rfl
            have gd : a1.tmps[25]? = some (.bool true) := getD_bool (hk.deps ⟨5, .guard⟩ (by simp) rfl _ _ rfl rfl)
            simp [Region.wanted, Oper.wp, Act.eval, go_sem, d28, gd, yielded, e0, e1, k0, k1, hj1, hj2, hj3, hj4, hj5, hEl, hgl, hzb, hwj, hwj2]
            exact hK _ _ (Below.refl _ _) rfl
            | 10, _ =>
            obtain rfl := Option.some.inj hoq
            intro a1 w1 K hk hK
            have d27 : a1.tmps.getD 27 undef = .slice (some ⟨g, 0, none⟩) m n := hk.deps ⟨7, .data⟩ (by simp) rfl _ _ rfl rfl
            have d29 : a1.tmps.getD 29 undef = .int .i64 ((j : Int) + 1) := hk.deps ⟨9, .data⟩ (by simp) rfl _ _ rfl rfl
            have gd : a1.tmps[25]? = some (.bool true) := getD_bool (hk.deps ⟨5, .guard⟩ (by simp) rfl _ _ rfl rfl)
            simp [Region.wanted, Oper.wp, Act.eval, go_sem, d27, d29, gd, yielded, e0, e1, k0, k1, hj1, hj2, hj3, hj4, hj5, hEl, hgl, hzb, hwj, hwj2]
            exact hK _ _ (Below.refl _ _) rfl
            | 11, _ =>
            obtain rfl := Option.some.inj hoq
            intro a1 w1 K hk hK
            have d30 : a1.tmps.getD 30 undef = .pointer (some ⟨g, (j + 1) * 2, none⟩) := hk.deps ⟨10, .data⟩ (by simp) rfl _ _ rfl rfl
            have gd : a1.tmps[25]? = some (.bool true) := getD_bool (hk.deps ⟨5, .guard⟩ (by simp) rfl _ _ rfl rfl)
            have c0 : w1.cell? ⟨E, 0, none⟩ = some (.slice Ax k cx) := Below.keeps hk.ext _ _ (by simp [go_sem, e0, e1, k0, k1, hj1, hj2, hj3, hj4, hj5, hEl, hgl, hzb, hwj, hwj2])
            have c1 : w1.cell? ⟨E, 1, none⟩ = some (.int .u64 (vx : Nat)) := Below.keeps hk.ext _ _ (by simp [go_sem, e0, e1, k0, k1, hj1, hj2, hj3, hj4, hj5, hEl, hgl, hzb, hwj, hwj2])
            have c2 : w1.cell? ⟨g, (j + 1) * 2, none⟩ = some (.slice Ay k cy) := Below.keeps hk.ext _ _ (by simp [go_sem, e0, e1, k0, k1, hj1, hj2, hj3, hj4, hj5, hEl, hgl, hzb, hwj, hwj2])
            have c3 : w1.cell? ⟨g, (j + 1) * 2 + 1, none⟩ = some (.int .u64 (vy : Nat)) := Below.keeps hk.ext _ _ (by simp [go_sem, e0, e1, k0, k1, hj1, hj2, hj3, hj4, hj5, hEl, hgl, hzb, hwj, hwj2])
            simp [Region.wanted, Oper.wp, Act.eval, go_sem, d30, gd, yielded, c0, c1, c2, c3, e0, e1, k0, k1, hj1, hj2, hj3, hj4, hj5, hEl, hgl, hzb, hwj, hwj2]
            exact hK _ _ (Below.refl _ _) rfl
            | 12, _ =>
            obtain rfl := Option.some.inj hoq
            intro a1 w1 K hk hK
            have d26 : a1.tmps.getD 26 undef = .agg #[.slice Ax k cx, .int .u64 (vx : Nat)] := hk.deps ⟨6, .data⟩ (by simp) rfl _ _ rfl rfl
            have d31 : a1.tmps.getD 31 undef = .agg #[.slice Ay k cy, .int .u64 (vy : Nat)] := hk.deps ⟨11, .data⟩ (by simp) rfl _ _ rfl rfl
            have gd : a1.tmps[25]? = some (.bool true) := getD_bool (hk.deps ⟨5, .guard⟩ (by simp) rfl _ _ rfl rfl)
            simp [Region.wanted, Oper.wp, Act.eval, go_sem, d26, d31, gd, yielded, e0, e1, k0, k1, hj1, hj2, hj3, hj4, hj5, hEl, hgl, hzb, hwj, hwj2]
            refine (HOR.out _ (below_trans (by repeat (first | exact Below.refl _ _ | (refine Below.drew ?_) | (refine below_drewN' ?_ _) | (refine below_alloc' ?_ _) | (refine Below.setCell ?_ (by first | exact Nat.le_refl _ | (simp; done) | (simp; omega)) _))) hk.ext)).mono ?_
            rintro e w9 ⟨rfl, hb9⟩
            exact hK _ _ hb9 rfl
            | 13, _ =>
            obtain rfl := Option.some.inj hoq
            intro a1 w1 K hk hK
            have d32 : a1.tmps.getD 32 undef = .int .i64 z := hk.deps ⟨12, .data⟩ (by simp) rfl _ _ rfl rfl
            have gd : a1.tmps[25]? = some (.bool true) := getD_bool (hk.deps ⟨5, .guard⟩ (by simp) rfl _ _ rfl rfl)
            simp [Region.wanted, Oper.wp, Act.eval, go_sem, d32, gd, yielded, e0, e1, k0, k1, hj1, hj2, hj3, hj4, hj5, hEl, hgl, hzb, hwj, hwj2]
            exact hK _ _ (Below.refl _ _) rfl
          · intro vs w3 hl hb3 hv
            match vs, hl with
            | [v0, v1, v2, v3, v4, v5, v6, v7, v8, v9, v10, v11, v12, v13], _ =>
            obtain rfl : v0 = .int .i64 (j : Nat) := hv 0 (by omega)
            obtain rfl : v1 = .int .i64 ((j : Int) + 1) := hv 1 (by omega)
            obtain rfl : v2 = .slice (some ⟨g, 0, none⟩) m n := hv 2 (by omega)
            obtain rfl : v3 = .int .i64 (m : Nat) := hv 3 (by omega)
            obtain rfl : v4 = .bool true := hv 4 (by omega)
            obtain rfl : v5 = .bool true := hv 5 (by omega)
            obtain rfl : v6 = .agg #[.slice Ax k cx, .int .u64 (vx : Nat)] := hv 6 (by omega)
            obtain rfl : v7 = .slice (some ⟨g, 0, none⟩) m n := hv 7 (by omega)
            obtain rfl : v8 = .int .i64 (j : Nat) := hv 8 (by omega)
            obtain rfl : v9 = .int .i64 ((j : Int) + 1) := hv 9 (by omega)
            obtain rfl : v10 = .pointer (some ⟨g, (j + 1) * 2, none⟩) := hv 10 (by omega)
            obtain rfl : v11 = .agg #[.slice Ay k cy, .int .u64 (vy : Nat)] := hv 11 (by omega)
            obtain rfl : v12 = .int .i64 z := hv 12 (by omega)
            obtain rfl : v13 = .bool zb := hv 13 (by omega)
            clear hv
            simp only [putAll, List.take_succ_cons, List.take_zero, List.drop_succ_cons, List.drop_zero, Act.put, List.setIfInBounds_toArray, List.set_cons_succ, List.set_cons_zero]
            cases zb with
            | true =>
              have HNX := Lib.hid (HI.out.skip (show Below wr.heap.size wr w3 from below_trans HBW.out hb3) (by rw [HLN.out.1]; exact hj5) (by have := HZ.out.1 (HZB.out.1 rfl); rw [HRX.out.1, HRY.out.1]; exact this))
              go_wp2_with fail
              go_roundw
              case rel =>
                skip
                exact ⟨zs, j + 1, r, rfl, by first | (rw [hwj]; rfl) | rfl, HNX.out⟩
              case measure => first | (rw [intOf_of' hwj, intOf_of' rfl]; omega) | (rw [intOf_of' rfl, intOf_of' rfl]; omega) | (simp [intOf]; omega)
            | false =>
              have HNE := Lib.hid (show ∀ h : j + 1 < ys.length, ek (ys[j]'(by omega)) ≠ ek (ys[j + 1]'h) from fun h hh => by rw [HRX.out.1, HRY.out.1] at hh; exact Bool.noConfusion (HZB.out.2 (HZ.out.2 hh)))
              clear k0 k1 hgl
              have HPW := Lib.hid (HI.out.pr.step (below_trans HBW.out hb3))
              have HBB := Lib.hid (show Below wr.heap.size wr w3 from below_trans HBW.out hb3)
              replace e0 := Below.keeps hb3 _ _ e0
              replace e1 := Below.keeps hb3 _ _ e1
              replace hEl := Nat.lt_of_lt_of_le hEl hb3.size
              clear hb3
              have hrm : r < n := HRN.out
              go_wp2_with ((at_builtin; refine wpList_append_room (W0 := w) rfl (.tmp 35) (.tmp 37) rfl g n r _ _ zs (.slice Ax k cx) vx (HPW.out.step (by repeat (first | exact Below.refl _ _ | (refine Below.drew ?_) | (refine below_drewN' ?_ _) | (refine below_alloc' ?_ _) | (refine Below.setCell ?_ (by first | exact Nat.le_refl _ | (simp; done) | (simp; omega)) _)))) hrm rfl rfl ?_ ?_ rfl ?_))
              try case refine_1 => simp only [World.cell?, heap_alloc_new]; rfl
              try case refine_2 => simp only [World.cell?, heap_alloc_new]; rfl
              go_roundw
              case rel =>
                have hyj : j < ys.length := by rw [HLN.out.1]; exact hj
                have hrz : r < zs.length := by have := HI.out.rj; have := HI.out.len; omega
                have h5 := (HPW.out.step (show Below w3.heap.size w3 (w3.alloc (Obj.cells #[Value.slice Ax k cx, Value.int IntKind.u64 (vx : Nat)] 51)) from below_alloc' (Below.refl _ _) _)).set (j := r) hrz (⟨.slice Ax k cx, ⟨px, vx⟩⟩ : Pe) (by have := HRX.out.2.1; rw [HUX.out] at this; exact this)
                have h6 : ys[j] = (⟨.slice Ax k cx, ⟨px, vx⟩⟩ : Pe) := by rw [HRX.out.1, HUX.out]
                refine ⟨zs.set r ys[j], j + 1, r + 1, rfl, by first | (rw [hwj]; rfl) | rfl, HI.out.take hyj HNE.out ?_⟩
                rw [h6]
                exact h5
              case measure => first | (rw [intOf_of' hwj, intOf_of' rfl]; omega) | (rw [intOf_of' rfl, intOf_of' rfl]; omega) | (simp [intOf]; omega)
        · have HNE := Lib.hid (show ∀ h : j + 1 < ys.length, ek (ys[j]'(by omega)) ≠ ek (ys[j + 1]'h) from fun h hh => by have := HLN.out.1; omega)
          have hj4 : ¬ ((j : Int) + 1 < (m : Int)) := by omega
          clear hym hzm hm1000
          refine wp_region_vals 14 [fun z9 _ => z9 = .int .i64 (j : Nat),
            fun z9 _ => z9 = .int .i64 ((j : Int) + 1),
            fun z9 _ => z9 = .slice (some ⟨g, 0, none⟩) m n,
            fun z9 _ => z9 = .int .i64 (m : Nat),
            fun z9 _ => z9 = .bool false,
            fun z9 _ => z9 = .bool false,
            fun z9 _ => z9 = undef,
            fun z9 _ => z9 = undef,
            fun z9 _ => z9 = undef,
            fun z9 _ => z9 = undef,
            fun z9 _ => z9 = undef,
            fun z9 _ => z9 = undef,
            fun z9 _ => z9 = undef,
            fun z9 _ => z9 = undef]
            (by kernel_rfl) (by kernel_rfl) (by kernel_rfl) (by kernel_rfl) ?_ ?_ ?_
          · intro V hV v w1 w2 h hb
            simp only [List.mem_cons, List.not_mem_nil, or_false] at hV
            rcases hV with rfl | rfl | rfl | rfl | rfl | rfl | rfl | rfl | rfl | rfl | rfl | rfl | rfl | rfl
            all_goals first | exact h | (exact h)
          · intro iq oq hiq hoq
            match iq, hiq with
            | 0, _ =>
            obtain rfl := Option.some.inj hoq
            intro a1 w1 K hk hK
            have e5 : a1.tmps.getD 5 undef = .int .i64 (j : Nat) := hk.same 5 (by simp)
            simp [Region.wanted, Oper.wp, Act.eval, go_sem, e5, hj1, hj2, hj4, hwj, hwj2]
            exact hK _ _ (Below.refl _ _) rfl
            | 1, _ =>
            obtain rfl := Option.some.inj hoq
            intro a1 w1 K hk hK
            have d20 : a1.tmps.getD 20 undef = .int .i64 (j : Nat) := hk.deps ⟨0, .data⟩ (by simp) rfl _ _ rfl rfl
            simp [Region.wanted, Oper.wp, Act.eval, go_sem, d20, hj1, hj2, hj4, hwj, hwj2]
            exact hK _ _ (Below.refl _ _) rfl
            | 2, _ =>
            obtain rfl := Option.some.inj hoq
            intro a1 w1 K hk hK
            have e3 : a1.tmps.getD 3 undef = .slice (some ⟨g, 0, none⟩) m n := hk.same 3 (by simp)
            simp [Region.wanted, Oper.wp, Act.eval, go_sem, e3, hj1, hj2, hj4, hwj, hwj2]
            exact hK _ _ (Below.refl _ _) rfl
            | 3, _ =>
            obtain rfl := Option.some.inj hoq
            intro a1 w1 K hk hK
            have d22 : a1.tmps.getD 22 undef = .slice (some ⟨g, 0, none⟩) m n := hk.deps ⟨2, .data⟩ (by simp) rfl _ _ rfl rfl
            simp [Region.wanted, Oper.wp, Act.eval, go_sem, d22, hj1, hj2, hj4, hwj, hwj2]
            exact hK _ _ (Below.refl _ _) rfl
            | 4, _ =>
            obtain rfl := Option.some.inj hoq
            intro a1 w1 K hk hK
            have d21 : a1.tmps.getD 21 undef = .int .i64 ((j : Int) + 1) := hk.deps ⟨1, .data⟩ (by simp) rfl _ _ rfl rfl
            have d23 : a1.tmps.getD 23 undef = .int .i64 (m : Nat) := hk.deps ⟨3, .data⟩ (by simp) rfl _ _ rfl rfl
            simp [Region.wanted, Oper.wp, Act.eval, go_sem, d21, d23, hj1, hj2, hj4, hwj, hwj2]
            exact hK _ _ (Below.refl _ _) rfl
            | 5, _ =>
            obtain rfl := Option.some.inj hoq
            intro a1 w1 K hk hK
            have d24 : a1.tmps.getD 24 undef = .bool false := hk.deps ⟨4, .data⟩ (by simp) rfl _ _ rfl rfl
            simp [Region.wanted, Oper.wp, Act.eval, go_sem, d24, hj1, hj2, hj4, hwj, hwj2]
            exact hK _ _ (Below.refl _ _) rfl
            | 6, _ =>
            obtain rfl := Option.some.inj hoq
            intro a1 w1 K hk hK
            have e6 : a1.tmps.getD 6 undef = .pointer (some ⟨E, 0, none⟩) := hk.same 6 (by simp)
            have gd : a1.tmps[25]? = some (.bool false) := getD_bool (hk.deps ⟨5, .guard⟩ (by simp) rfl _ _ rfl rfl)
            simp [Region.wanted, Oper.wp, Act.eval, go_sem, e6, gd, yielded, hj1, hj2, hj4, hwj, hwj2]
            exact hK _ _ (Below.refl _ _) rfl
            | 7, _ =>
            obtain rfl := Option.some.inj hoq
            intro a1 w1 K hk hK
            have e3 : a1.tmps.getD 3 undef = .slice (some ⟨g, 0, none⟩) m n := hk.same 3 (by simp)
            have gd : a1.tmps[25]? = some (.bool false) := getD_bool (hk.deps ⟨5, .guard⟩ (by simp) rfl _ _ rfl rfl)
            simp [Region.wanted, Oper.wp, Act.eval, go_sem, e3, gd, yielded, hj1, hj2, hj4, hwj, hwj2]
            exact hK _ _ (Below.refl _ _) rfl
            | 8, _ =>
            obtain rfl := Option.some.inj hoq
            intro a1 w1 K hk hK
            have e5 : a1.tmps.getD 5 undef = .int .i64 (j : Nat) := hk.same 5 (by simp)
            have gd : a1.tmps[25]? = some (.bool false) := getD_bool (hk.deps ⟨5, .guard⟩ (by simp) rfl _ _ rfl rfl)
            simp [Region.wanted, Oper.wp, Act.eval, go_sem, e5, gd, yielded, hj1, hj2, hj4, hwj, hwj2]
            exact hK _ _ (Below.refl _ _) rfl
            | 9, _ =>
            obtain rfl := Option.some.inj hoq
            intro a1 w1 K hk hK
            have d28 : a1.tmps.getD 28 undef = undef := hk.deps ⟨8, .data⟩ (by simp) rfl _ _ rfl rfl
            have gd : a1.tmps[25]? = some (.bool false) := getD_bool (hk.deps ⟨5, .guard⟩ (by simp) rfl _ _ rfl rfl)
            simp [Region.wanted, Oper.wp, Act.eval, go_sem, d28, gd, yielded, hj1, hj2, hj4, hwj, hwj2]
            exact hK _ _ (Below.refl _ _) rfl
            | 10, _ =>
            obtain rfl := Option.some.inj hoq
            intro a1 w1 K hk hK
            have d27 : a1.tmps.getD 27 undef = undef := hk.deps ⟨7, .data⟩ (by simp) rfl _ _ rfl rfl
            have d29 : a1.tmps.getD 29 undef = undef := hk.deps ⟨9, .data⟩ (by simp) rfl _ _ rfl rfl
            have gd : a1.tmps[25]? = some (.bool false) := getD_bool (hk.deps ⟨5, .guard⟩ (by simp) rfl _ _ rfl rfl)
            simp [Region.wanted, Oper.wp, Act.eval, go_sem, d27, d29, gd, yielded, hj1, hj2, hj4, hwj, hwj2]
            exact hK _ _ (Below.refl _ _) rfl
            | 11, _ =>
            obtain rfl := Option.some.inj hoq
            intro a1 w1 K hk hK
            have d30 : a1.tmps.getD 30 undef = undef := hk.deps ⟨10, .data⟩ (by simp) rfl _ _ rfl rfl
            have gd : a1.tmps[25]? = some (.bool false) := getD_bool (hk.deps ⟨5, .guard⟩ (by simp) rfl _ _ rfl rfl)
            simp [Region.wanted, Oper.wp, Act.eval, go_sem, d30, gd, yielded, hj1, hj2, hj4, hwj, hwj2]
            exact hK _ _ (Below.refl _ _) rfl
            | 12, _ =>
            obtain rfl := Option.some.inj hoq
            intro a1 w1 K hk hK
            have d26 : a1.tmps.getD 26 undef = undef := hk.deps ⟨6, .data⟩ (by simp) rfl _ _ rfl rfl
            have d31 : a1.tmps.getD 31 undef = undef := hk.deps ⟨11, .data⟩ (by simp) rfl _ _ rfl rfl
            have gd : a1.tmps[25]? = some (.bool false) := getD_bool (hk.deps ⟨5, .guard⟩ (by simp) rfl _ _ rfl rfl)
            simp [Region.wanted, Oper.wp, Act.eval, go_sem, d26, d31, gd, yielded, hj1, hj2, hj4, hwj, hwj2]
            exact hK _ _ (Below.refl _ _) rfl
            | 13, _ =>
            obtain rfl := Option.some.inj hoq
            intro a1 w1 K hk hK
            have d32 : a1.tmps.getD 32 undef = undef := hk.deps ⟨12, .data⟩ (by simp) rfl _ _ rfl rfl
            have gd : a1.tmps[25]? = some (.bool false) := getD_bool (hk.deps ⟨5, .guard⟩ (by simp) rfl _ _ rfl rfl)
            simp [Region.wanted, Oper.wp, Act.eval, go_sem, d32, gd, yielded, hj1, hj2, hj4, hwj, hwj2]
            exact hK _ _ (Below.refl _ _) rfl
          · intro vs w3 hl hb3 hv
            match vs, hl with
            | [v0, v1, v2, v3, v4, v5, v6, v7, v8, v9, v10, v11, v12, v13], _ =>
            obtain rfl : v0 = .int .i64 (j : Nat) := hv 0 (by omega)
            obtain rfl : v1 = .int .i64 ((j : Int) + 1) := hv 1 (by omega)
            obtain rfl : v2 = .slice (some ⟨g, 0, none⟩) m n := hv 2 (by omega)
            obtain rfl : v3 = .int .i64 (m : Nat) := hv 3 (by omega)
            obtain rfl : v4 = .bool false := hv 4 (by omega)
            obtain rfl : v5 = .bool false := hv 5 (by omega)
            obtain rfl : v6 = undef := hv 6 (by omega)
            obtain rfl : v7 = undef := hv 7 (by omega)
            obtain rfl : v8 = undef := hv 8 (by omega)
            obtain rfl : v9 = undef := hv 9 (by omega)
            obtain rfl : v10 = undef := hv 10 (by omega)
            obtain rfl : v11 = undef := hv 11 (by omega)
            obtain rfl : v12 = undef := hv 12 (by omega)
            obtain rfl : v13 = undef := hv 13 (by omega)
            clear hv
            simp only [putAll, List.take_succ_cons, List.take_zero, List.drop_succ_cons, List.drop_zero, Act.put, List.setIfInBounds_toArray, List.set_cons_succ, List.set_cons_zero]
            have HPW := Lib.hid (HI.out.pr.step (below_trans HBW.out hb3))
            have HBB := Lib.hid (show Below wr.heap.size wr w3 from below_trans HBW.out hb3)
            replace e0 := Below.keeps hb3 _ _ e0
            replace e1 := Below.keeps hb3 _ _ e1
            replace hEl := Nat.lt_of_lt_of_le hEl hb3.size
            clear hb3
            have hrm : r < n := HRN.out
            go_wp2_with ((at_builtin; refine wpList_append_room (W0 := w) rfl (.tmp 35) (.tmp 37) rfl g n r _ _ zs (.slice Ax k cx) vx (HPW.out.step (by repeat (first | exact Below.refl _ _ | (refine Below.drew ?_) | (refine below_drewN' ?_ _) | (refine below_alloc' ?_ _) | (refine Below.setCell ?_ (by first | exact Nat.le_refl _ | (simp; done) | (simp; omega)) _)))) hrm rfl rfl ?_ ?_ rfl ?_))
            try case refine_1 => simp only [World.cell?, heap_alloc_new]; rfl
            try case refine_2 => simp only [World.cell?, heap_alloc_new]; rfl
            go_roundw
            case rel =>
              have hyj : j < ys.length := by rw [HLN.out.1]; exact hj
              have hrz : r < zs.length := by have := HI.out.rj; have := HI.out.len; omega
              have h5 := (HPW.out.step (show Below w3.heap.size w3 (w3.alloc (Obj.cells #[Value.slice Ax k cx, Value.int IntKind.u64 (vx : Nat)] 51)) from below_alloc' (Below.refl _ _) _)).set (j := r) hrz (⟨.slice Ax k cx, ⟨px, vx⟩⟩ : Pe) (by have := HRX.out.2.1; rw [HUX.out] at this; exact this)
              have h6 : ys[j] = (⟨.slice Ax k cx, ⟨px, vx⟩⟩ : Pe) := by rw [HRX.out.1, HUX.out]
              refine ⟨zs.set r ys[j], j + 1, r + 1, rfl, by first | (rw [hwj]; rfl) | rfl, HI.out.take hyj HNE.out ?_⟩
              rw [h6]
              exact h5
            case measure => first | (rw [intOf_of' hwj, intOf_of' rfl]; omega) | (rw [intOf_of' rfl, intOf_of' rfl]; omega) | (simp [intOf]; omega)
      · have hjm : j = m := by have := hI.jm; omega
        subst hjm
        have hj2 : ¬ ((j : Int) < (j : Int)) := by omega
        have hdr : ys.drop j = [] := List.drop_eq_nil_of_le (by omega)
        have hout : zs.take r = lastsL ys := by have := hI.out; rw [hdr] at this; simpa [lastsL] using this
        have HF := Lib.hid (And.intro hout hI)
        clear hI hzm hym hm1000 hdr hout
        go_wp2_with fail
        go_ret
        refine ⟨_, rfl, ?_, ?_⟩
        · have e1 := lasts_puts (k := k) HY.out.2.2.2 HY.out.2.2.1 HX.out.2.1
          rw [HX.out.1, ← HF.out.1] at e1
          exact HF.out.2.pr.rd (by have := HF.out.2.rj; have := HF.out.2.len; have := HLN.out.1; omega) HX.out.2.2 e1
        · exact HF.out.2.pr.bel
end Go.Proofs.YtjokcagggmjgmaaGreat
/-! MakA -/
namespace Go.Proofs.YtjokcagggmjgmaaGreat
open Go.RowKit
set_option linter.unusedVariables false
set_option linter.unusedSimpArgs false
set_option maxRecDepth 100000

def TellE (w : World) (f : FuncId) (cb : Array Value) (l : List En) (p : En → Bool) : Prop := ∀ c ∈ l, ∀ u w', RdU w' u (pti c.p) → Below w.heap.size w w' → Calls Tryz.prog f (#[.agg #[u, .int .u64 (c.v : Nat)]] ++ cb) w' fun e w'' => e = .returned (.bool (p c)) ∧ Below w'.heap.size w' w''
def IdxE (W : World) (l : List En) (p : En → Bool) (e : Ending) (w' : World) : Prop := ∃ i : Int, e = .returned (.int .i64 i) ∧ (decide (0 ≤ i) = l.any p) ∧ Below W.heap.size W w'
set_option maxHeartbeats 1000000 in
theorem eIndex_any (w : World) (f : FuncId) (cb : Array Value) (l : List En) (v : Value) (p : En → Bool) (hl : RdE w v l) (hn : l.length ≤ 1000) (hf : TellE w f cb l p)
    (hent : ∀ (args : Array Value) (w : World), (callFunc f args).run Tryz.prog w = .ok (.enter f args) w) : Calls Tryz.prog 162 #[v, .func (.func f) #[] cb] w fun e w' => IdxE w l p e w' := by
  obtain ⟨A, cc, rfl, _, hx⟩ := hl
  have HX := Lib.hid hx
  have HF := Lib.hid (And.intro hf hn)
  clear hx hf hn
  go_enter Tryz.func162, Tryz.ntmps162
  go_wp2_with fail
  go_loopw [5, 8] (fun _ iv wr => ∃ j : Nat, j ≤ l.length ∧ iv = .int .i64 (j : Nat) ∧ (l.take j).any p = false ∧ Below w.heap.size w wr) (fun _ iv _ => l.length - (intOf iv).toNat)
  case atStart => exact ⟨0, Nat.zero_le _, rfl, by simp, (by repeat (first | exact Below.refl _ _ | (refine Below.drew ?_) | (refine below_drewN' ?_ _) | (refine below_alloc' ?_ _) | (refine Below.setCell ?_ (by first | exact Nat.le_refl _ | (simp; done) | (simp; omega)) _)))⟩
  case round =>
    obtain ⟨j, hj, rfl, hany, hb⟩ := hrel
    have HB := Lib.hid (And.intro hany hb)
    clear hany
    by_cases hlt : j < l.length
    · have h3 : (j : Int) < (l.length : Int) := by omega
      have h5 : (0 : Int) ≤ (j : Int) := by omega
      have HW := Lib.hid (show wrap64 ((j : Int) + 1) = ((j + 1 : Nat) : Int) by have := HF.out.2; unfold wrap64; omega)
      obtain ⟨b2, o2, rfl, hc⟩ := HX.out (by omega)
      obtain ⟨u, k0, ku, k1⟩ := (hc j hlt).keep (Below.keeps hb)
      have htk : (l.take (j + 1)).any p = p l[j] := by rw [← List.take_append_getElem hlt, List.any_append, HB.out.1]; simp
      have HT := Lib.hid (And.intro htk (fun h : p l[j] = true => (List.any_eq_true.2 ⟨_, List.getElem_mem hlt, h⟩ : l.any p = true)))
      have HCL := Lib.hid (fun W (hu : RdU W u (pti l[j].p)) (hb : Below w.heap.size w W) => HF.out.1 l[j] (List.getElem_mem hlt) u W hu hb)
      have HU := Lib.hid ku
      have hlb := World.block_lt_of_cell? wr _ k0
      obtain ⟨Au, cu, rfl, _⟩ := RdU.point ku
      generalize l[j] = c at *
      clear hc htk hb ku
      cases hp : p c with
      | true =>
        rw [hp] at HT HCL
        go_wp2_with fail
        refine (HCL.out _ (HU.out.below (by repeat (first | exact Below.refl _ _ | (refine Below.drew ?_) | (refine below_drewN' ?_ _) | (refine below_alloc' ?_ _) | (refine Below.setCell ?_ (by first | exact Nat.le_refl _ | (simp; done) | (simp; omega)) _)))) (HB.out.2.trans ((show Below wr.heap.size wr _ from (by repeat (first | exact Below.refl _ _ | (refine Below.drew ?_) | (refine below_drewN' ?_ _) | (refine below_alloc' ?_ _) | (refine Below.setCell ?_ (by first | exact Nat.le_refl _ | (simp; done) | (simp; omega)) _)))).mono HB.out.2.size))).mono ?_
        rintro e w2 ⟨rfl, hb2⟩
        have HF2 := Lib.hid (HB.out.2.trans ((below_trans (by repeat (first | exact Below.refl _ _ | (refine Below.drew ?_) | (refine below_drewN' ?_ _) | (refine below_alloc' ?_ _) | (refine Below.setCell ?_ (by first | exact Nat.le_refl _ | (simp; done) | (simp; omega)) _))) hb2).mono HB.out.2.size))
        clear hb2
        go_wp2_with fail
        go_ret
        exact ⟨_, rfl, by rw [HT.out.2 (by first | exact rfl | trivial)]; simp, HF2.out⟩
      | false =>
        rw [hp] at HT HCL
        go_wp2_with fail
        refine (HCL.out _ (HU.out.below (by repeat (first | exact Below.refl _ _ | (refine Below.drew ?_) | (refine below_drewN' ?_ _) | (refine below_alloc' ?_ _) | (refine Below.setCell ?_ (by first | exact Nat.le_refl _ | (simp; done) | (simp; omega)) _)))) (HB.out.2.trans ((show Below wr.heap.size wr _ from (by repeat (first | exact Below.refl _ _ | (refine Below.drew ?_) | (refine below_drewN' ?_ _) | (refine below_alloc' ?_ _) | (refine Below.setCell ?_ (by first | exact Nat.le_refl _ | (simp; done) | (simp; omega)) _)))).mono HB.out.2.size))).mono ?_
        rintro e w2 ⟨rfl, hb2⟩
        have HF2 := Lib.hid (HB.out.2.trans ((below_trans (by repeat (first | exact Below.refl _ _ | (refine Below.drew ?_) | (refine below_drewN' ?_ _) | (refine below_alloc' ?_ _) | (refine Below.setCell ?_ (by first | exact Nat.le_refl _ | (simp; done) | (simp; omega)) _))) hb2).mono HB.out.2.size))
        clear hb2
        go_wp2_with fail
        go_roundw
        case rel => exact ⟨j + 1, by omega, (by first | rw [HW.out] | rfl | simp), HT.out.1, HF2.out⟩
        case measure => (first | (rw [intOf_of' HW.out, intOf_of' rfl]; omega) | (simp [intOf]; omega) | (simp [intOf] <;> omega))
    · have h3 : ¬ (j : Int) < (l.length : Int) := by omega
      have e : l.take j = l := List.take_of_length_le (by omega)
      rw [e] at HB
      clear hb
      go_wp2_with fail
      go_ret
      exact ⟨-1, rfl, by rw [HB.out.1]; rfl, HB.out.2⟩
theorem eContains_any (w : World) (f : FuncId) (cb : Array Value) (l : List En) (v : Value) (p : En → Bool) (hl : RdE w v l) (hn : l.length ≤ 1000) (hf : TellE w f cb l p)
    (hent : ∀ (args : Array Value) (w : World), (callFunc f args).run Tryz.prog w = .ok (.enter f args) w) : Calls Tryz.prog 114 #[v, .func (.func f) #[] cb] w fun e w' => e = .returned (.bool (l.any p)) ∧ Below w.heap.size w w' := by
  have HI := Lib.hid (eIndex_any w f cb l v p hl hn hf hent)
  obtain ⟨A, cc, rfl, _, hx⟩ := hl
  clear hx hf hn hent
  go_enter Tryz.func114, Tryz.ntmps114
  go_wp2_with fail
  refine HI.out.mono ?_
  rintro e w2 ⟨i, rfl, hi, hb⟩
  have HB := Lib.hid (And.intro hi hb)
  clear hi hb
  go_wp2_with fail
  go_ret
  exact ⟨by rw [← HB.out.1]; rfl, HB.out.2⟩
theorem dims1_any (w : World) (B : Nat) (k : Int) (c : En) (u : Value) (hB : w.cell? ⟨B, 0, none⟩ = some (.int .i64 k)) (hu : RdU w u (pti c.p)) :
    Calls Tryz.prog 115 (#[.agg #[u, .int .u64 (c.v : Nat)]] ++ #[.pointer (some ⟨B, 0, none⟩)]) w fun e w' => e = .returned (.bool (((c.p.length : Nat) : Int) != k)) ∧ Below w.heap.size w w' := by
  have hlb := World.block_lt_of_cell? w _ hB
  obtain ⟨Au, cu, rfl, _⟩ := RdU.point hu
  clear hu
  obtain ⟨p, x⟩ := c
  obtain ⟨n, hn⟩ : ∃ n, p.length = n := ⟨_, rfl⟩
  simp only [hn]
  clear hn
  go_enter Tryz.func115, Tryz.ntmps115
  go_wp2_with fail
  go_ret
  exact ⟨rfl, (by repeat (first | exact Below.refl _ _ | (refine Below.drew ?_) | (refine below_drewN' ?_ _) | (refine below_alloc' ?_ _) | (refine Below.setCell ?_ (by first | exact Nat.le_refl _ | (simp; done) | (simp; omega)) _)))⟩
theorem dims_any (w : World) (k : Int) (l : List En) (v : Value) (hl : RdE w v l) (hn : l.length ≤ 1000) :
    Calls Tryz.prog 67 #[.int .i64 k, v] w fun e w' => e = .returned (.bool (l.all fun c => ((c.p.length : Nat) : Int) == k)) ∧ Below w.heap.size w w' := by
  have hent := enters_lit' Tryz.func115 (by kernel_rfl) (by kernel_rfl)
  have HC := Lib.hid (fun W (hb : Below w.heap.size w W) (B : Nat) (hB : W.cell? ⟨B, 0, none⟩ = some (.int .i64 k)) => eContains_any W 115 #[.pointer (some ⟨B, 0, none⟩)] l v (fun c => ((c.p.length : Nat) : Int) != k) (hl.below hb) hn (fun c _ u w' hu hb' => dims1_any w' B k c u (Below.keeps hb' _ _ hB) hu) hent)
  have hall : (l.all fun c => ((c.p.length : Nat) : Int) == k) = !(l.any fun c => ((c.p.length : Nat) : Int) != k) := by
    simp [List.all_eq_not_any_not, bne]
  rw [hall]
  obtain ⟨A, cc, rfl, _⟩ := hl
  clear hn hent hall
  go_enter Tryz.func67, Tryz.ntmps67
  go_wp2_with fail
  refine (HC.out _ (by repeat (first | exact Below.refl _ _ | (refine Below.drew ?_) | (refine below_drewN' ?_ _) | (refine below_alloc' ?_ _) | (refine Below.setCell ?_ (by first | exact Nat.le_refl _ | (simp; done) | (simp; omega)) _))) w.heap.size (by simp [go_sem])).mono ?_
  rintro e w2 ⟨rfl, hb2⟩
  have HF2 := Lib.hid (show Below w.heap.size w w2 from below_trans (by repeat (first | exact Below.refl _ _ | (refine Below.drew ?_) | (refine below_drewN' ?_ _) | (refine below_alloc' ?_ _) | (refine Below.setCell ?_ (by first | exact Nat.le_refl _ | (simp; done) | (simp; omega)) _))) hb2)
  clear hb2
  go_wp2_with fail
  go_ret
  exact ⟨rfl, HF2.out⟩
theorem nd_k (w : World) (k g : Nat) (l : List En) (hn : Nd w k g l) : Calls Tryz.prog 111 #[.pointer (some ⟨g, 0, none⟩)] w fun e w' => e = .returned (.int .i64 (k : Nat)) ∧ w' = w := by
  obtain ⟨va, kp, hh⟩ := hn.hd
  obtain ⟨hpl, _⟩ := hn.pre_ok
  obtain ⟨u, c1, hu⟩ := hh.c1
  obtain ⟨A0, c0, rfl, _⟩ := RdU.point hu
  exact nk_any w g k A0 c0 (by rw [hpl] at c1; exact c1)
theorem of_nd (w : World) (k g : Nat) (l : List En) (hn : Nd w k g l) (k1 : 1 ≤ k) (k16 : k ≤ 16) :
    Calls Tryz.prog 68 #[.int .i64 (k : Nat), .pointer (some ⟨g, 0, none⟩)] w fun e w' => ∃ t, e = .returned (.tuple #[.pointer (some ⟨t, 0, none⟩), .int .i64 0]) ∧ TrR w' t k l ∧ Below w.heap.size w w' := by
  have HD := Lib.hid (And.intro k1 (And.intro k16 hn))
  have h1 : ¬ (k : Int) < 1 := by omega
  have h2 : ¬ (k : Int) > 16 := by omega
  have h3 : decide ((k : Int) < 1) = false := by simp; omega
  have h4 : decide ((k : Int) > 16) = false := by simp; omega
  have HK := Lib.hid (nd_k w k g l hn)
  clear k1 k16 hn
  go_enter Tryz.func68, Tryz.ntmps68
  go_wp2_with fail
  refine HK.out.mono ?_
  rintro e w2 ⟨rfl, hw⟩
  obtain rfl := hw.symm
  clear hw
  go_wp2_with fail
  go_ret2
  exact ⟨_, rfl, ⟨by simp [go_sem], ⟨some g, by simp [go_sem, pv], HD.out.2.2.bel (by repeat (first | exact Below.refl _ _ | (refine Below.drew ?_) | (refine below_drewN' ?_ _) | (refine below_alloc' ?_ _) | (refine Below.setCell ?_ (by first | exact Nat.le_refl _ | (simp; done) | (simp; omega)) _)))⟩, HD.out.1, HD.out.2.1, _, alloc_blk _ _⟩, (by repeat (first | exact Below.refl _ _ | (refine Below.drew ?_) | (refine below_drewN' ?_ _) | (refine below_alloc' ?_ _) | (refine Below.setCell ?_ (by first | exact Nat.le_refl _ | (simp; done) | (simp; omega)) _)))⟩
end Go.Proofs.YtjokcagggmjgmaaGreat
/-! RowD -/
namespace Go.Proofs.YtjokcagggmjgmaaGreat
open Go.RowKit
set_option linter.unusedVariables false

/-- the row at block g, with room for n, holds the entries l; their points lie in rows of numbers -/
structure RowD (W0 w : World) (g n : Nat) (l : List En) : Prop where
  cells : ∃ cur, w.heap[g]? = some (.cells cur 51 (0, 0)) ∧ cur.size = n * 2 ∧ ∀ j (h : j < l.length), ∃ u, cur[j * 2]? = some u ∧ PtNew w u l[j].p ∧ cur[j * 2 + 1]? = some (.int .u64 (l[j].v : Nat))
  le : l.length ≤ n ∧ n ≤ maxLen
  low : W0.heap.size ≤ g
  bel : Below W0.heap.size W0 w
theorem OwnD.row {W w : World} {v : Value} {l : List En} (h : OwnD (PtNew w) W w v l) (hb : Below W.heap.size W w) (hne : l ≠ []) : ∃ g n, v = .slice (some ⟨g, 0, none⟩) l.length n ∧ RowD W w g n l := by
  obtain ⟨g, cap, cur, rfl, q2, q3, q4, q5, q6, q7⟩ := h.cells hne
  exact ⟨g, cap, rfl, ⟨cur, q3, q6, q7⟩, ⟨q4, q5⟩, q2, hb⟩
theorem RowD.lt {W0 w : World} {g n : Nat} {l : List En} (h : RowD W0 w g n l) : g < w.heap.size := by
  obtain ⟨cur, h1, _⟩ := h.cells
  exact kr_lt h1
theorem RowD.thaw {W0 w : World} {g n : Nat} {l : List En} (h : RowD W0 w g n l) (j : Nat) : w.frozen? ⟨g, j, none⟩ = false := by
  obtain ⟨cur, h1, _⟩ := h.cells
  simp [World.frozen?, h1]
theorem RowD.at' {W0 w : World} {g n : Nat} {l : List En} (h : RowD W0 w g n l) (j : Nat) (hj : j < l.length) : ∃ u, w.cell? ⟨g, j * 2, none⟩ = some u ∧ PtNew w u l[j].p ∧ w.cell? ⟨g, j * 2 + 1, none⟩ = some (.int .u64 (l[j].v : Nat)) := by
  obtain ⟨cur, h1, h2, h3⟩ := h.cells
  obtain ⟨u, a, b, c⟩ := h3 j hj
  exact ⟨u, by simp [World.cell?, h1, a], b, by simp [World.cell?, h1, c]⟩
theorem RowD.step {W0 w w' : World} {g n : Nat} {l : List En} (h : RowD W0 w g n l) (hb : Below w.heap.size w w') : RowD W0 w' g n l := by
  obtain ⟨cur, h1, h2, h3⟩ := h.cells
  exact ⟨⟨cur, (hb.block g h.lt).trans h1, h2, fun j hj => let ⟨u, a, b, c⟩ := h3 j hj; ⟨u, a, b.below hb, c⟩⟩, h.le, h.low, h.bel.trans (hb.mono h.bel.size)⟩
theorem RowD.rd {W0 w : World} {g n : Nat} {l : List En} (h : RowD W0 w g n l) : RdE w (.slice (some ⟨g, 0, none⟩) l.length n) l :=
  ⟨_, _, rfl, ⟨h.le.1, h.le.2, fun _ => ⟨_, _, rfl⟩⟩, fun _ => ⟨g, 0, rfl, fun j hj => by
    obtain ⟨u, a, b, c⟩ := h.at' j hj
    exact ⟨u, by simpa using a, b.rd, by simpa using c⟩⟩⟩
theorem PtNew.setRow {w : World} {g j : Nat} {x : Value} {cur : Array Value} (hg : w.heap[g]? = some (.cells cur 51 (0, 0))) {u : Value} {p : List Nat} (h : PtNew w u p) : PtNew (w.setCell ⟨g, j, none⟩ x) u p :=
  h.set hg (by decide)
/-- a point is written -/
theorem RowD.setP {W0 w : World} {g n j : Nat} {l : List En} (h : RowD W0 w g n l) (hj : j < l.length) {u : Value} {p : List Nat} (hu : PtNew w u p) : RowD W0 (w.setCell ⟨g, j * 2, none⟩ u) g n (l.set j ⟨p, l[j].v⟩) := by
  obtain ⟨cur, h1, h2, h3⟩ := h.cells
  refine ⟨⟨_, kr_set h1, by simpa using h2, fun i hi => ?_⟩, by simpa using h.le, h.low, h.bel.setCell (p := ⟨g, _, none⟩) h.low _⟩
  rw [List.length_set] at hi
  obtain ⟨u', a, b, c⟩ := h3 i hi
  have hn := h.le.1
  by_cases e : i = j
  · subst e
    refine ⟨u, ?_, ?_, ?_⟩
    · exact Array.getElem?_setIfInBounds_self_of_lt (by omega)
    · simp only [List.getElem_set_self]
      exact hu.setRow h1
    · rw [Array.getElem?_setIfInBounds_ne (by omega)]
      simp only [List.getElem_set_self]
      exact c
  · refine ⟨u', ?_, ?_, ?_⟩
    · rw [Array.getElem?_setIfInBounds_ne (by omega)]; exact a
    · rw [List.getElem_set_ne (by omega)]
      exact b.setRow h1
    · rw [List.getElem_set_ne (by omega), Array.getElem?_setIfInBounds_ne (by omega)]
      exact c
end Go.Proofs.YtjokcagggmjgmaaGreat
/-! SrtE -/
namespace Go.Proofs.YtjokcagggmjgmaaGreat
open Go.RowKit
set_option linter.unusedVariables false
set_option linter.unusedSimpArgs false
set_option maxRecDepth 100000

/-- where an element comes from once two ranges are exchanged -/
def swp (a b n t : Nat) : Nat := if a ≤ t ∧ t < a + n then t + (b - a) else if b ≤ t ∧ t < b + n then t - (b - a) else t
theorem swp_at {a b cnt i p : Nat} (h : a + cnt ≤ b) (hi : i < cnt) (hp : p = a + i) : swp a b i p = p := by unfold swp; rw [if_neg (by omega), if_neg (by omega)]
theorem swp_at2 {a b cnt i q : Nat} (h : a + cnt ≤ b) (hi : i < cnt) (hq : q = b + i) : swp a b i q = q := by unfold swp; rw [if_neg (by omega), if_neg (by omega)]
theorem swp_to {a b cnt i p q : Nat} (h : a + cnt ≤ b) (hi : i < cnt) (hp : p = a + i) (hq : q = b + i) : swp a b (i + 1) q = p := by unfold swp; rw [if_neg (by omega), if_pos (by omega)]; omega
theorem swp_to2 {a b cnt i p q : Nat} (hi : i < cnt) (hp : p = a + i) (hq : q = b + i) (hab : a ≤ b) : swp a b (i + 1) p = q := by unfold swp; rw [if_pos (by omega)]; omega
theorem swp_else {a b i p q t : Nat} (hp : p = a + i) (hq : q = b + i) (e1 : ¬ q = t) (e2 : ¬ p = t) : swp a b i t = swp a b (i + 1) t := by
  unfold swp
  by_cases h1 : a ≤ t ∧ t < a + i
  · rw [if_pos h1, if_pos (by omega)]
  · rw [if_neg h1, if_neg (show ¬ (a ≤ t ∧ t < a + (i + 1)) by omega)]
    by_cases h2 : b ≤ t ∧ t < b + i
    · rw [if_pos h2, if_pos (by omega)]
    · rw [if_neg h2, if_neg (by omega)]
theorem wrap_add {a i p : Nat} (h : p = a + i) (hb : p ≤ 100000) : wrap64 ((a : Int) + (i : Int)) = (p : Int) := by unfold wrap64; omega
theorem wrap_sub {a i p : Nat} (h : p + i = a) (hb : a ≤ 100000) : wrap64 ((a : Int) - (i : Int)) = (p : Int) := by unfold wrap64; omega
theorem wrap_succ {i : Nat} (hb : i ≤ 100000) : wrap64 ((i : Int) + 1) = ((i + 1 : Nat) : Int) := by unfold wrap64; omega
def SwpR (W0 : World) (g n a b cnt : Nat) (xs : List Pe) (e : Ending) (w' : World) : Prop := ∃ ys, e = .returned (.tuple #[]) ∧ PR W0 w' g n ys ∧ ys.length = xs.length ∧ ∀ t : Nat, t < xs.length → ys[t]? = xs[swp a b cnt t]?
theorem PR.at2 {W0 w : World} {g n : Nat} {xs : List Pe} (h : PR W0 w g n xs) (j : Nat) (x : Pe) (hx : xs[j]? = some x) : w.cell? ⟨g, j * 2, none⟩ = some x.1 ∧ w.cell? ⟨g, j * 2 + 1, none⟩ = some (.int .u64 (x.2.v : Nat)) ∧ RdU W0 x.1 (pti x.2.p) := by
  obtain ⟨hj, rfl⟩ := List.getElem?_eq_some_iff.1 hx
  obtain ⟨h1, h2⟩ := h.at' j hj
  exact ⟨h1, h2, h.pts _ (List.getElem_mem hj)⟩
set_option maxHeartbeats 4000000 in
theorem swapR_any (W0 w : World) (g n a b cnt m c : Nat) (xs : List Pe) (hl : xs.length = m) (hm : m ≤ 1000) (hab : a + cnt ≤ b) (hbm : b + cnt ≤ m) (h : PR W0 w g n xs) :
    Calls Tryz.prog 188 #[.slice (some ⟨g, 0, none⟩) m c, .int .i64 (a : Nat), .int .i64 (b : Nat), .int .i64 (cnt : Nat), .func (.func 119) #[] #[]] w fun e w' => SwpR W0 g n a b cnt xs e w' := by
  have HPR := Lib.hid h
  have HD := Lib.hid (And.intro hl (And.intro hm (And.intro hab hbm)))
  clear h hl hm hab hbm
  go_enter Tryz.func188, Tryz.ntmps188
  go_wp2_with fail
  go_loopw [10] (fun iv wr => ∃ (i : Nat) (ys : List Pe), i ≤ cnt ∧ iv = .int .i64 (i : Nat) ∧ PR W0 wr g n ys ∧ ys.length = xs.length ∧ ∀ t : Nat, t < xs.length → ys[t]? = xs[swp a b i t]?) (fun iv _ => cnt - (intOf iv).toNat)
  case atStart => exact ⟨0, xs, Nat.zero_le _, rfl, HPR.out, rfl, fun t ht => by unfold swp; rw [if_neg (by omega), if_neg (by omega)]⟩
  case round =>
    obtain ⟨i, ys, hi, rfl, hpr, hlen, hsw⟩ := hrel
    have HR := Lib.hid (And.intro hpr (And.intro hlen hsw))
    by_cases hlt : i < cnt
    · obtain ⟨h1, h2, h3, h4⟩ := HD.out
      have hlt2 : (i : Int) < (cnt : Int) := by omega
      obtain ⟨p, hp⟩ : ∃ p, p = a + i := ⟨_, rfl⟩
      obtain ⟨q, hq⟩ : ∃ q, q = b + i := ⟨_, rfl⟩
      have hpm : (p : Int) < (m : Int) := by omega
      have hqm : (q : Int) < (m : Int) := by omega
      have hp0 : (0 : Int) ≤ (p : Int) := by omega
      have hq0 : (0 : Int) ≤ (q : Int) := by omega
      have hpq : ¬ p = q := by omega
      have HW := Lib.hid (show wrap64 ((i : Int) + 1) = ((i + 1 : Nat) : Int) from wrap_succ (by omega))
      have hpl : p < ys.length := by omega
      have hql : q < ys.length := by omega
      obtain ⟨x, hx⟩ : ∃ x, ys[p] = x := ⟨_, rfl⟩
      obtain ⟨y, hy⟩ : ∃ y, ys[q] = y := ⟨_, rfl⟩
      have ex : ys[p]? = some x := by rw [List.getElem?_eq_getElem hpl, hx]
      have ey : ys[q]? = some y := by rw [List.getElem?_eq_getElem hql, hy]
      obtain ⟨k0, k1, rx⟩ := hpr.at2 p x ex
      obtain ⟨q0, q1, ry⟩ := hpr.at2 q y ey
      have HSET := Lib.hid (show PR W0 ((((wr.setCell ⟨g, p * 2, none⟩ y.1).setCell ⟨g, p * 2 + 1, none⟩ (.int .u64 (y.2.v : Nat))).setCell ⟨g, q * 2, none⟩ x.1).setCell ⟨g, q * 2 + 1, none⟩ (.int .u64 (x.2.v : Nat))) g n ((ys.set p y).set q x) from (hpr.set hpl y ry).set (by rw [List.length_set]; exact hql) x rx)
      have hth := fun r => hpr.thaw r
      have hgl := hpr.lt
      have HNEW := Lib.hid (show ∀ t : Nat, t < xs.length → ((ys.set p y).set q x)[t]? = xs[swp a b (i + 1) t]? from fun t ht => by
        rw [List.getElem?_set, List.getElem?_set]
        by_cases e1 : q = t
        · subst e1
          rw [if_pos rfl, if_pos (by simpa using hql), ← ex, hsw p (by omega), swp_at h3 hlt hp, swp_to h3 hlt hp hq]
        · rw [if_neg e1]
          by_cases e2 : p = t
          · subst e2
            rw [if_pos rfl, if_pos hpl, ← ey, hsw q (by omega), swp_at2 h3 hlt hq, swp_to2 hlt hp hq (by omega)]
          · rw [if_neg e2, hsw t ht, swp_else hp hq e1 e2])
      have HP1 := Lib.hid (show p ≤ 100000 ∧ q ≤ 100000 by omega)
      have hwp := wrap_add hp HP1.out.1
      have hwq := wrap_add hq HP1.out.2
      obtain ⟨ux, px, vx⟩ := x
      obtain ⟨uy, py, vy⟩ := y
      simp only at k0 k1 q0 q1 rx ry
      obtain ⟨Ax, cx, rfl, _⟩ := RdU.point rx
      obtain ⟨Ay, cy, rfl, _⟩ := RdU.point ry
      clear hpr hsw hx hy ex ey rx ry hp hq hi hlt h1 h2 h3 h4 hlen hpl hql
      go_wp2_with fail
      go_region
      go_wp2_with fail
      go_roundw
      case rel => exact ⟨i + 1, (ys.set p (.slice Ay py.length cy, ⟨py, vy⟩)).set q (.slice Ax px.length cx, ⟨px, vx⟩), by omega, (by first | rw [HW.out] | rfl | simp), HSET.out.step (by repeat (first | exact Below.refl _ _ | (refine Below.drew ?_) | (refine below_drewN' ?_ _))), by simpa using HR.out.2.1, HNEW.out⟩
      case measure => (first | (rw [intOf_of' HW.out, intOf_of' rfl]; omega) | (simp [intOf]; omega) | (simp [intOf] <;> omega))
    · have hlt2 : ¬ (i : Int) < (cnt : Int) := by omega
      obtain rfl : i = cnt := by omega
      clear hpr hlen hsw
      go_wp2_with fail
      go_end0
      exact ⟨ys, rfl, HR.out⟩
end Go.Proofs.YtjokcagggmjgmaaGreat
/-! SrtF -/
namespace Go.Proofs.YtjokcagggmjgmaaGreat
open Go.RowKit
set_option linter.unusedVariables false
set_option linter.unusedSimpArgs false
set_option maxRecDepth 100000

theorem swp_list {X A M B Y xs ys : List Pe} {a b cnt : Nat} (hx : xs = X ++ (A ++ (M ++ (B ++ Y)))) (hA : A.length = cnt) (hB : B.length = cnt) (ha : X.length = a) (hb : a + cnt + M.length = b) (hl : ys.length = xs.length)
    (h : ∀ t : Nat, t < xs.length → ys[t]? = xs[swp a b cnt t]?) : ys = X ++ (B ++ (M ++ (A ++ Y))) := by
  have hlen : xs.length = a + cnt + M.length + cnt + Y.length := by rw [hx]; simp; omega
  refine List.ext_getElem? fun t => ?_
  by_cases ht : t < xs.length
  · rw [h t ht, hx]
    unfold swp
    by_cases h1 : t < a
    · rw [if_neg (by omega), if_neg (by omega), List.getElem?_append_left (by omega), List.getElem?_append_left (by omega)]
    · rw [List.getElem?_append_right (l₁ := X) (i := t) (by omega)]
      by_cases h2 : t < a + cnt
      · rw [if_pos (by omega), List.getElem?_append_left (l₁ := B) (by omega), List.getElem?_append_right (by omega), List.getElem?_append_right (by omega), List.getElem?_append_right (by omega), List.getElem?_append_left (by omega)]
        congr 1; omega
      · rw [List.getElem?_append_right (l₁ := B) (by omega)]
        by_cases h3 : t < b
        · rw [if_neg (by omega), if_neg (by omega), List.getElem?_append_left (l₁ := M) (by omega), List.getElem?_append_right (by omega), List.getElem?_append_right (by omega), List.getElem?_append_left (by omega)]
          congr 1; omega
        · rw [List.getElem?_append_right (l₁ := M) (by omega)]
          by_cases h4 : t < b + cnt
          · rw [if_neg (by omega), if_pos (by omega), List.getElem?_append_left (l₁ := A) (by omega), List.getElem?_append_right (by omega), List.getElem?_append_left (by omega)]
            congr 1; omega
          · rw [if_neg (by omega), if_neg (by omega), List.getElem?_append_right (l₁ := A) (by omega), List.getElem?_append_right (by omega), List.getElem?_append_right (by omega), List.getElem?_append_right (by omega), List.getElem?_append_right (by omega)]
            congr 1; omega
  · rw [List.getElem?_eq_none (by omega), List.getElem?_eq_none]
    simp only [List.length_append]
    omega
/-- two ranges exchanged -/
theorem swapL_any (W0 w : World) (g n a b cnt m c : Nat) (X A M B Y : List Pe) (hA : A.length = cnt) (hB : B.length = cnt) (ha : X.length = a) (hb : a + cnt + M.length = b) (hl : b + cnt + Y.length = m) (hm : m ≤ 1000) (h : PR W0 w g n (X ++ (A ++ (M ++ (B ++ Y))))) :
    Calls Tryz.prog 188 #[.slice (some ⟨g, 0, none⟩) m c, .int .i64 (a : Nat), .int .i64 (b : Nat), .int .i64 (cnt : Nat), .func (.func 119) #[] #[]] w fun e w' => e = .returned (.tuple #[]) ∧ PR W0 w' g n (X ++ (B ++ (M ++ (A ++ Y)))) := by
  refine (swapR_any W0 w g n a b cnt m c _ (by simp; omega) hm (by omega) (by omega) h).mono ?_
  rintro e w' ⟨ys, h1, h2, h3, h4⟩
  rw [swp_list rfl hA hB ha hb h3 h4] at h2
  exact ⟨h1, h2⟩
structure RotI (W0 wr : World) (g n mm : Nat) (X U V Y P U' V' Q : List Pe) : Prop where
  nu : U' ≠ []
  nv : V' ≠ []
  eq' : P ++ (V' ++ (U' ++ Q)) = V ++ U
  len : X.length + P.length + U'.length = mm
  pr : PR W0 wr g n (X ++ (P ++ (U' ++ (V' ++ (Q ++ Y)))))
def RotR (W0 : World) (g n : Nat) (xs : List Pe) (e : Ending) (w' : World) : Prop := e = .returned (.tuple #[]) ∧ PR W0 w' g n xs
set_option maxHeartbeats 4000000 in
theorem rot_any (W0 w : World) (g n a mm b m c : Nat) (X U V Y : List Pe) (ha : X.length = a) (hmm : a + U.length = mm) (hb : mm + V.length = b) (hm : b + Y.length = m) (hmx : m ≤ 1000) (hU : U ≠ []) (hV : V ≠ []) (h : PR W0 w g n (X ++ (U ++ (V ++ Y)))) :
    Calls Tryz.prog 184 #[.slice (some ⟨g, 0, none⟩) m c, .int .i64 (a : Nat), .int .i64 (mm : Nat), .int .i64 (b : Nat), .func (.func 119) #[] #[]] w fun e w' => RotR W0 g n (X ++ (V ++ (U ++ Y))) e w' := by
  have H0 := Lib.hid (show RotI W0 w g n mm X U V Y [] U V [] from ⟨hU, hV, by simp, by simp; omega, by simpa using h⟩)
  have HD := Lib.hid (And.intro ha (And.intro hmm (And.intro hb (And.intro hm hmx))))
  have HU := Lib.hid (show wrap64 ((mm : Int) - (a : Int)) = ((U.length : Nat) : Int) from wrap_sub (by omega) (by omega))
  have HV := Lib.hid (show wrap64 ((b : Int) - (mm : Int)) = ((V.length : Nat) : Int) from wrap_sub (by omega) (by omega))
  clear ha hmm hb hm hmx hU hV h
  go_enter Tryz.func184, Tryz.ntmps184
  go_wp2_with fail
  go_loopw [10, 11] (fun iv jv wr => ∃ P U' V' Q : List Pe, iv = .int .i64 (U'.length : Nat) ∧ jv = .int .i64 (V'.length : Nat) ∧ RotI W0 wr g n mm X U V Y P U' V' Q) (fun iv jv _ => (intOf iv).toNat + (intOf jv).toNat)
  case atStart => exact ⟨[], U, V, [], by rw [HU.out], by rw [HV.out], H0.out⟩
  case round =>
    obtain ⟨P, U', V', Q, rfl, rfl, hI⟩ := hrel
    have HI := Lib.hid hI
    have hlen := congrArg List.length hI.eq'
    simp only [List.length_append] at hlen
    have hnu := List.length_pos_iff.2 hI.nu
    have hnv := List.length_pos_iff.2 hI.nv
    have hil := hI.len
    obtain ⟨h1, h2, h3, h4, h5⟩ := HD.out
    obtain ⟨i, hi⟩ : ∃ i, U'.length = i := ⟨_, rfl⟩
    obtain ⟨j, hj⟩ : ∃ j, V'.length = j := ⟨_, rfl⟩
    rw [hi] at hlen hnu hil ⊢
    rw [hj] at hlen hnv ⊢
    obtain ⟨s, hs⟩ : ∃ s, X.length + P.length = s := ⟨_, rfl⟩
    have HWS := Lib.hid (show wrap64 ((mm : Int) - (i : Int)) = (s : Int) from wrap_sub (by omega) (by omega))
    have HN := Lib.hid (And.intro hi (And.intro hj (And.intro hlen (And.intro hnu (And.intro hnv (And.intro hil hs))))))
    have hxp : (X ++ P).length = s := by simp; omega
    rcases Nat.lt_trichotomy i j with hlt | heq | hgt
    · have hd1 : ¬ (i : Int) = (j : Int) := by omega
      have hd2 : ((i : Int) != (j : Int)) = true := by simp; omega
      have hd3 : ¬ (i : Int) > (j : Int) := by omega
      have HWQ := Lib.hid (show wrap64 ((mm : Int) + (j : Int)) = ((mm + j : Nat) : Int) from wrap_add rfl (by omega))
      have HWR := Lib.hid (show wrap64 (((mm + j : Nat) : Int) - (i : Int)) = ((mm + j - i : Nat) : Int) from wrap_sub (by omega) (by omega))
      have HWJ := Lib.hid (show wrap64 ((j : Int) - (i : Int)) = ((j - i : Nat) : Int) from wrap_sub (by omega) (by omega))
      have eV : V' = V'.take (j - i) ++ V'.drop (j - i) := (List.take_append_drop _ _).symm
      have lA : (V'.take (j - i)).length = j - i := by rw [List.length_take]; omega
      have lB : (V'.drop (j - i)).length = i := by rw [List.length_drop]; omega
      obtain ⟨A', hA'⟩ : ∃ A', V'.take (j - i) = A' := ⟨_, rfl⟩
      obtain ⟨B, hB⟩ : ∃ B, V'.drop (j - i) = B := ⟨_, rfl⟩
      rw [hA'] at eV lA
      rw [hB] at eV lB
      have HCON := Lib.hid (swapL_any W0 wr g n s (mm + j - i) i m c (X ++ P) U' A' B (Q ++ Y) hi lB hxp (by omega) (by simp; omega) h5 (by have := hI.pr; rw [eV] at this; simpa using this))
      have HNXT := Lib.hid (show ∀ w2, PR W0 w2 g n ((X ++ P) ++ (B ++ (A' ++ (U' ++ (Q ++ Y))))) → RotI W0 w2 g n mm X U V Y P B A' (U' ++ Q) from fun w2 h => ⟨(by intro e; rw [e] at lB; simp at lB; omega), (by intro e; rw [e] at lA; simp at lA; omega), by have := hI.eq'; rw [eV] at this; rw [← this]; simp, by omega, by simpa using h⟩)
      have HLL := Lib.hid (And.intro lA lB)
      have HLT := Lib.hid hlt
      clear hI hlen hnu hnv hil h1 h2 h3 h4 h5 hi hj hs hxp hlt eV lA lB hA' hB
      go_wp2_with fail
      rw [HWS.out, HWQ.out, HWR.out]
      refine HCON.out.mono ?_
      rintro e w2 ⟨rfl, hys⟩
      have HP2 := Lib.hid hys
      clear hys
      go_wp2_with fail
      go_roundw
      case rel => exact ⟨P, B, A', U' ++ Q, by rw [HLL.out.2], by rw [HWJ.out, HLL.out.1], HNXT.out _ HP2.out⟩
      case measure => have h9 := HLT.out; rw [intOf_nat, intOf_of' HWJ.out, intOf_nat]; have := HN.out.2.2.2.1; omega
    · subst heq
      have hd1 : (i : Int) = (i : Int) := rfl
      have hd2 : ((i : Int) != (i : Int)) = false := by simp
      have HCON := Lib.hid (swapL_any W0 wr g n s mm i m c (X ++ P) U' [] V' (Q ++ Y) hi hj hxp (by simp; omega) (by simp; omega) h5 (by have := hI.pr; simpa using this))
      have HEQ := Lib.hid (show (X ++ P) ++ (V' ++ ([] ++ (U' ++ (Q ++ Y)))) = X ++ (V ++ (U ++ Y)) from by have := congrArg (fun l => X ++ (l ++ Y)) hI.eq'; simpa using this)
      clear hI hlen hnu hnv hil h1 h2 h3 h4 h5 hi hj hs hxp
      go_wp2_with fail
      rw [HWS.out]
      refine HCON.out.mono ?_
      rintro e w2 ⟨rfl, hys⟩
      have HP2 := Lib.hid hys
      clear hys
      go_wp2_with fail
      go_end0
      exact ⟨rfl, by rw [← HEQ.out]; exact HP2.out⟩
    · have hd1 : ¬ (i : Int) = (j : Int) := by omega
      have hd2 : ((i : Int) != (j : Int)) = true := by simp; omega
      have hd3 : (i : Int) > (j : Int) := by omega
      have HWJ := Lib.hid (show wrap64 ((i : Int) - (j : Int)) = ((i - j : Nat) : Int) from wrap_sub (by omega) (by omega))
      have eU : U' = U'.take j ++ U'.drop j := (List.take_append_drop _ _).symm
      have lA : (U'.take j).length = j := by rw [List.length_take]; omega
      have lB : (U'.drop j).length = i - j := by rw [List.length_drop]; omega
      obtain ⟨A', hA'⟩ : ∃ A', U'.take j = A' := ⟨_, rfl⟩
      obtain ⟨B, hB⟩ : ∃ B, U'.drop j = B := ⟨_, rfl⟩
      rw [hA'] at eU lA
      rw [hB] at eU lB
      have HCON := Lib.hid (swapL_any W0 wr g n s mm j m c (X ++ P) A' B V' (Q ++ Y) lA hj hxp (by omega) (by simp; omega) h5 (by have := hI.pr; rw [eU] at this; simpa using this))
      have HNXT := Lib.hid (show ∀ w2, PR W0 w2 g n ((X ++ P) ++ (V' ++ (B ++ (A' ++ (Q ++ Y))))) → RotI W0 w2 g n mm X U V Y (P ++ V') B A' Q from fun w2 h => ⟨(by intro e; rw [e] at lB; simp at lB; omega), (by intro e; rw [e] at lA; simp at lA; omega), by have := hI.eq'; rw [eU] at this; rw [← this]; simp, by rw [List.length_append]; omega, by simpa using h⟩)
      have HLL := Lib.hid (And.intro lA lB)
      have HLT := Lib.hid hgt
      clear hI hlen hnu hnv hil h1 h2 h3 h4 h5 hi hj hs hxp hgt eU lA lB hA' hB
      go_wp2_with fail
      rw [HWS.out]
      refine HCON.out.mono ?_
      rintro e w2 ⟨rfl, hys⟩
      have HP2 := Lib.hid hys
      clear hys
      go_wp2_with fail
      go_roundw
      case rel => exact ⟨P ++ V', B, A', Q, by rw [HWJ.out, HLL.out.2], by rw [HLL.out.1], HNXT.out _ HP2.out⟩
      case measure => have h9 := HLT.out; rw [intOf_of' HWJ.out, intOf_nat, intOf_nat]; have := HN.out.2.2.2.2.1; omega
end Go.Proofs.YtjokcagggmjgmaaGreat
/-! SrtG -/
namespace Go.Proofs.YtjokcagggmjgmaaGreat
open Go.RowKit
set_option linter.unusedVariables false
set_option linter.unusedSimpArgs false
set_option maxRecDepth 100000

theorem mid_eq {i j h : Nat} (e : (i + j) / 2 = h) (hb : i + j ≤ 100000) : wrap64 (IntKind.u64.wrap (wrap64 ((i : Int) + (j : Int))) / 2) = ((h : Nat) : Int) := by
  rw [show wrap64 ((i : Int) + (j : Int)) = ((i + j : Nat) : Int) by unfold wrap64; omega, show IntKind.u64.wrap ((i + j : Nat) : Int) = ((i + j : Nat) : Int) by rw [IntKind.wrap_u64]; omega]
  unfold wrap64; omega
theorem swap_mid2 (A : List Pe) (x y : Pe) (B : List Pe) : ((A ++ x :: y :: B).set A.length y).set (A.length + 1) x = A ++ y :: x :: B := by
  rw [List.set_append_right _ _ (by omega), Nat.sub_self, List.set_append_right _ _ (by omega), Nat.add_sub_cancel_left]
  rfl
/-- the runs are put together -/
def MrgR (W0 : World) (g n : Nat) (X L Y : List Pe) (e : Ending) (w' : World) : Prop := ∃ M, e = .returned (.tuple #[]) ∧ PR W0 w' g n (X ++ (M ++ Y)) ∧ M.length = L.length ∧ Stb L M ∧ Srt M
/-- the call as it is compared: two elements of the row -/
theorem ord_row {W0 wr : World} {g n k : Nat} {ys : List Pe} (hpr : PR W0 wr g n ys) {x y : Pe} (hx : x ∈ ys) (hy : y ∈ ys) (k1 : 1 ≤ k) (k16 : k ≤ 16) (hk : ∀ x ∈ ys, x.2.p.length = k ∧ ∀ q ∈ x.2.p, q < 2 ^ 64) :
    ∀ W, Below wr.heap.size wr W → Calls Tryz.prog 119 #[.agg #[x.1, .int .u64 (x.2.v : Nat)], .agg #[y.1, .int .u64 (y.2.v : Nat)]] W fun e w' => e = .returned (.int .i64 (Zb.cmp x.2.p y.2.p)) ∧ Below W.heap.size W w' := fun W hb => by
  have h1 := hk x hx
  have h2 := hk y hy
  have hb2 := hpr.bel.trans (hb.mono hpr.bel.size)
  exact order_any W x.2.p y.2.p x.1 y.1 x.2.v y.2.v ((hpr.pts x hx).below hb2) ((hpr.pts y hy).below hb2) (by rw [h1.1, h2.1]) (by rw [h1.1]; exact k1) (by rw [h1.1]; exact k16) h1.2 h2.2
set_option maxHeartbeats 8000000 in
theorem sym_left (W0 w : World) (g n a mm b m c k : Nat) (X B Y : List Pe) (x : Pe) (ha : X.length = a) (hmm : a + 1 = mm) (hb : mm + B.length = b) (hm : b + Y.length = m) (hmx : m ≤ 1000) (k1 : 1 ≤ k) (k16 : k ≤ 16) (h : PR W0 w g n (X ++ (x :: (B ++ Y))))
    (hk : ∀ x' ∈ X ++ (x :: (B ++ Y)), x'.2.p.length = k ∧ ∀ q ∈ x'.2.p, q < 2 ^ 64) (hB : Srt B) :
    Calls Tryz.prog 179 #[.slice (some ⟨g, 0, none⟩) m c, .int .i64 (a : Nat), .int .i64 (mm : Nat), .int .i64 (b : Nat), .func (.func 119) #[] #[]] w fun e w' => MrgR W0 g n X (x :: B) Y e w' := by
  have hent := enters_lit' Tryz.func119 (by kernel_rfl) (by kernel_rfl)
  have HP0 := Lib.hid h
  have HD := Lib.hid (And.intro ha (And.intro hmm (And.intro hb (And.intro hm hmx))))
  have HK := Lib.hid (And.intro hk (And.intro k1 (And.intro k16 hB)))
  have HW1 := Lib.hid (show wrap64 ((mm : Int) - (a : Int)) = ((1 : Nat) : Int) from wrap_sub (by omega) (by omega))
  have hw1 : wrap64 ((mm : Int) - (a : Int)) = 1 := HW1.out
  clear ha hmm hb hm hmx k1 k16 h hk hB
  go_enter Tryz.func179, Tryz.ntmps179
  go_wp2_with fail
  go_loopw [10, 11, 12] (fun iv jv _ wr => ∃ q r : Nat, iv = .int .i64 ((mm + q : Nat) : Int) ∧ jv = .int .i64 ((mm + r : Nat) : Int) ∧ q ≤ r ∧ r ≤ B.length ∧ (∀ t (h : t < B.length), t < q → ek B[t] < ek x) ∧ (∀ t (h : t < B.length), r ≤ t → ek x ≤ ek B[t]) ∧ PR W0 wr g n (X ++ (x :: (B ++ Y)))) (fun iv jv _ _ => (intOf jv).toNat - (intOf iv).toNat)
  case atStart => exact ⟨0, B.length, rfl, by rw [HD.out.2.2.1], Nat.zero_le _, Nat.le_refl _, (fun t _ h => by omega), (fun t h h' => by omega), HP0.out⟩
  case round =>
    obtain ⟨q, r, rfl, rfl, hqr, hrl, hlo, hhi, hpr⟩ := hrel
    have HI := Lib.hid (And.intro hqr (And.intro hrl (And.intro hlo (And.intro hhi hpr))))
    by_cases hlt : q < r
    · obtain ⟨d1, d2, d3, d4, d5⟩ := HD.out
      obtain ⟨i, hi⟩ : ∃ i, mm + q = i := ⟨_, rfl⟩
      obtain ⟨j, hj⟩ : ∃ j, mm + r = j := ⟨_, rfl⟩
      obtain ⟨h, hh⟩ : ∃ h, (i + j) / 2 = h := ⟨_, rfl⟩
      obtain ⟨t, ht⟩ : ∃ t, h = mm + t := ⟨h - mm, by omega⟩
      have htB : t < B.length := by omega
      have hqt : q ≤ t ∧ t < r := by omega
      have ey : (X ++ (x :: (B ++ Y)))[h]? = some B[t] := by
        rw [List.getElem?_append_right (by omega), show h - X.length = t + 1 by omega, List.getElem?_cons_succ, List.getElem?_append_left htB, List.getElem?_eq_getElem htB]
      have ex : (X ++ (x :: (B ++ Y)))[a]? = some x := by
        rw [List.getElem?_append_right (by omega), show a - X.length = 0 by omega]; rfl
      obtain ⟨k0, k1, ry⟩ := hpr.at2 h _ ey
      obtain ⟨q0, q1, rx⟩ := hpr.at2 a _ ex
      have HOR := Lib.hid (ord_row hpr (List.mem_of_getElem? ey) (List.mem_of_getElem? ex) HK.out.2.1 HK.out.2.2.1 HK.out.1)
      have HLT := Lib.hid (show ek B[t] < ek x → ∀ s (h : s < B.length), s < t + 1 → ek B[s] < ek x from fun h0 s hs h' => by
        by_cases e : s = t
        · subst e; exact h0
        · have := List.pairwise_iff_getElem.1 HK.out.2.2.2 s t hs htB (by omega); omega)
      have HGE := Lib.hid (show ¬ ek B[t] < ek x → ∀ s (h : s < B.length), t ≤ s → ek x ≤ ek B[s] from fun h0 s hs h' => by
        by_cases e : s = t
        · subst e; omega
        · have := List.pairwise_iff_getElem.1 HK.out.2.2.2 t s htB hs (by omega); omega)
      have hth := fun r => hpr.thaw r
      have hgl := hpr.lt
      generalize B[t] = y at *
      obtain ⟨ux, px, vx⟩ := x
      obtain ⟨uy, py, vy⟩ := y
      simp only at k0 k1 q0 q1 rx ry HOR
      obtain ⟨z, hz⟩ : ∃ z, Zb.cmp py px = z := ⟨_, rfl⟩
      rw [hz] at HOR
      have HZ := Lib.hid (show z < 0 ↔ pkey py < pkey px from hz ▸ cmp_neg py px)
      have hij : (i : Int) < (j : Int) := by omega
      have hh1 : (h : Int) < (m : Int) := by omega
      have hh2 : (0 : Int) ≤ (h : Int) := by omega
      have ha1 : (a : Int) < (m : Int) := by omega
      have ha2 : (0 : Int) ≤ (a : Int) := by omega
      have HN := Lib.hid (And.intro hi (And.intro hj (And.intro ht (And.intro hqt htB))))
      have HW2 := Lib.hid (show wrap64 ((h : Int) + 1) = ((h + 1 : Nat) : Int) from wrap_succ (by omega))
      have HMW := Lib.hid (mid_eq hh (by omega))
      rw [hi, hj]
      obtain ⟨Ax, cx, rfl, _⟩ := RdU.point rx
      obtain ⟨Ay, cy, rfl, _⟩ := RdU.point ry
      clear hlo hhi hpr hqr hrl hz ey ex rx ry hi hj hh ht htB hqt hlt d1 d2 d3 d4 d5
      go_wp2_with fail
      rw [HMW.out]
      refine wp_region_vals 10 [fun z9 _ => z9 = .func (.func 119) #[] #[],
        fun z9 _ => z9 = .slice (some ⟨g, 0, none⟩) m c,
        fun z9 _ => z9 = .int .i64 (h : Nat),
        fun z9 _ => z9 = .pointer (some ⟨g, h * 2, none⟩),
        fun z9 _ => z9 = .agg #[.slice Ay py.length cy, .int .u64 (vy : Nat)],
        fun z9 _ => z9 = .slice (some ⟨g, 0, none⟩) m c,
        fun z9 _ => z9 = .int .i64 (a : Nat),
        fun z9 _ => z9 = .pointer (some ⟨g, a * 2, none⟩),
        fun z9 _ => z9 = .agg #[.slice Ax px.length cx, .int .u64 (vx : Nat)],
        fun z9 _ => z9 = .int .i64 z]
        (by kernel_rfl) (by kernel_rfl) (by kernel_rfl) (by kernel_rfl) ?_ ?_ ?_
      · intro V hV v w1 w2 h hb
        simp only [List.mem_cons, List.not_mem_nil, or_false] at hV
        rcases hV with rfl | rfl | rfl | rfl | rfl | rfl | rfl | rfl | rfl | rfl
        all_goals first | exact h | (exact h)
      · intro iq oq hiq hoq
        match iq, hiq with
        | 0, _ =>
        obtain rfl := Option.some.inj hoq
        intro a1 w1 K hk hK
        have e4 : a1.tmps.getD 4 undef = .func (.func 119) #[] #[] := hk.same 4 (by simp)
        simp [Region.wanted, Oper.wp, Act.eval, go_sem, e4, k0, k1, q0, q1, hh1, hh2, ha1, ha2, hgl, hent]
        exact hK _ _ (Below.refl _ _) rfl
        | 1, _ =>
        obtain rfl := Option.some.inj hoq
        intro a1 w1 K hk hK
        have e0 : a1.tmps.getD 0 undef = .slice (some ⟨g, 0, none⟩) m c := hk.same 0 (by simp)
        simp [Region.wanted, Oper.wp, Act.eval, go_sem, e0, k0, k1, q0, q1, hh1, hh2, ha1, ha2, hgl, hent]
        exact hK _ _ (Below.refl _ _) rfl
        | 2, _ =>
        obtain rfl := Option.some.inj hoq
        intro a1 w1 K hk hK
        have e12 : a1.tmps.getD 12 undef = .int .i64 (h : Nat) := hk.same 12 (by simp)
        simp [Region.wanted, Oper.wp, Act.eval, go_sem, e12, k0, k1, q0, q1, hh1, hh2, ha1, ha2, hgl, hent]
        exact hK _ _ (Below.refl _ _) rfl
        | 3, _ =>
        obtain rfl := Option.some.inj hoq
        intro a1 w1 K hk hK
        have d41 : a1.tmps.getD 41 undef = .slice (some ⟨g, 0, none⟩) m c := hk.deps ⟨1, .data⟩ (by simp) rfl _ _ rfl rfl
        have d42 : a1.tmps.getD 42 undef = .int .i64 (h : Nat) := hk.deps ⟨2, .data⟩ (by simp) rfl _ _ rfl rfl
        simp [Region.wanted, Oper.wp, Act.eval, go_sem, d41, d42, k0, k1, q0, q1, hh1, hh2, ha1, ha2, hgl, hent]
        exact hK _ _ (Below.refl _ _) rfl
        | 4, _ =>
        obtain rfl := Option.some.inj hoq
        intro a1 w1 K hk hK
        have d43 : a1.tmps.getD 43 undef = .pointer (some ⟨g, h * 2, none⟩) := hk.deps ⟨3, .data⟩ (by simp) rfl _ _ rfl rfl
        have c0 : w1.cell? ⟨g, h * 2, none⟩ = some (.slice Ay py.length cy) := Below.keeps hk.ext _ _ (by simp [go_sem, k0, k1, q0, q1, hh1, hh2, ha1, ha2, hgl, hent])
        have c1 : w1.cell? ⟨g, h * 2 + 1, none⟩ = some (.int .u64 (vy : Nat)) := Below.keeps hk.ext _ _ (by simp [go_sem, k0, k1, q0, q1, hh1, hh2, ha1, ha2, hgl, hent])
        have c2 : w1.cell? ⟨g, a * 2, none⟩ = some (.slice Ax px.length cx) := Below.keeps hk.ext _ _ (by simp [go_sem, k0, k1, q0, q1, hh1, hh2, ha1, ha2, hgl, hent])
        have c3 : w1.cell? ⟨g, a * 2 + 1, none⟩ = some (.int .u64 (vx : Nat)) := Below.keeps hk.ext _ _ (by simp [go_sem, k0, k1, q0, q1, hh1, hh2, ha1, ha2, hgl, hent])
        simp [Region.wanted, Oper.wp, Act.eval, go_sem, d43, c0, c1, c2, c3, k0, k1, q0, q1, hh1, hh2, ha1, ha2, hgl, hent]
        exact hK _ _ (Below.refl _ _) rfl
        | 5, _ =>
        obtain rfl := Option.some.inj hoq
        intro a1 w1 K hk hK
        have e0 : a1.tmps.getD 0 undef = .slice (some ⟨g, 0, none⟩) m c := hk.same 0 (by simp)
        simp [Region.wanted, Oper.wp, Act.eval, go_sem, e0, k0, k1, q0, q1, hh1, hh2, ha1, ha2, hgl, hent]
        exact hK _ _ (Below.refl _ _) rfl
        | 6, _ =>
        obtain rfl := Option.some.inj hoq
        intro a1 w1 K hk hK
        have e1 : a1.tmps.getD 1 undef = .int .i64 (a : Nat) := hk.same 1 (by simp)
        simp [Region.wanted, Oper.wp, Act.eval, go_sem, e1, k0, k1, q0, q1, hh1, hh2, ha1, ha2, hgl, hent]
        exact hK _ _ (Below.refl _ _) rfl
        | 7, _ =>
        obtain rfl := Option.some.inj hoq
        intro a1 w1 K hk hK
        have d45 : a1.tmps.getD 45 undef = .slice (some ⟨g, 0, none⟩) m c := hk.deps ⟨5, .data⟩ (by simp) rfl _ _ rfl rfl
        have d46 : a1.tmps.getD 46 undef = .int .i64 (a : Nat) := hk.deps ⟨6, .data⟩ (by simp) rfl _ _ rfl rfl
        simp [Region.wanted, Oper.wp, Act.eval, go_sem, d45, d46, k0, k1, q0, q1, hh1, hh2, ha1, ha2, hgl, hent]
        exact hK _ _ (Below.refl _ _) rfl
        | 8, _ =>
        obtain rfl := Option.some.inj hoq
        intro a1 w1 K hk hK
        have d47 : a1.tmps.getD 47 undef = .pointer (some ⟨g, a * 2, none⟩) := hk.deps ⟨7, .data⟩ (by simp) rfl _ _ rfl rfl
        have c0 : w1.cell? ⟨g, h * 2, none⟩ = some (.slice Ay py.length cy) := Below.keeps hk.ext _ _ (by simp [go_sem, k0, k1, q0, q1, hh1, hh2, ha1, ha2, hgl, hent])
        have c1 : w1.cell? ⟨g, h * 2 + 1, none⟩ = some (.int .u64 (vy : Nat)) := Below.keeps hk.ext _ _ (by simp [go_sem, k0, k1, q0, q1, hh1, hh2, ha1, ha2, hgl, hent])
        have c2 : w1.cell? ⟨g, a * 2, none⟩ = some (.slice Ax px.length cx) := Below.keeps hk.ext _ _ (by simp [go_sem, k0, k1, q0, q1, hh1, hh2, ha1, ha2, hgl, hent])
        have c3 : w1.cell? ⟨g, a * 2 + 1, none⟩ = some (.int .u64 (vx : Nat)) := Below.keeps hk.ext _ _ (by simp [go_sem, k0, k1, q0, q1, hh1, hh2, ha1, ha2, hgl, hent])
        simp [Region.wanted, Oper.wp, Act.eval, go_sem, d47, c0, c1, c2, c3, k0, k1, q0, q1, hh1, hh2, ha1, ha2, hgl, hent]
        exact hK _ _ (Below.refl _ _) rfl
        | 9, _ =>
        obtain rfl := Option.some.inj hoq
        intro a1 w1 K hk hK
        have d40 : a1.tmps.getD 40 undef = .func (.func 119) #[] #[] := hk.deps ⟨0, .data⟩ (by simp) rfl _ _ rfl rfl
        have d44 : a1.tmps.getD 44 undef = .agg #[.slice Ay py.length cy, .int .u64 (vy : Nat)] := hk.deps ⟨4, .data⟩ (by simp) rfl _ _ rfl rfl
        have d48 : a1.tmps.getD 48 undef = .agg #[.slice Ax px.length cx, .int .u64 (vx : Nat)] := hk.deps ⟨8, .data⟩ (by simp) rfl _ _ rfl rfl
        simp [Region.wanted, Oper.wp, Act.eval, go_sem, d40, d44, d48, k0, k1, q0, q1, hh1, hh2, ha1, ha2, hgl, hent]
        refine (HOR.out _ (below_trans (by repeat (first | exact Below.refl _ _ | (refine Below.drew ?_) | (refine below_drewN' ?_ _) | (refine below_alloc' ?_ _) | (refine Below.setCell ?_ (by first | exact Nat.le_refl _ | (simp; done) | (simp; omega)) _))) hk.ext)).mono ?_
        rintro e w9 ⟨rfl, hb9⟩
        exact hK _ _ hb9 rfl
      · intro vs w3 hl hb3 hv
        match vs, hl with
        | [v0, v1, v2, v3, v4, v5, v6, v7, v8, v9], _ =>
        obtain rfl : v0 = .func (.func 119) #[] #[] := hv 0 (by omega)
        obtain rfl : v1 = .slice (some ⟨g, 0, none⟩) m c := hv 1 (by omega)
        obtain rfl : v2 = .int .i64 (h : Nat) := hv 2 (by omega)
        obtain rfl : v3 = .pointer (some ⟨g, h * 2, none⟩) := hv 3 (by omega)
        obtain rfl : v4 = .agg #[.slice Ay py.length cy, .int .u64 (vy : Nat)] := hv 4 (by omega)
        obtain rfl : v5 = .slice (some ⟨g, 0, none⟩) m c := hv 5 (by omega)
        obtain rfl : v6 = .int .i64 (a : Nat) := hv 6 (by omega)
        obtain rfl : v7 = .pointer (some ⟨g, a * 2, none⟩) := hv 7 (by omega)
        obtain rfl : v8 = .agg #[.slice Ax px.length cx, .int .u64 (vx : Nat)] := hv 8 (by omega)
        obtain rfl : v9 = .int .i64 z := hv 9 (by omega)
        clear hv
        simp only [putAll, List.take_succ_cons, List.take_zero, List.drop_succ_cons, List.drop_zero, Act.put, List.setIfInBounds_toArray, List.set_cons_succ, List.set_cons_zero]
        have HP3 := Lib.hid (HI.out.2.2.2.2.step (show Below wr.heap.size wr w3 from hb3))
        clear hb3 hth k0 k1 q0 q1 hgl
        by_cases hz0 : z < 0
        · have HL := Lib.hid (HLT.out (HZ.out.1 hz0))
          go_wp2_with fail
          go_roundw
          case rel =>
            obtain ⟨n1, n2, n3, n4, n5⟩ := HN.out
            exact ⟨t + 1, r, by rw [HW2.out]; congr 2; omega, by rw [n2], by omega, HI.out.2.1, HL.out, HI.out.2.2.2.1, HP3.out⟩
          case measure =>
            obtain ⟨n1, n2, n3, n4, n5⟩ := HN.out
            rw [intOf_nat, intOf_of' HW2.out, intOf_nat]; omega
        · have HL := Lib.hid (HGE.out (fun h => hz0 (HZ.out.2 h)))
          go_wp2_with fail
          go_roundw
          case rel =>
            obtain ⟨n1, n2, n3, n4, n5⟩ := HN.out
            exact ⟨q, t, by rw [n1], by rw [n3], by omega, by omega, HI.out.2.2.1, HL.out, HP3.out⟩
          case measure =>
            obtain ⟨n1, n2, n3, n4, n5⟩ := HN.out
            rw [intOf_nat, intOf_nat, intOf_nat]; omega
    · obtain rfl : q = r := by omega
      obtain ⟨d1, d2, d3, d4, d5⟩ := HD.out
      obtain ⟨i, hi⟩ : ∃ i, mm + q = i := ⟨_, rfl⟩
      obtain ⟨j, hj⟩ : ∃ j, a + q = j := ⟨_, rfl⟩
      have hij : ¬ (i : Int) < (i : Int) := by omega
      have HW3 := Lib.hid (show wrap64 ((i : Int) - 1) = (j : Int) from by have := wrap_sub (a := i) (i := 1) (p := j) (by omega) (by omega); exact this)
      have HJ := Lib.hid hj
      rw [hi]
      have HF := Lib.hid (show ∀ w', PR W0 w' g n (X ++ (B.take q ++ (x :: (B.drop q ++ Y)))) → MrgR W0 g n X (x :: B) Y (.returned (.tuple #[])) w' from fun w' hp => by
        have h1 : ∀ y ∈ B.take q, ek y < ek x := fun y hy => by
          obtain ⟨i, hi, rfl⟩ := List.mem_iff_getElem.1 hy
          rw [List.length_take] at hi
          rw [List.getElem_take]
          exact hlo i (by omega) (by omega)
        have h2 : ∀ y ∈ B.drop q, ek x ≤ ek y := fun y hy => by
          obtain ⟨i, hi, rfl⟩ := List.mem_iff_getElem.1 hy
          rw [List.length_drop] at hi
          rw [List.getElem_drop]
          exact hhi (q + i) (by omega) (by omega)
        have h3 := HK.out.2.2.2
        rw [← List.take_append_drop q B] at h3
        obtain ⟨s1, s2, s3⟩ := List.pairwise_append.1 h3
        refine ⟨B.take q ++ (x :: B.drop q), rfl, by simpa using hp, by simp; omega, ?_, ?_⟩
        · have e := Stb.swap (X := [x]) (Y := B.take q) (fun u hu v hv => by obtain rfl := List.mem_singleton.1 hu; have := h1 v hv; omega)
          have e2 := e.append (Stb.refl (B.drop q))
          simpa using e2
        · refine List.pairwise_append.2 ⟨s1, List.pairwise_cons.2 ⟨h2, s2⟩, fun u hu v hv => ?_⟩
          rcases List.mem_cons.1 hv with rfl | hv
          · exact Nat.le_of_lt (h1 u hu)
          · exact s3 u hu v hv)
      clear hlo hhi hpr hqr hi hj d1 d2 d3 d4 d5
      go_wp2_with fail
      go_loopw [13] (fun kv wr => ∃ s : Nat, s ≤ q ∧ kv = .int .i64 ((a + s : Nat) : Int) ∧ PR W0 wr g n (X ++ (B.take s ++ (x :: (B.drop s ++ Y))))) (fun kv _ => j - (intOf kv).toNat)
      case atStart => exact ⟨0, Nat.zero_le _, rfl, by simpa using HI.out.2.2.2.2⟩
      case round =>
        obtain ⟨s, hs, rfl, hpr⟩ := hrel
        have HS := Lib.hid (And.intro hs hpr)
        obtain ⟨d1, d2, d3, d4, d5⟩ := HD.out
        by_cases hsq : s < q
        · have hsB : s < B.length := by omega
          obtain ⟨y, hy⟩ : ∃ y, B[s] = y := ⟨_, rfl⟩
          have e1 : X ++ (B.take s ++ (x :: (B.drop s ++ Y))) = (X ++ B.take s) ++ x :: y :: (B.drop (s + 1) ++ Y) := by rw [← List.getElem_cons_drop hsB, hy]; simp
          have e2 : X ++ (B.take (s + 1) ++ (x :: (B.drop (s + 1) ++ Y))) = (X ++ B.take s) ++ y :: x :: (B.drop (s + 1) ++ Y) := by rw [← List.take_append_getElem hsB, hy]; simp
          obtain ⟨p, hp⟩ : ∃ p, a + s = p := ⟨_, rfl⟩
          have hlen : (X ++ B.take s).length = p := by simp; omega
          have hpr2 := hpr
          rw [e1] at hpr2
          have ex : ((X ++ B.take s) ++ x :: y :: (B.drop (s + 1) ++ Y))[p]? = some x := by rw [List.getElem?_append_right (by omega), show p - (X ++ B.take s).length = 0 by omega]; rfl
          have ey : ((X ++ B.take s) ++ x :: y :: (B.drop (s + 1) ++ Y))[p + 1]? = some y := by rw [List.getElem?_append_right (by omega), show p + 1 - (X ++ B.take s).length = 1 by omega]; rfl
          obtain ⟨k0, k1, rx⟩ := hpr2.at2 p _ ex
          obtain ⟨q0, q1, ry⟩ := hpr2.at2 (p + 1) _ ey
          have hpl : p + 1 < ((X ++ B.take s) ++ x :: y :: (B.drop (s + 1) ++ Y)).length := by rw [List.length_append]; simp; omega
          have HSET := Lib.hid (show PR W0 ((((wr.setCell ⟨g, p * 2, none⟩ y.1).setCell ⟨g, p * 2 + 1, none⟩ (.int .u64 (y.2.v : Nat))).setCell ⟨g, (p + 1) * 2, none⟩ x.1).setCell ⟨g, (p + 1) * 2 + 1, none⟩ (.int .u64 (x.2.v : Nat))) g n (X ++ (B.take (s + 1) ++ (x :: (B.drop (s + 1) ++ Y)))) from by
            have h9 := (hpr2.set (j := p) (by omega) y ry).set (j := p + 1) (by rw [List.length_set]; exact hpl) x rx
            have h8 := swap_mid2 (X ++ B.take s) x y (B.drop (s + 1) ++ Y)
            rw [hlen] at h8
            rw [h8, ← e2] at h9
            exact h9)
          have hth := fun r => hpr.thaw r
          have hgl := hpr.lt
          obtain ⟨ux, px, vx⟩ := x
          obtain ⟨uy, py, vy⟩ := y
          simp only at k0 k1 q0 q1 rx ry
          have hp1 : (p : Int) < (j : Int) := by have := HJ.out; omega
          have hp2 : (p : Int) < (m : Int) := by omega
          have hp3 : (0 : Int) ≤ (p : Int) := by omega
          have hp4 : (p : Int) + 1 < (m : Int) := by omega
          have hp5 : (0 : Int) ≤ (p : Int) + 1 := by omega
          have hp6 : p + 1 < m := by omega
          have hp7 : p < m := by omega
          have HPN := Lib.hid (show s + 1 ≤ q ∧ p + 1 = a + (s + 1) ∧ j - (((p + 1 : Nat) : Int)).toNat < j - ((p : Nat) : Int).toNat from by have := HJ.out; omega)
          have HW4 := Lib.hid (show wrap64 ((p : Int) + 1) = ((p + 1 : Nat) : Int) from wrap_succ (by omega))
          obtain ⟨Ax, cx, rfl, _⟩ := RdU.point rx
          obtain ⟨Ay, cy, rfl, _⟩ := RdU.point ry
          rw [hp]
          have hw3 := HW3.out
          have hw4 := HW4.out
          clear hpr hpr2 hy e1 e2 ex ey rx ry hp hlen hpl hs d1 d2 d3 d4 d5 hsq
          go_wp2_with fail
          go_region
          go_wp2_with fail
          refine ⟨⟨s + 1, HPN.out.1, by rw [hw4, HPN.out.2.1], HSET.out.step (by repeat (first | exact Below.refl _ _ | (refine Below.drew ?_) | (refine below_drewN' ?_ _)))⟩, ?_⟩
          rw [intOf_of' hw4, intOf_nat]
          exact HPN.out.2.2
        · obtain rfl : s = q := by omega
          have e : a + s = j := HJ.out
          have hp1 : ¬ (j : Int) < (j : Int) := by omega
          have hw3 := HW3.out
          rw [e]
          clear hpr hs d1 d2 d3 d4 d5 e
          go_wp2_with fail
          go_end0
          exact HF.out _ HS.out.2
end Go.Proofs.YtjokcagggmjgmaaGreat
/-! SrtH -/
namespace Go.Proofs.YtjokcagggmjgmaaGreat
open Go.RowKit
set_option linter.unusedVariables false
set_option linter.unusedSimpArgs false
set_option maxRecDepth 100000

set_option maxHeartbeats 8000000 in
theorem sym_right (W0 w : World) (g n a mm b m c k : Nat) (X A Y : List Pe) (x : Pe) (ha : X.length = a) (hmm : a + A.length = mm) (hb : mm + 1 = b) (hm : b + Y.length = m) (hmx : m ≤ 1000) (hA2 : 2 ≤ A.length) (k1 : 1 ≤ k) (k16 : k ≤ 16) (h : PR W0 w g n (X ++ (A ++ (x :: Y))))
    (hk : ∀ x' ∈ X ++ (A ++ (x :: Y)), x'.2.p.length = k ∧ ∀ q ∈ x'.2.p, q < 2 ^ 64) (hA : Srt A) :
    Calls Tryz.prog 179 #[.slice (some ⟨g, 0, none⟩) m c, .int .i64 (a : Nat), .int .i64 (mm : Nat), .int .i64 (b : Nat), .func (.func 119) #[] #[]] w fun e w' => MrgR W0 g n X (A ++ [x]) Y e w' := by
  have hent := enters_lit' Tryz.func119 (by kernel_rfl) (by kernel_rfl)
  have HP0 := Lib.hid h
  have HD := Lib.hid (And.intro ha (And.intro hmm (And.intro hb (And.intro hm hmx))))
  have HK := Lib.hid (And.intro hk (And.intro k1 (And.intro k16 hA)))
  obtain ⟨la, hla⟩ : ∃ la, A.length = la := ⟨_, rfl⟩
  have hl1 : ¬ (la : Int) = 1 := by omega
  have hl2 : ((la : Int) == 1) = false := by simpa using hl1
  have HW1 := Lib.hid (show wrap64 ((mm : Int) - (a : Int)) = (la : Int) from wrap_sub (by omega) (by omega))
  have HW2 := Lib.hid (show wrap64 ((b : Int) - (mm : Int)) = ((1 : Nat) : Int) from wrap_sub (by omega) (by omega))
  have hw1 := HW1.out
  have hw2 : wrap64 ((b : Int) - (mm : Int)) = 1 := HW2.out
  clear ha hmm hb hm hmx k1 k16 h hk hA hA2 hla
  go_enter Tryz.func179, Tryz.ntmps179
  go_wp2_with fail
  clear hw1 hw2
  go_loopw [14, 15, 16] (fun iv jv _ wr => ∃ q r : Nat, iv = .int .i64 ((a + q : Nat) : Int) ∧ jv = .int .i64 ((a + r : Nat) : Int) ∧ q ≤ r ∧ r ≤ A.length ∧ (∀ t (h : t < A.length), t < q → ek A[t] ≤ ek x) ∧ (∀ t (h : t < A.length), r ≤ t → ek x < ek A[t]) ∧ PR W0 wr g n (X ++ (A ++ (x :: Y)))) (fun iv jv _ _ => (intOf jv).toNat - (intOf iv).toNat)
  case atStart => exact ⟨0, A.length, rfl, by rw [HD.out.2.1], Nat.zero_le _, Nat.le_refl _, (fun t _ h => by omega), (fun t h h' => by omega), HP0.out⟩
  case round =>
    obtain ⟨q, r, rfl, rfl, hqr, hrl, hlo, hhi, hpr⟩ := hrel
    have HI := Lib.hid (And.intro hqr (And.intro hrl (And.intro hlo (And.intro hhi hpr))))
    by_cases hlt : q < r
    · obtain ⟨d1, d2, d3, d4, d5⟩ := HD.out
      obtain ⟨i, hi⟩ : ∃ i, a + q = i := ⟨_, rfl⟩
      obtain ⟨j, hj⟩ : ∃ j, a + r = j := ⟨_, rfl⟩
      obtain ⟨h, hh⟩ : ∃ h, (i + j) / 2 = h := ⟨_, rfl⟩
      obtain ⟨t, ht⟩ : ∃ t, h = a + t := ⟨h - a, by omega⟩
      have htB : t < A.length := by omega
      have hqt : q ≤ t ∧ t < r := by omega
      have ey : (X ++ (A ++ (x :: Y)))[h]? = some A[t] := by
        rw [List.getElem?_append_right (by omega), show h - X.length = t by omega, List.getElem?_append_left htB, List.getElem?_eq_getElem htB]
      have ex : (X ++ (A ++ (x :: Y)))[mm]? = some x := by
        rw [List.getElem?_append_right (by omega), List.getElem?_append_right (by omega), show mm - X.length - A.length = 0 by omega]; rfl
      obtain ⟨k0, k1, ry⟩ := hpr.at2 h _ ey
      obtain ⟨q0, q1, rx⟩ := hpr.at2 mm _ ex
      have HOR := Lib.hid (ord_row hpr (List.mem_of_getElem? ex) (List.mem_of_getElem? ey) HK.out.2.1 HK.out.2.2.1 HK.out.1)
      have HLT := Lib.hid (show ¬ ek x < ek A[t] → ∀ s (h : s < A.length), s < t + 1 → ek A[s] ≤ ek x from fun h0 s hs h' => by
        by_cases e : s = t
        · subst e; omega
        · have := List.pairwise_iff_getElem.1 HK.out.2.2.2 s t hs htB (by omega); omega)
      have HGE := Lib.hid (show ek x < ek A[t] → ∀ s (h : s < A.length), t ≤ s → ek x < ek A[s] from fun h0 s hs h' => by
        by_cases e : s = t
        · subst e; omega
        · have := List.pairwise_iff_getElem.1 HK.out.2.2.2 t s htB hs (by omega); omega)
      have hth := fun r => hpr.thaw r
      have hgl := hpr.lt
      generalize A[t] = y at *
      obtain ⟨ux, px, vx⟩ := x
      obtain ⟨uy, py, vy⟩ := y
      simp only at k0 k1 q0 q1 rx ry HOR
      obtain ⟨z, hz⟩ : ∃ z, Zb.cmp px py = z := ⟨_, rfl⟩
      rw [hz] at HOR
      have HZ := Lib.hid (show z < 0 ↔ pkey px < pkey py from hz ▸ cmp_neg px py)
      have hij : (i : Int) < (j : Int) := by omega
      have hh1 : (h : Int) < (m : Int) := by omega
      have hh2 : (0 : Int) ≤ (h : Int) := by omega
      have ha1 : (mm : Int) < (m : Int) := by omega
      have ha2 : (0 : Int) ≤ (mm : Int) := by omega
      have HN := Lib.hid (And.intro hi (And.intro hj (And.intro ht (And.intro hqt htB))))
      have HW2 := Lib.hid (show wrap64 ((h : Int) + 1) = ((h + 1 : Nat) : Int) from wrap_succ (by omega))
      have HMW := Lib.hid (mid_eq hh (by omega))
      rw [hi, hj]
      obtain ⟨Ax, cx, rfl, _⟩ := RdU.point rx
      obtain ⟨Ay, cy, rfl, _⟩ := RdU.point ry
      clear hlo hhi hpr hqr hrl hz ey ex rx ry hi hj hh ht htB hqt hlt d1 d2 d3 d4 d5
      go_wp2_with fail
      rw [HMW.out]
      refine wp_region_vals 10 [fun z9 _ => z9 = .func (.func 119) #[] #[],
        fun z9 _ => z9 = .slice (some ⟨g, 0, none⟩) m c,
        fun z9 _ => z9 = .int .i64 (mm : Nat),
        fun z9 _ => z9 = .pointer (some ⟨g, mm * 2, none⟩),
        fun z9 _ => z9 = .agg #[.slice Ax px.length cx, .int .u64 (vx : Nat)],
        fun z9 _ => z9 = .slice (some ⟨g, 0, none⟩) m c,
        fun z9 _ => z9 = .int .i64 (h : Nat),
        fun z9 _ => z9 = .pointer (some ⟨g, h * 2, none⟩),
        fun z9 _ => z9 = .agg #[.slice Ay py.length cy, .int .u64 (vy : Nat)],
        fun z9 _ => z9 = .int .i64 z]
        (by kernel_rfl) (by kernel_rfl) (by kernel_rfl) (by kernel_rfl) ?_ ?_ ?_
      · intro V hV v w1 w2 h hb
        simp only [List.mem_cons, List.not_mem_nil, or_false] at hV
        rcases hV with rfl | rfl | rfl | rfl | rfl | rfl | rfl | rfl | rfl | rfl
        all_goals first | exact h | (exact h)
      · intro iq oq hiq hoq
        match iq, hiq with
        | 0, _ =>
        obtain rfl := Option.some.inj hoq
        intro a1 w1 K hk hK
        have e4 : a1.tmps.getD 4 undef = .func (.func 119) #[] #[] := hk.same 4 (by simp)
        simp [Region.wanted, Oper.wp, Act.eval, go_sem, e4, k0, k1, q0, q1, hh1, hh2, ha1, ha2, hgl, hent]
        exact hK _ _ (Below.refl _ _) rfl
        | 1, _ =>
        obtain rfl := Option.some.inj hoq
        intro a1 w1 K hk hK
        have e0 : a1.tmps.getD 0 undef = .slice (some ⟨g, 0, none⟩) m c := hk.same 0 (by simp)
        simp [Region.wanted, Oper.wp, Act.eval, go_sem, e0, k0, k1, q0, q1, hh1, hh2, ha1, ha2, hgl, hent]
        exact hK _ _ (Below.refl _ _) rfl
        | 2, _ =>
        obtain rfl := Option.some.inj hoq
        intro a1 w1 K hk hK
        have e2 : a1.tmps.getD 2 undef = .int .i64 (mm : Nat) := hk.same 2 (by simp)
        simp [Region.wanted, Oper.wp, Act.eval, go_sem, e2, k0, k1, q0, q1, hh1, hh2, ha1, ha2, hgl, hent]
        exact hK _ _ (Below.refl _ _) rfl
        | 3, _ =>
        obtain rfl := Option.some.inj hoq
        intro a1 w1 K hk hK
        have d93 : a1.tmps.getD 93 undef = .slice (some ⟨g, 0, none⟩) m c := hk.deps ⟨1, .data⟩ (by simp) rfl _ _ rfl rfl
        have d94 : a1.tmps.getD 94 undef = .int .i64 (mm : Nat) := hk.deps ⟨2, .data⟩ (by simp) rfl _ _ rfl rfl
        simp [Region.wanted, Oper.wp, Act.eval, go_sem, d93, d94, k0, k1, q0, q1, hh1, hh2, ha1, ha2, hgl, hent]
        exact hK _ _ (Below.refl _ _) rfl
        | 4, _ =>
        obtain rfl := Option.some.inj hoq
        intro a1 w1 K hk hK
        have d95 : a1.tmps.getD 95 undef = .pointer (some ⟨g, mm * 2, none⟩) := hk.deps ⟨3, .data⟩ (by simp) rfl _ _ rfl rfl
        have c0 : w1.cell? ⟨g, mm * 2, none⟩ = some (.slice Ax px.length cx) := Below.keeps hk.ext _ _ (by simp [go_sem, k0, k1, q0, q1, hh1, hh2, ha1, ha2, hgl, hent])
        have c1 : w1.cell? ⟨g, mm * 2 + 1, none⟩ = some (.int .u64 (vx : Nat)) := Below.keeps hk.ext _ _ (by simp [go_sem, k0, k1, q0, q1, hh1, hh2, ha1, ha2, hgl, hent])
        have c2 : w1.cell? ⟨g, h * 2, none⟩ = some (.slice Ay py.length cy) := Below.keeps hk.ext _ _ (by simp [go_sem, k0, k1, q0, q1, hh1, hh2, ha1, ha2, hgl, hent])
        have c3 : w1.cell? ⟨g, h * 2 + 1, none⟩ = some (.int .u64 (vy : Nat)) := Below.keeps hk.ext _ _ (by simp [go_sem, k0, k1, q0, q1, hh1, hh2, ha1, ha2, hgl, hent])
        simp [Region.wanted, Oper.wp, Act.eval, go_sem, d95, c0, c1, c2, c3, k0, k1, q0, q1, hh1, hh2, ha1, ha2, hgl, hent]
        exact hK _ _ (Below.refl _ _) rfl
        | 5, _ =>
        obtain rfl := Option.some.inj hoq
        intro a1 w1 K hk hK
        have e0 : a1.tmps.getD 0 undef = .slice (some ⟨g, 0, none⟩) m c := hk.same 0 (by simp)
        simp [Region.wanted, Oper.wp, Act.eval, go_sem, e0, k0, k1, q0, q1, hh1, hh2, ha1, ha2, hgl, hent]
        exact hK _ _ (Below.refl _ _) rfl
        | 6, _ =>
        obtain rfl := Option.some.inj hoq
        intro a1 w1 K hk hK
        have e16 : a1.tmps.getD 16 undef = .int .i64 (h : Nat) := hk.same 16 (by simp)
        simp [Region.wanted, Oper.wp, Act.eval, go_sem, e16, k0, k1, q0, q1, hh1, hh2, ha1, ha2, hgl, hent]
        exact hK _ _ (Below.refl _ _) rfl
        | 7, _ =>
        obtain rfl := Option.some.inj hoq
        intro a1 w1 K hk hK
        have d97 : a1.tmps.getD 97 undef = .slice (some ⟨g, 0, none⟩) m c := hk.deps ⟨5, .data⟩ (by simp) rfl _ _ rfl rfl
        have d98 : a1.tmps.getD 98 undef = .int .i64 (h : Nat) := hk.deps ⟨6, .data⟩ (by simp) rfl _ _ rfl rfl
        simp [Region.wanted, Oper.wp, Act.eval, go_sem, d97, d98, k0, k1, q0, q1, hh1, hh2, ha1, ha2, hgl, hent]
        exact hK _ _ (Below.refl _ _) rfl
        | 8, _ =>
        obtain rfl := Option.some.inj hoq
        intro a1 w1 K hk hK
        have d99 : a1.tmps.getD 99 undef = .pointer (some ⟨g, h * 2, none⟩) := hk.deps ⟨7, .data⟩ (by simp) rfl _ _ rfl rfl
        have c0 : w1.cell? ⟨g, mm * 2, none⟩ = some (.slice Ax px.length cx) := Below.keeps hk.ext _ _ (by simp [go_sem, k0, k1, q0, q1, hh1, hh2, ha1, ha2, hgl, hent])
        have c1 : w1.cell? ⟨g, mm * 2 + 1, none⟩ = some (.int .u64 (vx : Nat)) := Below.keeps hk.ext _ _ (by simp [go_sem, k0, k1, q0, q1, hh1, hh2, ha1, ha2, hgl, hent])
        have c2 : w1.cell? ⟨g, h * 2, none⟩ = some (.slice Ay py.length cy) := Below.keeps hk.ext _ _ (by simp [go_sem, k0, k1, q0, q1, hh1, hh2, ha1, ha2, hgl, hent])
        have c3 : w1.cell? ⟨g, h * 2 + 1, none⟩ = some (.int .u64 (vy : Nat)) := Below.keeps hk.ext _ _ (by simp [go_sem, k0, k1, q0, q1, hh1, hh2, ha1, ha2, hgl, hent])
        simp [Region.wanted, Oper.wp, Act.eval, go_sem, d99, c0, c1, c2, c3, k0, k1, q0, q1, hh1, hh2, ha1, ha2, hgl, hent]
        exact hK _ _ (Below.refl _ _) rfl
        | 9, _ =>
        obtain rfl := Option.some.inj hoq
        intro a1 w1 K hk hK
        have d92 : a1.tmps.getD 92 undef = .func (.func 119) #[] #[] := hk.deps ⟨0, .data⟩ (by simp) rfl _ _ rfl rfl
        have d96 : a1.tmps.getD 96 undef = .agg #[.slice Ax px.length cx, .int .u64 (vx : Nat)] := hk.deps ⟨4, .data⟩ (by simp) rfl _ _ rfl rfl
        have d100 : a1.tmps.getD 100 undef = .agg #[.slice Ay py.length cy, .int .u64 (vy : Nat)] := hk.deps ⟨8, .data⟩ (by simp) rfl _ _ rfl rfl
        simp [Region.wanted, Oper.wp, Act.eval, go_sem, d92, d96, d100, k0, k1, q0, q1, hh1, hh2, ha1, ha2, hgl, hent]
        refine (HOR.out _ (below_trans (by repeat (first | exact Below.refl _ _ | (refine Below.drew ?_) | (refine below_drewN' ?_ _) | (refine below_alloc' ?_ _) | (refine Below.setCell ?_ (by first | exact Nat.le_refl _ | (simp; done) | (simp; omega)) _))) hk.ext)).mono ?_
        rintro e w9 ⟨rfl, hb9⟩
        exact hK _ _ hb9 rfl
      · intro vs w3 hl hb3 hv
        match vs, hl with
        | [v0, v1, v2, v3, v4, v5, v6, v7, v8, v9], _ =>
        obtain rfl : v0 = .func (.func 119) #[] #[] := hv 0 (by omega)
        obtain rfl : v1 = .slice (some ⟨g, 0, none⟩) m c := hv 1 (by omega)
        obtain rfl : v2 = .int .i64 (mm : Nat) := hv 2 (by omega)
        obtain rfl : v3 = .pointer (some ⟨g, mm * 2, none⟩) := hv 3 (by omega)
        obtain rfl : v4 = .agg #[.slice Ax px.length cx, .int .u64 (vx : Nat)] := hv 4 (by omega)
        obtain rfl : v5 = .slice (some ⟨g, 0, none⟩) m c := hv 5 (by omega)
        obtain rfl : v6 = .int .i64 (h : Nat) := hv 6 (by omega)
        obtain rfl : v7 = .pointer (some ⟨g, h * 2, none⟩) := hv 7 (by omega)
        obtain rfl : v8 = .agg #[.slice Ay py.length cy, .int .u64 (vy : Nat)] := hv 8 (by omega)
        obtain rfl : v9 = .int .i64 z := hv 9 (by omega)
        clear hv
        simp only [putAll, List.take_succ_cons, List.take_zero, List.drop_succ_cons, List.drop_zero, Act.put, List.setIfInBounds_toArray, List.set_cons_succ, List.set_cons_zero]
        have HP3 := Lib.hid (HI.out.2.2.2.2.step (show Below wr.heap.size wr w3 from hb3))
        clear hb3 hth k0 k1 q0 q1 hgl
        by_cases hz0 : z < 0
        · have HL := Lib.hid (HGE.out (HZ.out.1 hz0))
          go_wp2_with fail
          go_roundw
          case rel =>
            obtain ⟨n1, n2, n3, n4, n5⟩ := HN.out
            exact ⟨q, t, by rw [n1], by rw [n3], by omega, by omega, HI.out.2.2.1, HL.out, HP3.out⟩
          case measure =>
            obtain ⟨n1, n2, n3, n4, n5⟩ := HN.out
            rw [intOf_nat, intOf_nat, intOf_nat]; omega
        · have HL := Lib.hid (HLT.out (fun h => hz0 (HZ.out.2 h)))
          go_wp2_with fail
          go_roundw
          case rel =>
            obtain ⟨n1, n2, n3, n4, n5⟩ := HN.out
            exact ⟨t + 1, r, by rw [HW2.out]; congr 2; omega, by rw [n2], by omega, HI.out.2.1, HL.out, HI.out.2.2.2.1, HP3.out⟩
          case measure =>
            obtain ⟨n1, n2, n3, n4, n5⟩ := HN.out
            rw [intOf_nat, intOf_of' HW2.out, intOf_nat]; omega
    · obtain rfl : q = r := by omega
      obtain ⟨d1, d2, d3, d4, d5⟩ := HD.out
      obtain ⟨i, hi⟩ : ∃ i, a + q = i := ⟨_, rfl⟩
      have hij : ¬ (i : Int) < (i : Int) := by omega
      have HJ := Lib.hid (And.intro hi hrl)
      rw [hi]
      have HF := Lib.hid (show ∀ w', PR W0 w' g n (X ++ (A.take q ++ (x :: (A.drop q ++ Y)))) → MrgR W0 g n X (A ++ [x]) Y (.returned (.tuple #[])) w' from fun w' hp => by
        have h1 : ∀ y ∈ A.take q, ek y ≤ ek x := fun y hy => by
          obtain ⟨i, hi, rfl⟩ := List.mem_iff_getElem.1 hy
          rw [List.length_take] at hi
          rw [List.getElem_take]
          exact hlo i (by omega) (by omega)
        have h2 : ∀ y ∈ A.drop q, ek x < ek y := fun y hy => by
          obtain ⟨i, hi, rfl⟩ := List.mem_iff_getElem.1 hy
          rw [List.length_drop] at hi
          rw [List.getElem_drop]
          exact hhi (q + i) (by omega) (by omega)
        have h3 := HK.out.2.2.2
        rw [← List.take_append_drop q A] at h3
        obtain ⟨s1, s2, s3⟩ := List.pairwise_append.1 h3
        refine ⟨A.take q ++ (x :: A.drop q), rfl, by simpa using hp, by simp; omega, ?_, ?_⟩
        · have e := Stb.swap (X := A.drop q) (Y := [x]) (fun u hu v hv => by obtain rfl := List.mem_singleton.1 hv; have := h2 u hu; omega)
          have e2 := (Stb.refl (A.take q)).append e
          rw [← List.append_assoc, List.take_append_drop] at e2
          simpa using e2
        · refine List.pairwise_append.2 ⟨s1, List.pairwise_cons.2 ⟨fun y hy => Nat.le_of_lt (h2 y hy), s2⟩, fun u hu v hv => ?_⟩
          rcases List.mem_cons.1 hv with rfl | hv
          · exact h1 u hu
          · exact s3 u hu v hv)
      clear hlo hhi hpr hqr hi d1 d2 d3 d4 d5
      go_wp2_with fail
      go_loopw [17] (fun kv wr => ∃ s : Nat, q ≤ s ∧ s ≤ A.length ∧ kv = .int .i64 ((a + s : Nat) : Int) ∧ PR W0 wr g n (X ++ (A.take s ++ (x :: (A.drop s ++ Y))))) (fun kv _ => (intOf kv).toNat)
      case atStart => exact ⟨A.length, HJ.out.2, Nat.le_refl _, by rw [HD.out.2.1], by simpa using HI.out.2.2.2.2⟩
      case round =>
        obtain ⟨s, hs, hsl, rfl, hpr⟩ := hrel
        have HS := Lib.hid (And.intro hs hpr)
        obtain ⟨d1, d2, d3, d4, d5⟩ := HD.out
        have hj1 := HJ.out.1
        by_cases hsq : q < s
        · obtain ⟨s', hs'⟩ : ∃ s', s = s' + 1 := ⟨s - 1, by omega⟩
          subst hs'
          have hsB : s' < A.length := by omega
          obtain ⟨y, hy⟩ : ∃ y, A[s'] = y := ⟨_, rfl⟩
          have e1 : X ++ (A.take (s' + 1) ++ (x :: (A.drop (s' + 1) ++ Y))) = (X ++ A.take s') ++ y :: x :: (A.drop (s' + 1) ++ Y) := by rw [← List.take_append_getElem hsB, hy]; simp
          have e2 : X ++ (A.take s' ++ (x :: (A.drop s' ++ Y))) = (X ++ A.take s') ++ x :: y :: (A.drop (s' + 1) ++ Y) := by rw [← List.getElem_cons_drop hsB, hy]; simp
          obtain ⟨p, hp⟩ : ∃ p, a + s' = p := ⟨_, rfl⟩
          obtain ⟨e, he⟩ : ∃ e, a + (s' + 1) = e := ⟨_, rfl⟩
          have hlen : (X ++ A.take s').length = p := by simp; omega
          have hpr2 := hpr
          rw [e1] at hpr2
          have ey : ((X ++ A.take s') ++ y :: x :: (A.drop (s' + 1) ++ Y))[p]? = some y := by rw [List.getElem?_append_right (by omega), show p - (X ++ A.take s').length = 0 by omega]; rfl
          have ex : ((X ++ A.take s') ++ y :: x :: (A.drop (s' + 1) ++ Y))[e]? = some x := by rw [List.getElem?_append_right (by omega), show e - (X ++ A.take s').length = 1 by omega]; rfl
          obtain ⟨k0, k1, ry⟩ := hpr2.at2 p _ ey
          obtain ⟨q0, q1, rx⟩ := hpr2.at2 e _ ex
          have hpl : p + 1 < ((X ++ A.take s') ++ y :: x :: (A.drop (s' + 1) ++ Y)).length := by rw [List.length_append]; simp; omega
          have hep : e = p + 1 := by omega
          have HSET := Lib.hid (show PR W0 ((((wr.setCell ⟨g, e * 2, none⟩ y.1).setCell ⟨g, e * 2 + 1, none⟩ (.int .u64 (y.2.v : Nat))).setCell ⟨g, p * 2, none⟩ x.1).setCell ⟨g, p * 2 + 1, none⟩ (.int .u64 (x.2.v : Nat))) g n (X ++ (A.take s' ++ (x :: (A.drop s' ++ Y)))) from by
            have h9 := (hpr2.set (j := e) (by omega) y ry).set (j := p) (by rw [List.length_set]; omega) x rx
            have h8 := swap_mid (X ++ A.take s') y x (A.drop (s' + 1) ++ Y)
            rw [hlen, ← hep] at h8
            rw [h8, ← e2] at h9
            exact h9)
          have hth := fun r => hpr.thaw r
          have hgl := hpr.lt
          obtain ⟨ux, px, vx⟩ := x
          obtain ⟨uy, py, vy⟩ := y
          simp only at k0 k1 q0 q1 rx ry
          have hp1 : (e : Int) > (i : Int) := by omega
          have hp2 : (p : Int) < (m : Int) := by omega
          have hp3 : (0 : Int) ≤ (p : Int) := by omega
          have hp4 : (e : Int) < (m : Int) := by omega
          have hp5 : (0 : Int) ≤ (e : Int) := by omega
          have hp8 : ¬ e = p := by omega
          have HPN := Lib.hid (show q ≤ s' ∧ s' ≤ A.length ∧ p = a + s' ∧ ((p : Nat) : Int).toNat < ((e : Nat) : Int).toNat from by omega)
          have HW4 := Lib.hid (show wrap64 ((e : Int) - 1) = (p : Int) from by have := wrap_sub (a := e) (i := 1) (p := p) (by omega) (by omega); exact this)
          obtain ⟨Ax, cx, rfl, _⟩ := RdU.point rx
          obtain ⟨Ay, cy, rfl, _⟩ := RdU.point ry
          rw [he]
          have hw4 := HW4.out
          clear hpr hpr2 hy e1 e2 ex ey rx ry hp he hep hlen hpl hs d1 d2 d3 d4 d5 hsq hj1 hsl hsB
          go_wp2_with fail
          go_region
          go_wp2_with fail
          refine ⟨⟨s', HPN.out.1, HPN.out.2.1, by rw [hw4, HPN.out.2.2.1], HSET.out.step (by repeat (first | exact Below.refl _ _ | (refine Below.drew ?_) | (refine below_drewN' ?_ _)))⟩, ?_⟩
          rw [intOf_of' hw4, intOf_nat]
          exact HPN.out.2.2.2
        · obtain rfl : s = q := by omega
          have hp1 : ¬ (i : Int) > (i : Int) := by omega
          rw [hj1]
          clear hpr hs d1 d2 d3 d4 d5 hj1
          go_wp2_with fail
          go_end0
          exact HF.out _ HS.out.2
end Go.Proofs.YtjokcagggmjgmaaGreat
/-! SrtI -/
namespace Go.Proofs.YtjokcagggmjgmaaGreat
open Go.RowKit
set_option linter.unusedVariables false
set_option linter.unusedSimpArgs false
set_option maxRecDepth 100000

/-- the key at a place -/
def kAt (l : List Pe) (i : Nat) : Nat := ((l[i]?).map ek).getD 0
theorem kAt_eq {l : List Pe} {i : Nat} (h : i < l.length) : kAt l i = ek l[i] := by unfold kAt; rw [List.getElem?_eq_getElem h]; rfl
theorem Srt.kAt {l : List Pe} (h : Srt l) {i j : Nat} (hij : i ≤ j) (hj : j < l.length) : Go.Proofs.YtjokcagggmjgmaaGreat.kAt l i ≤ Go.Proofs.YtjokcagggmjgmaaGreat.kAt l j := by
  rw [kAt_eq (by omega), kAt_eq hj]
  by_cases e : i = j
  · subst e; exact Nat.le_refl _
  · exact List.pairwise_iff_getElem.1 h i j (by omega) hj (by omega)
/-- where the runs are cut: the places -/
structure CutB (a mm b mid lo hi : Nat) : Prop where
  md : mid = (a + b) / 2
  am : a < mm
  mb : mm < b
  la : a ≤ lo
  lh : lo ≤ hi
  hm : hi ≤ mm
  hd : hi ≤ mid
  lb : mid + mm ≤ lo + b
  e1 : lo = a ∨ lo + b = mid + mm
  e2 : hi = mid ∨ hi = mm
theorem CutB.of {a mm b mid : Nat} (md : mid = (a + b) / 2) (am : a < mm) (mb : mm < b) : CutB a mm b mid (if mm > mid then mid + mm - b else a) (if mm > mid then mid else mm) := by
  by_cases h : mm > mid
  · rw [if_pos h, if_pos h]
    exact ⟨md, am, mb, by omega, by omega, by omega, by omega, by omega, by omega, by omega⟩
  · rw [if_neg h, if_neg h]
    exact ⟨md, am, mb, by omega, by omega, by omega, by omega, by omega, by omega, by omega⟩
/-- what is known of the search -/
structure CutI (A B : List Pe) (a mm b mid lo hi st r : Nat) : Prop where
  l1 : lo ≤ st
  l2 : st ≤ r
  l3 : r ≤ hi
  low : ∀ c, lo ≤ c → c < st → kAt A (c - a) ≤ kAt B (mid + mm - 1 - c - mm)
  high : ∀ c, r ≤ c → c < hi → kAt B (mid + mm - 1 - c - mm) < kAt A (c - a)
theorem CutI.up {A B : List Pe} {a mm b mid lo hi st r c : Nat} (h : CutI A B a mm b mid lo hi st r) (hb : CutB a mm b mid lo hi) (hA : Srt A) (hB : Srt B) (la : a + A.length = mm) (lb : mm + B.length = b) (h1 : st ≤ c) (h2 : c < r)
    (hc : ¬ kAt B (mid + mm - 1 - c - mm) < kAt A (c - a)) : CutI A B a mm b mid lo hi (c + 1) r := by
  obtain ⟨x1, x2, x3, x4, x5, x6, x7, x8, _, _⟩ := hb
  obtain ⟨y1, y2, y3, y4, y5⟩ := h
  refine ⟨by omega, by omega, y3, fun d d1 d2 => ?_, y5⟩
  have z1 := hA.kAt (i := d - a) (j := c - a) (by omega) (by omega)
  have z2 := hB.kAt (i := mid + mm - 1 - c - mm) (j := mid + mm - 1 - d - mm) (by omega) (by omega)
  omega
theorem CutI.down {A B : List Pe} {a mm b mid lo hi st r c : Nat} (h : CutI A B a mm b mid lo hi st r) (hb : CutB a mm b mid lo hi) (hA : Srt A) (hB : Srt B) (la : a + A.length = mm) (lb : mm + B.length = b) (h1 : st ≤ c) (h2 : c < r)
    (hc : kAt B (mid + mm - 1 - c - mm) < kAt A (c - a)) : CutI A B a mm b mid lo hi st c := by
  obtain ⟨x1, x2, x3, x4, x5, x6, x7, x8, _, _⟩ := hb
  obtain ⟨y1, y2, y3, y4, y5⟩ := h
  refine ⟨y1, by omega, by omega, y4, fun d d1 d2 => ?_⟩
  have z1 := hA.kAt (i := c - a) (j := d - a) (by omega) (by omega)
  have z2 := hB.kAt (i := mid + mm - 1 - d - mm) (j := mid + mm - 1 - c - mm) (by omega) (by omega)
  omega
/-- the runs, cut -/
structure CutR (A B A1 A2 B1 B2 : List Pe) (a mm b mid st : Nat) : Prop where
  ea : A = A1 ++ A2
  eb : B = B1 ++ B2
  l1 : a + A1.length = st
  l2 : st + A2.length = mm
  l3 : st + B1.length = mid
  l4 : mid + A2.length + B2.length = b
  lt : ∀ x ∈ B1, ∀ y ∈ A2, ek x < ek y
  le : ∀ x ∈ A1, ∀ y ∈ B2, ek x ≤ ek y
theorem mem_kAt {l : List Pe} {x : Pe} (h : x ∈ l) : ∃ i, i < l.length ∧ ek x = kAt l i := by
  obtain ⟨i, hi, rfl⟩ := List.mem_iff_getElem.1 h
  exact ⟨i, hi, (kAt_eq hi).symm⟩
theorem kAt_left {l m : List Pe} {i : Nat} (h : i < l.length) : kAt (l ++ m) i = kAt l i := by unfold kAt; rw [List.getElem?_append_left h]
theorem kAt_right {l m : List Pe} {i : Nat} : kAt (l ++ m) (l.length + i) = kAt m i := by unfold kAt; rw [List.getElem?_append_right (by omega), Nat.add_sub_cancel_left]
theorem CutI.cut {A B : List Pe} {a mm b mid lo hi st : Nat} (h : CutI A B a mm b mid lo hi st st) (hb : CutB a mm b mid lo hi) (hA : Srt A) (hB : Srt B) (la : a + A.length = mm) (lb : mm + B.length = b) :
    CutR A B (A.take (st - a)) (A.drop (st - a)) (B.take (mid - st)) (B.drop (mid - st)) a mm b mid st := by
  obtain ⟨x1, x2, x3, x4, x5, x6, x7, x8, x9, x10⟩ := hb
  obtain ⟨y1, y2, y3, y4, y5⟩ := h
  have q1 : (A.take (st - a)).length = st - a := by rw [List.length_take]; omega
  have q2 : (B.take (mid - st)).length = mid - st := by rw [List.length_take]; omega
  have eA : A = A.take (st - a) ++ A.drop (st - a) := (List.take_append_drop _ _).symm
  have eB : B = B.take (mid - st) ++ B.drop (mid - st) := (List.take_append_drop _ _).symm
  refine ⟨eA, eB, by omega, by rw [List.length_drop]; omega, by omega, by rw [List.length_drop, List.length_drop]; omega, fun x hx y hy => ?_, fun x hx y hy => ?_⟩
  · obtain ⟨i, hi, ei⟩ := mem_kAt hx
    obtain ⟨j, hj, ej⟩ := mem_kAt hy
    have e1 := kAt_left (m := B.drop (mid - st)) hi
    have e2 := kAt_right (l := A.take (st - a)) (m := A.drop (st - a)) (i := j)
    rw [← eB] at e1
    rw [← eA, q1] at e2
    rw [ei, ej, ← e1, ← e2]
    rw [q2] at hi
    rw [List.length_drop] at hj
    have z0 := y5 st (Nat.le_refl _) (by omega)
    have z1 := hA.kAt (i := st - a) (j := st - a + j) (by omega) (by omega)
    have z2 := hB.kAt (i := i) (j := mid + mm - 1 - st - mm) (by omega) (by omega)
    omega
  · obtain ⟨i, hi, ei⟩ := mem_kAt hx
    obtain ⟨j, hj, ej⟩ := mem_kAt hy
    have e1 := kAt_left (m := A.drop (st - a)) hi
    have e2 := kAt_right (l := B.take (mid - st)) (m := B.drop (mid - st)) (i := j)
    rw [← eA] at e1
    rw [← eB, q2] at e2
    rw [ei, ej, ← e1, ← e2]
    rw [q1] at hi
    rw [List.length_drop] at hj
    have z0 := y4 (st - 1) (by omega) (by omega)
    have z1 := hA.kAt (i := i) (j := st - 1 - a) (by omega) (by omega)
    have z2 := hB.kAt (i := mid + mm - 1 - (st - 1) - mm) (j := mid - st + j) (by omega) (by omega)
    omega
end Go.Proofs.YtjokcagggmjgmaaGreat
