/-
  Texts that the proof of BulkMaps leans on, part 7: contracts of functions, and plain laws.
-/
import Derived.Test.YtjokcagggmjgmaaGreatMBulkMaps6
import Derived.Laws.EntriesVeiled
import Derived.Deep.Slices
import Derived.Deep.Fields
import Derived.ChangeSame
import Derived.ProofKit
import Derived.OpenShut
/-! SrtD -/
namespace Go.Proofs.YtjokcagggmjgmaaGreat
open Go.RowKit
set_option linter.unusedVariables false
set_option linter.unusedSimpArgs false
set_option maxRecDepth 100000

theorem PR.room {W0 w : World} {g n : Nat} {xs : List Pe} (h : PR W0 w g n xs) (j : Nat) (hj : j < n * 2) : (w.cell? ⟨g, j, none⟩).isSome = true := by
  obtain ⟨cur, h1, h2, _⟩ := h.cells
  simp [World.cell?, h1, h2, hj]
theorem wpList_append_room {W0 w : World} {ops : Array Oper} {rest : List Oper} {o : Oper} {a : Act} {Q : Exit → Act → World → Prop} (hgd : o.guard = none) (s x : Operand)
    (ho : o.op = .call { callee := .builtin .append, args := #[s, x], argTypes := #[28, 28] }) (g n r b2 cc : Nat) (xs : List Pe) (u : Value) (v : Nat) (hpr : PR W0 w g n xs) (hr : r < n)
    (hs : a.eval s = .slice (some ⟨g, 0, none⟩) r n) (hx : a.eval x = .slice (some ⟨b2, 0, none⟩) 1 cc) (h0 : w.cell? ⟨b2, 0, none⟩ = some u) (h1 : w.cell? ⟨b2, 1, none⟩ = some (.int .u64 (v : Nat))) (hu : u.oneCell' = true)
    (h : wpList Tryz.prog ops Q rest (a.put o.dst (.slice (some ⟨g, 0, none⟩) (r + 1) n)) ((w.setCell ⟨g, r * 2, none⟩ u).setCell ⟨g, r * 2 + 1, none⟩ (.int .u64 (v : Nat)))) : wpList Tryz.prog ops Q (o :: rest) a w := by
  obtain ⟨i, hi, hz0, hz1, hz2⟩ := info_parts entryInfo
  have hrun := run_append_room_cells (P := Tryz.prog) w 28 o.type 51 i Tryz.underlying28 hi g 0 r n ⟨b2, 0, none⟩ 1 cc [u, .int .u64 (v : Nat)] (by rw [hz1]; rfl) (fun j y hj => by
    match j with
    | 0 => simp at hj; subst hj; simpa [Addr.add] using h0
    | 1 => simp at hj; subst hj; simpa [Addr.add] using h1
    | j + 2 => simp at hj) (fun y hy => by
    rcases List.mem_cons.1 hy with rfl | hy
    · exact hu
    · obtain rfl := List.mem_singleton.1 hy; rfl) (by omega) (fun j hj => by
    rw [hz1]; exact hpr.room _ (by simp at hj; omega)) (fun j hj => by rw [hz1]; exact hpr.thaw _)
  rw [hz1, Nat.zero_add] at hrun
  rw [← hs, ← hx] at hrun
  exact wpList_append_run hgd s x ho hrun h
theorem isort_nil (w : World) (A : Option Addr) (c : Nat) : Calls Tryz.prog 178 #[.slice A 0 c, .int .i64 0, .int .i64 0, .func (.func 119) #[] #[]] w fun e w' => e = .returned (.tuple #[]) ∧ w' = w := by
  go_enter Tryz.func178, Tryz.ntmps178
  go_wp2_with fail
  go_loopw [8, 9] (fun iv _ wr => iv = .int .i64 1 ∧ wr = w) (fun _ _ _ => 0)
  case atStart => exact ⟨rfl, rfl⟩
  case round =>
    obtain ⟨rfl, hw⟩ := hrel
    subst hw
    go_wp2_with fail
    go_end0
    exact ⟨rfl, rfl⟩
theorem stc_nil (w : World) (A : Option Addr) (c : Nat) : Calls Tryz.prog 163 #[.slice A 0 c, .int .i64 0, .func (.func 119) #[] #[]] w fun e w' => e = .returned (.tuple #[]) ∧ w' = w := by
  have HI := Lib.hid (isort_nil w A c)
  go_enter Tryz.func163, Tryz.ntmps163
  go_wp2_with fail
  go_loopw [7, 8] (fun av bv wr => av = .int .i64 0 ∧ bv = .int .i64 20 ∧ wr = w) (fun _ _ _ => 0)
  case atStart => exact ⟨rfl, rfl, rfl⟩
  case round =>
    obtain ⟨rfl, rfl, hw⟩ := hrel
    subst hw
    go_wp2_with fail
    refine HI.out.mono ?_
    rintro e w2 ⟨rfl, hw2⟩
    obtain rfl := hw2.symm
    go_wp2_with fail
    go_loopw [6, 7, 8, 9] (fun bv _ _ _ wr8 => bv = .int .i64 20 ∧ wr8 = wr) (fun _ _ _ _ _ => 0)
    case atStart => exact ⟨rfl, rfl⟩
    case round =>
      obtain ⟨rfl, hw⟩ := hrel
      subst hw
      go_wp2_with fail
      go_end0
      exact ⟨rfl, rfl⟩
theorem stb_nil (w : World) (A : Option Addr) (c : Nat) : Calls Tryz.prog 118 #[.slice A 0 c, .func (.func 119) #[] #[]] w fun e w' => e = .returned (.tuple #[]) ∧ w' = w := by
  have HI := Lib.hid (stc_nil w A c)
  go_enter Tryz.func118, Tryz.ntmps118
  go_wp2_with fail
  refine HI.out.mono ?_
  rintro e w2 ⟨rfl, hw2⟩
  obtain rfl := hw2.symm
  go_wp2_with fail
  go_end0
  exact ⟨rfl, rfl⟩
/-- what stands ahead of a round: r are kept, from j on the row is as it was sorted -/
structure SrI (W0 wr : World) (g n : Nat) (ys zs : List Pe) (j r : Nat) : Prop where
  pr : PR W0 wr g n zs
  len : zs.length = ys.length
  rj : r ≤ j
  jm : j ≤ ys.length
  rest : ∀ i (h : i < ys.length) (h' : i < zs.length), j ≤ i → zs[i] = ys[i]
  out : zs.take r ++ lastsL (ys.drop j) = lastsL ys
theorem SrI.skip {W0 wr w' : World} {g n : Nat} {ys zs : List Pe} {j r : Nat} (h : SrI W0 wr g n ys zs j r) (hb : Below wr.heap.size wr w') (hj : j + 1 < ys.length) (he : ek (ys[j]'(by omega)) = ek ys[j + 1]) : SrI W0 w' g n ys zs (j + 1) r := by
  refine ⟨h.pr.step hb, h.len, by have := h.rj; omega, by omega, fun i h1 h2 h3 => h.rest i h1 h2 (by omega), ?_⟩
  rw [← h.out]
  congr 1
  rw [← List.getElem_cons_drop (show j < ys.length by omega), ← List.getElem_cons_drop hj]
  conv => rhs; unfold lastsL
  rw [if_pos he]
theorem SrI.take {W0 wr w' : World} {g n : Nat} {ys zs : List Pe} {j r : Nat} (h : SrI W0 wr g n ys zs j r) (hj : j < ys.length) (hne : ∀ h : j + 1 < ys.length, ek ys[j] ≠ ek (ys[j + 1]'h)) (hpr : PR W0 w' g n (zs.set r ys[j])) : SrI W0 w' g n ys (zs.set r ys[j]) (j + 1) (r + 1) := by
  have hrz : r < zs.length := by have := h.rj; have := h.len; omega
  refine ⟨hpr, by rw [List.length_set]; exact h.len, by have := h.rj; omega, by omega, fun i h1 h2 h3 => ?_, ?_⟩
  · rw [List.length_set] at h2
    rw [List.getElem_set_ne (by have := h.rj; omega)]
    exact h.rest i h1 h2 (by omega)
  · rw [← h.out, List.take_add_one, List.getElem?_set_self hrz]
    have e1 : (zs.set r ys[j]).take r = zs.take r := by rw [List.take_set_of_le (Nat.le_refl _)]
    rw [e1, List.append_assoc]
    congr 1
    rw [← List.getElem_cons_drop hj]
    by_cases hlast : j + 1 < ys.length
    · rw [← List.getElem_cons_drop hlast]
      conv => rhs; unfold lastsL
      rw [if_neg (hne hlast)]
      rfl
    · rw [List.drop_eq_nil_of_le (by omega)]
      rfl
theorem PR.rd {W0 w : World} {g n r : Nat} {zs : List Pe} {l : List En} (h : PR W0 w g n zs) (hr : r ≤ zs.length) (hn : n ≤ maxLen) (hl : (zs.take r).map (·.2) = l) : RdE w (.slice (some ⟨g, 0, none⟩) r n) l := by
  subst hl
  have hlen : ((zs.take r).map (·.2)).length = r := by simp; omega
  refine ⟨some ⟨g, 0, none⟩, n, by rw [hlen], ⟨by rw [hlen]; obtain ⟨_, _, _, h3, _⟩ := h.cells; omega, hn, fun _ => ⟨g, 0, rfl⟩⟩, fun _ => ⟨g, 0, rfl, fun q hq => ?_⟩⟩
  have hq' := hq
  rw [hlen] at hq'
  obtain ⟨a, b⟩ := h.at' q (by omega)
  have e : ((zs.take r).map (·.2))[q]'hq = (zs[q]'(by omega)).2 := by simp
  rw [e, Nat.zero_add]
  exact ⟨_, a, (h.pts _ (List.getElem_mem _)).below h.bel, b⟩
/-- a row of entries is handed back -/
def SrtR (W : World) (l : List En) (e : Ending) (w' : World) : Prop := ∃ v, e = .returned v ∧ RdE w' v l ∧ Below W.heap.size W w'
set_option maxHeartbeats 4000000 in
theorem sorted_any (N : Nat) (hS : SortOk N) (w : World) (k : Nat) (l : List En) (v : Value) (hv : RdE w v l) (hlN : l.length ≤ N) (hl : l.length ≤ 1000) (k1 : 1 ≤ k) (k16 : k ≤ 16) (hk : ∀ e ∈ l, e.p.length = k ∧ ∀ q ∈ e.p, q < 2 ^ 64) :
    Calls Tryz.prog 70 #[v] w fun e w' => SrtR w (putsL [] l) e w' := by
  have HC := Lib.hid (eclone_any w l v hv hl)
  obtain ⟨A0, c0, rfl, zz⟩ := hv
  clear zz
  by_cases hne : l = []
  · subst hne
    clear hk hl hlN hS
    go_enter Tryz.func70, Tryz.ntmps70
    go_wp2_with fail
    refine HC.out.mono ?_
    rintro e w1 ⟨v1, rfl, ho, hb⟩
    have hr := ho.rd hb
    obtain ⟨A1, c1, e1, hcc, _⟩ := ho.rd hb
    subst e1
    have HR := Lib.hid (And.intro hr (And.intro hcc hb))
    simp only [List.length_nil] at *
    clear ho hr hb hcc
    go_wp2_with fail
    refine (stb_nil w1 A1 c1).mono ?_
    rintro e w2 ⟨rfl, hw2⟩
    obtain rfl := hw2.symm
    clear hw2
    have h0c : (0 : Int) ≤ (c1 : Int) := by omega
    go_wp2_with fail
    go_loopw [4, 5, 6, 15] (fun ov _ _ iv wr => ov = .slice A1 0 c1 ∧ iv = .int .i64 0 ∧ wr = w1) (fun _ _ _ _ _ => 0)
    case atStart => exact ⟨rfl, rfl, rfl⟩
    case round =>
      obtain ⟨rfl, rfl, hw⟩ := hrel
      subst hw
      go_wp2_with fail
      go_ret
      exact ⟨_, rfl, ⟨A1, c1, rfl, HR.out.2.1, fun h => absurd h (by simp [putsL])⟩, HR.out.2.2⟩
  · have hls : 0 < l.length := List.length_pos_iff.2 hne
    have HD := Lib.hid (And.intro hne (And.intro hlN (And.intro hl (And.intro k1 (And.intro k16 hk)))))
    clear hk hl hlN k1 k16
    go_enter Tryz.func70, Tryz.ntmps70
    go_wp2_with fail
    refine HC.out.mono ?_
    rintro e w1 ⟨v1, rfl, ho, hb⟩
    obtain ⟨g, n, xs, rfl, hpr, hxl⟩ := ho.pr hb HD.out.1
    obtain ⟨_, _, e9, ⟨hcc1, hcc2, _⟩, _⟩ := ho.rd hb
    have hnm : n ≤ maxLen := by simp only [Value.slice.injEq] at e9; have := e9.2.2; omega
    have hlen : l.length = xs.length := by rw [← hxl]; simp
    have hxk : ∀ x ∈ xs, x.2.p.length = k ∧ ∀ q ∈ x.2.p, q < 2 ^ 64 := fun x hx => HD.out.2.2.2.2.2 x.2 (by rw [← hxl]; exact List.mem_map_of_mem hx)
    have HS := Lib.hid (hS w w1 g n n k xs (by have := HD.out.2.1; omega) (by intro h; rw [h, List.length_nil] at hlen; omega) HD.out.2.2.2.1 HD.out.2.2.2.2.1 hpr hxk)
    have HX := Lib.hid (And.intro hxl (And.intro hxk hnm))
    have HXL := Lib.hid (show xs.length ≤ 1000 by rw [← hlen]; exact HD.out.2.2.1)
    rw [hlen] at *
    clear ho hb hpr hxl hxk e9 hcc1 hcc2 hnm hlen
    go_wp2_with fail
    refine HS.out.mono ?_
    rintro e w2 ⟨ys, rfl, hp2, hyl, hst, hsr⟩
    have HY := Lib.hid (And.intro hp2 (And.intro hyl (And.intro hst hsr)))
    have hyk : ∀ y ∈ ys, y.2.p.length = k ∧ ∀ q ∈ y.2.p, q < 2 ^ 64 := fun y hy => HX.out.2.1 y (hst.mem.2 hy)
    have HYK := Lib.hid hyk
    obtain ⟨m, hm⟩ : ∃ m, xs.length = m := ⟨_, rfl⟩
    have HLN := Lib.hid (And.intro (hyl.trans hm) (show m ≤ 1000 by rw [← hm]; exact HXL.out))
    rw [hm] at *
    clear hp2 hst hsr hyk hyl hm HS
    have h0c : (0 : Int) ≤ (n : Int) := by omega
    go_wp2_with fail
    go_loopw [4, 5, 6, 15] (fun ov _ _ iv wr => ∃ (zs : List Pe) (j r : Nat), ov = .slice (some ⟨g, 0, none⟩) r n ∧ iv = .int .i64 (j : Nat) ∧ SrI w wr g n ys zs j r) (fun _ _ _ iv _ => m - (intOf iv).toNat)
    case atStart => exact ⟨ys, 0, 0, rfl, rfl, ⟨HY.out.1, rfl, Nat.le_refl _, Nat.zero_le _, fun i h1 h2 _ => rfl, by simp⟩⟩
    case round =>
      obtain ⟨zs, j, r, rfl, rfl, hI⟩ := hrel
      have HI := Lib.hid hI
      have hym : ys.length = m := HLN.out.1
      have hzm : zs.length = m := hI.len.trans hym
      have hm1000 := HLN.out.2
      by_cases hj : j < m
      · have hjz : j < zs.length := by omega
        have hjy : j < ys.length := by omega
        obtain ⟨q0, q1⟩ := hI.pr.at' j hjz
        have hzj := hI.rest j hjy hjz (Nat.le_refl _)
        have hmy : ys[j] ∈ ys := List.getElem_mem hjy
        have rux := hI.pr.pts zs[j] (List.getElem_mem hjz)
        rw [hzj] at q0 q1 rux
        obtain ⟨kx, ox⟩ := HYK.out _ hmy
        obtain ⟨X, hX⟩ : ∃ X, ys[j] = X := ⟨_, rfl⟩
        rw [hX] at q0 q1 rux kx ox
        obtain ⟨ux, px, vx⟩ := X
        simp only at q0 q1 rux kx ox
        have HRX := Lib.hid (And.intro hX (And.intro rux (And.intro kx ox)))
        obtain ⟨Ax, cx, hux, _⟩ := RdU.point rux
        rw [kx] at hux
        have HUX := Lib.hid hux
        rw [hux] at q0
        have hj1 : (0 : Int) ≤ (j : Int) := by omega
        have hj2 : (j : Int) < (m : Int) := by omega
        have hj3 : (0 : Int) ≤ (j : Int) + 1 := by omega
        have hgl := hI.pr.lt
        have hwj2 : IntKind.i64.wrap ((j : Int) + 1) = (j : Int) + 1 := by rw [IntKind.wrap_i64]; omega
        have hwj : wrap64 ((j : Int) + 1) = (j : Int) + 1 := by unfold wrap64; omega
        have HBI := Lib.hid (And.intro hj1 (And.intro hj2 (And.intro hwj hwj2)))
        clear hI hjz hzj hmy rux kx ox hX hux
        go_wp2_with fail
        obtain ⟨W, hW⟩ : ∃ W, wr.alloc (Obj.cells #[Value.slice Ax k cx, Value.int IntKind.u64 (vx : Nat)] 51) = W := ⟨_, rfl⟩
        have HBW := Lib.hid (show Below wr.heap.size wr W from hW ▸ below_alloc' (Below.refl _ _) _)
        obtain ⟨E, hE⟩ : ∃ E, wr.heap.size = E := ⟨_, rfl⟩
        have e0 : W.cell? ⟨E, 0, none⟩ = some (.slice Ax k cx) := by rw [← hW, ← hE]; simp only [World.cell?, heap_alloc_new]; rfl
        have e1 : W.cell? ⟨E, 1, none⟩ = some (.int .u64 (vx : Nat)) := by rw [← hW, ← hE]; simp only [World.cell?, heap_alloc_new]; rfl
        have hEl : E < W.heap.size := by rw [← hW, ← hE]; simp
        rw [hW, hE]
        replace q0 := Below.keeps HBW.out _ _ q0
        replace q1 := Below.keeps HBW.out _ _ q1
        have HGW := Lib.hid (show g < W.heap.size from Nat.lt_of_lt_of_le hgl HBW.out.size)
        have HRN := Lib.hid (show r < n by have := HI.out.rj; obtain ⟨_, _, _, h3, _⟩ := HI.out.pr.cells; have := HLN.out.1; have := HI.out.len; omega)
        clear hW hE hgl q0 q1
        by_cases hj5 : j + 1 < m
        · have hjz2 : j + 1 < zs.length := by omega
          have hjy2 : j + 1 < ys.length := by omega
          obtain ⟨k0, k1⟩ := HI.out.pr.at' (j + 1) hjz2
          have hzj := HI.out.rest (j + 1) hjy2 hjz2 (by omega)
          have ruy := HI.out.pr.pts zs[j + 1] (List.getElem_mem hjz2)
          rw [hzj] at k0 k1 ruy
          obtain ⟨ky, oy⟩ := HYK.out _ (List.getElem_mem hjy2)
          obtain ⟨Y, hY⟩ : ∃ Y, ys[j + 1] = Y := ⟨_, rfl⟩
          rw [hY] at k0 k1 ruy ky oy
          obtain ⟨uy, py, vy⟩ := Y
          simp only at k0 k1 ruy ky oy
          have HRY := Lib.hid (And.intro hY ky)
          have HOR := Lib.hid (fun W2 (hb2 : Below W.heap.size W W2) => order_any W2 px py ux uy vx vy (HRX.out.2.1.below (HI.out.pr.bel.trans ((below_trans HBW.out hb2).mono HI.out.pr.bel.size))) (ruy.below (HI.out.pr.bel.trans ((below_trans HBW.out hb2).mono HI.out.pr.bel.size))) (by rw [HRX.out.2.2.1, ky]) (by rw [HRX.out.2.2.1]; exact HD.out.2.2.2.1) (by rw [HRX.out.2.2.1]; exact HD.out.2.2.2.2.1) HRX.out.2.2.2 oy)
          obtain ⟨Ay, cy, huy, _⟩ := RdU.point ruy
          rw [ky] at huy
          rw [HUX.out, huy] at HOR
          rw [huy] at k0
          replace k0 := Below.keeps HBW.out _ _ k0
          replace k1 := Below.keeps HBW.out _ _ k1
          have hgl := HGW.out
          obtain ⟨z, hz⟩ : ∃ z, Zb.cmp px py = z := ⟨_, rfl⟩
          rw [hz] at HOR
          have HZ := Lib.hid (show z = 0 ↔ pkey px = pkey py from hz ▸ cmp_zero px py)
          obtain ⟨zb, hzb⟩ : ∃ zb, (z == 0) = zb := ⟨_, rfl⟩
          have HZB := Lib.hid (show zb = true ↔ z = 0 by rw [← hzb]; exact beq_iff_eq)
          have hj4 : (j : Int) + 1 < (m : Int) := by omega
          clear hz hzj ruy ky oy hY huy hym hzm hm1000
          refine wp_region_vals 14 [fun z9 _ => z9 = .int .i64 (j : Nat),
            fun z9 _ => z9 = .int .i64 ((j : Int) + 1),
            fun z9 _ => z9 = .slice (some ⟨g, 0, none⟩) m n,
            fun z9 _ => z9 = .int .i64 (m : Nat),
            fun z9 _ => z9 = .bool true,
            fun z9 _ => z9 = .bool true,
            fun z9 _ => z9 = .agg #[.slice Ax k cx, .int .u64 (vx : Nat)],
            fun z9 _ => z9 = .slice (some ⟨g, 0, none⟩) m n,
            fun z9 _ => z9 = .int .i64 (j : Nat),
            fun z9 _ => z9 = .int .i64 ((j : Int) + 1),
            fun z9 _ => z9 = .pointer (some ⟨g, (j + 1) * 2, none⟩),
            fun z9 _ => z9 = .agg #[.slice Ay k cy, .int .u64 (vy : Nat)],
            fun z9 _ => z9 = .int .i64 z,
            fun z9 _ => z9 = .bool zb]
            (by kernel_rfl) (by kernel_rfl) (by kernel_rfl) (by kernel_rfl) ?_ ?_ ?_
          · intro V hV v w1 w2 h hb
            simp only [List.mem_cons, List.not_mem_nil, or_false] at hV
            rcases hV with rfl | rfl | rfl | rfl | rfl | rfl | rfl | rfl | rfl | rfl | rfl | rfl | rfl | rfl
            all_goals first | exact h | (exact h)
          · intro iq oq hiq hoq
            match iq, hiq with
            | 0, _ =>
            obtain rfl := Option.some.inj hoq
            intro a1 w1 K hk hK
            have e5 : a1.tmps.getD 5 undef = .int .i64 (j : Nat) := hk.same 5 (by simp)
            simp [Region.wanted, Oper.wp, Act.eval, go_sem, e5, e0, e1, k0, k1, hj1, hj2, hj3, hj4, hj5, hEl, hgl, hzb, hwj, hwj2]
            exact hK _ _ (Below.refl _ _) rfl
            | 1, _ =>
            obtain rfl := Option.some.inj hoq
            intro a1 w1 K hk hK
            have d20 : a1.tmps.getD 20 undef = .int .i64 (j : Nat) := hk.deps ⟨0, .data⟩ (by simp) rfl _ _ rfl rfl
            simp [Region.wanted, Oper.wp, Act.eval, go_sem, d20, e0, e1, k0, k1, hj1, hj2, hj3, hj4, hj5, hEl, hgl, hzb, hwj, hwj2]
            exact hK _ _ (Below.refl _ _) rfl
            | 2, _ =>
            obtain rfl := Option.some.inj hoq
            intro a1 w1 K hk hK
            have e3 : a1.tmps.getD 3 undef = .slice (some ⟨g, 0, none⟩) m n := hk.same 3 (by simp)
            simp [Region.wanted, Oper.wp, Act.eval, go_sem, e3, e0, e1, k0, k1, hj1, hj2, hj3, hj4, hj5, hEl, hgl, hzb, hwj, hwj2]
            exact hK _ _ (Below.refl _ _) rfl
            | 3, _ =>
            obtain rfl := Option.some.inj hoq
            intro a1 w1 K hk hK
            have d22 : a1.tmps.getD 22 undef = .slice (some ⟨g, 0, none⟩) m n := hk.deps ⟨2, .data⟩ (by simp) rfl _ _ rfl rfl
            simp [Region.wanted, Oper.wp, Act.eval, go_sem, d22, e0, e1, k0, k1, hj1, hj2, hj3, hj4, hj5, hEl, hgl, hzb, hwj, hwj2]
            exact hK _ _ (Below.refl _ _) rfl
            | 4, _ =>
            obtain rfl := Option.some.inj hoq
            intro a1 w1 K hk hK
            have d21 : a1.tmps.getD 21 undef = .int .i64 ((j : Int) + 1) := hk.deps ⟨1, .data⟩ (by simp) rfl _ _ rfl rfl
            have d23 : a1.tmps.getD 23 undef = .int .i64 (m : Nat) := hk.deps ⟨3, .data⟩ (by simp) rfl _ _ rfl rfl
            simp [Region.wanted, Oper.wp, Act.eval, go_sem, d21, d23, e0, e1, k0, k1, hj1, hj2, hj3, hj4, hj5, hEl, hgl, hzb, hwj, hwj2]
            exact hK _ _ (Below.refl _ _) rfl
            | 5, _ =>
            obtain rfl := Option.some.inj hoq
            intro a1 w1 K hk hK
            have d24 : a1.tmps.getD 24 undef = .bool true := hk.deps ⟨4, .data⟩ (by simp) rfl _ _ rfl rfl
            simp [Region.wanted, Oper.wp, Act.eval, go_sem, d24, e0, e1, k0, k1, hj1, hj2, hj3, hj4, hj5, hEl, hgl, hzb, hwj, hwj2]
            exact hK _ _ (Below.refl _ _) rfl
            | 6, _ =>
            obtain rfl := Option.some.inj hoq
            intro a1 w1 K hk hK
            have e6 : a1.tmps.getD 6 undef = .pointer (some ⟨E, 0, none⟩) := hk.same 6 (by simp)
            have gd : a1.tmps[25]? = some (.bool true) := getD_bool (hk.deps ⟨5, .guard⟩ (by simp) rfl _ _ rfl rfl)
            have c0 : w1.cell? ⟨E, 0, none⟩ = some (.slice Ax k cx) := Below.keeps hk.ext _ _ (by simp [go_sem, e0, e1, k0, k1, hj1, hj2, hj3, hj4, hj5, hEl, hgl, hzb, hwj, hwj2])
            have c1 : w1.cell? ⟨E, 1, none⟩ = some (.int .u64 (vx : Nat)) := Below.keeps hk.ext _ _ (by simp [go_sem, e0, e1, k0, k1, hj1, hj2, hj3, hj4, hj5, hEl, hgl, hzb, hwj, hwj2])
            have c2 : w1.cell? ⟨g, (j + 1) * 2, none⟩ = some (.slice Ay k cy) := Below.keeps hk.ext _ _ (by simp [go_sem, e0, e1, k0, k1, hj1, hj2, hj3, hj4, hj5, hEl, hgl, hzb, hwj, hwj2])
            have c3 : w1.cell? ⟨g, (j + 1) * 2 + 1, none⟩ = some (.int .u64 (vy : Nat)) := Below.keeps hk.ext _ _ (by simp [go_sem, e0, e1, k0, k1, hj1, hj2, hj3, hj4, hj5, hEl, hgl, hzb, hwj, hwj2])
            simp [Region.wanted, Oper.wp, Act.eval, go_sem, e6, gd, yielded, c0, c1, c2, c3, e0, e1, k0, k1, hj1, hj2, hj3, hj4, hj5, hEl, hgl, hzb, hwj, hwj2]
            exact hK _ _ (Below.refl _ _) rfl
            | 7, _ =>
            obtain rfl := Option.some.inj hoq
            intro a1 w1 K hk hK
            have e3 : a1.tmps.getD 3 undef = .slice (some ⟨g, 0, none⟩) m n := hk.same 3 (by simp)
            have gd : a1.tmps[25]? = some (.bool true) := getD_bool (hk.deps ⟨5, .guard⟩ (by simp) rfl _ _ rfl rfl)
            simp [Region.wanted, Oper.wp, Act.eval, go_sem, e3, gd, yielded, e0, e1, k0, k1, hj1, hj2, hj3, hj4, hj5, hEl, hgl, hzb, hwj, hwj2]
            exact hK _ _ (Below.refl _ _) rfl
            | 8, _ =>
            obtain rfl := Option.some.inj hoq
            intro a1 w1 K hk hK
            have e5 : a1.tmps.getD 5 undef = .int .i64 (j : Nat) := hk.same 5 (by simp)
            have gd : a1.tmps[25]? = some (.bool true) := getD_bool (hk.deps ⟨5, .guard⟩ (by simp) rfl _ _ rfl rfl)
            simp [Region.wanted, Oper.wp, Act.eval, go_sem, e5, gd, yielded, e0, e1, k0, k1, hj1, hj2, hj3, hj4, hj5, hEl, hgl, hzb, hwj, hwj2]
            exact hK _ _ (Below.refl _ _) rfl
            | 9, _ =>
            obtain rfl := Option.some.inj hoq
            intro a1 w1 K hk hK
            have d28 : a1.tmps.getD 28 undef = .int .i64 (j : Nat) := hk.deps ⟨8, .data⟩ (by simp) rfl _ _ rfl rfl
            have gd : a1.tmps[25]? = some (.bool true) := getD_bool (hk.deps ⟨5, .guard⟩ (by simp) rfl _ _ rfl rfl)
            simp [Region.wanted, Oper.wp, Act.eval, go_sem, d28, gd, yielded, e0, e1, k0, k1, hj1, hj2, hj3, hj4, hj5, hEl, hgl, hzb, hwj, hwj2]
            exact hK _ _ (Below.refl _ _) rfl
            | 10, _ =>
            obtain rfl := Option.some.inj hoq
            intro a1 w1 K hk hK
            have d27 : a1.tmps.getD 27 undef = .slice (some ⟨g, 0, none⟩) m n := hk.deps ⟨7, .data⟩ (by simp) rfl _ _ rfl rfl
            have d29 : a1.tmps.getD 29 undef = .int .i64 ((j : Int) + 1) := hk.deps ⟨9, .data⟩ (by simp) rfl _ _ rfl rfl
            have gd : a1.tmps[25]? = some (.bool true) := getD_bool (hk.deps ⟨5, .guard⟩ (by simp) rfl _ _ rfl rfl)
            simp [Region.wanted, Oper.wp, Act.eval, go_sem, d27, d29, gd, yielded, e0, e1, k0, k1, hj1, hj2, hj3, hj4, hj5, hEl, hgl, hzb, hwj, hwj2]
            exact hK _ _ (Below.refl _ _) rfl
            | 11, _ =>
            obtain rfl := Option.some.inj hoq
            intro a1 w1 K hk hK
            have d30 : a1.tmps.getD 30 undef = .pointer (some ⟨g, (j + 1) * 2, none⟩) := hk.deps ⟨10, .data⟩ (by simp) rfl _ _ rfl rfl
            have gd : a1.tmps[25]? = some (.bool true) := getD_bool (hk.deps ⟨5, .guard⟩ (by simp) rfl _ _ rfl rfl)
            have c0 : w1.cell? ⟨E, 0, none⟩ = some (.slice Ax k cx) := Below.keeps hk.ext _ _ (by simp [go_sem, e0, e1, k0, k1, hj1, hj2, hj3, hj4, hj5, hEl, hgl, hzb, hwj, hwj2])
            have c1 : w1.cell? ⟨E, 1, none⟩ = some (.int .u64 (vx : Nat)) := Below.keeps hk.ext _ _ (by simp [go_sem, e0, e1, k0, k1, hj1, hj2, hj3, hj4, hj5, hEl, hgl, hzb, hwj, hwj2])
            have c2 : w1.cell? ⟨g, (j + 1) * 2, none⟩ = some (.slice Ay k cy) := Below.keeps hk.ext _ _ (by simp [go_sem, e0, e1, k0, k1, hj1, hj2, hj3, hj4, hj5, hEl, hgl, hzb, hwj, hwj2])
            have c3 : w1.cell? ⟨g, (j + 1) * 2 + 1, none⟩ = some (.int .u64 (vy : Nat)) := Below.keeps hk.ext _ _ (by simp [go_sem, e0, e1, k0, k1, hj1, hj2, hj3, hj4, hj5, hEl, hgl, hzb, hwj, hwj2])
            simp [Region.wanted, Oper.wp, Act.eval, go_sem, d30, gd, yielded, c0, c1, c2, c3, e0, e1, k0, k1, hj1, hj2, hj3, hj4, hj5, hEl, hgl, hzb, hwj, hwj2]
            exact hK _ _ (Below.refl _ _) rfl
            | 12, _ =>
            obtain rfl := Option.some.inj hoq
            intro a1 w1 K hk hK
            have d26 : a1.tmps.getD 26 undef = .agg #[.slice Ax k cx, .int .u64 (vx : Nat)] := hk.deps ⟨6, .data⟩ (by simp) rfl _ _ rfl rfl
            have d31 : a1.tmps.getD 31 undef = .agg #[.slice Ay k cy, .int .u64 (vy : Nat)] := hk.deps ⟨11, .data⟩ (by simp) rfl _ _ rfl rfl
            have gd : a1.tmps[25]? = some (.bool true) := getD_bool (hk.deps ⟨5, .guard⟩ (by simp) rfl _ _ rfl rfl)
            simp [Region.wanted, Oper.wp, Act.eval, go_sem, d26, d31, gd, yielded, e0, e1, k0, k1, hj1, hj2, hj3, hj4, hj5, hEl, hgl, hzb, hwj, hwj2]
            refine (HOR.out _ (below_trans (by repeat (first | exact Below.refl _ _ | (refine Below.drew ?_) | (refine below_drewN' ?_ _) | (refine below_alloc' ?_ _) | (refine Below.setCell ?_ (by first | exact Nat.le_refl _ | (simp; done) | (simp; omega)) _))) hk.ext)).mono ?_
            rintro e w9 ⟨rfl, hb9⟩
            exact hK _ _ hb9 rfl
            | 13, _ =>
            obtain rfl := Option.some.inj hoq
            intro a1 w1 K hk hK
            have d32 : a1.tmps.getD 32 undef = .int .i64 z := hk.deps ⟨12, .data⟩ (by simp) rfl _ _ rfl rfl
            have gd : a1.tmps[25]? = some (.bool true) := getD_bool (hk.deps ⟨5, .guard⟩ (by simp) rfl _ _ rfl rfl)
            simp [Region.wanted, Oper.wp, Act.eval, go_sem, d32, gd, yielded, e0, e1, k0, k1, hj1, hj2, hj3, hj4, hj5, hEl, hgl, hzb, hwj, hwj2]
            exact hK _ _ (Below.refl _ _) rfl
          · intro vs w3 hl hb3 hv
            match vs, hl with
            | [v0, v1, v2, v3, v4, v5, v6, v7, v8, v9, v10, v11, v12, v13], _ =>
            obtain rfl : v0 = .int .i64 (j : Nat) := hv 0 (by omega)
            obtain rfl : v1 = .int .i64 ((j : Int) + 1) := hv 1 (by omega)
            obtain rfl : v2 = .slice (some ⟨g, 0, none⟩) m n := hv 2 (by omega)
            obtain rfl : v3 = .int .i64 (m : Nat) := hv 3 (by omega)
            obtain rfl : v4 = .bool true := hv 4 (by omega)
            obtain rfl : v5 = .bool true := hv 5 (by omega)
            obtain rfl : v6 = .agg #[.slice Ax k cx, .int .u64 (vx : Nat)] := hv 6 (by omega)
            obtain rfl : v7 = .slice (some ⟨g, 0, none⟩) m n := hv 7 (by omega)
            obtain rfl : v8 = .int .i64 (j : Nat) := hv 8 (by omega)
            obtain rfl : v9 = .int .i64 ((j : Int) + 1) := hv 9 (by omega)
            obtain rfl : v10 = .pointer (some ⟨g, (j + 1) * 2, none⟩) := hv 10 (by omega)
            obtain rfl : v11 = .agg #[.slice Ay k cy, .int .u64 (vy : Nat)] := hv 11 (by omega)
            obtain rfl : v12 = .int .i64 z := hv 12 (by omega)
            obtain rfl : v13 = .bool zb := hv 13 (by omega)
            clear hv
            simp only [putAll, List.take_succ_cons, List.take_zero, List.drop_succ_cons, List.drop_zero, Act.put, List.setIfInBounds_toArray, List.set_cons_succ, List.set_cons_zero]
            cases zb with
            | true =>
              have HNX := Lib.hid (HI.out.skip (show Below wr.heap.size wr w3 from below_trans HBW.out hb3) (by rw [HLN.out.1]; exact hj5) (by have := HZ.out.1 (HZB.out.1 rfl); rw [HRX.out.1, HRY.out.1]; exact this))
              go_wp2_with fail
              go_roundw
              case rel =>
                skip
                exact ⟨zs, j + 1, r, rfl, by first | (rw [hwj]; rfl) | rfl, HNX.out⟩
              case measure => first | (rw [intOf_of' hwj, intOf_of' rfl]; omega) | (rw [intOf_of' rfl, intOf_of' rfl]; omega) | (simp [intOf]; omega)
            | false =>
              have HNE := Lib.hid (show ∀ h : j + 1 < ys.length, ek (ys[j]'(by omega)) ≠ ek (ys[j + 1]'h) from fun h hh => by rw [HRX.out.1, HRY.out.1] at hh; exact Bool.noConfusion (HZB.out.2 (HZ.out.2 hh)))
              clear k0 k1 hgl
              have HPW := Lib.hid (HI.out.pr.step (below_trans HBW.out hb3))
              have HBB := Lib.hid (show Below wr.heap.size wr w3 from below_trans HBW.out hb3)
              replace e0 := Below.keeps hb3 _ _ e0
              replace e1 := Below.keeps hb3 _ _ e1
              replace hEl := Nat.lt_of_lt_of_le hEl hb3.size
              clear hb3
              have hrm : r < n := HRN.out
              go_wp2_with ((at_builtin; refine wpList_append_room (W0 := w) rfl (.tmp 35) (.tmp 37) rfl g n r _ _ zs (.slice Ax k cx) vx (HPW.out.step (by repeat (first | exact Below.refl _ _ | (refine Below.drew ?_) | (refine below_drewN' ?_ _) | (refine below_alloc' ?_ _) | (refine Below.setCell ?_ (by first | exact Nat.le_refl _ | (simp; done) | (simp; omega)) _)))) hrm rfl rfl ?_ ?_ rfl ?_))
              try case refine_1 => simp only [World.cell?, heap_alloc_new]; rfl
              try case refine_2 => simp only [World.cell?, heap_alloc_new]; rfl
              go_roundw
              case rel =>
                have hyj : j < ys.length := by rw [HLN.out.1]; exact hj
                have hrz : r < zs.length := by have := HI.out.rj; have := HI.out.len; omega
                have h5 := (HPW.out.step (show Below w3.heap.size w3 (w3.alloc (Obj.cells #[Value.slice Ax k cx, Value.int IntKind.u64 (vx : Nat)] 51)) from below_alloc' (Below.refl _ _) _)).set (j := r) hrz (⟨.slice Ax k cx, ⟨px, vx⟩⟩ : Pe) (by have := HRX.out.2.1; rw [HUX.out] at this; exact this)
                have h6 : ys[j] = (⟨.slice Ax k cx, ⟨px, vx⟩⟩ : Pe) := by rw [HRX.out.1, HUX.out]
                refine ⟨zs.set r ys[j], j + 1, r + 1, rfl, by first | (rw [hwj]; rfl) | rfl, HI.out.take hyj HNE.out ?_⟩
                rw [h6]
                exact h5
              case measure => first | (rw [intOf_of' hwj, intOf_of' rfl]; omega) | (rw [intOf_of' rfl, intOf_of' rfl]; omega) | (simp [intOf]; omega)
        · have HNE := Lib.hid (show ∀ h : j + 1 < ys.length, ek (ys[j]'(by omega)) ≠ ek (ys[j + 1]'h) from fun h hh => by have := HLN.out.1; omega)
          have hj4 : ¬ ((j : Int) + 1 < (m : Int)) := by omega
          clear hym hzm hm1000
          refine wp_region_vals 14 [fun z9 _ => z9 = .int .i64 (j : Nat),
            fun z9 _ => z9 = .int .i64 ((j : Int) + 1),
            fun z9 _ => z9 = .slice (some ⟨g, 0, none⟩) m n,
            fun z9 _ => z9 = .int .i64 (m : Nat),
            fun z9 _ => z9 = .bool false,
            fun z9 _ => z9 = .bool false,
            fun z9 _ => z9 = undef,
            fun z9 _ => z9 = undef,
            fun z9 _ => z9 = undef,
            fun z9 _ => z9 = undef,
            fun z9 _ => z9 = undef,
            fun z9 _ => z9 = undef,
            fun z9 _ => z9 = undef,
            fun z9 _ => z9 = undef]
            (by kernel_rfl) (by kernel_rfl) (by kernel_rfl) (by kernel_rfl) ?_ ?_ ?_
          · intro V hV v w1 w2 h hb
            simp only [List.mem_cons, List.not_mem_nil, or_false] at hV
            rcases hV with rfl | rfl | rfl | rfl | rfl | rfl | rfl | rfl | rfl | rfl | rfl | rfl | rfl | rfl
            all_goals first | exact h | (exact h)
          · intro iq oq hiq hoq
            match iq, hiq with
            | 0, _ =>
            obtain rfl := Option.some.inj hoq
            intro a1 w1 K hk hK
            have e5 : a1.tmps.getD 5 undef = .int .i64 (j : Nat) := hk.same 5 (by simp)
            simp [Region.wanted, Oper.wp, Act.eval, go_sem, e5, hj1, hj2, hj4, hwj, hwj2]
            exact hK _ _ (Below.refl _ _) rfl
            | 1, _ =>
            obtain rfl := Option.some.inj hoq
            intro a1 w1 K hk hK
            have d20 : a1.tmps.getD 20 undef = .int .i64 (j : Nat) := hk.deps ⟨0, .data⟩ (by simp) rfl _ _ rfl rfl
            simp [Region.wanted, Oper.wp, Act.eval, go_sem, d20, hj1, hj2, hj4, hwj, hwj2]
            exact hK _ _ (Below.refl _ _) rfl
            | 2, _ =>
            obtain rfl := Option.some.inj hoq
            intro a1 w1 K hk hK
            have e3 : a1.tmps.getD 3 undef = .slice (some ⟨g, 0, none⟩) m n := hk.same 3 (by simp)
            simp [Region.wanted, Oper.wp, Act.eval, go_sem, e3, hj1, hj2, hj4, hwj, hwj2]
            exact hK _ _ (Below.refl _ _) rfl
            | 3, _ =>
            obtain rfl := Option.some.inj hoq
            intro a1 w1 K hk hK
            have d22 : a1.tmps.getD 22 undef = .slice (some ⟨g, 0, none⟩) m n := hk.deps ⟨2, .data⟩ (by simp) rfl _ _ rfl rfl
            simp [Region.wanted, Oper.wp, Act.eval, go_sem, d22, hj1, hj2, hj4, hwj, hwj2]
            exact hK _ _ (Below.refl _ _) rfl
            | 4, _ =>
            obtain rfl := Option.some.inj hoq
            intro a1 w1 K hk hK
            have d21 : a1.tmps.getD 21 undef = .int .i64 ((j : Int) + 1) := hk.deps ⟨1, .data⟩ (by simp) rfl _ _ rfl rfl
            have d23 : a1.tmps.getD 23 undef = .int .i64 (m : Nat) := hk.deps ⟨3, .data⟩ (by simp) rfl _ _ rfl rfl
            simp [Region.wanted, Oper.wp, Act.eval, go_sem, d21, d23, hj1, hj2, hj4, hwj, hwj2]
            exact hK _ _ (Below.refl _ _) rfl
            | 5, _ =>
            obtain rfl := Option.some.inj hoq
            intro a1 w1 K hk hK
            have d24 : a1.tmps.getD 24 undef = .bool false := hk.deps ⟨4, .data⟩ (by simp) rfl _ _ rfl rfl
            simp [Region.wanted, Oper.wp, Act.eval, go_sem, d24, hj1, hj2, hj4, hwj, hwj2]
            exact hK _ _ (Below.refl _ _) rfl
            | 6, _ =>
            obtain rfl := Option.some.inj hoq
            intro a1 w1 K hk hK
            have e6 : a1.tmps.getD 6 undef = .pointer (some ⟨E, 0, none⟩) := hk.same 6 (by simp)
            have gd : a1.tmps[25]? = some (.bool false) := getD_bool (hk.deps ⟨5, .guard⟩ (by simp) rfl _ _ rfl rfl)
            simp [Region.wanted, Oper.wp, Act.eval, go_sem, e6, gd, yielded, hj1, hj2, hj4, hwj, hwj2]
            exact hK _ _ (Below.refl _ _) rfl
            | 7, _ =>
            obtain rfl := Option.some.inj hoq
            intro a1 w1 K hk hK
            have e3 : a1.tmps.getD 3 undef = .slice (some ⟨g, 0, none⟩) m n := hk.same 3 (by simp)
            have gd : a1.tmps[25]? = some (.bool false) := getD_bool (hk.deps ⟨5, .guard⟩ (by simp) rfl _ _ rfl rfl)
            simp [Region.wanted, Oper.wp, Act.eval, go_sem, e3, gd, yielded, hj1, hj2, hj4, hwj, hwj2]
            exact hK _ _ (Below.refl _ _) rfl
            | 8, _ =>
            obtain rfl := Option.some.inj hoq
            intro a1 w1 K hk hK
            have e5 : a1.tmps.getD 5 undef = .int .i64 (j : Nat) := hk.same 5 (by simp)
            have gd : a1.tmps[25]? = some (.bool false) := getD_bool (hk.deps ⟨5, .guard⟩ (by simp) rfl _ _ rfl rfl)
            simp [Region.wanted, Oper.wp, Act.eval, go_sem, e5, gd, yielded, hj1, hj2, hj4, hwj, hwj2]
            exact hK _ _ (Below.refl _ _) rfl
            | 9, _ =>
            obtain rfl := Option.some.inj hoq
            intro a1 w1 K hk hK
            have d28 : a1.tmps.getD 28 undef = undef := hk.deps ⟨8, .data⟩ (by simp) rfl _ _ rfl rfl
            have gd : a1.tmps[25]? = some (.bool false) := getD_bool (hk.deps ⟨5, .guard⟩ (by simp) rfl _ _ rfl rfl)
            simp [Region.wanted, Oper.wp, Act.eval, go_sem, d28, gd, yielded, hj1, hj2, hj4, hwj, hwj2]
            exact hK _ _ (Below.refl _ _) rfl
            | 10, _ =>
            obtain rfl := Option.some.inj hoq
            intro a1 w1 K hk hK
            have d27 : a1.tmps.getD 27 undef = undef := hk.deps ⟨7, .data⟩ (by simp) rfl _ _ rfl rfl
            have d29 : a1.tmps.getD 29 undef = undef := hk.deps ⟨9, .data⟩ (by simp) rfl _ _ rfl rfl
            have gd : a1.tmps[25]? = some (.bool false) := getD_bool (hk.deps ⟨5, .guard⟩ (by simp) rfl _ _ rfl rfl)
            simp [Region.wanted, Oper.wp, Act.eval, go_sem, d27, d29, gd, yielded, hj1, hj2, hj4, hwj, hwj2]
            exact hK _ _ (Below.refl _ _) rfl
            | 11, _ =>
            obtain rfl := Option.some.inj hoq
            intro a1 w1 K hk hK
            have d30 : a1.tmps.getD 30 undef = undef := hk.deps ⟨10, .data⟩ (by simp) rfl _ _ rfl rfl
            have gd : a1.tmps[25]? = some (.bool false) := getD_bool (hk.deps ⟨5, .guard⟩ (by simp) rfl _ _ rfl rfl)
            simp [Region.wanted, Oper.wp, Act.eval, go_sem, d30, gd, yielded, hj1, hj2, hj4, hwj, hwj2]
            exact hK _ _ (Below.refl _ _) rfl
            | 12, _ =>
            obtain rfl := Option.some.inj hoq
            intro a1 w1 K hk hK
            have d26 : a1.tmps.getD 26 undef = undef := hk.deps ⟨6, .data⟩ (by simp) rfl _ _ rfl rfl
            have d31 : a1.tmps.getD 31 undef = undef := hk.deps ⟨11, .data⟩ (by simp) rfl _ _ rfl rfl
            have gd : a1.tmps[25]? = some (.bool false) := getD_bool (hk.deps ⟨5, .guard⟩ (by simp) rfl _ _ rfl rfl)
            simp [Region.wanted, Oper.wp, Act.eval, go_sem, d26, d31, gd, yielded, hj1, hj2, hj4, hwj, hwj2]
            exact hK _ _ (Below.refl _ _) rfl
            | 13, _ =>
            obtain rfl := Option.some.inj hoq
            intro a1 w1 K hk hK
            have d32 : a1.tmps.getD 32 undef = undef := hk.deps ⟨12, .data⟩ (by simp) rfl _ _ rfl rfl
            have gd : a1.tmps[25]? = some (.bool false) := getD_bool (hk.deps ⟨5, .guard⟩ (by simp) rfl _ _ rfl rfl)
            simp [Region.wanted, Oper.wp, Act.eval, go_sem, d32, gd, yielded, hj1, hj2, hj4, hwj, hwj2]
            exact hK _ _ (Below.refl _ _) rfl
          · intro vs w3 hl hb3 hv
            match vs, hl with
            | [v0, v1, v2, v3, v4, v5, v6, v7, v8, v9, v10, v11, v12, v13], _ =>
            obtain rfl : v0 = .int .i64 (j : Nat) := hv 0 (by omega)
            obtain rfl : v1 = .int .i64 ((j : Int) + 1) := hv 1 (by omega)
            obtain rfl : v2 = .slice (some ⟨g, 0, none⟩) m n := hv 2 (by omega)
            obtain rfl : v3 = .int .i64 (m : Nat) := hv 3 (by omega)
            obtain rfl : v4 = .bool false := hv 4 (by omega)
            obtain rfl : v5 = .bool false := hv 5 (by omega)
            obtain rfl : v6 = undef := hv 6 (by omega)
            obtain rfl : v7 = undef := hv 7 (by omega)
            obtain rfl : v8 = undef := hv 8 (by omega)
            obtain rfl : v9 = undef := hv 9 (by omega)
            obtain rfl : v10 = undef := hv 10 (by omega)
            obtain rfl : v11 = undef := hv 11 (by omega)
            obtain rfl : v12 = undef := hv 12 (by omega)
            obtain rfl : v13 = undef := hv 13 (by omega)
            clear hv
            simp only [putAll, List.take_succ_cons, List.take_zero, List.drop_succ_cons, List.drop_zero, Act.put, List.setIfInBounds_toArray, List.set_cons_succ, List.set_cons_zero]
            have HPW := Lib.hid (HI.out.pr.step (below_trans HBW.out hb3))
            have HBB := Lib.hid (show Below wr.heap.size wr w3 from below_trans HBW.out hb3)
            replace e0 := Below.keeps hb3 _ _ e0
            replace e1 := Below.keeps hb3 _ _ e1
            replace hEl := Nat.lt_of_lt_of_le hEl hb3.size
            clear hb3
            have hrm : r < n := HRN.out
            go_wp2_with ((at_builtin; refine wpList_append_room (W0 := w) rfl (.tmp 35) (.tmp 37) rfl g n r _ _ zs (.slice Ax k cx) vx (HPW.out.step (by repeat (first | exact Below.refl _ _ | (refine Below.drew ?_) | (refine below_drewN' ?_ _) | (refine below_alloc' ?_ _) | (refine Below.setCell ?_ (by first | exact Nat.le_refl _ | (simp; done) | (simp; omega)) _)))) hrm rfl rfl ?_ ?_ rfl ?_))
            try case refine_1 => simp only [World.cell?, heap_alloc_new]; rfl
            try case refine_2 => simp only [World.cell?, heap_alloc_new]; rfl
            go_roundw
            case rel =>
              have hyj : j < ys.length := by rw [HLN.out.1]; exact hj
              have hrz : r < zs.length := by have := HI.out.rj; have := HI.out.len; omega
              have h5 := (HPW.out.step (show Below w3.heap.size w3 (w3.alloc (Obj.cells #[Value.slice Ax k cx, Value.int IntKind.u64 (vx : Nat)] 51)) from below_alloc' (Below.refl _ _) _)).set (j := r) hrz (⟨.slice Ax k cx, ⟨px, vx⟩⟩ : Pe) (by have := HRX.out.2.1; rw [HUX.out] at this; exact this)
              have h6 : ys[j] = (⟨.slice Ax k cx, ⟨px, vx⟩⟩ : Pe) := by rw [HRX.out.1, HUX.out]
              refine ⟨zs.set r ys[j], j + 1, r + 1, rfl, by first | (rw [hwj]; rfl) | rfl, HI.out.take hyj HNE.out ?_⟩
              rw [h6]
              exact h5
            case measure => first | (rw [intOf_of' hwj, intOf_of' rfl]; omega) | (rw [intOf_of' rfl, intOf_of' rfl]; omega) | (simp [intOf]; omega)
      · have hjm : j = m := by have := hI.jm; omega
        subst hjm
        have hj2 : ¬ ((j : Int) < (j : Int)) := by omega
        have hdr : ys.drop j = [] := List.drop_eq_nil_of_le (by omega)
        have hout : zs.take r = lastsL ys := by have := hI.out; rw [hdr] at this; simpa [lastsL] using this
        have HF := Lib.hid (And.intro hout hI)
        clear hI hzm hym hm1000 hdr hout
        go_wp2_with fail
        go_ret
        refine ⟨_, rfl, ?_, ?_⟩
        · have e1 := lasts_puts (k := k) HY.out.2.2.2 HY.out.2.2.1 HX.out.2.1
          rw [HX.out.1, ← HF.out.1] at e1
          exact HF.out.2.pr.rd (by have := HF.out.2.rj; have := HF.out.2.len; have := HLN.out.1; omega) HX.out.2.2 e1
        · exact HF.out.2.pr.bel
end Go.Proofs.YtjokcagggmjgmaaGreat
/-! MakA -/
namespace Go.Proofs.YtjokcagggmjgmaaGreat
open Go.RowKit
set_option linter.unusedVariables false
set_option linter.unusedSimpArgs false
set_option maxRecDepth 100000

def TellE (w : World) (f : FuncId) (cb : Array Value) (l : List En) (p : En → Bool) : Prop := ∀ c ∈ l, ∀ u w', RdU w' u (pti c.p) → Below w.heap.size w w' → Calls Tryz.prog f (#[.agg #[u, .int .u64 (c.v : Nat)]] ++ cb) w' fun e w'' => e = .returned (.bool (p c)) ∧ Below w'.heap.size w' w''
def IdxE (W : World) (l : List En) (p : En → Bool) (e : Ending) (w' : World) : Prop := ∃ i : Int, e = .returned (.int .i64 i) ∧ (decide (0 ≤ i) = l.any p) ∧ Below W.heap.size W w'
set_option maxHeartbeats 1000000 in
theorem eIndex_any (w : World) (f : FuncId) (cb : Array Value) (l : List En) (v : Value) (p : En → Bool) (hl : RdE w v l) (hn : l.length ≤ 1000) (hf : TellE w f cb l p)
    (hent : ∀ (args : Array Value) (w : World), (callFunc f args).run Tryz.prog w = .ok (.enter f args) w) : Calls Tryz.prog 162 #[v, .func (.func f) #[] cb] w fun e w' => IdxE w l p e w' := by
  obtain ⟨A, cc, rfl, _, hx⟩ := hl
  have HX := Lib.hid hx
  have HF := Lib.hid (And.intro hf hn)
  clear hx hf hn
  go_enter Tryz.func162, Tryz.ntmps162
  go_wp2_with fail
  go_loopw [5, 8] (fun _ iv wr => ∃ j : Nat, j ≤ l.length ∧ iv = .int .i64 (j : Nat) ∧ (l.take j).any p = false ∧ Below w.heap.size w wr) (fun _ iv _ => l.length - (intOf iv).toNat)
  case atStart => exact ⟨0, Nat.zero_le _, rfl, by simp, (by repeat (first | exact Below.refl _ _ | (refine Below.drew ?_) | (refine below_drewN' ?_ _) | (refine below_alloc' ?_ _) | (refine Below.setCell ?_ (by first | exact Nat.le_refl _ | (simp; done) | (simp; omega)) _)))⟩
  case round =>
    obtain ⟨j, hj, rfl, hany, hb⟩ := hrel
    have HB := Lib.hid (And.intro hany hb)
    clear hany
    by_cases hlt : j < l.length
    · have h3 : (j : Int) < (l.length : Int) := by omega
      have h5 : (0 : Int) ≤ (j : Int) := by omega
      have HW := Lib.hid (show wrap64 ((j : Int) + 1) = ((j + 1 : Nat) : Int) by have := HF.out.2; unfold wrap64; omega)
      obtain ⟨b2, o2, rfl, hc⟩ := HX.out (by omega)
      obtain ⟨u, k0, ku, k1⟩ := (hc j hlt).keep (Below.keeps hb)
      have htk : (l.take (j + 1)).any p = p l[j] := by rw [← List.take_append_getElem hlt, List.any_append, HB.out.1]; simp
      have HT := Lib.hid (And.intro htk (fun h : p l[j] = true => (List.any_eq_true.2 ⟨_, List.getElem_mem hlt, h⟩ : l.any p = true)))
      have HCL := Lib.hid (fun W (hu : RdU W u (pti l[j].p)) (hb : Below w.heap.size w W) => HF.out.1 l[j] (List.getElem_mem hlt) u W hu hb)
      have HU := Lib.hid ku
      have hlb := World.block_lt_of_cell? wr _ k0
      obtain ⟨Au, cu, rfl, _⟩ := RdU.point ku
      generalize l[j] = c at *
      clear hc htk hb ku
      cases hp : p c with
      | true =>
        rw [hp] at HT HCL
        go_wp2_with fail
        refine (HCL.out _ (HU.out.below (by repeat (first | exact Below.refl _ _ | (refine Below.drew ?_) | (refine below_drewN' ?_ _) | (refine below_alloc' ?_ _) | (refine Below.setCell ?_ (by first | exact Nat.le_refl _ | (simp; done) | (simp; omega)) _)))) (HB.out.2.trans ((show Below wr.heap.size wr _ from (by repeat (first | exact Below.refl _ _ | (refine Below.drew ?_) | (refine below_drewN' ?_ _) | (refine below_alloc' ?_ _) | (refine Below.setCell ?_ (by first | exact Nat.le_refl _ | (simp; done) | (simp; omega)) _)))).mono HB.out.2.size))).mono ?_
        rintro e w2 ⟨rfl, hb2⟩
        have HF2 := Lib.hid (HB.out.2.trans ((below_trans (by repeat (first | exact Below.refl _ _ | (refine Below.drew ?_) | (refine below_drewN' ?_ _) | (refine below_alloc' ?_ _) | (refine Below.setCell ?_ (by first | exact Nat.le_refl _ | (simp; done) | (simp; omega)) _))) hb2).mono HB.out.2.size))
        clear hb2
        go_wp2_with fail
        go_ret
        exact ⟨_, rfl, by rw [HT.out.2 (by first | exact rfl | trivial)]; simp, HF2.out⟩
      | false =>
        rw [hp] at HT HCL
        go_wp2_with fail
        refine (HCL.out _ (HU.out.below (by repeat (first | exact Below.refl _ _ | (refine Below.drew ?_) | (refine below_drewN' ?_ _) | (refine below_alloc' ?_ _) | (refine Below.setCell ?_ (by first | exact Nat.le_refl _ | (simp; done) | (simp; omega)) _)))) (HB.out.2.trans ((show Below wr.heap.size wr _ from (by repeat (first | exact Below.refl _ _ | (refine Below.drew ?_) | (refine below_drewN' ?_ _) | (refine below_alloc' ?_ _) | (refine Below.setCell ?_ (by first | exact Nat.le_refl _ | (simp; done) | (simp; omega)) _)))).mono HB.out.2.size))).mono ?_
        rintro e w2 ⟨rfl, hb2⟩
        have HF2 := Lib.hid (HB.out.2.trans ((below_trans (by repeat (first | exact Below.refl _ _ | (refine Below.drew ?_) | (refine below_drewN' ?_ _) | (refine below_alloc' ?_ _) | (refine Below.setCell ?_ (by first | exact Nat.le_refl _ | (simp; done) | (simp; omega)) _))) hb2).mono HB.out.2.size))
        clear hb2
        go_wp2_with fail
        go_roundw
        case rel => exact ⟨j + 1, by omega, (by first | rw [HW.out] | rfl | simp), HT.out.1, HF2.out⟩
        case measure => (first | (rw [intOf_of' HW.out, intOf_of' rfl]; omega) | (simp [intOf]; omega) | (simp [intOf] <;> omega))
    · have h3 : ¬ (j : Int) < (l.length : Int) := by omega
      have e : l.take j = l := List.take_of_length_le (by omega)
      rw [e] at HB
      clear hb
      go_wp2_with fail
      go_ret
      exact ⟨-1, rfl, by rw [HB.out.1]; rfl, HB.out.2⟩
theorem eContains_any (w : World) (f : FuncId) (cb : Array Value) (l : List En) (v : Value) (p : En → Bool) (hl : RdE w v l) (hn : l.length ≤ 1000) (hf : TellE w f cb l p)
    (hent : ∀ (args : Array Value) (w : World), (callFunc f args).run Tryz.prog w = .ok (.enter f args) w) : Calls Tryz.prog 114 #[v, .func (.func f) #[] cb] w fun e w' => e = .returned (.bool (l.any p)) ∧ Below w.heap.size w w' := by
  have HI := Lib.hid (eIndex_any w f cb l v p hl hn hf hent)
  obtain ⟨A, cc, rfl, _, hx⟩ := hl
  clear hx hf hn hent
  go_enter Tryz.func114, Tryz.ntmps114
  go_wp2_with fail
  refine HI.out.mono ?_
  rintro e w2 ⟨i, rfl, hi, hb⟩
  have HB := Lib.hid (And.intro hi hb)
  clear hi hb
  go_wp2_with fail
  go_ret
  exact ⟨by rw [← HB.out.1]; rfl, HB.out.2⟩
theorem dims1_any (w : World) (B : Nat) (k : Int) (c : En) (u : Value) (hB : w.cell? ⟨B, 0, none⟩ = some (.int .i64 k)) (hu : RdU w u (pti c.p)) :
    Calls Tryz.prog 115 (#[.agg #[u, .int .u64 (c.v : Nat)]] ++ #[.pointer (some ⟨B, 0, none⟩)]) w fun e w' => e = .returned (.bool (((c.p.length : Nat) : Int) != k)) ∧ Below w.heap.size w w' := by
  have hlb := World.block_lt_of_cell? w _ hB
  obtain ⟨Au, cu, rfl, _⟩ := RdU.point hu
  clear hu
  obtain ⟨p, x⟩ := c
  obtain ⟨n, hn⟩ : ∃ n, p.length = n := ⟨_, rfl⟩
  simp only [hn]
  clear hn
  go_enter Tryz.func115, Tryz.ntmps115
  go_wp2_with fail
  go_ret
  exact ⟨rfl, (by repeat (first | exact Below.refl _ _ | (refine Below.drew ?_) | (refine below_drewN' ?_ _) | (refine below_alloc' ?_ _) | (refine Below.setCell ?_ (by first | exact Nat.le_refl _ | (simp; done) | (simp; omega)) _)))⟩
theorem dims_any (w : World) (k : Int) (l : List En) (v : Value) (hl : RdE w v l) (hn : l.length ≤ 1000) :
    Calls Tryz.prog 67 #[.int .i64 k, v] w fun e w' => e = .returned (.bool (l.all fun c => ((c.p.length : Nat) : Int) == k)) ∧ Below w.heap.size w w' := by
  have hent := enters_lit' Tryz.func115 (by kernel_rfl) (by kernel_rfl)
  have HC := Lib.hid (fun W (hb : Below w.heap.size w W) (B : Nat) (hB : W.cell? ⟨B, 0, none⟩ = some (.int .i64 k)) => eContains_any W 115 #[.pointer (some ⟨B, 0, none⟩)] l v (fun c => ((c.p.length : Nat) : Int) != k) (hl.below hb) hn (fun c _ u w' hu hb' => dims1_any w' B k c u (Below.keeps hb' _ _ hB) hu) hent)
  have hall : (l.all fun c => ((c.p.length : Nat) : Int) == k) = !(l.any fun c => ((c.p.length : Nat) : Int) != k) := by
    simp [List.all_eq_not_any_not, bne]
  rw [hall]
  obtain ⟨A, cc, rfl, _⟩ := hl
  clear hn hent hall
  go_enter Tryz.func67, Tryz.ntmps67
  go_wp2_with fail
  refine (HC.out _ (by repeat (first | exact Below.refl _ _ | (refine Below.drew ?_) | (refine below_drewN' ?_ _) | (refine below_alloc' ?_ _) | (refine Below.setCell ?_ (by first | exact Nat.le_refl _ | (simp; done) | (simp; omega)) _))) w.heap.size (by simp [go_sem])).mono ?_
  rintro e w2 ⟨rfl, hb2⟩
  have HF2 := Lib.hid (show Below w.heap.size w w2 from below_trans (by repeat (first | exact Below.refl _ _ | (refine Below.drew ?_) | (refine below_drewN' ?_ _) | (refine below_alloc' ?_ _) | (refine Below.setCell ?_ (by first | exact Nat.le_refl _ | (simp; done) | (simp; omega)) _))) hb2)
  clear hb2
  go_wp2_with fail
  go_ret
  exact ⟨rfl, HF2.out⟩
theorem nd_k (w : World) (k g : Nat) (l : List En) (hn : Nd w k g l) : Calls Tryz.prog 111 #[.pointer (some ⟨g, 0, none⟩)] w fun e w' => e = .returned (.int .i64 (k : Nat)) ∧ w' = w := by
  obtain ⟨va, kp, hh⟩ := hn.hd
  obtain ⟨hpl, _⟩ := hn.pre_ok
  obtain ⟨u, c1, hu⟩ := hh.c1
  obtain ⟨A0, c0, rfl, _⟩ := RdU.point hu
  exact nk_any w g k A0 c0 (by rw [hpl] at c1; exact c1)
theorem of_nd (w : World) (k g : Nat) (l : List En) (hn : Nd w k g l) (k1 : 1 ≤ k) (k16 : k ≤ 16) :
    Calls Tryz.prog 68 #[.int .i64 (k : Nat), .pointer (some ⟨g, 0, none⟩)] w fun e w' => ∃ t, e = .returned (.tuple #[.pointer (some ⟨t, 0, none⟩), .int .i64 0]) ∧ TrR w' t k l ∧ Below w.heap.size w w' := by
  have HD := Lib.hid (And.intro k1 (And.intro k16 hn))
  have h1 : ¬ (k : Int) < 1 := by omega
  have h2 : ¬ (k : Int) > 16 := by omega
  have h3 : decide ((k : Int) < 1) = false := by simp; omega
  have h4 : decide ((k : Int) > 16) = false := by simp; omega
  have HK := Lib.hid (nd_k w k g l hn)
  clear k1 k16 hn
  go_enter Tryz.func68, Tryz.ntmps68
  go_wp2_with fail
  refine HK.out.mono ?_
  rintro e w2 ⟨rfl, hw⟩
  obtain rfl := hw.symm
  clear hw
  go_wp2_with fail
  go_ret2
  exact ⟨_, rfl, ⟨by simp [go_sem], ⟨some g, by simp [go_sem, pv], HD.out.2.2.bel (by repeat (first | exact Below.refl _ _ | (refine Below.drew ?_) | (refine below_drewN' ?_ _) | (refine below_alloc' ?_ _) | (refine Below.setCell ?_ (by first | exact Nat.le_refl _ | (simp; done) | (simp; omega)) _)))⟩, HD.out.1, HD.out.2.1, _, alloc_blk _ _⟩, (by repeat (first | exact Below.refl _ _ | (refine Below.drew ?_) | (refine below_drewN' ?_ _) | (refine below_alloc' ?_ _) | (refine Below.setCell ?_ (by first | exact Nat.le_refl _ | (simp; done) | (simp; omega)) _)))⟩
end Go.Proofs.YtjokcagggmjgmaaGreat
/-! RowD -/
namespace Go.Proofs.YtjokcagggmjgmaaGreat
open Go.RowKit
set_option linter.unusedVariables false

/-- the row at block g, with room for n, holds the entries l; their points lie in rows of numbers -/
structure RowD (W0 w : World) (g n : Nat) (l : List En) : Prop where
  cells : ∃ cur, w.heap[g]? = some (.cells cur 51 (0, 0)) ∧ cur.size = n * 2 ∧ ∀ j (h : j < l.length), ∃ u, cur[j * 2]? = some u ∧ PtNew w u l[j].p ∧ cur[j * 2 + 1]? = some (.int .u64 (l[j].v : Nat))
  le : l.length ≤ n ∧ n ≤ maxLen
  low : W0.heap.size ≤ g
  bel : Below W0.heap.size W0 w
theorem OwnD.row {W w : World} {v : Value} {l : List En} (h : OwnD (PtNew w) W w v l) (hb : Below W.heap.size W w) (hne : l ≠ []) : ∃ g n, v = .slice (some ⟨g, 0, none⟩) l.length n ∧ RowD W w g n l := by
  obtain ⟨g, cap, cur, rfl, q2, q3, q4, q5, q6, q7⟩ := h.cells hne
  exact ⟨g, cap, rfl, ⟨cur, q3, q6, q7⟩, ⟨q4, q5⟩, q2, hb⟩
theorem RowD.lt {W0 w : World} {g n : Nat} {l : List En} (h : RowD W0 w g n l) : g < w.heap.size := by
  obtain ⟨cur, h1, _⟩ := h.cells
  exact kr_lt h1
theorem RowD.thaw {W0 w : World} {g n : Nat} {l : List En} (h : RowD W0 w g n l) (j : Nat) : w.frozen? ⟨g, j, none⟩ = false := by
  obtain ⟨cur, h1, _⟩ := h.cells
  simp [World.frozen?, h1]
theorem RowD.at' {W0 w : World} {g n : Nat} {l : List En} (h : RowD W0 w g n l) (j : Nat) (hj : j < l.length) : ∃ u, w.cell? ⟨g, j * 2, none⟩ = some u ∧ PtNew w u l[j].p ∧ w.cell? ⟨g, j * 2 + 1, none⟩ = some (.int .u64 (l[j].v : Nat)) := by
  obtain ⟨cur, h1, h2, h3⟩ := h.cells
  obtain ⟨u, a, b, c⟩ := h3 j hj
  exact ⟨u, by simp [World.cell?, h1, a], b, by simp [World.cell?, h1, c]⟩
theorem RowD.rd {W0 w : World} {g n : Nat} {l : List En} (h : RowD W0 w g n l) : RdE w (.slice (some ⟨g, 0, none⟩) l.length n) l :=
  ⟨_, _, rfl, ⟨h.le.1, h.le.2, fun _ => ⟨_, _, rfl⟩⟩, fun _ => ⟨g, 0, rfl, fun j hj => by
    obtain ⟨u, a, b, c⟩ := h.at' j hj
    exact ⟨u, by simpa using a, b.rd, by simpa using c⟩⟩⟩
theorem PtNew.setRow {w : World} {g j : Nat} {x : Value} {cur : Array Value} (hg : w.heap[g]? = some (.cells cur 51 (0, 0))) {u : Value} {p : List Nat} (h : PtNew w u p) : PtNew (w.setCell ⟨g, j, none⟩ x) u p :=
  h.set hg (by decide)
/-- a value is written -/
theorem RowD.setV {W0 w : World} {g n j : Nat} {l : List En} (h : RowD W0 w g n l) (hj : j < l.length) (x : Nat) : RowD W0 (w.setCell ⟨g, j * 2 + 1, none⟩ (.int .u64 (x : Nat))) g n (l.set j ⟨l[j].p, x⟩) := by
  obtain ⟨cur, h1, h2, h3⟩ := h.cells
  refine ⟨⟨_, kr_set h1, by simpa using h2, fun i hi => ?_⟩, by simpa using h.le, h.low, h.bel.setCell (p := ⟨g, _, none⟩) h.low _⟩
  rw [List.length_set] at hi
  obtain ⟨u, a, b, c⟩ := h3 i hi
  have hn := h.le.1
  refine ⟨u, ?_, ?_, ?_⟩
  · rw [Array.getElem?_setIfInBounds_ne (by omega)]; exact a
  · by_cases e : i = j
    · subst e
      simp only [List.getElem_set_self]
      exact b.setRow h1
    · rw [List.getElem_set_ne (by omega)]
      exact b.setRow h1
  · by_cases e : i = j
    · subst e
      simp only [List.getElem_set_self]
      exact Array.getElem?_setIfInBounds_self_of_lt (by omega)
    · rw [List.getElem_set_ne (by omega), Array.getElem?_setIfInBounds_ne (by omega)]
      exact c
/-- build, then Of: a tree of what is in order -/
def RootR (W : World) (k : Nat) (l : List En) (e : Ending) (w' : World) : Prop := ∃ r : Option Nat, e = .returned (pv r) ∧ RtN w' k r l ∧ Below W.heap.size W w'
theorem build_rt (w : World) (k : Nat) (l : List En) (v : Value) (hv : RdE w v l) (he : EtS k l) (k1 : 1 ≤ k) (k16 : k ≤ 16) (hvv : ∀ e ∈ l, e.v < 2 ^ 64) : Calls Tryz.prog 69 #[v] w fun e w' => RootR w k l e w' := by
  by_cases hne : l = []
  · subst hne
    obtain ⟨A, c, rfl, _⟩ := hv
    exact (bld_nil w A c).mono fun e w' ⟨h1, h2⟩ => ⟨none, h1, rfl, h2 ▸ Below.refl _ _⟩
  · exact (build_any k k1 k16 _ l w v (Nat.le_refl _) hv he hne hvv).mono fun e w' ⟨g, h1, h2, h3⟩ => ⟨some g, h1, h2, h3⟩
theorem of_rt (w : World) (k : Nat) (r : Option Nat) (l : List En) (hr : RtN w k r l) (k1 : 1 ≤ k) (k16 : k ≤ 16) :
    Calls Tryz.prog 68 #[.int .i64 (k : Nat), pv r] w fun e w' => ∃ t, e = .returned (.tuple #[.pointer (some ⟨t, 0, none⟩), .int .i64 0]) ∧ TrR w' t k l ∧ Below w.heap.size w w' := by
  cases r with
  | none => obtain rfl : l = [] := hr; exact of_nil w k k1 k16
  | some g => exact of_nd w k g l hr k1 k16
end Go.Proofs.YtjokcagggmjgmaaGreat
/-! MapP -/
namespace Go.Proofs.YtjokcagggmjgmaaGreat
open Go.RowKit
set_option linter.unusedVariables false

/-- a value, mapped by a rule -/
def valueL (rule : Int) (v c : Nat) : Nat :=
  if rule = 1 then (v + c) % 2 ^ 64 else if rule = 2 then (v * c) % 2 ^ 64 else if rule = 3 then max v c else if rule = 4 then min v c else c
theorem valueL_lt {rule : Int} {v c : Nat} (hv : v < 2 ^ 64) (hc : c < 2 ^ 64) : valueL rule v c < 2 ^ 64 := by
  unfold valueL
  split
  · exact Nat.mod_lt _ (by decide)
  · split
    · exact Nat.mod_lt _ (by decide)
    · split
      · omega
      · split <;> omega
def mapL (rule : Int) (c : Nat) (l : List En) : List En := l.map fun e => ⟨e.p, valueL rule e.v c⟩
theorem EtS.mapL {k : Nat} {l : List En} (h : EtS k l) (rule : Int) (c : Nat) : EtS k (mapL rule c l) := by
  refine ⟨⟨?_, fun e he => ?_, fun e he => ?_⟩, h.k40, by unfold Go.Proofs.YtjokcagggmjgmaaGreat.mapL; rw [List.length_map]; exact h.short⟩
  · unfold Od.Asc Go.Proofs.YtjokcagggmjgmaaGreat.mapL; rw [List.pairwise_map]; exact h.et.asc
  · obtain ⟨x, hx, rfl⟩ := List.mem_map.1 he; exact h.et.len x hx
  · obtain ⟨x, hx, rfl⟩ := List.mem_map.1 he; exact h.et.ok x hx
/-- some values -/
def inR (lo hi : Nat) (e : En) : Bool := decide (lo ≤ e.v) && decide (e.v ≤ hi)
def someL (lo hi : Nat) (l : List En) : List En := l.filter (inR lo hi)
theorem someL_append (lo hi : Nat) (l m : List En) : someL lo hi (l ++ m) = someL lo hi l ++ someL lo hi m := List.filter_append ..
theorem someL_len (lo hi : Nat) (l : List En) : (someL lo hi l).length ≤ l.length := List.length_filter_le ..
theorem Et.someL {k : Nat} {l : List En} (h : Et k l) (lo hi : Nat) : Et k (someL lo hi l) :=
  ⟨List.Pairwise.sublist List.filter_sublist h.asc, fun e he => h.len e (List.mem_filter.1 he).1, fun e he => h.ok e (List.mem_filter.1 he).1⟩
theorem EtS.someL {k : Nat} {l : List En} (h : EtS k l) (lo hi : Nat) : EtS k (someL lo hi l) := ⟨h.et.someL lo hi, h.k40, Nat.le_trans (someL_len lo hi l) h.short⟩
theorem sums_mn {l : List En} : ∀ e ∈ l, (sumsL l).mn ≤ e.v := by
  induction l with
  | nil => simp
  | cons x l ih =>
    intro e he
    cases l with
    | nil => obtain rfl : e = x := by simpa using he
             exact Nat.le_refl _
    | cons y l =>
      rw [sumsL_cons x (y :: l) (by simp)]
      show min x.v (sumsL (y :: l)).mn ≤ e.v
      rcases List.mem_cons.1 he with rfl | he
      · omega
      · have := ih e he; omega
theorem sums_mx {l : List En} : ∀ e ∈ l, e.v ≤ (sumsL l).mx := by
  induction l with
  | nil => simp
  | cons x l ih =>
    intro e he
    cases l with
    | nil => obtain rfl : e = x := by simpa using he
             exact Nat.le_refl _
    | cons y l =>
      rw [sumsL_cons x (y :: l) (by simp)]
      show e.v ≤ max x.v (sumsL (y :: l)).mx
      rcases List.mem_cons.1 he with rfl | he
      · omega
      · have := ih e he; omega
theorem someL_none {lo hi : Nat} {l : List En} (h : (sumsL l).mn > hi ∨ (sumsL l).mx < lo ∨ lo > hi) : someL lo hi l = [] := by
  unfold someL
  rw [List.filter_eq_nil_iff]
  intro e he hh
  have h1 := sums_mn e he
  have h2 := sums_mx e he
  unfold inR at hh
  simp at hh
  omega
theorem someL_all {lo hi : Nat} {l : List En} (h1 : (sumsL l).mn ≥ lo) (h2 : (sumsL l).mx ≤ hi) : someL lo hi l = l := by
  unfold someL
  rw [List.filter_eq_self]
  intro e he
  have := sums_mn e he
  have := sums_mx e he
  unfold inR
  simp
  omega
/-- the kids of which something is left -/
def someK (lo hi : Nat) (L : List (Nat × List En)) : List (Nat × List En) := L.filterMap fun x => if someL lo hi x.2 = [] then none else some (x.1, someL lo hi x.2)
theorem someK_mem {lo hi : Nat} {L : List (Nat × List En)} {y : Nat × List En} (h : y ∈ someK lo hi L) : ∃ x ∈ L, y = (x.1, someL lo hi x.2) ∧ y.2 ≠ [] := by
  obtain ⟨x, hx, hy⟩ := List.mem_filterMap.1 h
  split at hy
  · cases hy
  · injection hy with hy
    subst hy
    rename_i hne
    exact ⟨x, hx, rfl, hne⟩
theorem someK_cat (lo hi : Nat) (L : List (Nat × List En)) : cat (someK lo hi L) = someL lo hi (cat L) := by
  induction L with
  | nil => rfl
  | cons x L ih =>
    have e1 : cat (x :: L) = x.2 ++ cat L := by unfold cat; rw [List.flatMap_cons]
    rw [e1, someL_append]
    unfold someK at ih ⊢
    rw [List.filterMap_cons]
    by_cases h : someL lo hi x.2 = []
    · rw [if_pos h, h, List.nil_append]; exact ih
    · rw [if_neg h]
      show cat ((x.1, someL lo hi x.2) :: _) = _
      have e2 : ∀ (y : Nat × List En) (M : List (Nat × List En)), cat (y :: M) = y.2 ++ cat M := fun y M => by unfold cat; rw [List.flatMap_cons]
      rw [e2, ih]
theorem someK_append (lo hi : Nat) (L M : List (Nat × List En)) : someK lo hi (L ++ M) = someK lo hi L ++ someK lo hi M := List.filterMap_append
theorem someK_kd {k n : Nat} {pre : List Nat} {L : List (Nat × List En)} (h : Kd k n pre L) (lo hi : Nat) (h2 : 2 ≤ (someK lo hi L).length) : Kd k n pre (someK lo hi L) := by
  refine ⟨h2, h.n64, ?_, fun y hy => ?_, fun y hy => ?_, fun y hy e he => ?_, fun y hy e he => ?_⟩
  · unfold Od.Asc someK
    rw [List.pairwise_filterMap]
    refine h.asc.imp fun {x y} hxy u hu v hv => ?_
    split at hu
    · cases hu
    · split at hv
      · cases hv
      · injection hu with hu
        injection hv with hv
        subst hu hv
        exact hxy
  · obtain ⟨x, hx, _, h3⟩ := someK_mem hy; exact h3
  · obtain ⟨x, hx, rfl, h3⟩ := someK_mem hy; exact (h.et x hx).someL lo hi
  · obtain ⟨x, hx, rfl, h3⟩ := someK_mem hy; exact h.pre x hx e (List.mem_filter.1 he).1
  · obtain ⟨x, hx, rfl, h3⟩ := someK_mem hy; exact h.adr x hx e (List.mem_filter.1 he).1
/-- the first kids -/
theorem someK_step (lo hi : Nat) (L : List (Nat × List En)) (j : Nat) (hj : j < L.length) :
    (someL lo hi L[j].2 = [] ∧ someK lo hi (L.take (j + 1)) = someK lo hi (L.take j)) ∨
    (someL lo hi L[j].2 ≠ [] ∧ ∃ h : (someK lo hi (L.take j)).length < (someK lo hi L).length, (someK lo hi L)[(someK lo hi (L.take j)).length] = (L[j].1, someL lo hi L[j].2) ∧
      someK lo hi (L.take j) = (someK lo hi L).take (someK lo hi (L.take j)).length ∧ someK lo hi (L.take (j + 1)) = (someK lo hi L).take ((someK lo hi (L.take j)).length + 1)) := by
  have e1 : L.take (j + 1) = L.take j ++ [L[j]] := (List.take_append_getElem hj).symm
  have e2 : someK lo hi L = someK lo hi (L.take j) ++ (someK lo hi [L[j]] ++ someK lo hi (L.drop (j + 1))) := by
    rw [← someK_append, ← someK_append, List.singleton_append, List.getElem_cons_drop, List.take_append_drop]
  by_cases h : someL lo hi L[j].2 = []
  · refine .inl ⟨h, ?_⟩
    rw [e1, someK_append]
    unfold someK
    simp [h]
  · right
    have e3 : someK lo hi [L[j]] = [(L[j].1, someL lo hi L[j].2)] := by unfold someK; simp [h]
    rw [e3] at e2
    have hl : (someK lo hi (L.take j)).length < (someK lo hi L).length := by rw [e2]; simp
    refine ⟨h, hl, ?_, ?_, ?_⟩
    · simp only [e2]
      rw [List.getElem_append_right (by omega)]
      simp
    · conv => rhs; rw [e2]
      rw [List.take_left]
    · rw [e1, someK_append, e3]
      conv => rhs; rw [e2]
      rw [← List.append_assoc, List.take_left' (by simp)]
end Go.Proofs.YtjokcagggmjgmaaGreat
/-! MapA -/
namespace Go.Proofs.YtjokcagggmjgmaaGreat
open Go.RowKit
set_option linter.unusedVariables false
set_option linter.unusedSimpArgs false
set_option maxRecDepth 100000

theorem wrapu_nat (n : Nat) : IntKind.u64.wrap ((n : Nat) : Int) = ((n % 2 ^ 64 : Nat) : Int) := by
  simp only [IntKind.wrap, IntKind.bits, IntKind.signed, Bool.false_and]
  simp
theorem val1 (x c : Nat) : ((valueL 1 x c : Nat) : Int) = IntKind.u64.wrap ((x : Int) + (c : Int)) := by
  rw [← Int.natCast_add, wrapu_nat]; rfl
theorem val2 (x c : Nat) : ((valueL 2 x c : Nat) : Int) = IntKind.u64.wrap ((x : Int) * (c : Int)) := by
  rw [← Int.natCast_mul, wrapu_nat]; rfl
theorem val3 (x c : Nat) : ((valueL 3 x c : Nat) : Int) = max (x : Int) (c : Int) := by
  show ((max x c : Nat) : Int) = _
  omega
theorem val4 (x c : Nat) : ((valueL 4 x c : Nat) : Int) = min (x : Int) (c : Int) := by
  show ((min x c : Nat) : Int) = _
  omega
theorem val5 (x c : Nat) : ((valueL 5 x c : Nat) : Int) = (c : Int) := rfl
theorem mapFn1 (w : World) (b x c : Nat) (h : w.cell? ⟨b, 0, none⟩ = some (.int .u64 (c : Nat))) (hx : x < 2 ^ 64) (hc : c < 2 ^ 64) : Calls Tryz.prog 132 #[.int .u64 (x : Nat), .pointer (some ⟨b, 0, none⟩)] w fun e w' => e = .returned (.int .u64 (valueL 1 x c : Nat)) ∧ w' = w := by
  have hbl := World.block_lt_of_cell? w _ h
  rw [val1]
  go_enter Tryz.func132, Tryz.ntmps132
  go_wp2_with fail
  go_ret
  exact ⟨rfl, rfl⟩
theorem mapFn2 (w : World) (b x c : Nat) (h : w.cell? ⟨b, 0, none⟩ = some (.int .u64 (c : Nat))) (hx : x < 2 ^ 64) (hc : c < 2 ^ 64) : Calls Tryz.prog 133 #[.int .u64 (x : Nat), .pointer (some ⟨b, 0, none⟩)] w fun e w' => e = .returned (.int .u64 (valueL 2 x c : Nat)) ∧ w' = w := by
  have hbl := World.block_lt_of_cell? w _ h
  rw [val2]
  go_enter Tryz.func133, Tryz.ntmps133
  go_wp2_with fail
  go_ret
  exact ⟨rfl, rfl⟩
theorem mapFn3 (w : World) (b x c : Nat) (h : w.cell? ⟨b, 0, none⟩ = some (.int .u64 (c : Nat))) (hx : x < 2 ^ 64) (hc : c < 2 ^ 64) : Calls Tryz.prog 134 #[.int .u64 (x : Nat), .pointer (some ⟨b, 0, none⟩)] w fun e w' => e = .returned (.int .u64 (valueL 3 x c : Nat)) ∧ w' = w := by
  have hbl := World.block_lt_of_cell? w _ h
  rw [val3]
  go_enter Tryz.func134, Tryz.ntmps134
  go_wp2_with fail
  go_ret
  exact ⟨rfl, rfl⟩
theorem mapFn4 (w : World) (b x c : Nat) (h : w.cell? ⟨b, 0, none⟩ = some (.int .u64 (c : Nat))) (hx : x < 2 ^ 64) (hc : c < 2 ^ 64) : Calls Tryz.prog 135 #[.int .u64 (x : Nat), .pointer (some ⟨b, 0, none⟩)] w fun e w' => e = .returned (.int .u64 (valueL 4 x c : Nat)) ∧ w' = w := by
  have hbl := World.block_lt_of_cell? w _ h
  rw [val4]
  go_enter Tryz.func135, Tryz.ntmps135
  go_wp2_with fail
  go_ret
  exact ⟨rfl, rfl⟩
theorem mapFn5 (w : World) (b x c : Nat) (h : w.cell? ⟨b, 0, none⟩ = some (.int .u64 (c : Nat))) (hx : x < 2 ^ 64) (hc : c < 2 ^ 64) : Calls Tryz.prog 136 #[.int .u64 (x : Nat), .pointer (some ⟨b, 0, none⟩)] w fun e w' => e = .returned (.int .u64 (valueL 5 x c : Nat)) ∧ w' = w := by
  have hbl := World.block_lt_of_cell? w _ h
  rw [val5]
  go_enter Tryz.func136, Tryz.ntmps136
  go_wp2_with fail
  go_ret
  exact ⟨rfl, rfl⟩

theorem rValue_any (w : World) (rule : Int) (x c : Nat) (hx : x < 2 ^ 64) (hc : c < 2 ^ 64) : Calls Tryz.prog 82 #[.int .i64 rule, .int .u64 (x : Nat), .int .u64 (c : Nat)] w fun e w' => e = .returned (.int .u64 (valueL rule x c : Nat)) ∧ w' = w := by
  have hcases : rule = 1 ∨ rule = 2 ∨ rule = 3 ∨ rule = 4 ∨ (rule ≠ 1 ∧ rule ≠ 2 ∧ rule ≠ 3 ∧ rule ≠ 4) := by omega
  rcases hcases with h1 | h2 | h3 | h4 | ⟨h1, h2, h3, h4⟩
  · subst h1
    rw [val1]
    go_enter Tryz.func82, Tryz.ntmps82
    go_wp2_with fail
    go_ret
    exact ⟨rfl, rfl⟩
  · subst h2
    rw [val2]
    go_enter Tryz.func82, Tryz.ntmps82
    go_wp2_with fail
    go_ret
    exact ⟨rfl, rfl⟩
  · subst h3
    rw [val3]
    by_cases hq : (x : Int) > (c : Int)
    · rw [show max (x : Int) (c : Int) = x by omega]
      go_enter Tryz.func82, Tryz.ntmps82
      go_wp2_with fail
      go_ret
      exact ⟨rfl, rfl⟩
    · rw [show max (x : Int) (c : Int) = c by omega]
      go_enter Tryz.func82, Tryz.ntmps82
      go_wp2_with fail
      go_ret
      exact ⟨rfl, rfl⟩
  · subst h4
    rw [val4]
    by_cases hq : (x : Int) < (c : Int)
    · rw [show min (x : Int) (c : Int) = x by omega]
      go_enter Tryz.func82, Tryz.ntmps82
      go_wp2_with fail
      go_ret
      exact ⟨rfl, rfl⟩
    · rw [show min (x : Int) (c : Int) = c by omega]
      go_enter Tryz.func82, Tryz.ntmps82
      go_wp2_with fail
      go_ret
      exact ⟨rfl, rfl⟩
  · have e : valueL rule x c = c := by unfold valueL; simp [h1, h2, h3, h4]
    rw [e]
    have e1 : (rule == 1) = false := by simpa using h1
    have e2 : (rule == 2) = false := by simpa using h2
    have e3 : (rule == 3) = false := by simpa using h3
    have e4 : (rule == 4) = false := by simpa using h4
    go_enter Tryz.func82, Tryz.ntmps82
    go_wp2_with fail
    go_ret
    exact ⟨rfl, rfl⟩
/-- a function that maps values -/
def MapFn (w : World) (rule : Int) (c : Nat) (v : Value) : Prop := ∃ f b, v = .func (.func f) #[] #[.pointer (some ⟨b, 0, none⟩)] ∧ (∀ args w, (callFunc f args).run Tryz.prog w = .ok (.enter f args) w) ∧
  ∀ w' x, Below w.heap.size w w' → x < 2 ^ 64 → Calls Tryz.prog f #[.int .u64 (x : Nat), .pointer (some ⟨b, 0, none⟩)] w' fun e w'' => e = .returned (.int .u64 (valueL rule x c : Nat)) ∧ w'' = w'
def MapsR (w : World) (rule : Int) (c : Nat) (e : Ending) (w' : World) : Prop := Below w.heap.size w w' ∧ ((¬ (1 ≤ rule ∧ rule ≤ 5) ∧ e = .returned .nilFunc) ∨ (1 ≤ rule ∧ rule ≤ 5) ∧ ∃ v, e = .returned v ∧ MapFn w' rule c v)
theorem maps_any (w : World) (rule : Int) (c : Nat) (hc : c < 2 ^ 64) : Calls Tryz.prog 79 #[.int .i64 rule, .int .u64 (c : Nat)] w fun e w' => MapsR w rule c e w' := by
  have hcases : rule = 1 ∨ rule = 2 ∨ rule = 3 ∨ rule = 4 ∨ rule = 5 ∨ rule = 0 ∨ rule < 0 ∨ rule > 5 := by omega
  rcases hcases with h1 | h2 | h3 | h4 | h5 | h6 | h7 | h8
  · subst h1
    go_enter Tryz.func79, Tryz.ntmps79
    go_wp2_with fail
    go_ret
    refine ⟨(by repeat (first | exact Below.refl _ _ | (refine Below.drew ?_) | (refine below_drewN' ?_ _) | (refine below_alloc' ?_ _) | (refine Below.setCell ?_ (by first | exact Nat.le_refl _ | (simp; done) | (simp; omega)) _))), .inr ⟨by decide, _, rfl, 132, w.heap.size, rfl, enters_func (Tryz.func132) (by kernel_rfl) (by kernel_rfl), fun w' x hb hx => mapFn1 w' _ x c (Below.keeps hb _ _ (by simp [go_sem])) hx hc⟩⟩
  · subst h2
    go_enter Tryz.func79, Tryz.ntmps79
    go_wp2_with fail
    go_ret
    refine ⟨(by repeat (first | exact Below.refl _ _ | (refine Below.drew ?_) | (refine below_drewN' ?_ _) | (refine below_alloc' ?_ _) | (refine Below.setCell ?_ (by first | exact Nat.le_refl _ | (simp; done) | (simp; omega)) _))), .inr ⟨by decide, _, rfl, 133, w.heap.size, rfl, enters_func (Tryz.func133) (by kernel_rfl) (by kernel_rfl), fun w' x hb hx => mapFn2 w' _ x c (Below.keeps hb _ _ (by simp [go_sem])) hx hc⟩⟩
  · subst h3
    go_enter Tryz.func79, Tryz.ntmps79
    go_wp2_with fail
    go_ret
    refine ⟨(by repeat (first | exact Below.refl _ _ | (refine Below.drew ?_) | (refine below_drewN' ?_ _) | (refine below_alloc' ?_ _) | (refine Below.setCell ?_ (by first | exact Nat.le_refl _ | (simp; done) | (simp; omega)) _))), .inr ⟨by decide, _, rfl, 134, w.heap.size, rfl, enters_func (Tryz.func134) (by kernel_rfl) (by kernel_rfl), fun w' x hb hx => mapFn3 w' _ x c (Below.keeps hb _ _ (by simp [go_sem])) hx hc⟩⟩
  · subst h4
    go_enter Tryz.func79, Tryz.ntmps79
    go_wp2_with fail
    go_ret
    refine ⟨(by repeat (first | exact Below.refl _ _ | (refine Below.drew ?_) | (refine below_drewN' ?_ _) | (refine below_alloc' ?_ _) | (refine Below.setCell ?_ (by first | exact Nat.le_refl _ | (simp; done) | (simp; omega)) _))), .inr ⟨by decide, _, rfl, 135, w.heap.size, rfl, enters_func (Tryz.func135) (by kernel_rfl) (by kernel_rfl), fun w' x hb hx => mapFn4 w' _ x c (Below.keeps hb _ _ (by simp [go_sem])) hx hc⟩⟩
  · subst h5
    go_enter Tryz.func79, Tryz.ntmps79
    go_wp2_with fail
    go_ret
    refine ⟨(by repeat (first | exact Below.refl _ _ | (refine Below.drew ?_) | (refine below_drewN' ?_ _) | (refine below_alloc' ?_ _) | (refine Below.setCell ?_ (by first | exact Nat.le_refl _ | (simp; done) | (simp; omega)) _))), .inr ⟨by decide, _, rfl, 136, w.heap.size, rfl, enters_func (Tryz.func136) (by kernel_rfl) (by kernel_rfl), fun w' x hb hx => mapFn5 w' _ x c (Below.keeps hb _ _ (by simp [go_sem])) hx hc⟩⟩
  · subst h6
    go_enter Tryz.func79, Tryz.ntmps79
    go_wp2_with fail
    go_ret
    exact ⟨(by repeat (first | exact Below.refl _ _ | (refine Below.drew ?_) | (refine below_drewN' ?_ _) | (refine below_alloc' ?_ _) | (refine Below.setCell ?_ (by first | exact Nat.le_refl _ | (simp; done) | (simp; omega)) _))), .inl ⟨by decide, rfl⟩⟩
  · go_enter Tryz.func79, Tryz.ntmps79
    go_wp2_with fail
    go_ret
    exact ⟨(by repeat (first | exact Below.refl _ _ | (refine Below.drew ?_) | (refine below_drewN' ?_ _) | (refine below_alloc' ?_ _) | (refine Below.setCell ?_ (by first | exact Nat.le_refl _ | (simp; done) | (simp; omega)) _))), .inl ⟨by omega, rfl⟩⟩
  · have h9 : ¬ rule < 0 := by omega
    have h10 : rule ≥ 6 := by omega
    go_enter Tryz.func79, Tryz.ntmps79
    go_wp2_with fail
    go_ret
    exact ⟨(by repeat (first | exact Below.refl _ _ | (refine Below.drew ?_) | (refine below_drewN' ?_ _) | (refine below_alloc' ?_ _) | (refine Below.setCell ?_ (by first | exact Nat.le_refl _ | (simp; done) | (simp; omega)) _))), .inl ⟨by omega, rfl⟩⟩
end Go.Proofs.YtjokcagggmjgmaaGreat
/-! MapB -/
namespace Go.Proofs.YtjokcagggmjgmaaGreat
open Go.RowKit
set_option linter.unusedVariables false
set_option linter.unusedSimpArgs false
set_option maxRecDepth 100000

theorem mapJ_len (rule : Int) (c : Nat) (l : List En) (j : Nat) : (mapL rule c (l.take j) ++ l.drop j).length = l.length := by
  unfold mapL; simp; omega
theorem mapJ_at (rule : Int) (c : Nat) (l : List En) (j : Nat) (hj : j < l.length) (h : j < (mapL rule c (l.take j) ++ l.drop j).length) : (mapL rule c (l.take j) ++ l.drop j)[j] = l[j] := by
  have e : (mapL rule c (l.take j)).length = j := by unfold mapL; simp; omega
  rw [List.getElem_append_right (by omega)]
  simp [e]
theorem mapJ_step (rule : Int) (c : Nat) (l : List En) (j : Nat) (hj : j < l.length) : (mapL rule c (l.take j) ++ l.drop j).set j ⟨l[j].p, valueL rule l[j].v c⟩ = mapL rule c (l.take (j + 1)) ++ l.drop (j + 1) := by
  have e : (mapL rule c (l.take j)).length = j := by unfold mapL; simp; omega
  have e2 : mapL rule c (l.take (j + 1)) = mapL rule c (l.take j) ++ [⟨l[j].p, valueL rule l[j].v c⟩] := by rw [← List.take_append_getElem hj]; unfold mapL; rw [List.map_append]; rfl
  rw [List.set_append_right _ _ (by omega), e, Nat.sub_self, ← List.getElem_cons_drop hj, List.set_cons_zero, e2, List.append_assoc]
  rfl
def BMapR (W : World) (k : Nat) (rule : Int) (c : Nat) (l : List En) (e : Ending) (w' : World) : Prop := Below W.heap.size W w' ∧
  ((¬ (1 ≤ rule ∧ rule ≤ 5) ∧ e = .returned (.tuple #[.pointer none, .int .i64 12])) ∨ ((1 ≤ rule ∧ rule ≤ 5) ∧ ∃ g, e = .returned (.tuple #[.pointer (some ⟨g, 0, none⟩), .int .i64 0]) ∧ TrR w' g k (mapL rule c l)))
theorem func_nil1 (f : FuncId) (cap : Array Value) (w : World) : (binOp .eql 124 (.func (.func f) #[] cap) .nilFunc).run Tryz.prog w = .ok (.bool false) w := rfl
set_option maxHeartbeats 4000000 in
theorem bmap_any (w : World) (t k : Nat) (rule : Int) (c : Nat) (l : List En) (ht : TrR w t k l) (he : EtS k l) (hvv : ∀ e ∈ l, e.v < 2 ^ 64) (hc : c < 2 ^ 64) :
    Calls Tryz.prog 39 #[.pointer (some ⟨t, 0, none⟩), .int .i64 rule, .int .u64 (c : Nat)] w fun e w' => BMapR w k rule c l e w' := by
  have HM := Lib.hid (maps_any w rule c hc)
  have hnil0 : ∀ w : World, (binOp .eql 124 .nilFunc .nilFunc).run Tryz.prog w = .ok (.bool true) w := fun _ => rfl
  have HT := Lib.hid (And.intro ht (And.intro he (And.intro hvv hc)))
  clear ht he hvv hc
  go_enter Tryz.func39, Tryz.ntmps39
  go_wp2_with fail
  refine HM.out.mono ?_
  rintro e w1 ⟨hb1, ⟨hno, rfl⟩ | ⟨hyes, v, rfl, hfn⟩⟩
  · have HF := Lib.hid (And.intro hb1 hno)
    clear hb1 hno
    go_wp2_with fail
    go_ret2
    exact ⟨HF.out.1, .inl ⟨HF.out.2, rfl⟩⟩
  · obtain ⟨f, bc, rfl, hent, hcall⟩ := hfn
    have hnil := func_nil1 f #[.pointer (some ⟨bc, 0, none⟩)]
    have HC := Lib.hid (And.intro hcall (And.intro hb1 hyes))
    obtain ⟨r, hr1, hr2⟩ := (HT.out.1.bel hb1).c1
    have HRT := Lib.hid hr2
    have HTW := Lib.hid (troot_any w1 t (r.map fun b => ⟨b, 0, none⟩) hr1)
    have HWA := Lib.hid (wall_any w1 k r l hr2 HT.out.1.k1 HT.out.1.k16 (by have := HT.out.2.1.short; omega))
    clear hb1 hyes hcall hr1 hr2
    go_wp2_with fail
    refine HTW.out.mono ?_
    rintro e w2 ⟨rfl, hw⟩
    obtain rfl := hw.symm
    clear hw
    go_wp2_with fail
    refine HWA.out.mono ?_
    rintro e w2 ⟨v2, rfl, hown, hb2⟩
    have HO := Lib.hid (And.intro hown hb2)
    have HFIN := Lib.hid (fun (W : World) (vr : Value) (hb : Below w.heap.size w W) (hvr : RdE W vr (mapL rule c l)) => And.intro (tk_any W t k (HT.out.1.bel hb).c0) (build_rt W k (mapL rule c l) vr hvr (HT.out.2.1.mapL rule c) HT.out.1.k1 HT.out.1.k16 (fun e he => by
      obtain ⟨x, hx, rfl⟩ := List.mem_map.1 he
      exact valueL_lt (HT.out.2.2.1 x hx) HT.out.2.2.2)))
    by_cases hne : l = []
    · subst hne
      obtain ⟨A2, c2, rfl⟩ := hown.shape
      have HV := Lib.hid (show RdE w2 (.slice A2 ([] : List En).length c2) (mapL rule c []) from HO.out.1.rd fun u p h => h.rd)
      simp only [List.length_nil] at HV ⊢
      clear hown hb2
      go_wp2_with fail
      go_loopw [10, 23] (fun _ iv wr => iv = .int .i64 0 ∧ wr = w2) (fun _ _ _ => 0)
      case atStart => exact ⟨rfl, rfl⟩
      case round =>
        obtain ⟨rfl, hw⟩ := hrel
        subst hw
        have HB := Lib.hid (HC.out.2.1.trans (HO.out.2.mono HC.out.2.1.size))
        have HF2 := Lib.hid (HFIN.out _ _ HB.out HV.out)
        go_wp2_with fail
        refine HF2.out.1.mono ?_
        rintro e w5 ⟨rfl, hw⟩
        obtain rfl := hw.symm
        clear hw
        go_wp2_with fail
        refine HF2.out.2.mono ?_
        rintro e w6 ⟨r6, rfl, hr6, hb6⟩
        have HB6 := Lib.hid (HB.out.trans (hb6.mono HB.out.size))
        have HOF := Lib.hid (of_rt w6 k r6 _ hr6 HT.out.1.k1 HT.out.1.k16)
        obtain ⟨q6, hq6⟩ := pv_ex r6
        rw [hq6] at HOF ⊢
        clear hr6 hb6
        go_wp2_with fail
        refine HOF.out.mono ?_
        rintro e w7 ⟨t7, rfl, ht7, hb7⟩
        have HF := Lib.hid (And.intro ht7 (HB6.out.trans (hb7.mono HB6.out.size)))
        clear ht7 hb7
        go_wp2_with fail
        go_ret2
        exact ⟨HF.out.2, .inr ⟨HC.out.2.2, t7, rfl, HF.out.1⟩⟩
    · obtain ⟨g, n, rfl, hrow⟩ := hown.row hb2 hne
      obtain ⟨M, hM⟩ : ∃ M, l.length = M := ⟨_, rfl⟩
      have HMX := Lib.hid hM
      have H0 := Lib.hid (show RowD w1 w2 g n (mapL rule c (l.take 0) ++ l.drop 0) from by simpa [mapL] using hrow)
      rw [hM]
      clear hown hb2 hrow hM
      go_wp2_with fail
      go_loopw [10, 23] (fun _ iv wr => ∃ j : Nat, j ≤ M ∧ iv = .int .i64 (j : Nat) ∧ RowD w1 wr g n (mapL rule c (l.take j) ++ l.drop j)) (fun _ iv _ => M - (intOf iv).toNat)
      case atStart => exact ⟨0, Nat.zero_le _, rfl, H0.out⟩
      case round =>
        obtain ⟨j, hj, rfl, hrow⟩ := hrel
        have HR := Lib.hid hrow
        by_cases hlt : j < M
        · have hjl : j < l.length := by rw [HMX.out]; exact hlt
          have hml := mapJ_len rule c l j
          obtain ⟨u, k0, kp, k1⟩ := hrow.at' j (by omega)
          rw [mapJ_at rule c l j hjl (by omega)] at k1 kp
          have h1 : (j : Int) < (M : Int) := by omega
          have h2 : (0 : Int) ≤ (j : Int) := by omega
          have HW := Lib.hid (show wrap64 ((j : Int) + 1) = ((j + 1 : Nat) : Int) by have := HT.out.2.1.short; have := HMX.out; unfold wrap64; omega)
          have hth := fun q => hrow.thaw q
          have hgl := hrow.lt
          have HCL := Lib.hid (HC.out.1 wr l[j].v hrow.bel (HT.out.2.2.1 _ (List.getElem_mem hjl)))
          have HSET := Lib.hid (show RowD w1 (wr.setCell ⟨g, j * 2 + 1, none⟩ (.int .u64 (valueL rule l[j].v c : Nat))) g n (mapL rule c (l.take (j + 1)) ++ l.drop (j + 1)) from by
            have := hrow.setV (j := j) (by omega) (valueL rule l[j].v c)
            rw [mapJ_at rule c l j hjl (by omega), mapJ_step rule c l j hjl] at this
            exact this)
          generalize valueL rule l[j].v c = y at *
          generalize l[j].v = x at *
          clear hrow kp k0
          go_wp2_with fail
          refine HCL.out.mono ?_
          rintro e w5 ⟨rfl, hw⟩
          obtain rfl := hw.symm
          clear hw
          go_wp2_with fail
          go_roundw
          case rel => exact ⟨j + 1, by omega, (by first | rw [HW.out] | rfl | simp), HSET.out⟩
          case measure => (first | (rw [intOf_of' HW.out, intOf_of' rfl]; omega) | (simp [intOf]; omega) | (simp [intOf] <;> omega))
        · have h1 : ¬ (j : Int) < (M : Int) := by omega
          have e1 : l.take j = l := List.take_of_length_le (by rw [HMX.out]; omega)
          have e2 : l.drop j = [] := List.drop_of_length_le (by rw [HMX.out]; omega)
          rw [e1, e2, List.append_nil] at HR
          have HB := Lib.hid (HC.out.2.1.trans (HR.out.bel.mono HC.out.2.1.size))
          have hvr := HR.out.rd
          rw [show (mapL rule c l).length = M by unfold mapL; rw [List.length_map]; exact HMX.out] at hvr
          have HF2 := Lib.hid (HFIN.out _ _ HB.out hvr)
          clear hrow e1 e2 hvr
          go_wp2_with fail
          refine HF2.out.1.mono ?_
          rintro e w5 ⟨rfl, hw⟩
          obtain rfl := hw.symm
          clear hw
          go_wp2_with fail
          refine HF2.out.2.mono ?_
          rintro e w6 ⟨r6, rfl, hr6, hb6⟩
          have HB6 := Lib.hid (HB.out.trans (hb6.mono HB.out.size))
          have HOF := Lib.hid (of_rt w6 k r6 _ hr6 HT.out.1.k1 HT.out.1.k16)
          obtain ⟨q6, hq6⟩ := pv_ex r6
          rw [hq6] at HOF ⊢
          clear hr6 hb6
          go_wp2_with fail
          refine HOF.out.mono ?_
          rintro e w7 ⟨t7, rfl, ht7, hb7⟩
          have HF := Lib.hid (And.intro ht7 (HB6.out.trans (hb7.mono HB6.out.size)))
          clear ht7 hb7
          go_wp2_with fail
          go_ret2
          exact ⟨HF.out.2, .inr ⟨HC.out.2.2, t7, rfl, HF.out.1⟩⟩
end Go.Proofs.YtjokcagggmjgmaaGreat
/-! SomA -/
namespace Go.Proofs.YtjokcagggmjgmaaGreat
open Go.RowKit
set_option linter.unusedVariables false
set_option linter.unusedSimpArgs false
set_option maxRecDepth 100000

theorem sums_mn_ex {l : List En} (h : l ≠ []) : ∃ e ∈ l, e.v = (sumsL l).mn := by
  induction l with
  | nil => exact absurd rfl h
  | cons x l ih =>
    cases l with
    | nil => exact ⟨x, by simp, rfl⟩
    | cons y l =>
      obtain ⟨e, he, h2⟩ := ih (by simp)
      rw [sumsL_cons x (y :: l) (by simp)]
      show ∃ e ∈ x :: y :: l, e.v = min x.v (sumsL (y :: l)).mn
      by_cases hx : x.v ≤ (sumsL (y :: l)).mn
      · exact ⟨x, by simp, by omega⟩
      · exact ⟨e, List.mem_cons_of_mem _ he, by omega⟩
theorem sums_mx_ex {l : List En} (h : l ≠ []) : ∃ e ∈ l, e.v = (sumsL l).mx := by
  induction l with
  | nil => exact absurd rfl h
  | cons x l ih =>
    cases l with
    | nil => exact ⟨x, by simp, rfl⟩
    | cons y l =>
      obtain ⟨e, he, h2⟩ := ih (by simp)
      rw [sumsL_cons x (y :: l) (by simp)]
      show ∃ e ∈ x :: y :: l, e.v = max x.v (sumsL (y :: l)).mx
      by_cases hx : (sumsL (y :: l)).mx ≤ x.v
      · exact ⟨x, by simp, by omega⟩
      · exact ⟨e, List.mem_cons_of_mem _ he, by omega⟩
theorem someL_eq {lo hi : Nat} {l : List En} (hne : l ≠ []) (h : someL lo hi l = l) : (sumsL l).mn ≥ lo ∧ (sumsL l).mx ≤ hi := by
  unfold someL at h
  rw [List.filter_eq_self] at h
  obtain ⟨e, he, h1⟩ := sums_mn_ex hne
  obtain ⟨f, hf, h2⟩ := sums_mx_ex hne
  have h3 := h e he
  have h4 := h f hf
  unfold inR at h3 h4
  simp at h3 h4
  omega
/-- what some hands back -/
def SomR (W : World) (k lo hi b : Nat) (l : List En) (e : Ending) (w' : World) : Prop := ∃ r, e = .returned (pv r) ∧ RtN w' k r (someL lo hi l) ∧ Below W.heap.size W w' ∧ (someL lo hi l = l → r = some b)
set_option maxHeartbeats 2000000 in
theorem some_early (w : World) (k lo hi b : Nat) (l : List En) (h : Nd w k b l) (hl : l.length ≤ 1000) (hlo : lo < 2 ^ 64) (hhi : hi < 2 ^ 64)
    (hc : ((sumsL l).mn > hi ∨ (sumsL l).mx < lo ∨ lo > hi) ∨ ((sumsL l).mn ≥ lo ∧ (sumsL l).mx ≤ hi)) :
    Calls Tryz.prog 81 #[.pointer (some ⟨b, 0, none⟩), .int .u64 (lo : Nat), .int .u64 (hi : Nat)] w fun e w' => SomR w k lo hi b l e w' := by
  obtain ⟨v, kp, hh⟩ := h.hd
  have HS := Lib.hid (nsums_any w b _ _ _ _ _ hh)
  have hne := h.ne
  have hn : (sumsL l).n = l.length := sums_n l (by omega)
  have hn0 : ¬ ((sumsL l).n : Int) = 0 := by have := List.length_pos_iff.2 hne; omega
  have hn1 : (((sumsL l).n : Int) == 0) = false := by simpa using hn0
  have HX := Lib.hid (And.intro h hne)
  rcases hc with hc | hc
  · have HN := Lib.hid (show someL lo hi l = [] from someL_none hc)
    have HNE := Lib.hid (show ¬ someL lo hi l = l from fun h => hne (h.symm.trans HN.out))
    clear h hne hn hh
    generalize sumsL l = s at *
    obtain ⟨sn, ss, smn, smx⟩ := s
    simp only at hc hn0 hn1
    by_cases h1 : (smn : Int) > (hi : Int)
    · clear hc hlo hhi
      go_enter Tryz.func81, Tryz.ntmps81
      go_wp2_with fail
      refine HS.out.mono ?_
      rintro e w1 ⟨rfl, hb1⟩
      have HB := Lib.hid hb1
      clear hb1
      simp only [smV]
      go_wp2_with fail
      go_ret
      exact ⟨none, rfl, HN.out, (by repeat (first | exact HB.out | (refine Below.drew ?_) | (refine below_drewN' ?_ _) | (refine below_alloc' ?_ _) | (refine Below.setCell ?_ (by first | exact Nat.le_refl _ | (have := HB.out.size; simp; omega) | (have := HB.out.size; omega)) _))), fun h => absurd h HNE.out⟩
    · by_cases h2 : (smx : Int) < (lo : Int)
      · clear hc hlo hhi
        go_enter Tryz.func81, Tryz.ntmps81
        go_wp2_with fail
        refine HS.out.mono ?_
        rintro e w1 ⟨rfl, hb1⟩
        have HB := Lib.hid hb1
        clear hb1
        simp only [smV]
        go_wp2_with fail
        go_ret
        exact ⟨none, rfl, HN.out, (by repeat (first | exact HB.out | (refine Below.drew ?_) | (refine below_drewN' ?_ _) | (refine below_alloc' ?_ _) | (refine Below.setCell ?_ (by first | exact Nat.le_refl _ | (have := HB.out.size; simp; omega) | (have := HB.out.size; omega)) _))), fun h => absurd h HNE.out⟩
      · have h3 : (lo : Int) > (hi : Int) := by omega
        clear hc hlo hhi
        go_enter Tryz.func81, Tryz.ntmps81
        go_wp2_with fail
        refine HS.out.mono ?_
        rintro e w1 ⟨rfl, hb1⟩
        have HB := Lib.hid hb1
        clear hb1
        simp only [smV]
        go_wp2_with fail
        go_ret
        exact ⟨none, rfl, HN.out, (by repeat (first | exact HB.out | (refine Below.drew ?_) | (refine below_drewN' ?_ _) | (refine below_alloc' ?_ _) | (refine Below.setCell ?_ (by first | exact Nat.le_refl _ | (have := HB.out.size; simp; omega) | (have := HB.out.size; omega)) _))), fun h => absurd h HNE.out⟩
  · have HN := Lib.hid (show someL lo hi l = l from someL_all hc.1 hc.2)
    have h0 : (sumsL l).mn ≤ (sumsL l).mx := by
      obtain ⟨e, he, h1⟩ := sums_mn_ex hne
      have := sums_mx e he
      omega
    clear h hne hn hh
    generalize sumsL l = s at *
    obtain ⟨sn, ss, smn, smx⟩ := s
    simp only at hc hn0 hn1 h0
    have h1 : ¬ (smn : Int) > (hi : Int) := by omega
    have h2 : ¬ (smx : Int) < (lo : Int) := by omega
    have h3 : ¬ (lo : Int) > (hi : Int) := by omega
    have h4 : (smn : Int) ≥ (lo : Int) := by omega
    have h5 : (smx : Int) ≤ (hi : Int) := by omega
    clear hc hlo hhi h0
    go_enter Tryz.func81, Tryz.ntmps81
    go_wp2_with fail
    refine HS.out.mono ?_
    rintro e w1 ⟨rfl, hb1⟩
    have HB := Lib.hid hb1
    clear hb1
    simp only [smV]
    go_wp2_with fail
    go_ret
    refine ⟨some b, rfl, ?_, (by repeat (first | exact HB.out | (refine Below.drew ?_) | (refine below_drewN' ?_ _) | (refine below_alloc' ?_ _) | (refine Below.setCell ?_ (by first | exact Nat.le_refl _ | (have := HB.out.size; simp; omega) | (have := HB.out.size; omega)) _))), fun _ => rfl⟩
    rw [HN.out]
    exact HX.out.1.bel (by repeat (first | exact HB.out | (refine Below.drew ?_) | (refine below_drewN' ?_ _) | (refine below_alloc' ?_ _) | (refine Below.setCell ?_ (by first | exact Nat.le_refl _ | (have := HB.out.size; simp; omega) | (have := HB.out.size; omega)) _)))
end Go.Proofs.YtjokcagggmjgmaaGreat
/-! SomB -/
namespace Go.Proofs.YtjokcagggmjgmaaGreat
open Go.RowKit
set_option linter.unusedVariables false
set_option linter.unusedSimpArgs false
set_option maxRecDepth 100000

set_option maxHeartbeats 8000000 in
theorem some_node (w : World) (k lo hi b s n : Nat) (pre : List Nat) (ks : List (Nat × Nat × List En)) (h : Hd w b n pre 0 (.pointer (some ⟨s, 0, none⟩)) (sumsL (cat (ks.map kl)))) (hs : SlR w s k (ks.map kb)) (hk : Kd k n pre (ks.map kl))
    (hn : ∀ x ∈ ks, Nd w k x.2.1 x.2.2) (hl : (cat (ks.map kl)).length ≤ 1000) (k1 : 1 ≤ k) (k16 : k ≤ 16)
    (hc1 : ¬ ((sumsL (cat (ks.map kl))).mn > hi ∨ (sumsL (cat (ks.map kl))).mx < lo ∨ lo > hi)) (hc2 : ¬ ((sumsL (cat (ks.map kl))).mn ≥ lo ∧ (sumsL (cat (ks.map kl))).mx ≤ hi))
    (ih : ∀ x ∈ ks, ∀ w', Below w.heap.size w w' → Calls Tryz.prog 81 #[.pointer (some ⟨x.2.1, 0, none⟩), .int .u64 (lo : Nat), .int .u64 (hi : Nat)] w' fun e w'' => SomR w' k lo hi x.2.1 x.2.2 e w'') :
    Calls Tryz.prog 81 #[.pointer (some ⟨b, 0, none⟩), .int .u64 (lo : Nat), .int .u64 (hi : Nat)] w fun e w' => SomR w k lo hi b (cat (ks.map kl)) e w' := by
  have HS := Lib.hid (nsums_any w b _ _ _ _ _ h)
  have hne := hk.cat_ne
  have hsn : (sumsL (cat (ks.map kl))).n = (cat (ks.map kl)).length := sums_n _ (by omega)
  have hn0 : ¬ ((sumsL (cat (ks.map kl))).n : Int) = 0 := by have := List.length_pos_iff.2 hne; omega
  have hn1 : (((sumsL (cat (ks.map kl))).n : Int) == 0) = false := by simpa using hn0
  have HNE := Lib.hid (show ¬ someL lo hi (cat (ks.map kl)) = cat (ks.map kl) from fun h => hc2 (someL_eq hne h))
  have HK := Lib.hid (And.intro hk (And.intro k1 (And.intro k16 hn)))
  have HFK := Lib.hid (FromK.of h.c3 hs)
  have HC0 := Lib.hid h.c0
  have HIH := Lib.hid ih
  have h1 : ¬ ((sumsL (cat (ks.map kl))).mn : Int) > (hi : Int) := by omega
  have h2 : ¬ ((sumsL (cat (ks.map kl))).mx : Int) < (lo : Int) := by omega
  have h3 : ¬ (lo : Int) > (hi : Int) := by omega
  clear h hs hk hn hl k1 k16 hc1 ih hne hsn
  generalize sumsL (cat (ks.map kl)) = S at *
  obtain ⟨sn, ss, smn, smx⟩ := S
  simp only at hc2 hn0 hn1 h1 h2
  have hor : ((smn : Int) ≥ (lo : Int) ∧ ¬ (smx : Int) ≤ (hi : Int)) ∨ ¬ (smn : Int) ≥ (lo : Int) := by omega
  clear hc2
  rcases hor with ⟨h4, h5⟩ | h4
  all_goals
    go_enter Tryz.func81, Tryz.ntmps81
    go_wp2_with fail
    refine HS.out.mono ?_
    rintro e w1 ⟨rfl, hb1⟩
    have HB1 := Lib.hid hb1
    clear hb1
    simp only [smV]
    go_wp2_with fail
    · refine (HFK.out.zero _ (below_trans HB1.out (by repeat (first | exact Below.refl _ _ | (refine Below.drew ?_) | (refine below_drewN' ?_ _) | (refine below_alloc' ?_ _) | (refine Below.setCell ?_ (by first | exact Nat.le_refl _ | (simp; done) | (simp; omega)) _))))).mono ?_
      rintro e w2 ⟨rfl, hb2⟩
      have HB2 := Lib.hid ((below_trans HB1.out (by repeat (first | exact Below.refl _ _ | (refine Below.drew ?_) | (refine below_drewN' ?_ _) | (refine below_alloc' ?_ _) | (refine Below.setCell ?_ (by first | exact Nat.le_refl _ | (simp; done) | (simp; omega)) _)))).trans (hb2.mono (below_trans HB1.out (by repeat (first | exact Below.refl _ _ | (refine Below.drew ?_) | (refine below_drewN' ?_ _) | (refine below_alloc' ?_ _) | (refine Below.setCell ?_ (by first | exact Nat.le_refl _ | (simp; done) | (simp; omega)) _)))).size))
      clear hb2
      go_wp2_with fail
      go_loopw [8, 9, 10] (fun ov av kv wr => ∃ (j : Nat) (r : Option Nat), j ≤ ks.length ∧ ov = pv r ∧ av = frA (frO ks j) ∧ kv = frK (frO ks j) ∧ (r = none ↔ someK lo hi ((ks.map kl).take j) = []) ∧ (∀ g, r = some g → Nd wr k g (cat (someK lo hi ((ks.map kl).take j)))) ∧ Below w.heap.size w wr) (fun ov av kv _ => kmu av kv)
      case atStart => exact ⟨0, none, Nat.zero_le _, rfl, rfl, rfl, ⟨fun _ => rfl, fun _ => rfl⟩, (fun g h => by cases h), HB2.out⟩
      case round =>
        obtain ⟨j, r, hj, rfl, rfl, rfl, hr, hnd, hb⟩ := hrel
        have HB := Lib.hid hb
        have HR := Lib.hid (And.intro hr hnd)
        by_cases hlt : j < ks.length
        · have hlk : j < (ks.map kl).length := by rw [List.length_map]; exact hlt
          have hstep := someK_step lo hi (ks.map kl) j hlk
          have e2 : (ks.map kl)[j] = kl ks[j] := List.getElem_map ..
          rw [e2] at hstep
          have HST := Lib.hid hstep
          have HCALL := Lib.hid (HIH.out ks[j] (List.getElem_mem hlt) wr hb)
          have HNX := Lib.hid (HFK.out.next j hlt)
          have HMU := Lib.hid (HFK.out.mu j hlt)
          have hla := HFK.out.lt j hlt
          have e3 : (kl ks[j]).2 = ks[j].2.2 := rfl
          have e4 : (kl ks[j]).1 = ks[j].1 := rfl
          rw [e3, e4] at HST
          rw [frO_some hlt] at HMU ⊢
          obtain ⟨A, hA⟩ : ∃ A, ks[j].1 = A := ⟨_, rfl⟩
          obtain ⟨B, hB⟩ : ∃ B, ks[j].2.1 = B := ⟨_, rfl⟩
          obtain ⟨X, hX⟩ : ∃ X, ks[j].2.2 = X := ⟨_, rfl⟩
          rw [hA] at HNX HMU hla HST ⊢
          rw [hB] at HCALL HMU ⊢
          rw [hX] at HCALL HST
          have HW := Lib.hid (show wrap64 ((A : Int) + 1) = (A : Int) + 1 by unfold wrap64; omega)
          rw [frA_some, frK_some]
          obtain ⟨q, hq⟩ := pv_ex r
          have HQ := Lib.hid hq
          rw [hq]
          clear hstep hr hnd hb e2 e3 e4 hA hB hX hla
          go_wp2_with fail
          refine HCALL.out.mono ?_
          rintro e w5 ⟨r5, rfl, hr5, hb5, _⟩
          have HB5 := Lib.hid (HB.out.trans (hb5.mono HB.out.size))
          have HW5 := Lib.hid hb5
          clear hb5
          rcases HST.out with ⟨hem, htk⟩ | ⟨hem, hI, hat, htk, htk2⟩
          · have HTK := Lib.hid htk
            have HB3 := HB5
            obtain rfl : r5 = none := by
              cases r5 with
              | none => rfl
              | some g => rw [hem] at hr5; exact absurd rfl (Nd.ne hr5)
            clear hem htk hr5
            simp only [pv_none]
            go_wp2_with fail
            rw [HW.out]
            refine (HNX.out _ HB3.out).mono ?_
            rintro e w9 ⟨rfl, hb9⟩
            have HB9 := Lib.hid (HB3.out.trans (hb9.mono HB3.out.size))
            have HW9 := Lib.hid hb9
            clear hb9
            go_wp2_with fail
            go_roundw
            case rel => exact ⟨j + 1, r, by omega, HQ.out.symm, rfl, rfl, by rw [HTK.out]; exact HR.out.1, (fun g hg => by rw [HTK.out]; exact ((HR.out.2 g hg).bel HW5.out).bel HW9.out), HB9.out⟩
            case measure => exact HMU.out
          · obtain ⟨g5, rfl⟩ : ∃ g, r5 = some g := by
              cases r5 with
              | none => exact absurd hr5 hem
              | some g => exact ⟨g, rfl⟩
            have hn5 : Nd w5 k g5 (someL lo hi X) := hr5
            simp only [pv_some]
            obtain ⟨L, hL⟩ : ∃ L, someK lo hi (ks.map kl) = L := ⟨_, rfl⟩
            obtain ⟨c, hcc⟩ : ∃ c, (someK lo hi ((ks.map kl).take j)).length = c := ⟨_, rfl⟩
            rw [hL] at htk htk2
            rw [hcc] at htk htk2
            have hat2 : L[c]? = some (A, someL lo hi X) := by
              have : (someK lo hi (ks.map kl))[(someK lo hi ((ks.map kl).take j)).length]? = some (A, someL lo hi X) := by rw [List.getElem?_eq_getElem hI, hat]
              rw [hL, hcc] at this
              exact this
            rw [hL, hcc] at hI
            have hat3 : L[c] = (A, someL lo hi X) := by rw [List.getElem?_eq_getElem hI] at hat2; injection hat2
            have HNEW := Lib.hid (show ¬ someK lo hi ((ks.map kl).take (j + 1)) = [] from fun h => by
              rw [htk2] at h
              have := congrArg List.length h
              rw [List.length_take, List.length_nil] at this
              omega)
            have HKD := Lib.hid (show 2 ≤ L.length → Kd k n pre L from fun h => hL ▸ someK_kd HK.out.1 lo hi (hL.symm ▸ h))
            clear hat hat2 hr5
            cases r with
            | none =>
              have hc0 : c = 0 := by have := HR.out.1.1 rfl; rw [this] at hcc; exact hcc.symm
              subst hc0
              have HEQ := Lib.hid (show cat (someK lo hi ((ks.map kl).take (j + 1))) = someL lo hi X from by rw [htk2, cat_take_succ L 0 hI, hat3]; rfl)
              have HN3 := Lib.hid hn5
              have HB3 := HB5
              obtain rfl : q = none := by rw [pv_none] at hq; injection hq with hq; exact hq.symm
              clear hem hI htk htk2 hL hcc hat3 hn5 hq
              go_wp2_with fail
              rw [HW.out]
              refine (HNX.out _ HB3.out).mono ?_
              rintro e w9 ⟨rfl, hb9⟩
              have HB9 := Lib.hid (HB3.out.trans (hb9.mono HB3.out.size))
              have HW9 := Lib.hid hb9
              clear hb9
              go_wp2_with fail
              go_roundw
              case rel => exact ⟨j + 1, some g5, by omega, rfl, rfl, rfl, ⟨(fun h => by cases h), fun h => absurd h HNEW.out⟩, (fun g hg => by injection hg with hg; subst hg; rw [HEQ.out]; exact HN3.out.bel HW9.out), HB9.out⟩
              case measure => exact HMU.out
            | some gx =>
              have hc0 : c ≠ 0 := fun h => by
                have := HR.out.1.2 (List.length_eq_zero_iff.1 (hcc.trans h))
                cases this
              have hx5 : Nd w5 k gx (cat (L.take c)) := by rw [← htk]; exact (HR.out.2 gx rfl).bel HW5.out
              obtain ⟨vx, kpx, hhx⟩ := hx5.hd
              obtain ⟨lvx, hlvx⟩ : ∃ lvx : Int, lvx = (lev (cat (L.take c)) : Int) - 1 := ⟨_, rfl⟩
              have HLX := Lib.hid (show w5.cell? ⟨gx, 0, none⟩ = some (.int .i64 lvx) from hlvx ▸ hhx.c0)
              have HLB := Lib.hid (Below.keeps HB5.out _ _ HC0.out)
              have HEQ := Lib.hid (show cat (someK lo hi ((ks.map kl).take (j + 1))) = cat (L.take (c + 1)) from by rw [htk2])
              have hkd := HKD.out (by omega)
              obtain rfl : q = some ⟨gx, 0, none⟩ := by rw [pv_some] at hq; injection hq with hq; exact hq.symm
              by_cases hc1 : c = 1
              · subst hc1
                have hlx : lvx < (n : Int) := by
                  rw [hlvx, cat_take_succ L 0 (by omega)]
                  have := hkd.kid_lev (List.getElem_mem (show 0 < L.length by omega))
                  simp only [List.take_zero, cat, List.flatMap_nil, List.nil_append]
                  omega
                have HCON := Lib.hid (bld_pair w5 k n gx g5 pre L hkd HK.out.2.1 HK.out.2.2.1 (by omega) (by have e := cat_take_succ L 0 (by omega); rw [show cat (L.take 0) = [] from rfl, List.nil_append] at e; rw [← e]; exact hx5) (by rw [hat3]; exact hn5))
                clear hem hI htk htk2 hL hcc hat3 hn5 hx5 hhx hlvx hkd hc0 hq
                go_wp2_with fail
                refine (nlev_any _ gx lvx HLX.out).mono ?_
                rintro e w7 ⟨rfl, hw⟩
                obtain rfl := hw.symm
                clear hw
                go_wp2_with fail
                refine (nlev_any _ b n HLB.out).mono ?_
                rintro e w7 ⟨rfl, hw⟩
                obtain rfl := hw.symm
                clear hw
                go_wp2_with fail
                refine (HCON.out).mono ?_
                rintro e w8 ⟨g3, rfl, hn3, hb3⟩
                have HN3 := Lib.hid hn3
                have HB3 := Lib.hid (HB5.out.trans (hb3.mono HB5.out.size))
                clear hn3 hb3
                go_wp2_with fail
                rw [HW.out]
                refine (HNX.out _ HB3.out).mono ?_
                rintro e w9 ⟨rfl, hb9⟩
                have HB9 := Lib.hid (HB3.out.trans (hb9.mono HB3.out.size))
                have HW9 := Lib.hid hb9
                clear hb9
                go_wp2_with fail
                go_roundw
                case rel => exact ⟨j + 1, some g3, by omega, rfl, rfl, rfl, ⟨(fun h => by cases h), fun h => absurd h HNEW.out⟩, (fun g hg => by injection hg with hg; subst hg; rw [HEQ.out]; exact HN3.out.bel HW9.out), HB9.out⟩
                case measure => exact HMU.out
              · have hlx : ¬ lvx < (n : Int) := by
                  rw [hlvx, (hkd.take (show 2 ≤ c by omega) (Nat.le_of_lt hI)).lev]
                  omega
                have HCON := Lib.hid (bld_with w5 k n gx g5 c pre L hkd (by omega) hI hx5 (by rw [hat3]; exact hn5))
                clear hem hI htk htk2 hL hcc hat3 hn5 hx5 hhx hlvx hkd hc0 hc1 hq
                go_wp2_with fail
                refine (nlev_any _ gx lvx HLX.out).mono ?_
                rintro e w7 ⟨rfl, hw⟩
                obtain rfl := hw.symm
                clear hw
                go_wp2_with fail
                refine (nlev_any _ b n HLB.out).mono ?_
                rintro e w7 ⟨rfl, hw⟩
                obtain rfl := hw.symm
                clear hw
                go_wp2_with fail
                refine (HCON.out).mono ?_
                rintro e w8 ⟨g3, rfl, hn3, hb3⟩
                have HN3 := Lib.hid hn3
                have HB3 := Lib.hid (HB5.out.trans (hb3.mono HB5.out.size))
                clear hn3 hb3
                go_wp2_with fail
                rw [HW.out]
                refine (HNX.out _ HB3.out).mono ?_
                rintro e w9 ⟨rfl, hb9⟩
                have HB9 := Lib.hid (HB3.out.trans (hb9.mono HB3.out.size))
                have HW9 := Lib.hid hb9
                clear hb9
                go_wp2_with fail
                go_roundw
                case rel => exact ⟨j + 1, some g3, by omega, rfl, rfl, rfl, ⟨(fun h => by cases h), fun h => absurd h HNEW.out⟩, (fun g hg => by injection hg with hg; subst hg; rw [HEQ.out]; exact HN3.out.bel HW9.out), HB9.out⟩
                case measure => exact HMU.out
        · rw [frO_none hlt, frA_none, frK_none]
          have e : (ks.map kl).take j = ks.map kl := List.take_of_length_le (by rw [List.length_map]; omega)
          rw [e] at HR
          obtain ⟨q, hq⟩ := pv_ex r
          have HQ := Lib.hid hq
          rw [hq]
          clear hr hnd hb e hq
          go_wp2_with fail
          go_ret
          refine ⟨r, by rw [HQ.out] <;> rfl, ?_, HB.out, fun h => absurd h HNE.out⟩
          cases r with
          | none =>
            have h9 := someK_cat lo hi (ks.map kl)
            rw [HR.out.1.1 rfl] at h9
            exact h9.symm
          | some g =>
            have h9 := HR.out.2 g rfl
            rw [someK_cat] at h9
            exact h9
end Go.Proofs.YtjokcagggmjgmaaGreat
/-! NdE -/
namespace Go.Proofs.YtjokcagggmjgmaaGreat
open Go.RowKit
set_option linter.unusedVariables false
set_option maxRecDepth 100000

theorem nodeInfo : ∃ j, Tryz.prog.info? 174 = some j ∧ j.size ≠ 0 := by
  have h : (Tryz.prog.info? 174).map (fun i => i.size) = some 8 := by kernel_rfl
  cases e : Tryz.prog.info? 174 with
  | none => rw [e] at h; cases h
  | some j =>
    rw [e] at h
    have h : j.size = 8 := by simpa using h
    exact ⟨j, rfl, by omega⟩
theorem nodeUnder : Tryz.prog.underlying 103 = some (.pointer 174) := by kernel_rfl
theorem node_same (w : World) (g : Nat) : (binOp .eql 103 (.pointer (some ⟨g, 0, none⟩)) (.pointer (some ⟨g, 0, none⟩))).run Tryz.prog w = .ok (.bool true) w := by
  obtain ⟨j, hj, _⟩ := nodeInfo
  exact run_eql_ptr_same w _ nodeUnder hj
theorem node_other {w : World} {g t k k' : Nat} {l l' : List En} (hg : Nd w k g l) (ht : Nd w k' t l') (hne : g ≠ t) : (binOp .eql 103 (.pointer (some ⟨g, 0, none⟩)) (.pointer (some ⟨t, 0, none⟩))).run Tryz.prog w = .ok (.bool false) w := by
  obtain ⟨v1, p1, q1⟩ := hg.hd
  obtain ⟨v2, p2, q2⟩ := ht.hd
  obtain ⟨c1, h1⟩ := q1.blk
  obtain ⟨c2, h2⟩ := q2.blk
  obtain ⟨j, hj, hsz⟩ := nodeInfo
  exact run_eql_ptr_other w nodeUnder hj hsz (by intro h; injection h with h; exact hne h) h1 h2
theorem root_eql {w : World} {k k' : Nat} {r r' : Option Nat} {l l' : List En} (h : RtN w k r l) (h' : RtN w k' r' l') : (binOp .eql 103 (pv r) (pv r')).run Tryz.prog w = .ok (.bool (decide (r = r'))) w := by
  cases r with
  | none =>
    cases r' with
    | none => rfl
    | some b => rfl
  | some a =>
    cases r' with
    | none => rfl
    | some b =>
      by_cases e : a = b
      · subst e
        rw [decide_eq_true rfl]
        exact node_same w a
      · rw [decide_eq_false (by intro h; injection h with h; exact e h)]
        exact node_other h h' e
theorem Nd.len_uniq {w : World} {k k' b : Nat} {l m : List En} (h : Nd w k b l) (g : Nd w k' b m) (hl : l.length ≤ 1000) (hm : m.length ≤ 1000) : l.length = m.length := by
  obtain ⟨v, kp, h1⟩ := h.hd
  obtain ⟨v', kp', h2⟩ := g.hd
  have h3 := h1.c4.symm.trans h2.c4
  rw [sums_n l (by omega), sums_n m (by omega)] at h3
  injection h3 with h3
  injection h3 with _ h3
  exact Int.ofNat.inj h3
end Go.Proofs.YtjokcagggmjgmaaGreat
/-! SomC -/
namespace Go.Proofs.YtjokcagggmjgmaaGreat
open Go.RowKit
set_option linter.unusedVariables false
set_option linter.unusedSimpArgs false
set_option maxRecDepth 100000

theorem some_any (k lo hi : Nat) (k1 : 1 ≤ k) (k16 : k ≤ 16) (hlo : lo < 2 ^ 64) (hhi : hi < 2 ^ 64) {w : World} {b : Nat} {l : List En} (h : Nd w k b l) : l.length ≤ 1000 →
    ∀ w', Below w.heap.size w w' → Calls Tryz.prog 81 #[.pointer (some ⟨b, 0, none⟩), .int .u64 (lo : Nat), .int .u64 (hi : Nat)] w' fun e w'' => SomR w' k lo hi b l e w'' := by
  induction h with
  | leaf b p v h hp ho hv =>
    intro hl w' hb
    refine some_early w' k lo hi b [⟨p, v⟩] ((Nd.leaf b p v h hp ho hv).bel hb) hl hlo hhi ?_
    show ((v > hi ∨ v < lo ∨ lo > hi) ∨ (v ≥ lo ∧ v ≤ hi))
    omega
  | node b s n pre ks h hs hkd hn ih =>
    intro hl w' hb
    have hx : ∀ x ∈ ks, x.2.2.length ≤ 1000 := fun x hx => by
      have := hkd.kid_lt (List.mem_map_of_mem hx)
      have e : (kl x).2 = x.2.2 := rfl
      rw [e] at this
      omega
    by_cases hc : ((sumsL (cat (ks.map kl))).mn > hi ∨ (sumsL (cat (ks.map kl))).mx < lo ∨ lo > hi) ∨ ((sumsL (cat (ks.map kl))).mn ≥ lo ∧ (sumsL (cat (ks.map kl))).mx ≤ hi)
    · exact some_early w' k lo hi b _ ((Nd.node b s n pre ks h hs hkd hn).bel hb) hl hlo hhi hc
    · exact some_node w' k lo hi b s n pre ks (h.keep hb) (hs.below hb) hkd (fun x hx => (hn x hx).bel hb) hl k1 k16 (fun h => hc (.inl h)) (fun h => hc (.inr h)) fun x hx2 w2 hb2 => ih x hx2 (hx x hx2) w2 (hb.trans (hb2.mono hb.size))
theorem someL_len_eq {lo hi : Nat} {l : List En} (h : (someL lo hi l).length = l.length) : someL lo hi l = l := List.filter_eq_self.2 (List.length_filter_eq_length_iff.1 h)
/-- what Where hands back -/
def WhR (W : World) (t k lo hi : Nat) (l : List En) (e : Ending) (w' : World) : Prop := Below W.heap.size W w' ∧ ∃ g, e = .returned (.tuple #[.pointer (some ⟨g, 0, none⟩), .int .i64 0]) ∧ TrR w' g k (someL lo hi l) ∧ (g = t ↔ someL lo hi l = l)
theorem rt_eq {w : World} {k b : Nat} {r : Option Nat} {l : List En} {lo hi : Nat} (h : RtN w k r (someL lo hi l)) (h' : Nd w k b l) (hl : l.length ≤ 1000) (e : r = some b) : someL lo hi l = l := by
  subst e
  exact someL_len_eq (Nd.len_uniq h h' (Nat.le_trans (someL_len lo hi l) hl) hl)
theorem TrR.len_uniq {w : World} {k k' t : Nat} {l m : List En} (h : TrR w t k l) (g : TrR w t k' m) (hl : l.length ≤ 1000) (hm : m.length ≤ 1000) : l.length = m.length := by
  obtain ⟨r, h1, h2⟩ := h.c1
  obtain ⟨r', h3, h4⟩ := g.c1
  have e := h1.symm.trans h3
  have e2 : r = r' := by
    cases r with
    | none => cases r' with
      | none => rfl
      | some b => simp [pv] at e
    | some a => cases r' with
      | none => simp [pv] at e
      | some b => simp [pv] at e; rw [e]
  subst e2
  cases r with
  | none => obtain rfl : l = [] := h2; obtain rfl : m = [] := h4; rfl
  | some b => exact Nd.len_uniq h2 h4 hl hm
theorem some_nil (w : World) (lo hi : Nat) : Calls Tryz.prog 81 #[.pointer none, .int .u64 (lo : Nat), .int .u64 (hi : Nat)] w fun e w' => e = .returned (.pointer none) ∧ Below w.heap.size w w' := by
  go_enter Tryz.func81, Tryz.ntmps81
  go_wp2_with fail
  refine (nsums_nil _).mono ?_
  rintro e w1 ⟨rfl, hb1⟩
  have HB := Lib.hid hb1
  clear hb1
  simp only [smV]
  go_wp2_with fail
  go_ret
  exact ⟨rfl, (by repeat (first | exact HB.out | (refine Below.drew ?_) | (refine below_drewN' ?_ _) | (refine below_alloc' ?_ _) | (refine Below.setCell ?_ (by first | exact Nat.le_refl _ | (have := HB.out.size; simp; omega) | (have := HB.out.size; omega)) _)))⟩
set_option maxHeartbeats 2000000 in
theorem where_any (w : World) (t k lo hi : Nat) (l : List En) (ht : TrR w t k l) (hs : l.length ≤ 1000) (hlo : lo < 2 ^ 64) (hhi : hi < 2 ^ 64) :
    Calls Tryz.prog 40 #[.pointer (some ⟨t, 0, none⟩), .int .u64 (lo : Nat), .int .u64 (hi : Nat)] w fun e w' => WhR w t k lo hi l e w' := by
  obtain ⟨r, c1, hr⟩ := ht.c1
  have HRT := Lib.hid (fun w' (hb : Below w.heap.size w w') => troot_any w' t (r.map fun b => ⟨b, 0, none⟩) (Below.keeps hb _ _ c1))
  have HT := Lib.hid ht
  have HSO := Lib.hid (show Calls Tryz.prog 81 #[pv r, .int .u64 (lo : Nat), .int .u64 (hi : Nat)] w fun e w' => ∃ r', e = .returned (pv r') ∧ RtN w' k r' (someL lo hi l) ∧ Below w.heap.size w w' ∧ (r' = r ↔ someL lo hi l = l) from by
    cases r with
    | none =>
      obtain rfl : l = [] := hr
      exact (some_nil w lo hi).mono fun e w' ⟨h1, h2⟩ => ⟨none, h1, rfl, h2, ⟨fun _ => rfl, fun _ => rfl⟩⟩
    | some b => exact (some_any k lo hi ht.k1 ht.k16 hlo hhi hr hs w (Below.refl _ _)).mono fun e w' ⟨r', h1, h2, h3, h4⟩ => ⟨r', h1, h2, h3, ⟨fun e => rt_eq h2 (Nd.bel hr h3) hs e, h4⟩⟩)
  have HR := Lib.hid (And.intro hr hs)
  have hpq : pv r = .pointer (r.map fun b => ⟨b, 0, none⟩) := rfl
  rw [hpq] at HSO
  obtain ⟨q, hq⟩ : ∃ q, (r.map fun b => (⟨b, 0, none⟩ : Addr)) = q := ⟨_, rfl⟩
  rw [hq] at HRT HSO
  have HQ := Lib.hid (show pv r = .pointer q from by rw [← hq]; rfl)
  clear ht c1 hr hs hlo hhi hpq hq
  go_enter Tryz.func40, Tryz.ntmps40
  go_wp2_with fail
  refine (HRT.out _ (Below.refl _ _)).mono ?_
  rintro e w1 ⟨rfl, hw⟩
  obtain rfl := hw.symm
  clear hw
  go_wp2_with fail
  refine HSO.out.mono ?_
  rintro e w2 ⟨r', rfl, hr', hb2, hiff⟩
  have HEQ := root_eql hr' (HR.out.1.below hb2)
  obtain ⟨q', hq'⟩ := pv_ex r'
  rw [hq', HQ.out] at HEQ
  rw [hq']
  have HX := Lib.hid (And.intro hr' (And.intro hb2 hiff))
  have HQ' := Lib.hid hq'
  clear hr' hb2 hiff hq'
  by_cases e : r' = r
  · rw [decide_eq_true e] at HEQ
    go_wp2_with fail
    refine (HRT.out _ HX.out.2.1).mono ?_
    rintro e w3 ⟨rfl, hw⟩
    obtain rfl := hw.symm
    clear hw
    go_wp2_with fail
    go_ret2
    exact ⟨HX.out.2.1, t, rfl, by rw [HX.out.2.2.1 e]; exact HT.out.bel HX.out.2.1, ⟨fun _ => HX.out.2.2.1 e, fun _ => rfl⟩⟩
  · rw [decide_eq_false e] at HEQ
    have HNE := Lib.hid (show ¬ someL lo hi l = l from fun h => e (HX.out.2.2.2 h))
    have HK := Lib.hid (tk_any w2 t k (HT.out.bel HX.out.2.1).c0)
    have HOF := Lib.hid (of_rt w2 k r' _ HX.out.1 HT.out.k1 HT.out.k16)
    rw [HQ'.out] at HOF
    go_wp2_with fail
    refine (HRT.out _ HX.out.2.1).mono ?_
    rintro e w3 ⟨rfl, hw⟩
    obtain rfl := hw.symm
    clear hw
    go_wp2_with fail
    refine HK.out.mono ?_
    rintro e w3 ⟨rfl, hw⟩
    obtain rfl := hw.symm
    clear hw
    go_wp2_with fail
    refine HOF.out.mono ?_
    rintro e w3 ⟨g, rfl, hg, hb3⟩
    have HF := Lib.hid (And.intro hg (HX.out.2.1.trans (hb3.mono HX.out.2.1.size)))
    clear hg hb3
    go_wp2_with fail
    go_ret2
    refine ⟨HF.out.2, g, rfl, HF.out.1, ⟨fun h => ?_, fun h => absurd h HNE.out⟩⟩
    subst h
    exact someL_len_eq (TrR.len_uniq HF.out.1 (HT.out.bel HF.out.2) (Nat.le_trans (someL_len lo hi l) HR.out.2) HR.out.2)
end Go.Proofs.YtjokcagggmjgmaaGreat
/-! RefM -/
namespace Go.Proofs.YtjokcagggmjgmaaGreat
open Go.RowKit
set_option linter.unusedVariables false
set_option linter.unusedSimpArgs false
set_option maxRecDepth 100000

def RetE2 (W : World) (l : List En) (e : Ending) (w' : World) : Prop := ∃ v, e = .returned v ∧ RdE w' v l ∧ Below W.heap.size W w'
set_option maxHeartbeats 4000000 in
theorem rMap_any (w : World) (rule : Int) (c : Nat) (l : List En) (v : Value) (hl : RdE w v l) (hn : l.length ≤ 1000) (hv : ∀ e ∈ l, e.v < 2 ^ 64) (hc : c < 2 ^ 64) :
    Calls Tryz.prog 42 #[v, .int .i64 rule, .int .u64 (c : Nat)] w fun e w' => RetE2 w (mapL rule c l) e w' := by
  obtain ⟨A, cq, rfl, hcap, hx⟩ := hl
  have HX := Lib.hid hx
  have HD := Lib.hid (And.intro hn (And.intro hv hc))
  clear hx hn hv hc hcap
  go_enter Tryz.func42, Tryz.ntmps42
  go_wp2_with fail
  go_loopw [7, 8] (fun vo i wr => ∃ (j : Nat), j ≤ l.length ∧ i = .int .i64 j ∧ OwnE w wr vo (mapL rule c (l.take j)) ∧ Below w.heap.size w wr) (fun _ i _ => l.length - (intOf i).toNat)
  case atStart => exact ⟨0, Nat.zero_le _, rfl, OwnE.lit (Nat.le_refl _) rfl, (by repeat (first | exact Below.refl _ _ | (refine Below.drew ?_) | (refine below_drewN' ?_ _) | (refine below_alloc' ?_ _) | (refine Below.setCell ?_ (by first | exact Nat.le_refl _ | (simp; done) | (simp; omega)) _)))⟩
  case round =>
    obtain ⟨j, hj, rfl, hown, hb⟩ := hrel
    have HB := Lib.hid hb
    have HO := Lib.hid hown
    clear hown
    by_cases hlt : j < l.length
    · have h3 : (j : Int) < l.length := by omega
      have h5 : (0 : Int) ≤ (j : Int) := by omega
      have HW := Lib.hid (show wrap64 ((j : Int) + 1) = ((j + 1 : Nat) : Int) by have := HD.out.1; unfold wrap64; omega)
      obtain ⟨bk, ofs, rfl, hc⟩ := HX.out (by omega)
      obtain ⟨u, k0, ku, k1⟩ := hc j hlt
      have HU := Lib.hid ku
      replace k0 := Below.keeps HB.out _ _ k0
      replace k1 := Below.keeps HB.out _ _ k1
      have HTK := Lib.hid (show mapL rule c (l.take (j + 1)) = mapL rule c (l.take j) ++ [⟨l[j].p, valueL rule l[j].v c⟩] from by rw [← List.take_append_getElem hlt]; unfold mapL; rw [List.map_append]; rfl)
      have HLN := Lib.hid (show (mapL rule c (l.take j)).length ≤ 1000 by unfold mapL; rw [List.length_map, List.length_take]; have := HD.out.1; omega)
      have HVAL := Lib.hid (fun w' => rValue_any w' rule l[j].v c (HD.out.2.1 _ (List.getElem_mem hlt)) HD.out.2.2)
      obtain ⟨A0, cc, rfl, zz⟩ := RdU.point ku
      have hblt : bk < wr.heap.size := World.block_lt_of_cell? wr _ k0
      generalize valueL rule l[j].v c = y at *
      obtain ⟨xp, hxp⟩ : ∃ xp, l[j].p = xp := ⟨_, rfl⟩
      obtain ⟨xv, hxv⟩ : ∃ xv, l[j].v = xv := ⟨_, rfl⟩
      rw [hxp] at k0 HU HTK
      rw [hxv] at k1 HVAL
      clear hc zz ku hb hxp hxv
      go_wp2_with fail
      refine wp_region_vals 16 [fun z9 _ => z9 = u7,
        fun z9 _ => z9 = .slice (some ⟨bk, ofs, none⟩) l.length cq,
        fun z9 _ => z9 = .int .i64 (j : Nat),
        fun z9 _ => z9 = .pointer (some ⟨bk, ofs + j * 2, none⟩),
        fun z9 _ => z9 = .pointer (some ⟨bk, ofs + j * 2, none⟩),
        fun z9 _ => z9 = .slice A0 xp.length cc,
        fun z9 _ => z9 = .int .i64 rule,
        fun z9 _ => z9 = .slice (some ⟨bk, ofs, none⟩) l.length cq,
        fun z9 _ => z9 = .int .i64 (j : Nat),
        fun z9 _ => z9 = .pointer (some ⟨bk, ofs + j * 2, none⟩),
        fun z9 _ => z9 = .pointer (some ⟨bk, ofs + j * 2 + 1, none⟩),
        fun z9 _ => z9 = .int .u64 (xv : Nat),
        fun z9 _ => z9 = .int .u64 (c : Nat),
        fun z9 _ => z9 = .int .u64 (y : Nat),
        fun z9 _ => z9 = .agg #[.slice A0 xp.length cc, .int .u64 (y : Nat)],
        fun v9 w9 => ∃ g, v9 = .slice (some ⟨g, 0, none⟩) 1 1 ∧ w9.cell? ⟨g, 0, none⟩ = some (.slice A0 xp.length cc) ∧ w9.cell? ⟨g, 1, none⟩ = some (.int .u64 (y : Nat))]
        (by kernel_rfl) (by kernel_rfl) (by kernel_rfl) (by kernel_rfl) ?_ ?_ ?_
      · intro V hV v w1 w2 h hb
        simp only [List.mem_cons, List.not_mem_nil, or_false] at hV
        rcases hV with rfl | rfl | rfl | rfl | rfl | rfl | rfl | rfl | rfl | rfl | rfl | rfl | rfl | rfl | rfl | rfl
        all_goals first | exact h | (obtain ⟨g, h1, h2, h3⟩ := h; exact ⟨g, h1, Below.keeps hb _ _ h2, Below.keeps hb _ _ h3⟩)
      · intro iq oq hiq hoq
        match iq, hiq with
        | 0, _ =>
        obtain rfl := Option.some.inj hoq
        intro a1 w1 K hk hK
        have e7 : a1.tmps.getD 7 undef = u7 := hk.same 7 (by simp)
        simp [Region.wanted, Oper.wp, Act.eval, go_sem, e7, h3, h5, k0, k1]
        exact hK _ _ (Below.refl _ _) rfl
        | 1, _ =>
        obtain rfl := Option.some.inj hoq
        intro a1 w1 K hk hK
        have e0 : a1.tmps.getD 0 undef = .slice (some ⟨bk, ofs, none⟩) l.length cq := hk.same 0 (by simp)
        simp [Region.wanted, Oper.wp, Act.eval, go_sem, e0, h3, h5, k0, k1]
        exact hK _ _ (Below.refl _ _) rfl
        | 2, _ =>
        obtain rfl := Option.some.inj hoq
        intro a1 w1 K hk hK
        have e8 : a1.tmps.getD 8 undef = .int .i64 (j : Nat) := hk.same 8 (by simp)
        simp [Region.wanted, Oper.wp, Act.eval, go_sem, e8, h3, h5, k0, k1]
        exact hK _ _ (Below.refl _ _) rfl
        | 3, _ =>
        obtain rfl := Option.some.inj hoq
        intro a1 w1 K hk hK
        have d17 : a1.tmps.getD 17 undef = .slice (some ⟨bk, ofs, none⟩) l.length cq := hk.deps ⟨1, .data⟩ (by simp) rfl _ _ rfl rfl
        have d18 : a1.tmps.getD 18 undef = .int .i64 (j : Nat) := hk.deps ⟨2, .data⟩ (by simp) rfl _ _ rfl rfl
        simp [Region.wanted, Oper.wp, Act.eval, go_sem, d17, d18, h3, h5, k0, k1]
        exact hK _ _ (Below.refl _ _) rfl
        | 4, _ =>
        obtain rfl := Option.some.inj hoq
        intro a1 w1 K hk hK
        have d19 : a1.tmps.getD 19 undef = .pointer (some ⟨bk, ofs + j * 2, none⟩) := hk.deps ⟨3, .data⟩ (by simp) rfl _ _ rfl rfl
        simp [Region.wanted, Oper.wp, Act.eval, go_sem, d19, h3, h5, k0, k1]
        exact hK _ _ (Below.refl _ _) rfl
        | 5, _ =>
        obtain rfl := Option.some.inj hoq
        intro a1 w1 K hk hK
        have d20 : a1.tmps.getD 20 undef = .pointer (some ⟨bk, ofs + j * 2, none⟩) := hk.deps ⟨4, .data⟩ (by simp) rfl _ _ rfl rfl
        have c0 : w1.cell? ⟨bk, ofs + j * 2, none⟩ = some (.slice A0 xp.length cc) := Below.keeps hk.ext _ _ (by simp [go_sem, h3, h5, k0, k1])
        have c1 : w1.cell? ⟨bk, ofs + j * 2 + 1, none⟩ = some (.int .u64 (xv : Nat)) := Below.keeps hk.ext _ _ (by simp [go_sem, h3, h5, k0, k1])
        simp [Region.wanted, Oper.wp, Act.eval, go_sem, d20, c0, c1, h3, h5, k0, k1]
        exact hK _ _ (Below.refl _ _) rfl
        | 6, _ =>
        obtain rfl := Option.some.inj hoq
        intro a1 w1 K hk hK
        have e1 : a1.tmps.getD 1 undef = .int .i64 rule := hk.same 1 (by simp)
        simp [Region.wanted, Oper.wp, Act.eval, go_sem, e1, h3, h5, k0, k1]
        exact hK _ _ (Below.refl _ _) rfl
        | 7, _ =>
        obtain rfl := Option.some.inj hoq
        intro a1 w1 K hk hK
        have e0 : a1.tmps.getD 0 undef = .slice (some ⟨bk, ofs, none⟩) l.length cq := hk.same 0 (by simp)
        simp [Region.wanted, Oper.wp, Act.eval, go_sem, e0, h3, h5, k0, k1]
        exact hK _ _ (Below.refl _ _) rfl
        | 8, _ =>
        obtain rfl := Option.some.inj hoq
        intro a1 w1 K hk hK
        have e8 : a1.tmps.getD 8 undef = .int .i64 (j : Nat) := hk.same 8 (by simp)
        simp [Region.wanted, Oper.wp, Act.eval, go_sem, e8, h3, h5, k0, k1]
        exact hK _ _ (Below.refl _ _) rfl
        | 9, _ =>
        obtain rfl := Option.some.inj hoq
        intro a1 w1 K hk hK
        have d23 : a1.tmps.getD 23 undef = .slice (some ⟨bk, ofs, none⟩) l.length cq := hk.deps ⟨7, .data⟩ (by simp) rfl _ _ rfl rfl
        have d24 : a1.tmps.getD 24 undef = .int .i64 (j : Nat) := hk.deps ⟨8, .data⟩ (by simp) rfl _ _ rfl rfl
        simp [Region.wanted, Oper.wp, Act.eval, go_sem, d23, d24, h3, h5, k0, k1]
        exact hK _ _ (Below.refl _ _) rfl
        | 10, _ =>
        obtain rfl := Option.some.inj hoq
        intro a1 w1 K hk hK
        have d25 : a1.tmps.getD 25 undef = .pointer (some ⟨bk, ofs + j * 2, none⟩) := hk.deps ⟨9, .data⟩ (by simp) rfl _ _ rfl rfl
        simp [Region.wanted, Oper.wp, Act.eval, go_sem, d25, h3, h5, k0, k1]
        exact hK _ _ (Below.refl _ _) rfl
        | 11, _ =>
        obtain rfl := Option.some.inj hoq
        intro a1 w1 K hk hK
        have d26 : a1.tmps.getD 26 undef = .pointer (some ⟨bk, ofs + j * 2 + 1, none⟩) := hk.deps ⟨10, .data⟩ (by simp) rfl _ _ rfl rfl
        have c0 : w1.cell? ⟨bk, ofs + j * 2, none⟩ = some (.slice A0 xp.length cc) := Below.keeps hk.ext _ _ (by simp [go_sem, h3, h5, k0, k1])
        have c1 : w1.cell? ⟨bk, ofs + j * 2 + 1, none⟩ = some (.int .u64 (xv : Nat)) := Below.keeps hk.ext _ _ (by simp [go_sem, h3, h5, k0, k1])
        simp [Region.wanted, Oper.wp, Act.eval, go_sem, d26, c0, c1, h3, h5, k0, k1]
        exact hK _ _ (Below.refl _ _) rfl
        | 12, _ =>
        obtain rfl := Option.some.inj hoq
        intro a1 w1 K hk hK
        have e2 : a1.tmps.getD 2 undef = .int .u64 (c : Nat) := hk.same 2 (by simp)
        simp [Region.wanted, Oper.wp, Act.eval, go_sem, e2, h3, h5, k0, k1]
        exact hK _ _ (Below.refl _ _) rfl
        | 13, _ =>
        obtain rfl := Option.some.inj hoq
        intro a1 w1 K hk hK
        have d22 : a1.tmps.getD 22 undef = .int .i64 rule := hk.deps ⟨6, .data⟩ (by simp) rfl _ _ rfl rfl
        have d27 : a1.tmps.getD 27 undef = .int .u64 (xv : Nat) := hk.deps ⟨11, .data⟩ (by simp) rfl _ _ rfl rfl
        have d28 : a1.tmps.getD 28 undef = .int .u64 (c : Nat) := hk.deps ⟨12, .data⟩ (by simp) rfl _ _ rfl rfl
        simp [Region.wanted, Oper.wp, Act.eval, go_sem, d22, d27, d28, h3, h5, k0, k1]
        refine (HVAL.out _).mono ?_
        rintro e w9 ⟨rfl, rfl⟩
        exact hK _ _ (Below.refl _ _) rfl
        | 14, _ =>
        obtain rfl := Option.some.inj hoq
        intro a1 w1 K hk hK
        have d21 : a1.tmps.getD 21 undef = .slice A0 xp.length cc := hk.deps ⟨5, .data⟩ (by simp) rfl _ _ rfl rfl
        have d21x : a1.tmps[21]?.getD undef = .slice A0 xp.length cc := by rw [← d21]; simp
        have d29 : a1.tmps.getD 29 undef = .int .u64 (y : Nat) := hk.deps ⟨13, .data⟩ (by simp) rfl _ _ rfl rfl
        have d29x : a1.tmps[29]?.getD undef = .int .u64 (y : Nat) := by rw [← d29]; simp
        simp [Region.wanted, Oper.wp, Act.eval, go_sem, d21, d21x, d29, d29x, h3, h5, k0, k1]
        exact hK _ _ (Below.refl _ _) rfl
        | 15, _ =>
        obtain rfl := Option.some.inj hoq
        intro a1 w1 K hk hK
        have d30 : a1.tmps.getD 30 undef = .agg #[.slice A0 xp.length cc, .int .u64 (y : Nat)] := hk.deps ⟨14, .data⟩ (by simp) rfl _ _ rfl rfl
        have d30x : a1.tmps[30]?.getD undef = .agg #[.slice A0 xp.length cc, .int .u64 (y : Nat)] := by rw [← d30]; simp
        simp [Region.wanted, Oper.wp, Act.eval, go_sem, d30, d30x, h3, h5, k0, k1]
        exact hK _ _ (by repeat (first | exact Below.refl _ _ | (refine Below.drew ?_) | (refine below_drewN' ?_ _) | (refine below_alloc' ?_ _) | (refine Below.setCell ?_ (by first | exact Nat.le_refl _ | (simp; done) | (simp; omega)) _))) ⟨_, rfl, by simp [go_sem], by simp [go_sem]⟩
        | k + 16, hk => exact absurd hk (by omega)
      · intro vs w3 hl hb3 hv
        match vs, hl with
        | [v0, v1, v2, v3, v4, v5, v6, v7, v8, v9, v10, v11, v12, v13, v14, v15], _ =>
        obtain rfl : v0 = u7 := hv 0 (by omega)
        obtain rfl : v1 = .slice (some ⟨bk, ofs, none⟩) l.length cq := hv 1 (by omega)
        obtain rfl : v2 = .int .i64 (j : Nat) := hv 2 (by omega)
        obtain rfl : v3 = .pointer (some ⟨bk, ofs + j * 2, none⟩) := hv 3 (by omega)
        obtain rfl : v4 = .pointer (some ⟨bk, ofs + j * 2, none⟩) := hv 4 (by omega)
        obtain rfl : v5 = .slice A0 xp.length cc := hv 5 (by omega)
        obtain rfl : v6 = .int .i64 rule := hv 6 (by omega)
        obtain rfl : v7 = .slice (some ⟨bk, ofs, none⟩) l.length cq := hv 7 (by omega)
        obtain rfl : v8 = .int .i64 (j : Nat) := hv 8 (by omega)
        obtain rfl : v9 = .pointer (some ⟨bk, ofs + j * 2, none⟩) := hv 9 (by omega)
        obtain rfl : v10 = .pointer (some ⟨bk, ofs + j * 2 + 1, none⟩) := hv 10 (by omega)
        obtain rfl : v11 = .int .u64 (xv : Nat) := hv 11 (by omega)
        obtain rfl : v12 = .int .u64 (c : Nat) := hv 12 (by omega)
        obtain rfl : v13 = .int .u64 (y : Nat) := hv 13 (by omega)
        obtain rfl : v14 = .agg #[.slice A0 xp.length cc, .int .u64 (y : Nat)] := hv 14 (by omega)
        have q15 : ∃ g, v15 = .slice (some ⟨g, 0, none⟩) 1 1 ∧ w3.cell? ⟨g, 0, none⟩ = some (.slice A0 xp.length cc) ∧ w3.cell? ⟨g, 1, none⟩ = some (.int .u64 (y : Nat)) := hv 15 (by omega)
        clear hv
        simp only [putAll, List.take_succ_cons, List.take_zero, List.drop_succ_cons, List.drop_zero, Act.put, List.setIfInBounds_toArray, List.set_cons_succ, List.set_cons_zero]
        obtain ⟨g, rfl, g0, g1⟩ := q15
        have HB3 := Lib.hid (HB.out.trans (hb3.mono HB.out.size))
        have HO3 := Lib.hid (HO.out.below hb3)
        clear hb3
        refine wpList_append_E rfl (.tmp 16) (.tmp 31) rfl w (mapL rule c (l.take j)) [⟨xp, y⟩] HO3.out (SrcE.one g0 HU.out g1) HB3.out (by have := HLN.out; simp; omega) ?_
        intro v4 w4 hown4 hb4
        rw [← HTK.out] at hown4
        have HO4 := Lib.hid hown4
        have HB4 := Lib.hid hb4
        clear hown4 hb4 g0 g1
        go_wp2_with fail
        go_roundw
        case rel => exact ⟨j + 1, by omega, (by first | rw [HW.out] | rfl | simp), HO4.out, HB4.out⟩
        case measure => (first | (rw [intOf_of' HW.out, intOf_of' rfl]; omega) | (simp [intOf]; omega) | (simp [intOf] <;> omega))
    · have h3 : ¬ (j : Int) < (l.length : Int) := by omega
      have e : l.take j = l := List.take_of_length_le (by omega)
      rw [e] at HO
      clear hb
      go_wp2_with fail
      go_ret
      exact ⟨_, rfl, HO.out.rd HB.out, HB.out⟩
set_option maxHeartbeats 4000000 in
theorem rWhere_any (w : World) (lo hi : Nat) (l : List En) (v : Value) (hl : RdE w v l) (hn : l.length ≤ 1000) (hlo : lo < 2 ^ 64) (hhi : hi < 2 ^ 64) :
    Calls Tryz.prog 41 #[v, .int .u64 (lo : Nat), .int .u64 (hi : Nat)] w fun e w' => RetE2 w (someL lo hi l) e w' := by
  obtain ⟨A, cq, rfl, hcap, hx⟩ := hl
  have HX := Lib.hid hx
  have HD := Lib.hid hn
  clear hx hn hcap
  go_enter Tryz.func41, Tryz.ntmps41
  go_wp2_with fail
  go_loopw [7, 8] (fun vo i wr => ∃ (j : Nat), j ≤ l.length ∧ i = .int .i64 j ∧ OwnE w wr vo (someL lo hi (l.take j)) ∧ Below w.heap.size w wr) (fun _ i _ => l.length - (intOf i).toNat)
  case atStart => exact ⟨0, Nat.zero_le _, rfl, OwnE.lit (Nat.le_refl _) rfl, (by repeat (first | exact Below.refl _ _ | (refine Below.drew ?_) | (refine below_drewN' ?_ _) | (refine below_alloc' ?_ _) | (refine Below.setCell ?_ (by first | exact Nat.le_refl _ | (simp; done) | (simp; omega)) _)))⟩
  case round =>
    obtain ⟨j, hj, rfl, hown, hb⟩ := hrel
    have HB := Lib.hid hb
    have HO := Lib.hid hown
    clear hown
    by_cases hlt : j < l.length
    · have h3 : (j : Int) < l.length := by omega
      have h5 : (0 : Int) ≤ (j : Int) := by omega
      have HW := Lib.hid (show wrap64 ((j : Int) + 1) = ((j + 1 : Nat) : Int) by have := HD.out; unfold wrap64; omega)
      obtain ⟨bk, ofs, rfl, hc⟩ := HX.out (by omega)
      obtain ⟨u, k0, ku, k1⟩ := hc j hlt
      have HU := Lib.hid ku
      replace k0 := Below.keeps HB.out _ _ k0
      replace k1 := Below.keeps HB.out _ _ k1
      have HTK := Lib.hid (show someL lo hi (l.take (j + 1)) = someL lo hi (l.take j) ++ (if inR lo hi l[j] then [l[j]] else []) from by
        rw [← List.take_append_getElem hlt, someL_append]
        congr 1
        unfold someL
        rw [List.filter_cons]
        rfl)
      have HLN := Lib.hid (show (someL lo hi (l.take j)).length ≤ 1000 from Nat.le_trans (someL_len _ _ _) (by rw [List.length_take]; have := HD.out; omega))
      have hin : inR lo hi l[j] = (decide (lo ≤ l[j].v) && decide (l[j].v ≤ hi)) := rfl
      rw [hin] at HTK
      obtain ⟨A0, cc, rfl, zz⟩ := RdU.point ku
      have hblt : bk < wr.heap.size := World.block_lt_of_cell? wr _ k0
      generalize l[j] = x at *
      obtain ⟨xp, xv⟩ := x
      simp only at k0 k1 HU HTK
      clear hc zz ku hb hin
      by_cases h7 : (xv : Int) ≥ (lo : Int)
      · by_cases h8 : (xv : Int) ≤ (hi : Int)
        · rw [if_pos (by simp; omega)] at HTK
          clear hlo hhi
          go_wp2_with (at_builtin; refine wpList_append_E rfl (.tmp 32) (.tmp 37) rfl w (someL lo hi (l.take j)) [⟨xp, xv⟩] ?_ ?_ ?_ ?_ ?_)
          · exact HO.out.below (by repeat (first | exact Below.refl _ _ | (refine Below.drew ?_) | (refine below_drewN' ?_ _) | (refine below_alloc' ?_ _) | (refine Below.setCell ?_ (by first | exact Nat.le_refl _ | (simp; done) | (simp; omega)) _)))
          · exact SrcE.one (by simp [go_sem]) HU.out (by simp [go_sem])
          · exact below_trans HB.out (by repeat (first | exact Below.refl _ _ | (refine Below.drew ?_) | (refine below_drewN' ?_ _) | (refine below_alloc' ?_ _) | (refine Below.setCell ?_ (by first | exact Nat.le_refl _ | (simp; done) | (simp; omega)) _)))
          · have := HLN.out; simp; omega
          intro v4 w4 hown4 hb4
          rw [← HTK.out] at hown4
          have HO4 := Lib.hid hown4
          have HB4 := Lib.hid hb4
          clear hown4 hb4
          go_wp2_with fail
          go_roundw
          case rel => exact ⟨j + 1, by omega, (by first | rw [HW.out] | rfl | simp), HO4.out, HB4.out⟩
          case measure => (first | (rw [intOf_of' HW.out, intOf_of' rfl]; omega) | (simp [intOf]; omega) | (simp [intOf] <;> omega))
        · rw [if_neg (by simp; omega), List.append_nil] at HTK
          clear hlo hhi
          go_wp2_with fail
          go_roundw
          case rel => exact ⟨j + 1, by omega, (by first | rw [HW.out] | rfl | simp), by rw [HTK.out]; exact HO.out, HB.out⟩
          case measure => (first | (rw [intOf_of' HW.out, intOf_of' rfl]; omega) | (simp [intOf]; omega) | (simp [intOf] <;> omega))
      · rw [if_neg (by simp; omega), List.append_nil] at HTK
        clear hlo hhi
        go_wp2_with fail
        go_roundw
        case rel => exact ⟨j + 1, by omega, (by first | rw [HW.out] | rfl | simp), by rw [HTK.out]; exact HO.out, HB.out⟩
        case measure => (first | (rw [intOf_of' HW.out, intOf_of' rfl]; omega) | (simp [intOf]; omega) | (simp [intOf] <;> omega))
    · have h3 : ¬ (j : Int) < (l.length : Int) := by omega
      have e : l.take j = l := List.take_of_length_le (by omega)
      rw [e] at HO
      clear hb
      go_wp2_with fail
      go_ret
      exact ⟨_, rfl, HO.out.rd HB.out, HB.out⟩
end Go.Proofs.YtjokcagggmjgmaaGreat
/-! MakB -/
namespace Go.Proofs.YtjokcagggmjgmaaGreat
open Go.RowKit
set_option linter.unusedVariables false
set_option linter.unusedSimpArgs false
set_option maxRecDepth 100000

theorem puts_mem {k : Nat} {a l : List En} (ha : Et k a) (hl : ∀ e ∈ l, e.p.length = k ∧ ∀ x ∈ e.p, x < 2 ^ 64) : ∀ e ∈ putsL a l, e ∈ a ∨ e ∈ l := by
  induction l generalizing a with
  | nil => exact fun e he => .inl he
  | cons c l ih =>
    intro e he
    have hc := hl c (by simp)
    rcases ih (ha.ins c.v hc.1 hc.2) (fun e he => hl e (by simp [he])) e he with h | h
    · rcases ha.mem_ins.1 h with h | h
      · exact .inr (by rw [h]; exact List.mem_cons_self)
      · exact .inl h.1
    · exact .inr (List.mem_cons_of_mem _ h)
def MakR (W : World) (k : Nat) (l : List En) (e : Ending) (w' : World) : Prop := ∃ t, e = .returned (.tuple #[.pointer (some ⟨t, 0, none⟩), .int .i64 0]) ∧ TrR w' t k l ∧ Below W.heap.size W w'
set_option maxHeartbeats 2000000 in
theorem make_any (N : Nat) (hS : SortOk N) (w : World) (k : Nat) (l : List En) (v : Value) (hv : RdE w v l) (hlN : l.length ≤ N) (hl : l.length ≤ 1000) (k1 : 1 ≤ k) (k16 : k ≤ 16) (hk : ∀ e ∈ l, e.p.length = k ∧ ∀ q ∈ e.p, q < 2 ^ 64) (hvs : ∀ e ∈ l, e.v < 2 ^ 64) :
    Calls Tryz.prog 27 #[.int .i64 (k : Nat), v] w fun e w' => MakR w k (putsL [] l) e w' := by
  have HNEW := Lib.hid (tnew_any w k k1 k16)
  have HDI := Lib.hid (fun W (hb : Below w.heap.size w W) => dims_any W (k : Nat) l v (hv.below hb) hl)
  have hall : (l.all fun c => ((c.p.length : Nat) : Int) == (k : Int)) = true := List.all_eq_true.2 fun c hc => by rw [(hk c hc).1]; simp
  rw [hall] at HDI
  have HSO := Lib.hid (fun W (hb : Below w.heap.size w W) => sorted_any N hS W k l v (hv.below hb) hlN hl k1 k16 hk)
  have hets : EtS k (putsL [] l) := ⟨(Et.nil k).puts hk, by omega, Nat.le_trans (puts_len [] l) (by simpa using hl)⟩
  have hpv : ∀ e ∈ putsL [] l, e.v < 2 ^ 64 := fun e he => hvs e ((puts_mem (Et.nil k) hk e he).resolve_left (by simp))
  obtain ⟨m, hm⟩ : ∃ m, putsL [] l = m := ⟨_, rfl⟩
  rw [hm] at HSO hets hpv
  rw [hm]
  have HE := Lib.hid (And.intro hets (And.intro hpv (And.intro k1 k16)))
  obtain ⟨A, c, rfl, _⟩ := hv
  clear hall hets hpv hm hk hvs hl hlN k1 k16 hS
  go_enter Tryz.func27, Tryz.ntmps27
  go_wp2_with fail
  refine HNEW.out.mono ?_
  rintro e w1 ⟨g, rfl, ht, hb⟩
  have HT := Lib.hid (And.intro ht hb)
  clear ht hb
  go_wp2_with fail
  refine (HDI.out _ HT.out.2).mono ?_
  rintro e w2 ⟨rfl, hb⟩
  have HB2 := Lib.hid (HT.out.2.trans (hb.mono HT.out.2.size))
  have HK := Lib.hid (tk_any w2 g k (HT.out.1.bel hb).c0)
  clear hb
  go_wp2_with fail
  refine HK.out.mono ?_
  rintro e w3 ⟨rfl, hw⟩
  obtain rfl := hw.symm
  clear hw
  go_wp2_with fail
  refine (HSO.out _ HB2.out).mono ?_
  rintro e w4 ⟨v4, rfl, hr4, hb4⟩
  have HB4 := Lib.hid (HB2.out.trans (hb4.mono HB2.out.size))
  clear hb4
  by_cases hne : m = []
  · subst hne
    obtain ⟨A4, c4, rfl, _⟩ := hr4
    simp only [List.length_nil]
    have HBN := Lib.hid (bld_nil w4 A4 c4)
    have HOF := Lib.hid (of_nil w4 k HE.out.2.2.1 HE.out.2.2.2)
    go_wp2_with fail
    refine HBN.out.mono ?_
    rintro e w5 ⟨rfl, hw⟩
    obtain rfl := hw.symm
    clear hw
    go_wp2_with fail
    refine HOF.out.mono ?_
    rintro e w6 ⟨t, rfl, ht6, hb6⟩
    have HF := Lib.hid (And.intro ht6 (HB4.out.trans (hb6.mono HB4.out.size)))
    clear ht6 hb6
    go_wp2_with fail
    go_ret2
    exact ⟨t, rfl, HF.out.1, HF.out.2⟩
  · have HBN := Lib.hid (build_any k HE.out.2.2.1 HE.out.2.2.2 _ m w4 v4 (Nat.le_refl _) hr4 HE.out.1 hne HE.out.2.1)
    obtain ⟨A4, c4, rfl, _⟩ := hr4
    go_wp2_with fail
    refine HBN.out.mono ?_
    rintro e w5 ⟨g5, rfl, hn5, hb5⟩
    have HOF := Lib.hid (of_nd w5 k g5 m hn5 HE.out.2.2.1 HE.out.2.2.2)
    have HB5 := Lib.hid (HB4.out.trans (hb5.mono HB4.out.size))
    clear hb5 hn5
    go_wp2_with fail
    refine HOF.out.mono ?_
    rintro e w6 ⟨t, rfl, ht6, hb6⟩
    have HF := Lib.hid (And.intro ht6 (HB5.out.trans (hb6.mono HB5.out.size)))
    clear ht6 hb6
    go_wp2_with fail
    go_ret2
    exact ⟨t, rfl, HF.out.1, HF.out.2⟩
end Go.Proofs.YtjokcagggmjgmaaGreat
/-! AwkA -/
namespace Go.Proofs.YtjokcagggmjgmaaGreat
open Go.RowKit
set_option linter.unusedVariables false
set_option linter.unusedSimpArgs false
set_option maxRecDepth 100000

theorem RdE.three {w : World} {b c : Nat} {e0 e1 e2 : En} (h0 : EnAt w b 0 e0) (h1 : EnAt w b 2 e1) (h2 : EnAt w b 4 e2) (hc : 3 ≤ c ∧ c ≤ maxLen) : RdE w (.slice (some ⟨b, 0, none⟩) 3 c) [e0, e1, e2] :=
  ⟨_, c, rfl, ⟨hc.1, hc.2, fun _ => ⟨_, _, rfl⟩⟩, fun _ => ⟨b, 0, rfl, fun j hj => by
    match j, hj with
    | 0, _ => exact h0
    | 1, _ => exact h1
    | 2, _ => exact h2
    | j + 3, hj => simp at hj; omega⟩⟩
theorem RdE.pair' {w : World} {b c : Nat} {e0 e1 : En} (h0 : EnAt w b 0 e0) (h1 : EnAt w b 2 e1) (hc : 2 ≤ c ∧ c ≤ maxLen) : RdE w (.slice (some ⟨b, 0, none⟩) 2 c) [e0, e1] :=
  ⟨_, c, rfl, ⟨hc.1, hc.2, fun _ => ⟨_, _, rfl⟩⟩, fun _ => ⟨b, 0, rfl, fun j hj => by
    match j, hj with
    | 0, _ => exact h0
    | 1, _ => exact h1
    | j + 2, hj => simp at hj; omega⟩⟩
def xe3 : List En := [⟨[4, 0], 1⟩, ⟨[7, 3], 2⟩, ⟨[4, 0], 3⟩]
def xm2 : List En := [⟨[4, 0], 3⟩, ⟨[7, 3], 2⟩]
theorem xputs : putsL [] xe3 = xm2 := by first | rfl | kernel_rfl
theorem xok3 : ∀ e ∈ xe3, e.p.length = 2 ∧ ∀ q ∈ e.p, q < 2 ^ 64 := by decide
theorem xets : EtS 2 xm2 := ⟨xputs ▸ (Et.nil 2).puts xok3, by decide, by decide⟩
set_option maxHeartbeats 2000000 in
theorem awk_any (w : World) : Calls Tryz.prog 25 #[] w fun e w' => e = .returned (.bool true) ∧ Below w.heap.size w w' := by
  have HM := Lib.hid (fun (W : World) (v : Value) (hv : RdE W v xe3) => make_any 19 sort_small W 2 xe3 v hv (by decide) (by decide) (by decide) (by decide) xok3 (by decide))
  rw [xputs] at HM
  have HI := Lib.hid (fun (W : World) (t : Nat) (v : Value) (ht : TrR W t 2 xm2) (hv : RdE W v xm2) => is07_any W t 2 xm2 v ht hv xets)
  go_enter Tryz.func25, Tryz.ntmps25
  go_wp2_with fail
  refine (HM.out _ _ (RdE.three ?_ ?_ ?_ ?_)).mono ?_
  · exact ⟨.slice (some ⟨w.heap.size, 0, none⟩) 2 2, by simp [go_sem], RdU.two (by simp [go_sem]) (by simp [go_sem]), by simp [go_sem]⟩
  · exact ⟨.slice (some ⟨w.heap.size + 1, 0, none⟩) 2 2, by simp [go_sem], RdU.two (by simp [go_sem]) (by simp [go_sem]), by simp [go_sem]⟩
  · exact ⟨.slice (some ⟨w.heap.size + 1 + 1, 0, none⟩) 2 2, by simp [go_sem], RdU.two (by simp [go_sem]) (by simp [go_sem]), by simp [go_sem]⟩
  · simp [maxLen]
  rintro e w1 ⟨t, rfl, ht, hb1⟩
  have HB1 := Lib.hid (show Below w.heap.size w w1 from below_trans (by repeat (first | exact Below.refl _ _ | (refine Below.drew ?_) | (refine below_drewN' ?_ _) | (refine below_alloc' ?_ _) | (refine Below.setCell ?_ (by first | exact Nat.le_refl _ | (simp; done) | (simp; omega)) _))) hb1)
  have HT1 := Lib.hid ht
  clear hb1 ht
  go_wp2_with fail
  refine (HI.out _ _ _ (HT1.out.bel (by repeat (first | exact Below.refl _ _ | (refine Below.drew ?_) | (refine below_drewN' ?_ _) | (refine below_alloc' ?_ _) | (refine Below.setCell ?_ (by first | exact Nat.le_refl _ | (simp; done) | (simp; omega)) _)))) (RdE.pair' ?_ ?_ ?_)).mono ?_
  · exact ⟨.slice (some ⟨w1.heap.size, 0, none⟩) 2 2, by simp [go_sem], RdU.two (by simp [go_sem]) (by simp [go_sem]), by simp [go_sem]⟩
  · exact ⟨.slice (some ⟨w1.heap.size + 1, 0, none⟩) 2 2, by simp [go_sem], RdU.two (by simp [go_sem]) (by simp [go_sem]), by simp [go_sem]⟩
  · simp [maxLen]
  rintro e w2 ⟨rfl, hb2⟩
  have HB2 := Lib.hid (HB1.out.trans ((below_trans (by repeat (first | exact Below.refl _ _ | (refine Below.drew ?_) | (refine below_drewN' ?_ _) | (refine below_alloc' ?_ _) | (refine Below.setCell ?_ (by first | exact Nat.le_refl _ | (simp; done) | (simp; omega)) _))) hb2).mono HB1.out.size))
  clear hb2
  go_wp2_with fail
  go_ret
  exact ⟨rfl, HB2.out⟩
end Go.Proofs.YtjokcagggmjgmaaGreat
/-! OpenC -/
namespace Go.Proofs.YtjokcagggmjgmaaGreat
open Go.RowKit Go.ChangeShapes Go.WideShapes Go.Deep
set_option linter.unusedVariables false

section
variable {H : Type} {enc : TypeId × Value → H} {P : Program} {w : World} {base : Nat} {spare : Nat → Bool} {held : Bool}
theorem open_slice_fields {t e : TypeId} {fs : Array Field} {fuel : Nat} {cs : List Value} {x : DataW H × List MemPlace} (ht : P.underlying t = some (.slice e)) (he : P.underlying e = some (.struct fs))
    (hone : oneCellFields P fs = true) (hC : P.cellsOf e = fs.size) (h : DataW.trod enc P w base spare held fuel t cs = some x) :
    (cs = [.slice none 0 0]) ∨
    ∃ (a : Addr) (len cap m : Nat), cs = [.slice (some a) len cap] ∧ len ≤ cap ∧ cap ≤ maxLen ∧ m = (if spare a.block then cap else len) ∧
      ∀ i, i < m → ∀ (j : Nat) (f : Field), fs[j]? = some f → ∃ (v : Value) (y : DataW H × List MemPlace) (n : Nat), w.cell? (a.add (i * fs.size + j)) = some v ∧ DataW.trod enc P w base spare held n f.type [v] = some y := by
  rcases open_slice ht h with h0 | ⟨a, len, cap, m, n, D, Pl, hcs, hb, hl, hm, hmm, hx, hi⟩
  · exact .inl h0.1
  · refine .inr ⟨a, len, cap, m, hcs, hl, hm, hmm, fun i him => ?_⟩
    obtain ⟨cs', hc, ht'⟩ := hi i him
    rw [hC] at hc
    obtain ⟨ys, n', hn', hy, hlen, hyl, hf⟩ := DataW.trod_struct he ht'
    obtain ⟨_, hcl, hat⟩ := World.cells?_some hc
    intro j f hj
    obtain ⟨ho, hk⟩ := hone_of hone j f hj
    have hjl : j < fs.size := (Array.getElem?_eq_some_iff.1 hj).1
    have hcell := hat j hjl
    have hv : cs'[j]? = some (cs'[j]'(by omega)) := List.getElem?_eq_getElem (by omega)
    have h1 := hf j f hj
    rw [ho, hk] at h1
    have hone' : (cs'.drop j).take 1 = [cs'[j]'(by omega)] := by
      rw [List.drop_eq_getElem_cons (by omega)]
      rfl
    rw [hone'] at h1
    have hys : ys[j]? = some (ys[j]'(by omega)) := List.getElem?_eq_getElem (by omega)
    refine ⟨_, _, n', ?_, h1.trans hys⟩
    rw [← Go.Deep.add_add, hcell, hv]
end
theorem spot_none {w : World} {a : Addr} {v : Value} (h : w.cell? a = some v) : ∃ b o, a = ⟨b, o, none⟩ := by
  obtain ⟨b, o, sp⟩ := a
  cases sp with
  | none => exact ⟨b, o, rfl⟩
  | some q => simp [World.cell?] at h; split at h <;> cases h
theorem add_plain (b o j : Nat) : (⟨b, o, none⟩ : Addr).add j = ⟨b, o + j, none⟩ := by
  unfold Addr.add; split
  · rename_i h; subst h; rfl
  · rfl
theorem pti_toNat {xs : List Int} (h : ∀ x ∈ xs, 0 ≤ x ∧ x ≤ 18446744073709551615) : pti (xs.map Int.toNat) = xs := by
  unfold pti
  rw [List.map_map]
  conv => rhs; rw [← List.map_id xs]
  apply List.map_congr_left
  intro x hx
  have := h x hx
  simp only [Function.comp_apply, id]
  omega
instance : Inhabited Ch := ⟨⟨[], false, false, 0, 0⟩⟩
end Go.Proofs.YtjokcagggmjgmaaGreat
/-! OpenA -/
namespace Go.Proofs.YtjokcagggmjgmaaGreat
open Go.RowKit Go.ChangeShapes Go.WideShapes Go.Deep
set_option linter.unusedVariables false

/-- an act's numbers, whatever its point's length -/
def Ac.OkV (a : Ac) : Prop := (∀ c ∈ a.p, c < 2 ^ 64) ∧ a.v < 2 ^ 64
theorem open_acts {H : Type} {enc : TypeId × Value → H} {W : World} {base : Nat} {held : Bool} {v : Value} {x : DataW H × List MemPlace} {fuel : Nat}
    (h : DataW.trod enc Tryz.prog W base (fun _ => true) held fuel 22 [v] = some x) :
    ∃ l, RdA W v l ∧ (∀ c ∈ l, Ac.OkV c) ∧ l.length ≤ maxLen ∧ ∃ A n c, v = .slice A n c ∧ n ≤ c ∧ c ≤ maxLen ∧ (0 < c → ∃ b o, A = some ⟨b, o, none⟩) := by
  have hu : ∃ fs, Tryz.prog.underlying 86 = some (.struct fs) ∧ fs.size = 3 ∧ (fs[0]?.map (·.type) = some 4) ∧ (fs[1]?.map (·.type) = some 48) ∧ (fs[2]?.map (·.type) = some 49) ∧ oneCellFields Tryz.prog fs = true ∧ Tryz.prog.cellsOf 86 = fs.size :=
    ⟨_, Tryz.underlying86, by kernel_rfl, by kernel_rfl, by kernel_rfl, by kernel_rfl, by kernel_rfl, by kernel_rfl⟩
  obtain ⟨fs, he, hs, t0, t1, t2, hone, hC⟩ := hu
  rcases open_slice_fields Tryz.underlying22 he hone hC h with h0 | ⟨a, len, cap, m, hcs, hl, hm, hmm, hf⟩
  · simp only [List.cons.injEq, and_true] at h0
    subst h0
    exact ⟨[], ⟨none, 0, rfl, fun h => absurd h (by simp)⟩, fun c hc => by simp at hc, by simp [maxLen], none, 0, 0, rfl, Nat.le_refl _, Nat.zero_le _, fun h => absurd h (by omega)⟩
  · simp only [List.cons.injEq, and_true] at hcs
    subst hcs
    have hlm : len ≤ m := by rw [hmm]; split <;> omega
    rw [hs] at hf
    have hmc : m = cap := by rw [hmm]; rfl
    have hab : 0 < cap → ∃ b o, a = ⟨b, o, none⟩ := by
      intro h0
      obtain ⟨f0, q0, r0⟩ := Option.map_eq_some_iff.1 t0
      obtain ⟨v0, y0, n0, c0, d0⟩ := hf 0 (by omega) 0 f0 q0
      exact spot_none (by simpa [Addr.add] using c0)
    have each : ∀ i, i < len → ∃ c, (Ac.OkV c) ∧ ∃ b o, a = ⟨b, o, none⟩ ∧ AcAt W b (o + i * 3) c := by
      intro i hi
      have hfi := hf i (by omega)
      obtain ⟨f0, q0, r0⟩ := Option.map_eq_some_iff.1 t0
      obtain ⟨f1, q1, r1⟩ := Option.map_eq_some_iff.1 t1
      obtain ⟨f2, q2, r2⟩ := Option.map_eq_some_iff.1 t2
      obtain ⟨v0, y0, n0, c0, d0⟩ := hfi 0 f0 q0
      obtain ⟨v1, y1, n1, c1, d1⟩ := hfi 1 f1 q1
      obtain ⟨v2, y2, n2, c2, d2⟩ := hfi 2 f2 q2
      rw [r0] at d0; rw [r1] at d1; rw [r2] at d2
      obtain ⟨b, o, ha⟩ := hab (by omega)
      subst ha
      rw [add_plain] at c0 c1 c2
      obtain ⟨b0, e0, _⟩ := DataW.trod_bool Tryz.underlying4 d0
      obtain ⟨i2, e2, _, w2⟩ := DataW.trod_int Tryz.underlying49 d2
      simp only [List.cons.injEq, and_true] at e0 e2
      subst e0 e2
      have hp1 : ∃ xs : List Int, (∀ x ∈ xs, 0 ≤ x ∧ x ≤ 18446744073709551615) ∧ RdU W v1 xs := by
        rcases open_ints Tryz.underlying48 Tryz.underlying49 (by kernel_rfl) d1 with ⟨hcs, _⟩ | ⟨x, l, c, zs, hcs, _, hl, hm, hz, _, hcell, hwz⟩
        · simp only [List.cons.injEq, and_true] at hcs
          subst hcs
          exact ⟨[], fun x hx => by simp at hx, RdU.nil _ _ _⟩
        · simp only [List.cons.injEq, and_true] at hcs
          subst hcs
          obtain ⟨xs, _, _, h3, h4⟩ := RdU.of_row (w := W) (a := some x) (len := l) (cap := c) (zs := zs) (.inr ⟨_, rfl, hl, hm, by simpa using hz, hcell, hwz⟩)
          exact ⟨xs, h3, h4⟩
      obtain ⟨xs1, hx1, hv1⟩ := hp1
      have ho1 : ∀ y ∈ xs1.map Int.toNat, y < 2 ^ 64 := fun y hy => by
        simp only [List.mem_map] at hy
        obtain ⟨z, hz, rfl⟩ := hy
        have := hx1 z hz
        omega
      have g2 := bounds_u64 w2
      refine ⟨(⟨b0, xs1.map Int.toNat, i2.toNat⟩ : Ac), ⟨ho1, by show i2.toNat < 2 ^ 64; omega⟩, b, o, rfl, ?_⟩
      have z0 : W.cell? ⟨b, o + i * 3, none⟩ = some (.bool b0) := by simpa [Nat.add_assoc] using c0
      have z1 : W.cell? ⟨b, o + i * 3 + 1, none⟩ = some v1 := by simpa [Nat.add_assoc] using c1
      have y1' : RdU W v1 (pti (xs1.map Int.toNat)) := by rw [pti_toNat hx1]; exact hv1
      have z2 : W.cell? ⟨b, o + i * 3 + 2, none⟩ = some (.int .u64 (i2.toNat : Nat)) := by rw [show ((i2.toNat : Nat) : Int) = i2 by omega]; simpa [Nat.add_assoc] using c2
      exact ⟨v1, z0, by simpa [Nat.add_assoc] using z1, y1', by simpa [Nat.add_assoc] using z2⟩
    obtain ⟨f, hF⟩ := choose_lt each
    refine ⟨(List.range len).map f, ⟨some a, cap, by simp, fun hp => ?_⟩, ?_, by simp; omega, some a, len, cap, rfl, hl, hm, fun h => ?_⟩
    · have hp' : 0 < len := by simpa using hp
      obtain ⟨_, b, o, ha, _⟩ := hF 0 hp'
      refine ⟨b, o, by rw [ha], fun j hj => ?_⟩
      obtain ⟨_, b', o', ha', hc⟩ := hF j (by simpa using hj)
      rw [ha] at ha'
      injection ha' with e1 e2
      subst e1 e2
      simpa using hc
    · intro c hc
      simp only [List.mem_map, List.mem_range] at hc
      obtain ⟨j, hj, rfl⟩ := hc
      exact (hF j hj).1
    · obtain ⟨b, o, ha⟩ := hab h
      exact ⟨b, o, by rw [ha]⟩
end Go.Proofs.YtjokcagggmjgmaaGreat
/-! LawMaps -/
namespace Go.Proofs.YtjokcagggmjgmaaGreat
open Go.RowKit
set_option linter.unusedVariables false
set_option linter.unusedSimpArgs false
set_option maxRecDepth 100000

theorem heavyA_ok3 {l : List Ac} {most : Nat} (h : heavyL l most = false) : l.length ≤ most ∧ ∀ a ∈ l, a.p.length ≤ 40 := by
  unfold heavyL at h
  rw [Bool.or_eq_false_iff] at h
  refine ⟨by have := of_decide_eq_false h.1; omega, fun a ha => ?_⟩
  have := List.any_eq_false.1 h.2 a ha
  simp at this
  omega
theorem Nd.vlt {w : World} {k b : Nat} {l : List En} (h : Nd w k b l) : ∀ e ∈ l, e.v < 2 ^ 64 := by
  induction h with
  | leaf b p v h hp ho hv =>
    intro e he
    obtain rfl : e = ⟨p, v⟩ := by simpa using he
    exact hv
  | node b s n pre ks h hs hkd hn ih =>
    intro e he
    obtain ⟨x, hx, he⟩ := mem_cat.1 he
    obtain ⟨y, hy, rfl⟩ := List.mem_map.1 hx
    exact ih y hy e he
theorem TrR.vlt {w : World} {k t : Nat} {l : List En} (h : TrR w t k l) : ∀ e ∈ l, e.v < 2 ^ 64 := by
  obtain ⟨r, _, h2⟩ := h.c1
  cases r with
  | none => obtain rfl : l = [] := h2; intro e he; simp at he
  | some b => exact Nd.vlt h2
set_option maxHeartbeats 8000000 in
theorem bulkMaps_any (w : World) (k rule : Int) (c lo hi : Nat) (acts : List Ac) (va : Value) (ha : RdA w va acts) (hao : ∀ a ∈ acts, a.OkV) (hal : acts.length ≤ maxLen) (hc : c < 2 ^ 64) (hlo : lo < 2 ^ 64) (hhi : hi < 2 ^ 64) :
    Calls Tryz.prog 8 #[.int .i64 k, va, .int .i64 rule, .int .u64 (c : Nat), .int .u64 (lo : Nat), .int .u64 (hi : Nat)] w fun e w' => e = .returned (.bool true) ∧ Below w.heap.size w w' := by
  have HAW := Lib.hid (fun w' => awk_any w')
  have HHE := Lib.hid (fun w' (hb : Below w.heap.size w w') => heavyA_any w' acts va 40 (ha.below hb) hal)
  have HA := Lib.hid (And.intro ha (And.intro hao hal))
  have HU := Lib.hid (And.intro hc (And.intro hlo hhi))
  obtain ⟨A1, q1, rfl, z1⟩ := ha
  clear z1 hao hal hc hlo hhi
  obtain ⟨hh, hhe⟩ : ∃ b, heavyL acts 40 = b := ⟨_, rfl⟩
  rw [hhe] at HHE
  have HHH := Lib.hid hhe
  clear hhe
  cases hh with
  | true =>
    go_enter Tryz.func8, Tryz.ntmps8
    go_wp2_with fail
    refine (HAW.out _).mono ?_
    rintro e w1 ⟨rfl, hb1⟩
    have HB := Lib.hid hb1
    clear hb1
    go_wp2_with fail
    refine (HHE.out _ HB.out).mono ?_
    rintro e w2 ⟨rfl, hw⟩
    obtain rfl := hw.symm
    clear hw
    go_wp2_with fail
    go_ret
    exact ⟨rfl, HB.out⟩
  | false =>
    by_cases h1 : k < 1
    · go_enter Tryz.func8, Tryz.ntmps8
      go_wp2_with fail
      refine (HAW.out _).mono ?_
      rintro e w1 ⟨rfl, hb1⟩
      have HB := Lib.hid hb1
      clear hb1
      go_wp2_with fail
      refine (HHE.out _ HB.out).mono ?_
      rintro e w2 ⟨rfl, hw⟩
      obtain rfl := hw.symm
      clear hw
      go_wp2_with fail
      go_ret
      exact ⟨rfl, HB.out⟩
    · by_cases h2 : k > 16
      · go_enter Tryz.func8, Tryz.ntmps8
        go_wp2_with fail
        refine (HAW.out _).mono ?_
        rintro e w1 ⟨rfl, hb1⟩
        have HB := Lib.hid hb1
        clear hb1
        go_wp2_with fail
        refine (HHE.out _ HB.out).mono ?_
        rintro e w2 ⟨rfl, hw⟩
        obtain rfl := hw.symm
        clear hw
        go_wp2_with fail
        go_ret
        exact ⟨rfl, HB.out⟩
      · go_enter Tryz.func8, Tryz.ntmps8
        go_wp2_with fail
        refine (HAW.out _).mono ?_
        rintro e w1 ⟨rfl, hb1⟩
        have HB := Lib.hid hb1
        clear hb1
        go_wp2_with fail
        refine (HHE.out _ HB.out).mono ?_
        rintro e w2 ⟨rfl, hw⟩
        obtain rfl := hw.symm
        clear hw
        obtain ⟨n, rfl⟩ : ∃ n : Nat, k = n := ⟨k.toNat, by omega⟩
        have hok := heavyA_ok3 HHH.out
        have HGR := Lib.hid (grown_any w1 n acts _ (by omega) (by omega) (HA.out.1.below HB.out) (fun a ha => ⟨hok.2 a ha, HA.out.2.1 a ha⟩) (by have h : acts.length ≤ 40 := hok.1; omega))
        have hil : (playL n [] acts).length ≤ 40 := by have h : acts.length ≤ 40 := hok.1; have := play_len n [] acts; simp at this; omega
        clear hok
        go_wp2_with fail
        refine HGR.out.mono ?_
        rintro e w2 ⟨t, vin, rfl, ht, hin, hb2⟩
        obtain ⟨in_, hinn⟩ : ∃ x, playL n [] acts = x := ⟨_, rfl⟩
        rw [hinn] at ht hin hil
        have HB2 := Lib.hid (HB.out.trans (hb2.mono HB.out.size))
        have HT := Lib.hid (And.intro ht hin)
        have HES := Lib.hid (show EtS n in_ from ⟨ht.et, by omega, by omega⟩)
        have HIL := Lib.hid hil
        have HMP := Lib.hid (bmap_any w2 t n rule c in_ ht HES.out ht.vlt HU.out.1)
        obtain ⟨A3, q3, rfl, _⟩ := hin
        clear ht hb2 hinn hil HGR
        go_wp2_with fail
        refine HMP.out.mono ?_
        rintro e w3 ⟨hb3, hcase⟩
        have HB3 := Lib.hid hb3
        have HC3 := Lib.hid hcase
        have HWH := Lib.hid (where_any w3 t n lo hi in_ (HT.out.1.bel hb3) (by have := HIL.out; omega) HU.out.2.1 HU.out.2.2)
        have hex : ∃ (u : Value) (ec : Int), e = .returned (.tuple #[u, .int .i64 ec]) ∧ (((rule < 1 ∨ rule > 5) ∧ u = .pointer none ∧ ec = 12) ∨ (¬ rule < 1 ∧ ¬ rule > 5 ∧ ec = 0 ∧ ∃ g, u = .pointer (some ⟨g, 0, none⟩) ∧ TrR w3 g n (mapL rule c in_))) := by
          rcases hcase with ⟨h, rfl⟩ | ⟨h, g, rfl, hg⟩
          · exact ⟨_, _, rfl, .inl ⟨by omega, rfl, rfl⟩⟩
          · exact ⟨_, _, rfl, .inr ⟨by omega, by omega, rfl, g, rfl, hg⟩⟩
        obtain ⟨u, ec, rfl, hcs⟩ := hex
        have HCS := Lib.hid hcs
        obtain ⟨qu, rfl⟩ : ∃ q, u = .pointer q := by rcases hcs with ⟨_, h, _⟩ | ⟨_, _, _, g, h, _⟩ <;> exact ⟨_, h⟩
        clear hb3 hcase hcs
        go_wp2_with fail
        refine HWH.out.mono ?_
        rintro e w4 ⟨hb4, g4, rfl, ht4, hiff⟩
        have HB4 := Lib.hid (HB3.out.trans (hb4.mono HB3.out.size))
        have HW34 := Lib.hid hb4
        have HT4 := Lib.hid (And.intro ht4 hiff)
        clear hb4 ht4 hiff
        have HRW := Lib.hid (rWhere_any w4 lo hi in_ _ (HT.out.2.below HB4.out) (by have := HIL.out; omega) HU.out.2.1 HU.out.2.2)
        go_wp2_with fail
        refine HRW.out.mono ?_
        rintro e w5 ⟨v5, rfl, hr5, hb5⟩
        have HI5 := Lib.hid (is07_any w5 g4 n (someL lo hi in_) v5 (HT4.out.1.bel hb5) hr5 (HES.out.someL lo hi))
        have HB5 := Lib.hid (HB4.out.trans (hb5.mono HB4.out.size))
        have HW35 := Lib.hid (HW34.out.trans (hb5.mono HW34.out.size))
        have HT5 := Lib.hid (HT4.out.1.bel hb5)
        obtain ⟨A5, q5, rfl, _⟩ := hr5
        obtain ⟨m, hm⟩ : ∃ m, (someL lo hi in_).length = m := ⟨_, rfl⟩
        have HM := Lib.hid hm
        rw [hm] at HI5 ⊢
        clear hb5 hm
        have hmain : (someL lo hi in_ = in_ ∧ g4 = t ∧ ((m : Int) == (in_.length : Int)) = true ∧ (m : Int) = (in_.length : Int)) ∨ (someL lo hi in_ ≠ in_ ∧ g4 ≠ t ∧ ((m : Int) == (in_.length : Int)) = false ∧ ¬ (m : Int) = (in_.length : Int)) := by
          by_cases e : someL lo hi in_ = in_
          · have e3 : (m : Int) = (in_.length : Int) := by have := HM.out; rw [e] at this; omega
            exact .inl ⟨e, HT4.out.2.2 e, by simpa using e3, e3⟩
          · have e3 : ¬ (m : Int) = (in_.length : Int) := fun h => e (someL_len_eq (by rw [HM.out]; omega))
            exact .inr ⟨e, fun h => e (HT4.out.2.1 h), by simpa using e3, e3⟩
        have HTR := Lib.hid (show Below w2.heap.size w2 w5 from HB3.out.trans (HW35.out.mono HB3.out.size))
        rcases hmain with ⟨e1, e2, e3, e4⟩ | ⟨e1, e2, e3, e4⟩
        · subst e2
          have heq := fun w => tree_same w g4
          clear e1
          go_wp2_with fail
          refine HI5.out.mono ?_
          rintro e w6 ⟨rfl, hb6⟩
          have HB6 := Lib.hid (HTR.out.trans (hb6.mono HTR.out.size))
          have HW56 := Lib.hid hb6
          clear hb6
          rcases HCS.out with ⟨hr, hu, rfl⟩ | ⟨hr1, hr2, rfl, g3, hu, ht3⟩
          · injection hu with hu
            subst hu
            by_cases hr1 : rule < 1
            · clear hr
              go_wp2_with fail
              go_ret
              exact ⟨rfl, HB2.out.trans (HB6.out.mono HB2.out.size)⟩
            · have hr2 : rule > 5 := by omega
              clear hr
              go_wp2_with fail
              go_ret
              exact ⟨rfl, HB2.out.trans (HB6.out.mono HB2.out.size)⟩
          · injection hu with hu
            subst hu
            have HT3 := Lib.hid (ht3.bel (HW35.out.trans (HW56.out.mono HW35.out.size)))
            clear ht3
            have HRM := Lib.hid (rMap_any w6 rule c in_ _ (HT.out.2.below HB6.out) (by have := HIL.out; omega) HT.out.1.vlt HU.out.1)
            go_wp2_with fail
            refine HRM.out.mono ?_
            rintro e w7 ⟨v7, rfl, hr7, hb7⟩
            have HI7 := Lib.hid (is07_any w7 g3 n (mapL rule c in_) v7 (HT3.out.bel hb7) hr7 (HES.out.mapL rule c))
            have HB7 := Lib.hid (HB6.out.trans (hb7.mono HB6.out.size))
            obtain ⟨A7, q7, rfl, _⟩ := hr7
            clear hb7
            go_wp2_with fail
            refine HI7.out.mono ?_
            rintro e w8 ⟨rfl, hb8⟩
            have HB8 := Lib.hid (HB7.out.trans (hb8.mono HB7.out.size))
            have HI8 := Lib.hid (is07_any w8 g4 n in_ _ (HT.out.1.bel HB8.out) (HT.out.2.below HB8.out) HES.out)
            clear hb8
            go_wp2_with fail
            refine HI8.out.mono ?_
            rintro e w9 ⟨rfl, hb9⟩
            have HB9 := Lib.hid (HB2.out.trans ((HB8.out.trans (hb9.mono HB8.out.size)).mono HB2.out.size))
            clear hb9
            go_wp2_with fail
            go_ret
            exact ⟨rfl, HB9.out⟩
        · have HNE := Lib.hid e2
          clear e1 e2
          go_wp2_with fail
          refine HI5.out.mono ?_
          rintro e w6 ⟨rfl, hb6⟩
          have HB6 := Lib.hid (HTR.out.trans (hb6.mono HTR.out.size))
          have HW56 := Lib.hid hb6
          clear hb6
          have heq := tree_other (w := w6) (HT5.out.bel HW56.out) (HT.out.1.bel HB6.out) HNE.out
          rcases HCS.out with ⟨hr, hu, rfl⟩ | ⟨hr1, hr2, rfl, g3, hu, ht3⟩
          · injection hu with hu
            subst hu
            by_cases hr1 : rule < 1
            · clear hr
              go_wp2_with fail
              go_ret
              exact ⟨rfl, HB2.out.trans (HB6.out.mono HB2.out.size)⟩
            · have hr2 : rule > 5 := by omega
              clear hr
              go_wp2_with fail
              go_ret
              exact ⟨rfl, HB2.out.trans (HB6.out.mono HB2.out.size)⟩
          · injection hu with hu
            subst hu
            have HT3 := Lib.hid (ht3.bel (HW35.out.trans (HW56.out.mono HW35.out.size)))
            clear ht3
            have HRM := Lib.hid (rMap_any w6 rule c in_ _ (HT.out.2.below HB6.out) (by have := HIL.out; omega) HT.out.1.vlt HU.out.1)
            go_wp2_with fail
            refine HRM.out.mono ?_
            rintro e w7 ⟨v7, rfl, hr7, hb7⟩
            have HI7 := Lib.hid (is07_any w7 g3 n (mapL rule c in_) v7 (HT3.out.bel hb7) hr7 (HES.out.mapL rule c))
            have HB7 := Lib.hid (HB6.out.trans (hb7.mono HB6.out.size))
            obtain ⟨A7, q7, rfl, _⟩ := hr7
            clear hb7
            go_wp2_with fail
            refine HI7.out.mono ?_
            rintro e w8 ⟨rfl, hb8⟩
            have HB8 := Lib.hid (HB7.out.trans (hb8.mono HB7.out.size))
            have HI8 := Lib.hid (is07_any w8 t n in_ _ (HT.out.1.bel HB8.out) (HT.out.2.below HB8.out) HES.out)
            clear hb8
            go_wp2_with fail
            refine HI8.out.mono ?_
            rintro e w9 ⟨rfl, hb9⟩
            have HB9 := Lib.hid (HB2.out.trans ((HB8.out.trans (hb9.mono HB8.out.size)).mono HB2.out.size))
            clear hb9
            go_wp2_with fail
            go_ret
            exact ⟨rfl, HB9.out⟩
end Go.Proofs.YtjokcagggmjgmaaGreat
