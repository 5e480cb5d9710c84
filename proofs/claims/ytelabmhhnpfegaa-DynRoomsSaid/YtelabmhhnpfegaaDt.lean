/- Reverse, in plain Lean; knapsack: walked. -/
import Derived.Test.YtelabmhhnpfegaaDs
namespace Go.Proofs.Ytelabmhhnpfegaa.Hand
open Go.RowKit Go.Proofs.YtelabmhhnpfegaaW.PrintWords Go.Proofs.YtelabmhhnpfegaaW.PrintLast Go.Proofs.YtelabmhhnpfegaaW.PrintMore Go.Proofs.Ytelabmhhnpfegaa.PDynCells
theorem rev_l : ∀ (f : Nat) (L : List Int) (i j : Nat), L.length ≤ 17592186044416 → (j - i ≤ f) → j < L.length → ∃ k L', slices_Reverse_int_int.l0 k L (i : Int) (j : Int) = some L' ∧ L'.length = L.length ∧ ∀ p, p < L.length → L'.getD p 0 = if i ≤ p ∧ p ≤ j then L.getD (i + j - p) 0 else L.getD p 0
  | 0, L, i, j, hl, hf, hj => by
    refine ⟨1, L, ?_, rfl, fun p hp => ?_⟩
    · rw [slices_Reverse_int_int.l0, if_neg (by omega)]
    · split
      · rename_i h
        congr 1
        omega
      · rfl
  | f + 1, L, i, j, hl, hf, hj => by
    by_cases h : i < j
    · have w1 : wrap64 ((i : Int) + 1) = ((i + 1 : Nat) : Int) := by unfold wrap64; omega
      have w2 : wrap64 ((j : Int) - 1) = ((j - 1 : Nat) : Int) := by unfold wrap64; omega
      have r1 : rd L (i : Int) = L.getD i 0 := by unfold rd; rw [Int.toNat_natCast]
      have r2 : rd L (j : Int) = L.getD j 0 := by unfold rd; rw [Int.toNat_natCast]
      obtain ⟨k, L', hk, hl', hp'⟩ := rev_l f ((L.set i (L.getD j 0)).set j (L.getD i 0)) (i + 1) (j - 1) (by simpa using hl) (by omega) (by simp; omega)
      refine ⟨k + 1, L', ?_, by simpa using hl', fun p hp => ?_⟩
      · rw [slices_Reverse_int_int.l0, if_pos (by omega), if_pos (by omega), if_pos (by omega), if_pos (by omega), if_pos (by omega), w1, w2, r1, r2, Int.toNat_natCast, Int.toNat_natCast, hk]
      · have hs : ∀ q, q < L.length → ((L.set i (L.getD j 0)).set j (L.getD i 0)).getD q 0 = if j = q then L.getD i 0 else if i = q then L.getD j 0 else L.getD q 0 := fun q hq => by
          rw [getD_set (by simpa using hq), getD_set hq]
        rw [hp' p (by simpa using hp)]
        by_cases e : i + 1 ≤ p ∧ p ≤ j - 1
        · rw [if_pos e, if_pos ⟨by omega, by omega⟩, hs _ (by omega), if_neg (by omega), if_neg (by omega)]
          congr 1
          omega
        · rw [if_neg e, hs p hp]
          by_cases e1 : j = p
          · rw [if_pos e1, if_pos ⟨by omega, by omega⟩]
            congr 1
            omega
          · rw [if_neg e1]
            by_cases e2 : i = p
            · rw [if_pos e2, if_pos ⟨by omega, by omega⟩]
              congr 1
              omega
            · rw [if_neg e2, if_neg (by omega)]
    · refine ⟨1, L, ?_, rfl, fun p hp => ?_⟩
      · rw [slices_Reverse_int_int.l0, if_neg (by omega)]
      · split
        · rename_i h
          congr 1
          omega
        · rfl
theorem getD_rev (L : List Int) (p : Nat) (hp : p < L.length) : L.reverse.getD p 0 = L.getD (L.length - 1 - p) 0 := by
  rw [List.getD_eq_getElem?_getD, List.getD_eq_getElem?_getD, List.getElem?_reverse hp]
theorem rev_f (L : List Int) (hl : L.length ≤ 17592186044416) : ∃ k, slices_Reverse_int_int.f k L = some L.reverse := by
  unfold slices_Reverse_int_int.f
  by_cases h0 : L.length = 0
  · refine ⟨1, ?_⟩
    have : L = [] := List.eq_nil_of_length_eq_zero h0
    subst this
    have hw : wrap64 (((([] : List Int).length : Nat) : Int) - 1) = -1 := by
      show wrap64 ((0 : Int) - 1) = -1
      unfold wrap64
      omega
    rw [hw, slices_Reverse_int_int.l0, if_neg (by omega)]
    rfl
  · have hw : wrap64 ((L.length : Int) - 1) = ((L.length - 1 : Nat) : Int) := by unfold wrap64; omega
    obtain ⟨k, L', hk, hl', hp'⟩ := rev_l L.length L 0 (L.length - 1) hl (by omega) (by omega)
    refine ⟨k, ?_⟩
    rw [hw]
    rw [show ((0 : Nat) : Int) = 0 from rfl] at hk
    rw [hk]
    congr 1
    refine ext_getD (by rw [hl', List.length_reverse]) (fun p hp => ?_)
    rw [hl'] at hp
    rw [hp' p hp, if_pos ⟨by omega, by omega⟩, getD_rev L p hp]
    congr 1
    omega
/-- slices.Reverse, as it answers. -/
theorem rev_any (P : Nat → Prop) (v : Value) (l : List Int) (w0 w : World) (hB : Below w0.heap.size w0 w) (ho : (Kd.int .i64).R 3 w w0.heap.size P v l) (hl : l.length ≤ 17592186044416) :
    Calls Try.prog 90 #[v] w fun e w' => e = .returned (.tuple #[]) ∧ Aside0 ((Kd.int .i64).R 3 w' w0.heap.size (fun k => P k ∨ w.heap.size ≤ k) v l.reverse ∧ Below w0.heap.size w0 w' ∧ Kept w w' P) := by
  obtain ⟨k, hk⟩ := rev_f l hl
  exact (slices_Reverse_int_int.calls k P v l l.reverse w0 w hB ho hk).mono fun _ _ ⟨h1, h2, h3, h4⟩ => ⟨h1, h2, h3, h4⟩
/-- What is in, the last one first. -/
def tbk (m : Nat) (l : List S101) : Nat → Nat → List Int
  | 0, _ => []
  | k + 1, w => if (rowK m l (k + 1)).getD w 0 = (rowK m l k).getD w 0 then tbk m l k w else (k : Int) :: tbk m l k (w - (l.getD k z101).f1.toNat)
theorem tbk_len (m : Nat) (l : List S101) : ∀ k w, (tbk m l k w).length ≤ k
  | 0, _ => Nat.le_refl _
  | k + 1, w => by
    unfold tbk
    split
    · have := tbk_len m l k w
      omega
    · have := tbk_len m l k (w - (l.getD k z101).f1.toNat)
      rw [List.length_cons]
      omega
theorem row_ne {m : Nat} {l : List S101} {k w : Nat} (hw : w < m) (h : (rowK m l (k + 1)).getD w 0 ≠ (rowK m l k).getD w 0) : (l.getD k z101).f1.toNat ≤ w := by
  rw [rowK, stepR_get (by rw [rowK_len]; exact hw)] at h
  split at h
  · assumption
  · exact absurd rfl h
set_option maxHeartbeats 1000000 in
set_option maxRecDepth 100000 in
theorem knapsack_any (w : World) (x : PI) (v : Value) (h : InstC w x v) (hi : IOk x) (hq : roomP x ≤ 1048576) :
    Calls Try.prog 54 #[v] w fun e w' => ∃ v, e = .returned (.tuple #[v, .int .i64 (-(rowK (roomP x + 1).toNat x.items x.items.length).getD (roomP x).toNat 0), .bool true]) ∧ Aside0 ((Kd.int .i64).R 3 w' w.heap.size (fun _ => True) v (tbk (roomP x + 1).toNat x.items x.items.length (roomP x).toNat).reverse ∧ Below w.heap.size w w') := by
  have HI := Aside0.mk h
  have IOa := Aside0.mk hi
  obtain ⟨A2, c2, A3, c3, A5, c5, rfl, h2, l2, h3, l3, h5, l5⟩ := h
  have H2 := Aside0.mk h2
  obtain ⟨n2, hn2⟩ : ∃ n, n = x.items.length := ⟨_, rfl⟩
  have b2 : n2 ≤ 4096 := by rw [hn2]; exact hi.nitems
  rw [← hn2] at HI H2 l2 ⊢
  have HN := Aside0.mk hn2
  obtain ⟨m, hm⟩ : ∃ m, m = (roomP x + 1).toNat := ⟨_, rfl⟩
  obtain ⟨m', hm'⟩ : ∃ m, m = (roomP x).toNat := ⟨_, rfl⟩
  rw [← hm, ← hm']
  have RB := room_bd hi
  have m1 : m = m' + 1 := by omega
  have m2 : m' ≤ 1048576 := by omega
  have HM := Aside0.mk hm
  have M1 := Aside0.mk m1
  have HQ := Aside0.mk hq
  clear hi h2 h3 h5 l3 l5 hn2 hm hm' RB hq
  have LBD := Aside0.mk (fun k i => rowK_bd (m := m) (l := x.items) (fun s hs => (IOa.out.items s hs).1) k i)
  obtain ⟨zc, hzc⟩ : ∃ z, z = (rowK m x.items n2).getD m' 0 := ⟨_, rfl⟩
  rw [← hzc]
  have zcb : 0 ≤ zc ∧ zc ≤ 2147483648 * n2 := by rw [hzc]; exact LBD.out n2 m'
  obtain ⟨zc0, zc1⟩ := zcb
  have HZC := Aside0.mk hzc
  have mB : m ≤ 1048577 := by omega
  clear hzc m1
  obtain ⟨TB, hTB⟩ : ∃ l, l = tbk m x.items n2 m' := ⟨_, rfl⟩
  rw [← hTB]
  have HTB := Aside0.mk hTB
  clear hTB
  have hu54 := Try.underlying54
  have hu101 := Try.underlying101
  go_enter Try.func54, Try.ntmps54
  go_wp2_with fail
  obtain ⟨W1, hW1⟩ : ∃ W, W = w.alloc (.cells #[.int .i64 x.kind, .int .i64 x.cap, .slice A2 n2 c2, .slice A3 x.cost.length c3, .int .i64 x.size, .slice A5 x.sets.length c5] 54) := ⟨_, rfl⟩
  rw [← hW1]
  have B1 : Aside0 (Below w.heap.size w W1) := ⟨by rw [hW1]; exact below_alloc (Below.refl _ _) _⟩
  obtain ⟨p1, hp1⟩ : ∃ p, p = w.heap.size := ⟨_, rfl⟩
  have Q1 : Aside0 (W1.heap[p1]? = some (.cells #[.int .i64 x.kind, .int .i64 x.cap, .slice A2 n2 c2, .slice A3 x.cost.length c3, .int .i64 x.size, .slice A5 x.sets.length c5] 54 (0, 0))) := ⟨by rw [hW1, hp1]; exact heap_alloc_new _ _⟩
  rw [← hp1]
  clear hW1 hp1
  refine (rows_any W1 x _ (HI.out.below B1.out) IOa.out HQ.out).mono ?_
  rintro _ W3 ⟨vt, rfl, HT⟩
  rw [← HM.out, ← HN.out] at HT
  obtain ⟨gt, ct, rfl⟩ : ∃ g c, vt = .slice (some ⟨g, 0, none⟩) (n2 + 1) c := by
    obtain ⟨g, cap, e, _⟩ := Kd.R_form HT.out.1 (by rw [rowsP_len]; omega)
    rw [rowsP_len] at e
    exact ⟨_, cap, e⟩
  have TC := Aside0.mk (R_C HT.out.1).1
  have B3 : Aside0 (Below w.heap.size w W3) := ⟨B1.out.trans (HT.out.2.mono B1.out.size)⟩
  have Q3 : Aside0 (W3.heap[p1]? = some (.cells #[.int .i64 x.kind, .int .i64 x.cap, .slice A2 n2 c2, .slice A3 x.cost.length c3, .int .i64 x.size, .slice A5 x.sets.length c5] 54 (0, 0))) := ⟨blk_below Q1.out HT.out.2⟩
  have ROW : Aside0 (∀ k, k ≤ n2 → ∃ a c, W3.cell? ⟨gt, k, none⟩ = some (.slice (some a) m c) ∧ (Kd.int .i64).C W3 (some a) m (rowK m x.items k)) := ⟨fun k hk => by
    obtain ⟨ar, AY, cY, e, y0, ly, hy⟩ := at_L2 TC.out (k : Int) (by omega) (by omega)
    injection e with e
    subst e
    have hyE : rd_L2 (rowsP m x.items n2) (k : Int) = rowK m x.items k := by unfold rd_L2; rw [Int.toNat_natCast]; exact rowsP_get m x.items hk
    rw [hyE, rowK_len] at y0 hy
    rw [Int.toNat_natCast] at y0
    obtain ⟨aY, e⟩ : ∃ a, AY = some a := by
      obtain ⟨_, _, hc⟩ := hy
      obtain ⟨a, e, _⟩ := hc (by have := M1.out; omega)
      exact ⟨a, e⟩
    subst e
    rw [show (⟨gt, 0, none⟩ : Addr).add k = ⟨gt, k, none⟩ by unfold Addr.add; split <;> simp_all] at y0
    exact ⟨aY, cY, y0, hy⟩⟩
  obtain ⟨a0, c0, y0, hy0⟩ := ROW.out 0 (Nat.zero_le _)
  obtain ⟨an, cn, yn, hyn⟩ := ROW.out n2 (Nat.le_refl _)
  obtain ⟨ae, e, xn⟩ := at_Int hyn m' (by have := M1.out; omega)
  injection e with e
  subst e
  rw [← HZC.out] at xn
  have hk1 : wrap64 ((n2 : Int) + 1 - 1) = (n2 : Int) := by unfold wrap64; omega
  have hk2 : (n2 : Int) + 1 - 1 = (n2 : Int) := by omega
  have e1 : (m : Int) = (m' : Int) + 1 := by have := M1.out; omega
  have m0 : 0 < m := by have := M1.out; omega
  have m3 : m' < m := by have := M1.out; omega
  have q2 : W3.cell? ⟨p1, 2, none⟩ = some (.slice A2 n2 c2) := (blk_cell Q3.out 2).trans rfl
  clear hy0 hyn
  go_wp2_with fail
  clear y0 yn xn hk1 hk2 e1 q2
  have K0 : Aside0 (TB = [] ++ tbk m x.items n2 m' ∧ (Kd.int .i64).R 3 W3 W3.heap.size (fun _ => True) (.slice none 0 0) [] ∧ Below W3.heap.size W3 W3) := ⟨by rw [HTB.out]; rfl, Kd.R_nil _ _ _ _ _, Below.refl _ _⟩
  have TL : Aside0 (TB.length ≤ 4096) := ⟨by rw [HTB.out]; exact Nat.le_trans (tbk_len _ _ _ _) b2⟩
  go_loopw [6, 8, 9] (fun v6 v8 v9 wr => ∃ (kk wv : Nat) (A : Option Addr) (n c : Nat) (lst : List Int), kk ≤ n2 ∧ wv < m ∧ v6 = .int .i64 (wv : Int) ∧ v8 = .slice A n c ∧ v9 = .int .i64 ((kk : Int) - 1) ∧ Aside0 (TB = lst ++ tbk m x.items kk wv ∧ (Kd.int .i64).R 3 wr W3.heap.size (fun _ => True) (.slice A n c) lst ∧ Below W3.heap.size W3 wr)) (fun _ _ v9 _ => (intOf v9 + 1).toNat)
  case atStart => exact ⟨n2, m', none, 0, 0, [], Nat.le_refl _, m3, rfl, rfl, rfl, K0⟩
  case round =>
    clear K0
    obtain ⟨kk, wv, A, n, c, lst, hk, hw, rfl, rfl, rfl, KK⟩ := hrel
    rcases Nat.eq_zero_or_pos kk with h0 | h0
    · subst h0
      have E : Aside0 (TB = lst) := ⟨by have := KK.out.1; unfold tbk at this; rwa [List.append_nil] at this⟩
      have LL : Aside0 (lst.length ≤ 17592186044416) := ⟨by have := TL.out; rw [E.out] at this; omega⟩
      go_wp2_with fail
      refine (rev_any (fun _ => True) (.slice A n c) lst W3 wr KK.out.2.2 KK.out.2.1 LL.out).mono ?_
      rintro _ w9 ⟨rfl, H9⟩
      go_wp2_with fail
      refine bodyPost_ret (v := .tuple #[.slice A n c, .int .i64 (-zc), .bool true]) (by simp [results, Try.results54, go_sem]) rfl ?_
      refine ⟨_, rfl, ⟨?_, B3.out.trans (H9.out.2.1.mono B3.out.size)⟩⟩
      rw [E.out]
      exact Kd.R_mono (Kd.R_lower H9.out.1 B3.out.size) (fun _ _ => trivial)
    · obtain ⟨q, rfl⟩ : ∃ q, kk = q + 1 := ⟨kk - 1, by omega⟩
      have LST : Aside0 (lst.length + 1 ≤ 4097) := ⟨by
        have h1 := TL.out
        rw [KK.out.1, List.length_append] at h1
        omega⟩
      obtain ⟨a1, c1, y1', hy1⟩ := ROW.out (q + 1) (by omega)
      obtain ⟨a0, c0, y0', hy0⟩ := ROW.out q (by omega)
      have y1 := pw_cell_below KK.out.2.2 y1'
      have y0 := pw_cell_below KK.out.2.2 y0'
      obtain ⟨ae, e, z1'⟩ := at_Int hy1 wv hw
      injection e with e
      subst e
      obtain ⟨ae, e, z0'⟩ := at_Int hy0 wv hw
      injection e with e
      subst e
      have z1 := pw_cell_below KK.out.2.2 z1'
      have z0 := pw_cell_below KK.out.2.2 z0'
      obtain ⟨u1, hu1⟩ : ∃ z, z = (rowK m x.items (q + 1)).getD wv 0 := ⟨_, rfl⟩
      obtain ⟨u0, hu0⟩ : ∃ z, z = (rowK m x.items q).getD wv 0 := ⟨_, rfl⟩
      rw [← hu1] at z1
      rw [← hu0] at z0
      have U := Aside0.mk (And.intro hu1 hu0)
      have w1 : wrap64 (((q + 1 : Nat) : Int) - 1) = (q : Int) := by unfold wrap64; omega
      have w2 : (q : Int) + 1 - 1 = (q : Int) := by omega
      have w4 : IntKind.i64.wrap ((q : Int) + 1) = (q : Int) + 1 := by rw [i64_w]; unfold wrap64; omega
      have w5 : 0 ≤ (q : Int) + 1 := by omega
      have w6 : (q : Int) + 1 < (n2 : Int) + 1 := by omega
      have w7 : ((q : Int) + 1).toNat = q + 1 := by omega
      clear y1' y0' hy1 hy0 z1' z0' hu1 hu0 h0
      by_cases hne : u1 = u0
      · have g : (u1 != u0) = false := by rw [hne]; simp
        have N1 : Aside0 (TB = lst ++ tbk m x.items q wv) := ⟨by
          have h1 := KK.out.1
          unfold tbk at h1
          rwa [if_pos (by rw [← U.out.1, ← U.out.2]; exact hne)] at h1⟩
        clear hne
        go_upto_region 8 with fail
        go_quiet (fail)
        clear w4 w5 w6 w7
        go_wp2_with fail
        exact ⟨⟨q, wv, A, n, c, lst, by omega, hw, rfl, rfl, by first | rfl | simp, ⟨N1.out, Kd.R_drewN KK.out.2.1 nq, pw_below_drewN KK.out.2.2 nq⟩⟩, by simp [intOf]⟩
      · have g : (u1 != u0) = true := by simpa using hne
        have WT := row_ne (m := m) (l := x.items) (k := q) hw (by rw [← U.out.1, ← U.out.2]; exact hne)
        have N1 : Aside0 (TB = (lst ++ [(q : Int)]) ++ tbk m x.items q (wv - (x.items.getD q z101).f1.toNat)) := ⟨by
          have h1 := KK.out.1
          unfold tbk at h1
          rw [if_neg (by rw [← U.out.1, ← U.out.2]; exact hne)] at h1
          rw [h1, List.append_assoc]
          rfl⟩
        obtain ⟨ad, e, i0', i1'⟩ := at_T101 H2.out (q : Int) (by omega) (by omega)
        subst e
        rw [Int.toNat_natCast] at i1'
        have hs2 : (rd_T101 x.items (q : Int)).f1 = (x.items.getD q z101).f1 := by unfold rd_T101; rw [Int.toNat_natCast]
        have sb := (IOa.out.items (x.items.getD q z101) (by
          rw [List.getD_eq_getElem?_getD, List.getElem?_eq_getElem (by rw [← HN.out]; omega), Option.getD_some]
          exact List.getElem_mem _)).2
        obtain ⟨wt, hwt⟩ : ∃ n : Nat, (n : Int) = (x.items.getD q z101).f1 := ⟨(x.items.getD q z101).f1.toNat, by omega⟩
        rw [hs2, ← hwt] at i1'
        have hwt2 : (x.items.getD q z101).f1.toNat = wt := by omega
        rw [hwt2] at WT N1
        obtain ⟨dd, hdd⟩ : ∃ d, d = wv - wt := ⟨_, rfl⟩
        rw [← hdd] at N1
        have d1 : (wv : Int) - (wt : Int) = (dd : Int) := by omega
        have d2 : wrap64 ((wv : Int) - (wt : Int)) = (dd : Int) := by unfold wrap64; omega
        have d3 : dd < m := by omega
        have I1 := Aside0.mk (pw_cell_below B3.out i1')
        have HL : Aside0 ((lst.length + 1) * 8 ≤ 140737488355328) := ⟨by have := LST.out; omega⟩
        clear hne i0' i1' hs2 sb hwt hwt2 hdd WT
        go_upto_region 8 with fail
        go_quiet (fail)
        clear w4 w5 w6 w7
        have RQ := Aside0.mk (Kd.R_drewN KK.out.2.1 nq)
        have BQ := Aside0.mk (pw_below_drewN KK.out.2.2 nq)
        go_upto_region 10 with (at_builtin; refine Kd.R_append (Kd.int .i64) (w0 := W3) W3.heap.size rfl _ _ 29 3 (.int .i64 0) 8 rfl Try.underlying29 infoR3 rfl (by decide) (by decide) (.slice A n c) lst (q : Int) [.int .i64 (q : Int)] (fun _ => True) (fun _ => False) rfl rfl rfl (fun _ h => h.elim) (fun _ _ => trivial) RQ.out BQ.out BQ.out.size HL.out ?_; intro v7 w7 ho7 hb7 _ _; obtain ⟨A7, n7, c7, rfl, _⟩ := R_open ho7; have O7 := Aside0.mk ho7; have B7 := Aside0.mk hb7; clear ho7 hb7)
        have q2 : w7.cell? ⟨p1, 2, none⟩ = some (.slice (some ad) n2 c2) := (blk_cell (blk_below Q3.out B7.out) 2).trans rfl
        have i1 := pw_cell_below B7.out I1.out
        clear y1 y0 z1 z0
        go_wp2_with fail
        exact ⟨⟨q, dd, A7, n7, c7, lst ++ [(q : Int)], by omega, d3, rfl, rfl, by first | rfl | simp, ⟨N1.out, O7.out, B7.out⟩⟩, by simp [intOf]⟩
end Go.Proofs.Ytelabmhhnpfegaa.Hand
