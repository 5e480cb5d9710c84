/- Texts Dt Mf Mg Ec Ed Ee, cut to what is used. -/
import Derived.Test.YtelabmhhnpfegaaZa0
import Derived.Test.YtelabmhhnpfegaaZa9
import Derived.Test.YtelabmhhnpfegaaZc1
import Derived.Test.YtelabmhhnpfegaaZc2
set_option linter.unusedVariables false
set_option linter.unusedSimpArgs false
section
namespace Go.Proofs.Ytelabmhhnpfegaa.Hand
open Go.RowKit Go.Proofs.YtelabmhhnpfegaaW.PrintWords Go.Proofs.YtelabmhhnpfegaaW.PrintLast Go.Proofs.YtelabmhhnpfegaaW.PrintMore Go.Proofs.Ytelabmhhnpfegaa.PDynCells
theorem rev_l : ∀ (f : Nat) (L : List Int) (i j : Nat), L.length ≤ 17592186044416 → (j - i ≤ f) → j < L.length → ∃ k L', slices_Reverse_int_int.l0 k L (i : Int) (j : Int) = some L' ∧ L'.length = L.length ∧ ∀ p, p < L.length → L'.getD p 0 = if i ≤ p ∧ p ≤ j then L.getD (i + j - p) 0 else L.getD p 0
 | 0, L, i, j, hl, hf, hj => by
  refine ⟨1, L, ?_, rfl, fun p hp => ?_⟩
  ·rw [slices_Reverse_int_int.l0, if_neg (by omega)]
  ·split
   ·rename_i h
    congr 1
    omega
   ·rfl
 | f + 1, L, i, j, hl, hf, hj => by
  by_cases h : i < j
  ·have w1 : wrap64 ((i : Int) + 1) = ((i + 1 : Nat) : Int) := by unfold wrap64; omega
   have w2 : wrap64 ((j : Int) - 1) = ((j - 1 : Nat) : Int) := by unfold wrap64; omega
   have r1 : rd L (i : Int) = L.getD i 0 := by unfold rd; rw [Int.toNat_natCast]
   have r2 : rd L (j : Int) = L.getD j 0 := by unfold rd; rw [Int.toNat_natCast]
   obtain ⟨k, L', hk, hl', hp'⟩ := rev_l f ((L.set i (L.getD j 0)).set j (L.getD i 0)) (i + 1) (j - 1) (by simpa using hl) (by omega) (by simp; omega)
   refine ⟨k + 1, L', ?_, by simpa using hl', fun p hp => ?_⟩
   ·rw [slices_Reverse_int_int.l0, if_pos (by omega), if_pos (by omega), if_pos (by omega), if_pos (by omega), if_pos (by omega), w1, w2, r1, r2, Int.toNat_natCast, Int.toNat_natCast, hk]
   ·have hs : ∀ q, q < L.length → ((L.set i (L.getD j 0)).set j (L.getD i 0)).getD q 0 = if j = q then L.getD i 0 else if i = q then L.getD j 0 else L.getD q 0 := fun q hq => by
     rw [getD_set (by simpa using hq), getD_set hq]
    rw [hp' p (by simpa using hp)]
    by_cases e : i + 1 ≤ p ∧ p ≤ j - 1
    ·rw [if_pos e, if_pos ⟨by omega, by omega⟩, hs _ (by omega), if_neg (by omega), if_neg (by omega)]
     congr 1
     omega
    ·rw [if_neg e, hs p hp]
     by_cases e1 : j = p
     ·rw [if_pos e1, if_pos ⟨by omega, by omega⟩]
      congr 1
      omega
     ·rw [if_neg e1]
      by_cases e2 : i = p
      ·rw [if_pos e2, if_pos ⟨by omega, by omega⟩]
       congr 1
       omega
      ·rw [if_neg e2, if_neg (by omega)]
  ·refine ⟨1, L, ?_, rfl, fun p hp => ?_⟩
   ·rw [slices_Reverse_int_int.l0, if_neg (by omega)]
   ·split
    ·rename_i h
     congr 1
     omega
    ·rfl
theorem getD_rev (L : List Int) (p : Nat) (hp : p < L.length) : L.reverse.getD p 0 = L.getD (L.length - 1 - p) 0 := by
 rw [List.getD_eq_getElem?_getD, List.getD_eq_getElem?_getD, List.getElem?_reverse hp]
theorem rev_f (L : List Int) (hl : L.length ≤ 17592186044416) : ∃ k, slices_Reverse_int_int.f k L = some L.reverse := by
 unfold slices_Reverse_int_int.f
 by_cases h0 : L.length = 0
 ·refine ⟨1, ?_⟩
  have : L = [] := List.eq_nil_of_length_eq_zero h0
  subst this
  have hw : wrap64 (((([] : List Int).length : Nat) : Int) - 1) = -1 := by
   show wrap64 ((0 : Int) - 1) = -1
   unfold wrap64
   omega
  rw [hw, slices_Reverse_int_int.l0, if_neg (by omega)]
  rfl
 ·have hw : wrap64 ((L.length : Int) - 1) = ((L.length - 1 : Nat) : Int) := by unfold wrap64; omega
  obtain ⟨k, L', hk, hl', hp'⟩ := rev_l L.length L 0 (L.length - 1) hl (by omega) (by omega)
  refine ⟨k, ?_⟩
  rw [hw]
  rw [show ((0 : Nat) : Int) = 0 from rfl] at hk
  rw [hk]
  congr 1
  refine ext_getD (by rw [hl', List.length_reverse]) (fun p hp => ?_)
  rw [hl'] at hp
  rw [hp' p hp, if_pos ⟨by omega, by omega⟩, getD_rev L p hp]
  congr 1
  omega
theorem rev_any (P : Nat → Prop) (v : Value) (l : List Int) (w0 w : World) (hB : Below w0.heap.size w0 w) (ho : (Kd.int .i64).R 3 w w0.heap.size P v l) (hl : l.length ≤ 17592186044416) :
  Calls Try.prog 90 #[v] w fun e w' => e = .returned (.tuple #[]) ∧ Aside0 ((Kd.int .i64).R 3 w' w0.heap.size (fun k => P k ∨ w.heap.size ≤ k) v l.reverse ∧ Below w0.heap.size w0 w' ∧ Kept w w' P) := by
 obtain ⟨k, hk⟩ := rev_f l hl
 exact (slices_Reverse_int_int.calls k P v l l.reverse w0 w hB ho hk).mono fun _ _ ⟨h1, h2, h3, h4⟩ => ⟨h1, h2, h3, h4⟩
def tbk (m : Nat) (l : List S101) : Nat → Nat → List Int
 | 0, _ => []
 | k + 1, w => if (rowK m l (k + 1)).getD w 0 = (rowK m l k).getD w 0 then tbk m l k w else (k : Int) :: tbk m l k (w - (l.getD k z101).f1.toNat)
theorem tbk_len (m : Nat) (l : List S101) : ∀ k w, (tbk m l k w).length ≤ k
 | 0, _ => Nat.le_refl _
 | k + 1, w => by
  unfold tbk
  split
  ·have := tbk_len m l k w
   omega
  ·have := tbk_len m l k (w - (l.getD k z101).f1.toNat)
   rw [List.length_cons]
   omega
theorem row_ne {m : Nat} {l : List S101} {k w : Nat} (hw : w < m) (h : (rowK m l (k + 1)).getD w 0 ≠ (rowK m l k).getD w 0) : (l.getD k z101).f1.toNat ≤ w := by
 rw [rowK, stepR_get (by rw [rowK_len]; exact hw)] at h
 split at h
 ·assumption
 ·exact absurd rfl h
set_option maxHeartbeats 1000000 in
set_option maxRecDepth 100000 in
theorem knapsack_any (w : World) (x : PI) (v : Value) (h : InstC w x v) (hi : IOk x) (hq : roomP x ≤ 1048576) :
  Calls Try.prog 54 #[v] w fun e w' => ∃ v, e = .returned (.tuple #[v, .int .i64 (-(rowK (roomP x + 1).toNat x.items x.items.length).getD (roomP x).toNat 0), .bool true]) ∧ Aside0 ((Kd.int .i64).R 3 w' w.heap.size (fun _ => True) v (tbk (roomP x + 1).toNat x.items x.items.length (roomP x).toNat).reverse ∧ Below w.heap.size w w') := by
 have HI := Aside0.mk h
 have IOa := Aside0.mk hi
 obtain ⟨A2, c2, A3, c3, A5, c5, rfl, h2, l2, h3, l3, h5, l5⟩ := h
 have H2 := Aside0.mk h2
 obtain ⟨n2, hn2⟩ : ∃ n, n = x.items.length := ⟨_, rfl⟩
 have b2 : n2 ≤ 4096 := by rw [hn2]; exact hi.nitems
 rw [← hn2] at HI H2 l2 ⊢
 have HN := Aside0.mk hn2
 obtain ⟨m, hm⟩ : ∃ m, m = (roomP x + 1).toNat := ⟨_, rfl⟩
 obtain ⟨m', hm'⟩ : ∃ m, m = (roomP x).toNat := ⟨_, rfl⟩
 rw [← hm, ← hm']
 have RB := room_bd hi
 have m1 : m = m' + 1 := by omega
 have m2 : m' ≤ 1048576 := by omega
 have HM := Aside0.mk hm
 have M1 := Aside0.mk m1
 have HQ := Aside0.mk hq
 clear hi h2 h3 h5 l3 l5 hn2 hm hm' RB hq
 have LBD := Aside0.mk (fun k i => rowK_bd (m := m) (l := x.items) (fun s hs => (IOa.out.items s hs).1) k i)
 obtain ⟨zc, hzc⟩ : ∃ z, z = (rowK m x.items n2).getD m' 0 := ⟨_, rfl⟩
 rw [← hzc]
 have zcb : 0 ≤ zc ∧ zc ≤ 2147483648 * n2 := by rw [hzc]; exact LBD.out n2 m'
 obtain ⟨zc0, zc1⟩ := zcb
 have HZC := Aside0.mk hzc
 have mB : m ≤ 1048577 := by omega
 clear hzc m1
 obtain ⟨TB, hTB⟩ : ∃ l, l = tbk m x.items n2 m' := ⟨_, rfl⟩
 rw [← hTB]
 have HTB := Aside0.mk hTB
 clear hTB
 have hu54 := Try.underlying54
 have hu101 := Try.underlying101
 go_enter Try.func54, Try.ntmps54
 go_wp2_with fail
 obtain ⟨W1, hW1⟩ : ∃ W, W = w.alloc (.cells #[.int .i64 x.kind, .int .i64 x.cap, .slice A2 n2 c2, .slice A3 x.cost.length c3, .int .i64 x.size, .slice A5 x.sets.length c5] 54) := ⟨_, rfl⟩
 rw [← hW1]
 have B1 : Aside0 (Below w.heap.size w W1) := ⟨by rw [hW1]; exact below_alloc (Below.refl _ _) _⟩
 obtain ⟨p1, hp1⟩ : ∃ p, p = w.heap.size := ⟨_, rfl⟩
 have Q1 : Aside0 (W1.heap[p1]? = some (.cells #[.int .i64 x.kind, .int .i64 x.cap, .slice A2 n2 c2, .slice A3 x.cost.length c3, .int .i64 x.size, .slice A5 x.sets.length c5] 54 (0, 0))) := ⟨by rw [hW1, hp1]; exact heap_alloc_new _ _⟩
 rw [← hp1]
 clear hW1 hp1
 refine (rows_any W1 x _ (HI.out.below B1.out) IOa.out HQ.out).mono ?_
 rintro _ W3 ⟨vt, rfl, HT⟩
 rw [← HM.out, ← HN.out] at HT
 obtain ⟨gt, ct, rfl⟩ : ∃ g c, vt = .slice (some ⟨g, 0, none⟩) (n2 + 1) c := by
  obtain ⟨g, cap, e, _⟩ := Kd.R_form HT.out.1 (by rw [rowsP_len]; omega)
  rw [rowsP_len] at e
  exact ⟨_, cap, e⟩
 have TC := Aside0.mk (R_C HT.out.1).1
 have B3 : Aside0 (Below w.heap.size w W3) := ⟨B1.out.trans (HT.out.2.mono B1.out.size)⟩
 have Q3 : Aside0 (W3.heap[p1]? = some (.cells #[.int .i64 x.kind, .int .i64 x.cap, .slice A2 n2 c2, .slice A3 x.cost.length c3, .int .i64 x.size, .slice A5 x.sets.length c5] 54 (0, 0))) := ⟨blk_below Q1.out HT.out.2⟩
 have ROW : Aside0 (∀ k, k ≤ n2 → ∃ a c, W3.cell? ⟨gt, k, none⟩ = some (.slice (some a) m c) ∧ (Kd.int .i64).C W3 (some a) m (rowK m x.items k)) := ⟨fun k hk => by
  obtain ⟨ar, AY, cY, e, y0, ly, hy⟩ := at_L2 TC.out (k : Int) (by omega) (by omega)
  injection e with e
  subst e
  have hyE : rd_L2 (rowsP m x.items n2) (k : Int) = rowK m x.items k := by unfold rd_L2; rw [Int.toNat_natCast]; exact rowsP_get m x.items hk
  rw [hyE, rowK_len] at y0 hy
  rw [Int.toNat_natCast] at y0
  obtain ⟨aY, e⟩ : ∃ a, AY = some a := by
   obtain ⟨_, _, hc⟩ := hy
   obtain ⟨a, e, _⟩ := hc (by have := M1.out; omega)
   exact ⟨a, e⟩
  subst e
  rw [show (⟨gt, 0, none⟩ : Addr).add k = ⟨gt, k, none⟩ by unfold Addr.add; split <;> simp_all] at y0
  exact ⟨aY, cY, y0, hy⟩⟩
 obtain ⟨a0, c0, y0, hy0⟩ := ROW.out 0 (Nat.zero_le _)
 obtain ⟨an, cn, yn, hyn⟩ := ROW.out n2 (Nat.le_refl _)
 obtain ⟨ae, e, xn⟩ := at_Int hyn m' (by have := M1.out; omega)
 injection e with e
 subst e
 rw [← HZC.out] at xn
 have hk1 : wrap64 ((n2 : Int) + 1 - 1) = (n2 : Int) := by unfold wrap64; omega
 have hk2 : (n2 : Int) + 1 - 1 = (n2 : Int) := by omega
 have e1 : (m : Int) = (m' : Int) + 1 := by have := M1.out; omega
 have m0 : 0 < m := by have := M1.out; omega
 have m3 : m' < m := by have := M1.out; omega
 have q2 : W3.cell? ⟨p1, 2, none⟩ = some (.slice A2 n2 c2) := (blk_cell Q3.out 2).trans rfl
 clear hy0 hyn
 go_wp2_with fail
 clear y0 yn xn hk1 hk2 e1 q2
 have K0 : Aside0 (TB = [] ++ tbk m x.items n2 m' ∧ (Kd.int .i64).R 3 W3 W3.heap.size (fun _ => True) (.slice none 0 0) [] ∧ Below W3.heap.size W3 W3) := ⟨by rw [HTB.out]; rfl, Kd.R_nil _ _ _ _ _, Below.refl _ _⟩
 have TL : Aside0 (TB.length ≤ 4096) := ⟨by rw [HTB.out]; exact Nat.le_trans (tbk_len _ _ _ _) b2⟩
 go_loopw [6, 8, 9] (fun v6 v8 v9 wr => ∃ (kk wv : Nat) (A : Option Addr) (n c : Nat) (lst : List Int), kk ≤ n2 ∧ wv < m ∧ v6 = .int .i64 (wv : Int) ∧ v8 = .slice A n c ∧ v9 = .int .i64 ((kk : Int) - 1) ∧ Aside0 (TB = lst ++ tbk m x.items kk wv ∧ (Kd.int .i64).R 3 wr W3.heap.size (fun _ => True) (.slice A n c) lst ∧ Below W3.heap.size W3 wr)) (fun _ _ v9 _ => (intOf v9 + 1).toNat)
 case atStart => exact ⟨n2, m', none, 0, 0, [], Nat.le_refl _, m3, rfl, rfl, rfl, K0⟩
 case round =>
  clear K0
  obtain ⟨kk, wv, A, n, c, lst, hk, hw, rfl, rfl, rfl, KK⟩ := hrel
  rcases Nat.eq_zero_or_pos kk with h0 | h0
  ·subst h0
   have E : Aside0 (TB = lst) := ⟨by have := KK.out.1; unfold tbk at this; rwa [List.append_nil] at this⟩
   have LL : Aside0 (lst.length ≤ 17592186044416) := ⟨by have := TL.out; rw [E.out] at this; omega⟩
   go_wp2_with fail
   refine (rev_any (fun _ => True) (.slice A n c) lst W3 wr KK.out.2.2 KK.out.2.1 LL.out).mono ?_
   rintro _ w9 ⟨rfl, H9⟩
   go_wp2_with fail
   refine bodyPost_ret (v := .tuple #[.slice A n c, .int .i64 (-zc), .bool true]) (by simp [results, Try.results54, go_sem]) rfl ?_
   refine ⟨_, rfl, ⟨?_, B3.out.trans (H9.out.2.1.mono B3.out.size)⟩⟩
   rw [E.out]
   exact Kd.R_mono (Kd.R_lower H9.out.1 B3.out.size) (fun _ _ => trivial)
  ·obtain ⟨q, rfl⟩ : ∃ q, kk = q + 1 := ⟨kk - 1, by omega⟩
   have LST : Aside0 (lst.length + 1 ≤ 4097) := ⟨by
    have h1 := TL.out
    rw [KK.out.1, List.length_append] at h1
    omega⟩
   obtain ⟨a1, c1, y1', hy1⟩ := ROW.out (q + 1) (by omega)
   obtain ⟨a0, c0, y0', hy0⟩ := ROW.out q (by omega)
   have y1 := pw_cell_below KK.out.2.2 y1'
   have y0 := pw_cell_below KK.out.2.2 y0'
   obtain ⟨ae, e, z1'⟩ := at_Int hy1 wv hw
   injection e with e
   subst e
   obtain ⟨ae, e, z0'⟩ := at_Int hy0 wv hw
   injection e with e
   subst e
   have z1 := pw_cell_below KK.out.2.2 z1'
   have z0 := pw_cell_below KK.out.2.2 z0'
   obtain ⟨u1, hu1⟩ : ∃ z, z = (rowK m x.items (q + 1)).getD wv 0 := ⟨_, rfl⟩
   obtain ⟨u0, hu0⟩ : ∃ z, z = (rowK m x.items q).getD wv 0 := ⟨_, rfl⟩
   rw [← hu1] at z1
   rw [← hu0] at z0
   have U := Aside0.mk (And.intro hu1 hu0)
   have w1 : wrap64 (((q + 1 : Nat) : Int) - 1) = (q : Int) := by unfold wrap64; omega
   have w2 : (q : Int) + 1 - 1 = (q : Int) := by omega
   have w4 : IntKind.i64.wrap ((q : Int) + 1) = (q : Int) + 1 := by rw [i64_w]; unfold wrap64; omega
   have w5 : 0 ≤ (q : Int) + 1 := by omega
   have w6 : (q : Int) + 1 < (n2 : Int) + 1 := by omega
   have w7 : ((q : Int) + 1).toNat = q + 1 := by omega
   clear y1' y0' hy1 hy0 z1' z0' hu1 hu0 h0
   by_cases hne : u1 = u0
   ·have g : (u1 != u0) = false := by rw [hne]; simp
    have N1 : Aside0 (TB = lst ++ tbk m x.items q wv) := ⟨by
     have h1 := KK.out.1
     unfold tbk at h1
     rwa [if_pos (by rw [← U.out.1, ← U.out.2]; exact hne)] at h1⟩
    clear hne
    go_upto_region 8 with fail
    go_quiet (fail)
    clear w4 w5 w6 w7
    go_wp2_with fail
    exact ⟨⟨q, wv, A, n, c, lst, by omega, hw, rfl, rfl, by first | rfl | simp, ⟨N1.out, Kd.R_drewN KK.out.2.1 nq, pw_below_drewN KK.out.2.2 nq⟩⟩, by simp [intOf]⟩
   ·have g : (u1 != u0) = true := by simpa using hne
    have WT := row_ne (m := m) (l := x.items) (k := q) hw (by rw [← U.out.1, ← U.out.2]; exact hne)
    have N1 : Aside0 (TB = (lst ++ [(q : Int)]) ++ tbk m x.items q (wv - (x.items.getD q z101).f1.toNat)) := ⟨by
     have h1 := KK.out.1
     unfold tbk at h1
     rw [if_neg (by rw [← U.out.1, ← U.out.2]; exact hne)] at h1
     rw [h1, List.append_assoc]
     rfl⟩
    obtain ⟨ad, e, i0', i1'⟩ := at_T101 H2.out (q : Int) (by omega) (by omega)
    subst e
    rw [Int.toNat_natCast] at i1'
    have hs2 : (rd_T101 x.items (q : Int)).f1 = (x.items.getD q z101).f1 := by unfold rd_T101; rw [Int.toNat_natCast]
    have sb := (IOa.out.items (x.items.getD q z101) (by
     rw [List.getD_eq_getElem?_getD, List.getElem?_eq_getElem (by rw [← HN.out]; omega), Option.getD_some]
     exact List.getElem_mem _)).2
    obtain ⟨wt, hwt⟩ : ∃ n : Nat, (n : Int) = (x.items.getD q z101).f1 := ⟨(x.items.getD q z101).f1.toNat, by omega⟩
    rw [hs2, ← hwt] at i1'
    have hwt2 : (x.items.getD q z101).f1.toNat = wt := by omega
    rw [hwt2] at WT N1
    obtain ⟨dd, hdd⟩ : ∃ d, d = wv - wt := ⟨_, rfl⟩
    rw [← hdd] at N1
    have d1 : (wv : Int) - (wt : Int) = (dd : Int) := by omega
    have d2 : wrap64 ((wv : Int) - (wt : Int)) = (dd : Int) := by unfold wrap64; omega
    have d3 : dd < m := by omega
    have I1 := Aside0.mk (pw_cell_below B3.out i1')
    have HL : Aside0 ((lst.length + 1) * 8 ≤ 140737488355328) := ⟨by have := LST.out; omega⟩
    clear hne i0' i1' hs2 sb hwt hwt2 hdd WT
    go_upto_region 8 with fail
    go_quiet (fail)
    clear w4 w5 w6 w7
    have RQ := Aside0.mk (Kd.R_drewN KK.out.2.1 nq)
    have BQ := Aside0.mk (pw_below_drewN KK.out.2.2 nq)
    go_upto_region 10 with (at_builtin; refine Kd.R_append (Kd.int .i64) (w0 := W3) W3.heap.size rfl _ _ 29 3 (.int .i64 0) 8 rfl Try.underlying29 infoR3 rfl (by decide) (by decide) (.slice A n c) lst (q : Int) [.int .i64 (q : Int)] (fun _ => True) (fun _ => False) rfl rfl rfl (fun _ h => h.elim) (fun _ _ => trivial) RQ.out BQ.out BQ.out.size HL.out ?_; intro v7 w7 ho7 hb7 _ _; obtain ⟨A7, n7, c7, rfl, _⟩ := R_open ho7; have O7 := Aside0.mk ho7; have B7 := Aside0.mk hb7; clear ho7 hb7)
    have q2 : w7.cell? ⟨p1, 2, none⟩ = some (.slice (some ad) n2 c2) := (blk_cell (blk_below Q3.out B7.out) 2).trans rfl
    have i1 := pw_cell_below B7.out I1.out
    clear y1 y0 z1 z0
    go_wp2_with fail
    exact ⟨⟨q, dd, A7, n7, c7, lst ++ [(q : Int)], by omega, d3, rfl, rfl, by first | rfl | simp, ⟨N1.out, O7.out, B7.out⟩⟩, by simp [intOf]⟩
end Go.Proofs.Ytelabmhhnpfegaa.Hand
end
section
namespace Go.Proofs.Ytelabmhhnpfegaa.Hand
open Go.RowKit Go.Proofs.Ytelabmhhnpfegaa.PDynCells
theorem asc_snoc {k N e : Int} (hk : k ≤ e) (hN : e < N) : ∀ (l : List Int) (a : Int), ascB k a l = true → a < e → ascB N a (l ++ [e]) = true
 | [], a, _, ha => by
  rw [List.nil_append, ascB, if_neg (by omega), if_neg (by omega)]
  rfl
 | y :: t, a, h, ha => by
  unfold ascB at h
  split at h
  ·cases h
  ·split at h
   ·cases h
   ·rw [List.cons_append, ascB, if_neg (by omega), if_neg (by omega)]
    exact asc_snoc hk hN t y h (by omega)
theorem asc_up {k N : Int} (hk : k ≤ N) : ∀ (l : List Int) (a : Int), ascB k a l = true → ascB N a l = true
 | [], _, _ => rfl
 | y :: t, a, h => by
  unfold ascB at h
  split at h
  ·cases h
  ·split at h
   ·cases h
   ·rw [ascB, if_neg (by omega), if_neg (by omega)]
    exact asc_up hk t y h
theorem asc_split {N : Int} : ∀ (l : List Int) (a : Int), a < N → ascB (N + 1) a l = true → (∃ t, l = t ++ [N] ∧ ascB N a t = true) ∨ (ascB N a l = true ∧ N ∉ l)
 | [], _, _, _ => .inr ⟨rfl, List.not_mem_nil⟩
 | y :: t, a, ha, h => by
  unfold ascB at h
  split at h
  ·cases h
  ·split at h
   ·cases h
   ·rename_i h1 h2
    by_cases hy : y = N
    ·subst hy
     cases t with
     | nil => exact .inl ⟨[], rfl, rfl⟩
     | cons z t =>
      unfold ascB at h
      split at h
      ·cases h
      ·split at h
       ·cases h
       ·omega
    ·rcases asc_split t y (by omega) h with ⟨t', e, h3⟩ | ⟨h3, h4⟩
     ·exact .inl ⟨y :: t', by rw [e]; rfl, by rw [ascB, if_neg (by omega), if_neg (by omega)]; exact h3⟩
     ·refine .inr ⟨by rw [ascB, if_neg (by omega), if_neg (by omega)]; exact h3, fun hm => ?_⟩
      rcases List.mem_cons.1 hm with e | e
      ·exact hy e.symm
      ·exact h4 e
def chP (n : Nat) (β : Nat → Bool) : List Int := ((List.range n).filter β).map fun (k : Nat) => (k : Int)
theorem chP_succ (n : Nat) (β : Nat → Bool) : chP (n + 1) β = chP n β ++ (if β n = true then [(n : Int)] else []) := by
 unfold chP
 rw [List.range_succ, List.filter_append, List.map_append]
 congr 1
 by_cases h : β n = true
 ·simp [h]
 ·simp [h]
theorem chP_congr {n : Nat} {β γ : Nat → Bool} (h : ∀ k, k < n → β k = γ k) : chP n β = chP n γ := by
 unfold chP
 rw [List.filter_congr (fun k hk => h k (List.mem_range.1 hk))]
theorem chP_mem {n : Nat} {β : Nat → Bool} {e : Int} : e ∈ chP n β ↔ ∃ k : Nat, k < n ∧ β k = true ∧ (k : Int) = e := by
 unfold chP
 rw [List.mem_map]
 constructor
 ·rintro ⟨k, hk, rfl⟩
  rw [List.mem_filter, List.mem_range] at hk
  exact ⟨k, hk.1, hk.2, rfl⟩
 ·rintro ⟨k, h1, h2, rfl⟩
  exact ⟨k, List.mem_filter.2 ⟨List.mem_range.2 h1, h2⟩, rfl⟩
theorem chP_asc (β : Nat → Bool) : ∀ n : Nat, ascB (n : Int) (-1) (chP n β) = true
 | 0 => rfl
 | n + 1 => by
  rw [chP_succ]
  split
  ·exact asc_snoc (k := (n : Int)) (Int.le_refl _) (by omega) _ _ (chP_asc β n) (by omega)
  ·rw [List.append_nil]
   exact asc_up (by omega) _ _ (chP_asc β n)
theorem asc_chP : ∀ (n : Nat) (l : List Int), ascB (n : Int) (-1) l = true → l = chP n fun k => decide ((k : Int) ∈ l)
 | 0, l, h => by
  cases l with
  | nil => rfl
  | cons y t =>
   have h1 := (asc_len (n := 0) h).1
   simp at h1
 | n + 1, l, h => by
  rcases asc_split (N := (n : Int)) l (-1) (by omega) (by simpa using h) with ⟨t, e, h1⟩ | ⟨h1, h2⟩
  ·have ih := asc_chP n t h1
   rw [chP_succ]
   have hn : decide ((n : Int) ∈ l) = true := decide_eq_true (by rw [e]; simp)
   rw [hn, if_pos rfl]
   have hc : chP n (fun k => decide ((k : Int) ∈ l)) = chP n (fun k => decide ((k : Int) ∈ t)) := chP_congr (fun k hk => by
    rw [e]
    refine decide_eq_decide.2 ?_
    rw [List.mem_append, List.mem_singleton]
    exact ⟨fun h => h.elim id (fun h => by omega), .inl⟩)
   rw [hc, ← ih]
   exact e
  ·have ih := asc_chP n l h1
   rw [chP_succ]
   have hn : decide ((n : Int) ∈ l) = false := decide_eq_false h2
   rw [hn, if_neg (by decide), List.append_nil]
   exact ih
theorem mask_of (β : Nat → Bool) : ∀ n : Nat, ∃ m, m < 2 ^ n ∧ ∀ k, k < n → decide (m / 2 ^ k % 2 = 1) = β k
 | 0 => ⟨0, by decide, fun k h => by omega⟩
 | n + 1 => by
  obtain ⟨m, h1, h2⟩ := mask_of β n
  have hp : 0 < 2 ^ n := Nat.pow_pos (by omega)
  have h22 : 2 ^ (n + 1) = 2 ^ n * 2 := Nat.pow_succ ..
  by_cases hb : β n = true
  ·refine ⟨m + 2 ^ n * 1, by omega, fun k hk => ?_⟩
   by_cases e : k = n
   ·subst e
    rw [hb, Nat.add_mul_div_left _ _ hp, Nat.div_eq_of_lt h1]
    rfl
   ·rw [← h2 k (by omega)]
    have hk2 : 0 < 2 ^ k := Nat.pow_pos (by omega)
    obtain ⟨d, hd⟩ : ∃ d, n = k + 1 + d := ⟨n - k - 1, by omega⟩
    have h3 : 2 ^ n = 2 ^ k * (2 * 2 ^ d) := by rw [hd, Nat.pow_add, Nat.pow_succ, Nat.mul_assoc]
    rw [h3, Nat.mul_one, Nat.add_mul_div_left _ _ hk2]
    exact decide_eq_decide.2 (by omega)
  ·refine ⟨m, by omega, fun k hk => ?_⟩
   by_cases e : k = n
   ·subst e
    rw [Nat.div_eq_of_lt h1]
    simpa using hb
   ·exact h2 k (by omega)
theorem subP_chP (n m : Nat) : subP n m = chP n fun k => decide (m / 2 ^ k % 2 = 1) := rfl
theorem asc_mask {n : Nat} {l : List Int} (h : ascB (n : Int) (-1) l = true) : ∃ m, m < 2 ^ n ∧ l = subP n m := by
 obtain ⟨m, h1, h2⟩ := mask_of (fun k => decide ((k : Int) ∈ l)) n
 refine ⟨m, h1, ?_⟩
 rw [subP_chP, chP_congr h2]
 exact asc_chP n l h
def lsum (f : Int → Int) (l : List Int) : Int := sumTo l.length fun i => f (l.getD i 0)
theorem lsum_nil (f : Int → Int) : lsum f [] = 0 := rfl
theorem lsum_snoc (f : Int → Int) (l : List Int) (a : Int) : lsum f (l ++ [a]) = lsum f l + f a := by
 unfold lsum
 rw [List.length_append, List.length_singleton, sumTo_succ]
 congr 1
 ·refine sumTo_congr (fun i hi => ?_)
  rw [List.getD_eq_getElem?_getD, List.getElem?_append_left hi, ← List.getD_eq_getElem?_getD]
 ·simp
theorem lsum_chP (f : Int → Int) (β : Nat → Bool) : ∀ n : Nat, lsum f (chP n β) = sumTo n fun r => if β r = true then f (r : Int) else 0
 | 0 => rfl
 | n + 1 => by
  rw [chP_succ, sumTo_succ, ← lsum_chP f β n]
  split
  ·rw [lsum_snoc]
  ·rw [List.append_nil, Int.add_zero]
end Go.Proofs.Ytelabmhhnpfegaa.Hand
end
section
namespace Go.Proofs.Ytelabmhhnpfegaa.Hand
open Go.RowKit Go.Proofs.Ytelabmhhnpfegaa.PDynCells
structure Answ (x : PI) (f : Bool) (z : Int) (l : List Int) : Prop where
 yes : f = true → mayP x l = true ∧ cosP x l = (z, 0) ∧ ∀ y, mayP x y = true → z ≤ (cosP x y).1
 no : f = false → l = [] ∧ z = 0 ∧ ∀ y, mayP x y = false
theorem cos_may {x : PI} (hc : chk x = 0) {y : List Int} : (cosP x y).2 = 0 ↔ mayP x y = true := by
 unfold cosP valP
 rw [if_pos hc]
 by_cases h : mayP x y = true
 ·simp [h]
 ·simp [h]
theorem Answ.same {x : PI} (hc : chk x = 0) {f f' : Bool} {z z' : Int} {l : List Int} {L : List (List Int)} (h : Answ x f z l) (hall : ∀ y, mayP x y = true → y ∈ L) (hb : BstP x L f' z') : f = f' ∧ z = z' := by
 cases f with
 | true =>
  obtain ⟨h1, h2, h3⟩ := h.yes rfl
  cases f' with
  | false => exact absurd ((cos_may hc).2 h1) ((hb.1 rfl).2 l (hall l h1))
  | true =>
   obtain ⟨⟨y, hy1, hy2⟩, hy3⟩ := hb.2 rfl
   have h4 := hy3 l (hall l h1) ((cos_may hc).2 h1)
   have h5 := h3 y ((cos_may hc).1 (by rw [hy2]))
   rw [h2] at h4
   rw [hy2] at h5
   simp only at h4 h5
   exact ⟨rfl, by omega⟩
 | false =>
  obtain ⟨h1, h2, h3⟩ := h.no rfl
  cases f' with
  | false => exact ⟨rfl, by rw [h2, (hb.1 rfl).1]⟩
  | true =>
   obtain ⟨⟨y, hy1, hy2⟩, _⟩ := hb.2 rfl
   have := (cos_may hc (y := y)).1 (by rw [hy2])
   rw [h3 y] at this
   cases this
def valC (x : PI) (k : Int) : Int := (x.items.getD k.toNat ⟨0, 0⟩).f0
theorem cos_0 {x : PI} (hc : chk x = 0) (hk : x.kind = 0) {y : List Int} (h : mayP x y = true) : cosP x y = (-lsum (valC x) y, 0) := by
 unfold cosP valP
 rw [if_pos hc, if_pos h, if_pos hk]
 have : sumTo y.length (partC x y) = lsum (valC x) y := sumTo_congr (fun i hi => by
  unfold partC
  rw [if_pos hk]
  rfl)
 rw [this]
theorem lsum_m (x : PI) (m : Nat) : ∀ k, k ≤ x.items.length → lsum (wgtC x) (subP k m) = mw (x.items.take k) m ∧ lsum (valC x) (subP k m) = mv (x.items.take k) m
 | 0, _ => ⟨rfl, rfl⟩
 | k + 1, hk => by
  obtain ⟨ih1, ih2⟩ := lsum_m x m k (by omega)
  have hlen : (x.items.take k).length = k := by rw [List.length_take]; omega
  rw [subP_succ, take_snoc (show k < x.items.length by omega) z101, mw_snoc, mv_snoc, hlen]
  split
  ·rw [lsum_snoc, lsum_snoc, ih1, ih2]
   exact ⟨rfl, rfl⟩
  ·rw [List.append_nil, Int.add_zero, Int.add_zero]
   exact ⟨ih1, ih2⟩
theorem mw_wsum : ∀ (l : List S101) (m : Nat), (∀ s ∈ l, 0 ≤ s.f1) → mw l m ≤ wsum l
 | [], _, _ => Int.le_refl _
 | s :: t, m, h => by
  have ih := mw_wsum t (m / 2) (fun s hs => h s (List.mem_cons_of_mem _ hs))
  have h0 := h s List.mem_cons_self
  have h1 : wsum (s :: t) = s.f1 + wsum t := by unfold wsum; rw [List.map_cons, List.sum_cons]
  rw [mw, h1]
  split <;> omega
theorem may_0 {x : PI} (hk : x.kind = 0) {y : List Int} : mayP x y = true ↔ ascB (x.items.length : Int) (-1) y = true ∧ lsum (wgtC x) y ≤ x.cap := by
 unfold mayP
 rw [if_pos hk, Bool.and_eq_true]
 unfold fitB
 rw [decide_eq_true_eq, fit_sum]
 exact Iff.rfl
theorem tbk_ok {m : Nat} {x : PI} (hb : ∀ s ∈ x.items, 0 ≤ s.f1 ∧ s.f1 ≤ 2147483648) : ∀ k, k ≤ x.items.length → ∀ w : Nat, w < m → ascB (k : Int) (-1) (tbk m x.items k w).reverse = true ∧ lsum (wgtC x) (tbk m x.items k w).reverse ≤ w ∧ lsum (valC x) (tbk m x.items k w).reverse = (rowK m x.items k).getD w 0
 | 0, _, w, hw => by
  refine ⟨rfl, ?_, ?_⟩
  ·show lsum (wgtC x) [] ≤ (w : Int)
   rw [lsum_nil]
   omega
  ·show lsum (valC x) [] = _
   rw [lsum_nil, rowK, List.getD_eq_getElem?_getD, List.getElem?_replicate, if_pos hw]
   rfl
 | k + 1, hk, w, hw => by
  have hkl : k < x.items.length := by omega
  have hs := hb _ (by rw [List.getD_eq_getElem?_getD, List.getElem?_eq_getElem hkl, Option.getD_some]; exact List.getElem_mem _ : x.items.getD k z101 ∈ x.items)
  rw [tbk]
  split
  ·rename_i he
   obtain ⟨h1, h2, h3⟩ := tbk_ok (m := m) hb k (by omega) w hw
   exact ⟨asc_up (by omega) _ _ h1, h2, by rw [h3, he]⟩
  ·rename_i hne
   have hle := row_ne hw hne
   obtain ⟨h1, h2, h3⟩ := tbk_ok (m := m) hb k (by omega) (w - (x.items.getD k z101).f1.toNat) (by omega)
   have hwg : wgtC x (k : Int) = (x.items.getD k z101).f1 := rfl
   have hvg : valC x (k : Int) = (x.items.getD k z101).f0 := rfl
   rw [List.reverse_cons, lsum_snoc, lsum_snoc, hwg, hvg, h3]
   refine ⟨asc_snoc (k := (k : Int)) (Int.le_refl _) (by omega) _ _ h1 (by omega), by omega, ?_⟩
   rw [rowK, stepR_get (by rw [rowK_len]; exact hw), if_pos hle] at hne ⊢
   rcases mx2_or ((rowK m x.items k).getD w 0) ((rowK m x.items k).getD (w - (x.items.getD k z101).f1.toNat) 0 + (x.items.getD k z101).f0) with e | e
   ·exact absurd e hne
   ·rw [e]
theorem answ_0 {x : PI} (hc : chk x = 0) (hk : x.kind = 0) : Answ x true (-(rowK (roomP x + 1).toNat x.items x.items.length).getD (roomP x).toNat 0) (tbk (roomP x + 1).toNat x.items x.items.length (roomP x).toNat).reverse := by
 have hi := iok.1 hc
 have hb : ∀ s ∈ x.items, 0 ≤ s.f1 ∧ s.f1 ≤ 2147483648 := fun s hs => (hi.items s hs).2
 have hr := room_bd hi
 have hcap : roomP x ≤ x.cap := by
  unfold roomP
  split <;> omega
 obtain ⟨h1, h2, h3⟩ := tbk_ok (m := (roomP x + 1).toNat) hb x.items.length (Nat.le_refl _) (roomP x).toNat (by omega)
 have hm := (may_0 hk).2 ⟨h1, by omega⟩
 refine ⟨fun _ => ⟨hm, by rw [cos_0 hc hk hm, h3], fun y hy => ?_⟩, fun h => by cases h⟩
 rw [cos_0 hc hk hy]
 obtain ⟨g1, g2⟩ := (may_0 hk).1 hy
 obtain ⟨mk, hmk, rfl⟩ := asc_mask g1
 obtain ⟨l1, l2⟩ := lsum_m x mk x.items.length (Nat.le_refl _)
 rw [List.take_length] at l1 l2
 have hw := mw_wsum x.items mk (fun s hs => (hb s hs).1)
 have hle : mw x.items mk ≤ ((roomP x).toNat : Int) := by
  rw [l1] at g2
  have : mw x.items mk ≤ roomP x := by
   unfold roomP
   split <;> omega
  omega
 have := row_ge (m := (roomP x + 1).toNat) hb x.items.length (Nat.le_refl _) (roomP x).toNat mk (by omega) (by rw [List.take_length]; exact hle)
 rw [List.take_length] at this
 show _ ≤ -lsum (valC x) _
 rw [l2]
 omega
theorem all_0 {x : PI} (hk : x.kind = 0) {y : List Int} (h : mayP x y = true) : y ∈ allP x := by
 obtain ⟨m, h1, h2⟩ := asc_mask ((may_0 hk).1 h).1
 unfold allP
 have hn : (nP x).toNat = x.items.length := by
  unfold nP
  rw [if_pos hk]
  rfl
 rw [if_neg (by omega), if_neg (by omega), hn]
 exact List.mem_map.2 ⟨m, List.mem_range.2 h1, h2.symm⟩
end Go.Proofs.Ytelabmhhnpfegaa.Hand
end
section
namespace Go.Proofs.Ytelabmhhnpfegaa.Hand
open Go.RowKit Go.Proofs.YtelabmhhnpfegaaW.PrintWords Go.Proofs.YtelabmhhnpfegaaW.PrintLast Go.Proofs.YtelabmhhnpfegaaW.PrintMore Go.Proofs.Ytelabmhhnpfegaa.PDynCells
def fldS (s : S152) (j : Nat) : Value := if j = 0 then .int .i64 s.f0 else if j = 1 then .bool s.f1 else if j = 2 then .int .i64 s.f2 else .int .i64 s.f3
def tabS (n : Nat) (f : Nat → S152) : Array Value := ((List.range (n * 4)).map fun j => fldS (f (j / 4)) (j % 4)).toArray
theorem tabS_at {n : Nat} {f : Nat → S152} {j : Nat} (h : j < n * 4) : (tabS n f)[j]? = some (fldS (f (j / 4)) (j % 4)) := by simp [tabS, h]
theorem tabS_get {n : Nat} {f : Nat → S152} {i j : Nat} (hi : i < n) (hj : j < 4) : (tabS n f)[i * 4 + j]? = some (fldS (f i) j) := by
 rw [tabS_at (by omega), show (i * 4 + j) / 4 = i by omega, show (i * 4 + j) % 4 = j by omega]
theorem tabS_set (n : Nat) (f : Nat → S152) (i : Nat) (s : S152) : ((((tabS n f).setIfInBounds (i * 4) (.int .i64 s.f0)).setIfInBounds (i * 4 + 1) (.bool s.f1)).setIfInBounds (i * 4 + 2) (.int .i64 s.f2)).setIfInBounds (i * 4 + 3) (.int .i64 s.f3) = tabS n (upd f i s) := by
 have hsz : (tabS n f).size = n * 4 := by simp [tabS]
 apply Array.ext_getElem?
 intro j
 by_cases hl : j < n * 4
 ·rw [tabS_at hl]
  by_cases hi : j / 4 = i
  ·rw [hi, upd_self]
   have h4 : j % 4 = 0 ∨ j % 4 = 1 ∨ j % 4 = 2 ∨ j % 4 = 3 := by omega
   rcases h4 with h | h | h | h <;> rw [h]
   ·obtain rfl : j = i * 4 := by omega
    simp [hsz, hl, fldS]
   ·obtain rfl : j = i * 4 + 1 := by omega
    simp [hsz, hl, fldS]
   ·obtain rfl : j = i * 4 + 2 := by omega
    simp [hsz, hl, fldS]
   ·obtain rfl : j = i * 4 + 3 := by omega
    simp [hsz, hl, fldS]
  ·rw [upd_ne _ _ hi, Array.getElem?_setIfInBounds, if_neg (by omega), Array.getElem?_setIfInBounds, if_neg (by omega), Array.getElem?_setIfInBounds, if_neg (by omega), Array.getElem?_setIfInBounds, if_neg (by omega), tabS_at hl]
 ·rw [Array.getElem?_eq_none (by simp [hsz]; omega), Array.getElem?_eq_none (by simp [tabS]; omega)]
def SB (w : World) (g n : Nat) (f : Nat → S152) : Prop := w.heap[g]? = some (.cells (tabS n f) 152 (0, 0))
section
variable {w : World} {g n i : Nat} {f : Nat → S152}
theorem SB.c0 (h : SB w g n f) (hi : i < n) : w.cell? ⟨g, i * 4, none⟩ = some (.int .i64 (f i).f0) := (blk_cell h _).trans (tabS_get (j := 0) hi (by omega))
theorem SB.c1 (h : SB w g n f) (hi : i < n) : w.cell? ⟨g, i * 4 + 1, none⟩ = some (.bool (f i).f1) := (blk_cell h _).trans (tabS_get hi (by omega))
theorem SB.c2 (h : SB w g n f) (hi : i < n) : w.cell? ⟨g, i * 4 + 2, none⟩ = some (.int .i64 (f i).f2) := (blk_cell h _).trans (tabS_get hi (by omega))
theorem SB.c3 (h : SB w g n f) (hi : i < n) : w.cell? ⟨g, i * 4 + 3, none⟩ = some (.int .i64 (f i).f3) := (blk_cell h _).trans (tabS_get hi (by omega))
theorem SB.z (h : SB w g n f) (i : Nat) : w.frozen? ⟨g, i, none⟩ = false := blk_frozen h i
theorem SB.set (h : SB w g n f) (i : Nat) (s : S152) : SB ((((w.setCell ⟨g, i * 4, none⟩ (.int .i64 s.f0)).setCell ⟨g, i * 4 + 1, none⟩ (.bool s.f1)).setCell ⟨g, i * 4 + 2, none⟩ (.int .i64 s.f2)).setCell ⟨g, i * 4 + 3, none⟩ (.int .i64 s.f3)) g n (upd f i s) := by
 unfold SB
 rw [← tabS_set]
 exact blk_set (blk_set (blk_set (blk_set h _ _) _ _) _ _) _ _
end
theorem set4_below {w0 w : World} {g : Nat} (hb : Below w0.heap.size w0 w) (hg : w0.heap.size ≤ g) (i0 i1 i2 i3 : Nat) (v0 v1 v2 v3 : Value) : Below w0.heap.size w0 ((((w.setCell ⟨g, i0, none⟩ v0).setCell ⟨g, i1, none⟩ v1).setCell ⟨g, i2, none⟩ v2).setCell ⟨g, i3, none⟩ v3) :=
 (((hb.setCell hg _).setCell hg _).setCell hg _).setCell hg _
def offS (s : S152) (a p q : Int) : S152 := if s.f1 = true ∧ ¬ a < s.f0 then s else ⟨a, true, p, q⟩
theorem updI_same {α : Type} (f : Nat → α) (i : Nat) : upd f i (f i) = f := by
 funext j
 unfold upd
 split
 ·rename_i h
  rw [h]
 ·rfl
set_option maxHeartbeats 1000000 in
set_option maxRecDepth 100000 in
theorem offer_any (w0 w : World) (g n i : Nat) (f : Nat → S152) (a p q : Int) (h : SB w g n f) (hi : i < n) (hB : Below w0.heap.size w0 w) (hg : w0.heap.size ≤ g) :
  Calls Try.prog 92 #[.pointer (some ⟨g, i * 4, none⟩), .int .i64 a, .int .i64 p, .int .i64 q] w fun e w' => e = .returned (.tuple #[]) ∧ Aside0 (SB w' g n (upd f i (offS (f i) a p q)) ∧ Below w0.heap.size w0 w') := by
 have H := Aside0.mk h
 have HB := Aside0.mk hB
 have HG := Aside0.mk hg
 have c0 := h.c0 hi
 have c1 := h.c1 hi
 have c2 := h.c2 hi
 have c3 := h.c3 hi
 have hz : ∀ j, w.frozen? ⟨g, j, none⟩ = false := h.z
 obtain ⟨s, hs⟩ : ∃ s, s = f i := ⟨_, rfl⟩
 rw [← hs] at c0 c1 c2 c3 ⊢
 have HS := Aside0.mk hs
 clear h hB hg hs
 have hu152 := Try.underlying152
 obtain ⟨f0, f1, f2, f3⟩ := s
 cases f1 with
 | false =>
  have d0 : w.cell? ⟨g, i * 4, none⟩ = some (.int .i64 f0) := c0
  have d1 : w.cell? ⟨g, i * 4 + 1, none⟩ = some (.bool false) := c1
  have d2 : w.cell? ⟨g, i * 4 + 2, none⟩ = some (.int .i64 f2) := c2
  have d3 : w.cell? ⟨g, i * 4 + 3, none⟩ = some (.int .i64 f3) := c3
  clear c0 c1 c2 c3
  go_enter Try.func92, Try.ntmps92
  go_wp2_with fail
  first | go_end0 | ((try simp only [Exit.inBlock, Exit.then]); refine bodyPost_ret (results_none rfl _ _ _) rfl ?_)
  exact ⟨rfl, ⟨H.out.set i ⟨a, true, p, q⟩, set4_below HB.out HG.out _ _ _ _ _ _ _ _⟩⟩
 | true =>
  have d0 : w.cell? ⟨g, i * 4, none⟩ = some (.int .i64 f0) := c0
  have d1 : w.cell? ⟨g, i * 4 + 1, none⟩ = some (.bool true) := c1
  have d2 : w.cell? ⟨g, i * 4 + 2, none⟩ = some (.int .i64 f2) := c2
  have d3 : w.cell? ⟨g, i * 4 + 3, none⟩ = some (.int .i64 f3) := c3
  clear c0 c1 c2 c3
  by_cases hlt : a < f0
  ·have e : offS ⟨f0, true, f2, f3⟩ a p q = ⟨a, true, p, q⟩ := if_neg (fun h => h.2 hlt)
   rw [e]
   go_enter Try.func92, Try.ntmps92
   go_wp2_with fail
   first | go_end0 | ((try simp only [Exit.inBlock, Exit.then]); refine bodyPost_ret (results_none rfl _ _ _) rfl ?_)
   exact ⟨rfl, ⟨H.out.set i ⟨a, true, p, q⟩, set4_below HB.out HG.out _ _ _ _ _ _ _ _⟩⟩
  ·have e : offS ⟨f0, true, f2, f3⟩ a p q = ⟨f0, true, f2, f3⟩ := if_pos ⟨rfl, hlt⟩
   rw [e, HS.out, updI_same]
   go_enter Try.func92, Try.ntmps92
   go_wp2_with fail
   first | go_end0 | ((try simp only [Exit.inBlock, Exit.then]); refine bodyPost_ret (results_none rfl _ _ _) rfl ?_)
   exact ⟨rfl, ⟨H.out, HB.out⟩⟩
end Go.Proofs.Ytelabmhhnpfegaa.Hand
end
section
namespace Go.Proofs.Ytelabmhhnpfegaa.Hand
open Go.RowKit Go.Proofs.YtelabmhhnpfegaaW.PrintWords Go.Proofs.YtelabmhhnpfegaaW.PrintLast Go.Proofs.YtelabmhhnpfegaaW.PrintMore Go.Proofs.Ytelabmhhnpfegaa.PDynCells
inductive Chain (n : Nat) (T : Nat → S152) : Nat → List Int → Prop
 | nil (X : Nat) (h : (T X).f2 < 0) (hX : X < n) : Chain n T X []
 | cons (X Y : Nat) (l : List Int) (hX : X < n) (h : 0 ≤ (T X).f2) (e : (T X).f3 = (Y : Int)) (hl : Chain n T Y l) : Chain n T X ((T X).f2 :: l)
theorem Chain.lt {n : Nat} {T : Nat → S152} {X : Nat} {l : List Int} (h : Chain n T X l) : X < n := by cases h <;> assumption
set_option maxHeartbeats 1000000 in
set_option maxRecDepth 100000 in
theorem trace_any (w : World) (g n : Nat) (T : Nat → S152) (X : Nat) (l : List Int) (h : SB w g n T) (hc : Chain n T X l) (hl : l.length ≤ 4096) :
  Calls Try.prog 93 #[.slice (some ⟨g, 0, none⟩) n n, .int .i64 (X : Int)] w fun e w' => ∃ v, e = .returned v ∧ Aside0 ((Kd.int .i64).R 3 w' w.heap.size (fun _ => True) v l.reverse ∧ Below w.heap.size w w') := by
 have H := Aside0.mk h
 have CH := Aside0.mk hc
 have HL := Aside0.mk hl
 clear h hc hl
 have hu152 := Try.underlying152
 go_enter Try.func93, Try.ntmps93
 go_wp2_with fail
 have K0 : Aside0 (l = [] ++ l ∧ Chain n T X l ∧ (Kd.int .i64).R 3 w w.heap.size (fun _ => True) (.slice none 0 0) [] ∧ Below w.heap.size w w) := ⟨rfl, CH.out, Kd.R_nil _ _ _ _ _, Below.refl _ _⟩
 go_loopw [1, 5] (fun v1 v5 wr => ∃ (Y : Nat) (A : Option Addr) (m c : Nat) (acc rest : List Int), v1 = .int .i64 (Y : Int) ∧ v5 = .slice A m c ∧ Aside0 (l = acc ++ rest ∧ Chain n T Y rest ∧ (Kd.int .i64).R 3 wr w.heap.size (fun _ => True) (.slice A m c) acc ∧ Below w.heap.size w wr)) (fun _ v5 _ => l.length - (match v5 with | .slice _ m _ => m | _ => 0))
 case atStart => exact ⟨X, none, 0, 0, [], l, rfl, rfl, K0⟩
 case round =>
  clear K0
  obtain ⟨Y, A, m, c, acc, rest, rfl, rfl, KK⟩ := hrel
  have hY : Y < n := KK.out.2.1.lt
  have c2 := (show SB wr g n T from blk_below H.out KK.out.2.2.2).c2 hY
  have c3 := (show SB wr g n T from blk_below H.out KK.out.2.2.2).c3 hY
  obtain ⟨s, hs⟩ : ∃ s, s = T Y := ⟨_, rfl⟩
  rw [← hs] at c2 c3
  have hm : m = acc.length := by
   obtain ⟨A', c', e, _⟩ := Kd.R_reads KK.out.2.2.1
   injection e
  have hlen : l.length = acc.length + rest.length := by rw [KK.out.1, List.length_append]
  obtain ⟨q, hq⟩ : ∃ q, q = s.f2 := ⟨_, rfl⟩
  rw [← hq] at c2
  cases hr : rest with
  | nil =>
   have hneg : q < 0 := by
    have h1 := KK.out.2.1
    rw [hr] at h1
    cases h1 with
    | nil _ h => rw [hq, hs]; exact h
   have E : Aside0 (l = acc) := ⟨by have h1 := KK.out.1; rwa [hr, List.append_nil] at h1⟩
   have LL : Aside0 (acc.length ≤ 17592186044416) := ⟨by have := HL.out; rw [E.out] at this; omega⟩
   have g1 : decide (q ≥ 0) = false := decide_eq_false (by omega)
   have g2 : decide (0 ≤ q) = false := decide_eq_false (by omega)
   clear hr hs hq hlen hm
   go_wp2_with fail
   refine (rev_any (fun _ => True) (.slice A m c) acc w wr KK.out.2.2.2 KK.out.2.2.1 LL.out).mono ?_
   rintro _ w9 ⟨rfl, H9⟩
   go_wp2_with fail
   go_ret
   exact ⟨_, rfl, ⟨by rw [E.out]; exact Kd.R_mono H9.out.1 (fun _ _ => trivial), H9.out.2.1⟩⟩
  | cons p rest' =>
   have hpos : 0 ≤ q ∧ q = p ∧ ∃ Z : Nat, s.f3 = (Z : Int) ∧ Chain n T Z rest' := by
    have h1 := KK.out.2.1
    rw [hr] at h1
    cases h1 with
    | cons _ Z _ _ h e hl => exact ⟨by rw [hq, hs]; exact h, by rw [hq, hs], Z, by rw [hs]; exact e, hl⟩
   obtain ⟨q0, rfl, Z, hZ, hch⟩ := hpos
   rw [hZ] at c3
   have g1 : decide (q ≥ 0) = true := decide_eq_true q0
   have g2 : decide (0 ≤ q) = true := decide_eq_true q0
   have N1 : Aside0 (l = (acc ++ [q]) ++ rest' ∧ Chain n T Z rest' ∧ acc.length + 1 ≤ l.length) := ⟨by rw [KK.out.1, hr, List.append_assoc]; rfl, hch, by rw [hlen, hr, List.length_cons]; omega⟩
   have HB : Aside0 ((acc.length + 1) * 8 ≤ 140737488355328) := ⟨by have := N1.out.2.2; have := HL.out; omega⟩
   have HM := Aside0.mk hm
   have HS := Aside0.mk hs
   clear hr hs hq hlen hch hm
   go_upto_region 4 with (at_builtin; refine Kd.R_append (Kd.int .i64) (w0 := w) w.heap.size rfl _ _ 29 3 (.int .i64 0) 8 rfl Try.underlying29 infoR3 rfl (by decide) (by decide) (.slice A m c) acc q [.int .i64 q] (fun _ => True) (fun _ => False) rfl rfl rfl (fun _ h => h.elim) (fun _ _ => trivial) KK.out.2.2.1 KK.out.2.2.2 KK.out.2.2.2.size HB.out ?_; intro v7 w7 ho7 hb7 _ _; obtain ⟨A7, n7, c7, rfl, _⟩ := R_open ho7; have O7 := Aside0.mk ho7; have B7 := Aside0.mk hb7; clear ho7 hb7)
   have h7 : n7 = acc.length + 1 := by
    obtain ⟨A', c', e, _⟩ := Kd.R_reads O7.out
    injection e with _ e _
    rw [e]
    simp
   have d3 := (show SB w7 g n T from blk_below H.out B7.out).c3 hY
   rw [← HS.out, hZ] at d3
   clear c2 c3
   go_wp2_with fail
   exact ⟨⟨Z, A7, n7, c7, acc ++ [q], rest', rfl, rfl, ⟨N1.out.1, N1.out.2.1, O7.out, B7.out⟩⟩, by have := N1.out.2.2; have := HM.out; simp; omega⟩
end Go.Proofs.Ytelabmhhnpfegaa.Hand
end
section
namespace Go.Proofs.Ytelabmhhnpfegaa.Hand
open Go.RowKit Go.Proofs.Ytelabmhhnpfegaa.PDynCells
def pop : Nat → Nat → Nat
 | 0, _ => 0
 | k + 1, m => m % 2 + pop k (m / 2)
theorem half_pow (m j : Nat) : m / 2 ^ (j + 1) = m / 2 / 2 ^ j := by rw [Nat.pow_succ, Nat.mul_comm, Nat.div_div_eq_div_mul]
theorem pop_add : ∀ k j m, j < k → m / 2 ^ j % 2 = 0 → pop k (m + 2 ^ j) = pop k m + 1
 | 0, _, _, h, _ => absurd h (Nat.not_lt_zero _)
 | k + 1, 0, m, _, h => by
  rw [Nat.pow_zero, Nat.div_one] at h
  rw [Nat.pow_zero, pop, pop, show (m + 1) / 2 = m / 2 by omega]
  omega
 | k + 1, j + 1, m, hj, h => by
  rw [half_pow] at h
  have hp : 2 ^ (j + 1) = 2 ^ j * 2 := Nat.pow_succ ..
  rw [pop, pop, show (m + 2 ^ (j + 1)) % 2 = m % 2 by omega, show (m + 2 ^ (j + 1)) / 2 = m / 2 + 2 ^ j by omega, pop_add k j (m / 2) (by omega) h]
  omega
theorem bit_add : ∀ j k m, m / 2 ^ j % 2 = 0 → (m + 2 ^ j) / 2 ^ k % 2 = if k = j then 1 else m / 2 ^ k % 2
 | 0, 0, m, h => by
  rw [Nat.pow_zero, Nat.div_one] at h
  rw [Nat.pow_zero, Nat.div_one, if_pos rfl]
  omega
 | 0, k + 1, m, h => by
  rw [Nat.pow_zero, Nat.div_one] at h
  rw [Nat.pow_zero, if_neg (by omega), half_pow, half_pow, show (m + 1) / 2 = m / 2 by omega]
 | j + 1, 0, m, h => by
  have hp : 2 ^ (j + 1) = 2 ^ j * 2 := Nat.pow_succ ..
  rw [Nat.pow_zero, Nat.div_one, Nat.div_one, if_neg (by omega)]
  omega
 | j + 1, k + 1, m, h => by
  rw [half_pow] at h
  have hp : 2 ^ (j + 1) = 2 ^ j * 2 := Nat.pow_succ ..
  rw [half_pow, half_pow, show (m + 2 ^ (j + 1)) / 2 = m / 2 + 2 ^ j by omega, bit_add j k (m / 2) h]
  by_cases e : k = j
  ·rw [if_pos e, if_pos (by omega)]
  ·rw [if_neg e, if_neg (by omega)]
theorem bit_lt : ∀ n j m, m < 2 ^ n → j < n → m / 2 ^ j % 2 = 0 → m + 2 ^ j < 2 ^ n
 | 0, _, _, _, h, _ => absurd h (Nat.not_lt_zero _)
 | n + 1, 0, m, hm, _, h => by
  have hp : 2 ^ (n + 1) = 2 ^ n * 2 := Nat.pow_succ ..
  rw [Nat.pow_zero, Nat.div_one] at h
  rw [Nat.pow_zero]
  omega
 | n + 1, j + 1, m, hm, hj, h => by
  have hp : 2 ^ (n + 1) = 2 ^ n * 2 := Nat.pow_succ ..
  have hp2 : 2 ^ (j + 1) = 2 ^ j * 2 := Nat.pow_succ ..
  rw [half_pow] at h
  have := bit_lt n j (m / 2) (by omega) (by omega) h
  omega
theorem bit_some : ∀ n m, m < 2 ^ n → m ≠ 0 → ∃ k, k < n ∧ m / 2 ^ k % 2 = 1
 | 0, m, h, h0 => by rw [Nat.pow_zero] at h; omega
 | n + 1, m, h, h0 => by
  have hp : 2 ^ (n + 1) = 2 ^ n * 2 := Nat.pow_succ ..
  by_cases e : m % 2 = 1
  ·exact ⟨0, by omega, by rw [Nat.pow_zero, Nat.div_one]; exact e⟩
  ·obtain ⟨k, hk, hb⟩ := bit_some n (m / 2) (by omega) (by omega)
   exact ⟨k + 1, by omega, by rw [half_pow]; exact hb⟩
theorem bit_sub : ∀ k m, m / 2 ^ k % 2 = 1 → 2 ^ k ≤ m ∧ (m - 2 ^ k) / 2 ^ k % 2 = 0
 | 0, m, h => by
  rw [Nat.pow_zero, Nat.div_one] at h
  rw [Nat.pow_zero, Nat.div_one]
  omega
 | k + 1, m, h => by
  have hp : 2 ^ (k + 1) = 2 ^ k * 2 := Nat.pow_succ ..
  rw [half_pow] at h
  obtain ⟨h1, h2⟩ := bit_sub k (m / 2) h
  refine ⟨by omega, ?_⟩
  rw [half_pow, show (m - 2 ^ (k + 1)) / 2 = m / 2 - 2 ^ k by omega]
  exact h2
theorem pop_zero : ∀ k, pop k 0 = 0
 | 0 => rfl
 | k + 1 => by rw [pop, Nat.zero_mod, Nat.zero_div, pop_zero k]
theorem pop_le : ∀ k n m, m < 2 ^ n → pop k m ≤ n
 | 0, n, m, _ => Nat.zero_le _
 | k + 1, 0, m, h => by
  rw [Nat.pow_zero] at h
  obtain rfl : m = 0 := by omega
  rw [pop_zero]
  exact Nat.le_refl _
 | k + 1, n + 1, m, h => by
  have hp : 2 ^ (n + 1) = 2 ^ n * 2 := Nat.pow_succ ..
  have := pop_le k n (m / 2) (by omega)
  rw [pop]
  omega
theorem pop_full : ∀ k n m, m < 2 ^ n → pop k m = n → m = 2 ^ n - 1
 | _, 0, m, h, _ => by rw [Nat.pow_zero] at h ⊢; omega
 | 0, n + 1, m, _, hp => by cases hp
 | k + 1, n + 1, m, h, hp => by
  have h2 : 2 ^ (n + 1) = 2 ^ n * 2 := Nat.pow_succ ..
  have h0 : 0 < 2 ^ n := Nat.pow_pos (by omega)
  rw [pop] at hp
  have := pop_le k n (m / 2) (by omega)
  have := pop_full k n (m / 2) (by omega) (by omega)
  omega
structure DpI (K n : Nat) (c : Nat → Nat → Int) (M j : Nat) (T : Nat → S152) : Prop where
 zero : T 0 = ⟨0, true, -1, 0⟩
 link : ∀ X, X ≠ 0 → (T X).f1 = true → ∃ Y k, k < n ∧ Y / 2 ^ k % 2 = 0 ∧ X = Y + 2 ^ k ∧ Y ≤ M ∧ Y < 2 ^ n ∧ (T Y).f1 = true ∧ T X = ⟨(T Y).f0 + c (pop K Y) k, true, k, Y⟩
 done : ∀ m k, (m < M ∨ m = M ∧ k < j) → k < n → m / 2 ^ k % 2 = 0 → m < 2 ^ n → (T (m + 2 ^ k)).f1 = true ∧ (T (m + 2 ^ k)).f0 ≤ (T m).f0 + c (pop K m) k
section
variable {K n M j : Nat} {c : Nat → Nat → Int} {T : Nat → S152}
theorem DpI.ok (h : DpI K n c M j T) {m : Nat} (hm : m ≤ M) (hn : m < 2 ^ n) : (T m).f1 = true := by
 by_cases e : m = 0
 ·rw [e, h.zero]
 ·obtain ⟨k, hk, hb⟩ := bit_some n m hn e
  obtain ⟨h1, h2⟩ := bit_sub k m hb
  have hp : 0 < 2 ^ k := Nat.pow_pos (by omega)
  have := (h.done (m - 2 ^ k) k (.inl (by omega)) hk h2 (by omega)).1
  rwa [show m - 2 ^ k + 2 ^ k = m by omega] at this
theorem DpI.start : DpI K n c 0 0 (upd (fun _ => z152) 0 ⟨0, true, -1, 0⟩) where
 zero := upd_self _ _ _
 link X hX h := by
  rw [upd_ne _ _ hX] at h
  cases h
 done m k hm := by omega
theorem DpI.skip (h : DpI K n c M j T) (hb : M / 2 ^ j % 2 ≠ 0) : DpI K n c M (j + 1) T where
 zero := h.zero
 link := h.link
 done m k hm hk hmk hmn := by
  refine h.done m k ?_ hk hmk hmn
  rcases hm with hm | ⟨rfl, hm⟩
  ·exact .inl hm
  ·by_cases e : k = j
   ·rw [e] at hmk
    exact absurd hmk hb
   ·exact .inr ⟨rfl, by omega⟩
theorem offS_ok (s : S152) (a p q : Int) : (offS s a p q).f1 = true ∧ (offS s a p q).f0 ≤ a ∧ (s.f1 = true → (offS s a p q).f0 ≤ s.f0) := by
 unfold offS
 split
 ·rename_i h
  exact ⟨h.1, by omega, fun _ => Int.le_refl _⟩
 ·rename_i h
  refine ⟨rfl, Int.le_refl _, fun hs => ?_⟩
  show a ≤ s.f0
  by_cases hl : a < s.f0
  ·omega
  ·exact absurd ⟨hs, hl⟩ h
theorem DpI.put (h : DpI K n c M j T) (hM : M < 2 ^ n) (hj : j < n) (hb : M / 2 ^ j % 2 = 0) :
  DpI K n c M (j + 1) (upd T (M + 2 ^ j) (offS (T (M + 2 ^ j)) ((T M).f0 + c (pop K M) j) j M)) := by
 have hp : 0 < 2 ^ j := Nat.pow_pos (by omega)
 have old : ∀ Y, Y ≤ M → upd T (M + 2 ^ j) (offS (T (M + 2 ^ j)) ((T M).f0 + c (pop K M) j) j M) Y = T Y := fun Y hY => upd_ne _ _ (by omega)
 obtain ⟨o1, o2, o3⟩ := offS_ok (T (M + 2 ^ j)) ((T M).f0 + c (pop K M) j) j M
 refine ⟨by rw [old 0 (Nat.zero_le _)]; exact h.zero, fun X hX hok => ?_, fun m k hm hk hmk hmn => ?_⟩
 ·by_cases e : X = M + 2 ^ j
  ·subst e
   rw [upd_self] at hok ⊢
   unfold offS at hok ⊢
   split at hok
   ·rename_i hc
    rw [if_pos hc]
    obtain ⟨Y, k, a1, a2, a3, a4, a5, a6, a7⟩ := h.link _ hX hc.1
    have oY := old Y a4
    unfold offS at oY
    rw [if_pos hc] at oY
    exact ⟨Y, k, a1, a2, a3, a4, a5, by rw [oY]; exact a6, by rw [oY]; exact a7⟩
   ·rename_i hc
    rw [if_neg hc]
    have oM := old M (Nat.le_refl _)
    unfold offS at oM
    rw [if_neg hc] at oM
    exact ⟨M, j, hj, hb, rfl, Nat.le_refl _, hM, by rw [oM]; exact h.ok (Nat.le_refl _) hM, by rw [oM]⟩
  ·rw [upd_ne _ _ e] at hok ⊢
   obtain ⟨Y, k, a1, a2, a3, a4, a5, a6, a7⟩ := h.link X hX hok
   exact ⟨Y, k, a1, a2, a3, a4, a5, by rw [old Y a4]; exact a6, by rw [old Y a4]; exact a7⟩
 ·have hmM : m ≤ M := by omega
  rw [old m hmM]
  by_cases e : m + 2 ^ k = M + 2 ^ j
  ·rw [e, upd_self]
   refine ⟨o1, ?_⟩
   by_cases e2 : m = M ∧ k = j
   ·obtain ⟨rfl, rfl⟩ := e2
    exact o2
   ·have hold := h.done m k (by
     rcases hm with hm | ⟨rfl, hm⟩
     ·exact .inl hm
     ·exact .inr ⟨rfl, by
       have : k ≠ j := fun e3 => e2 ⟨rfl, e3⟩
       omega⟩) hk hmk hmn
    rw [e] at hold
    have := o3 hold.1
    omega
  ·rw [upd_ne _ _ e]
   refine h.done m k ?_ hk hmk hmn
   rcases hm with hm | ⟨rfl, hm⟩
   ·exact .inl hm
   ·exact .inr ⟨rfl, by
     have : k ≠ j := fun e3 => e (by rw [e3])
     omega⟩
theorem DpI.next (h : DpI K n c M n T) : DpI K n c (M + 1) 0 T where
 zero := h.zero
 link X hX hok := by
  obtain ⟨Y, k, a1, a2, a3, a4, a5, a6, a7⟩ := h.link X hX hok
  exact ⟨Y, k, a1, a2, a3, by omega, a5, a6, a7⟩
 done m k hm hk hmk hmn := h.done m k (by omega) hk hmk hmn
end
def msk (σ : Nat → Nat) : Nat → Nat
 | 0 => 0
 | i + 1 => msk σ i + 2 ^ σ i
theorem msk_congr {σ τ : Nat → Nat} : ∀ i, (∀ r, r < i → σ r = τ r) → msk σ i = msk τ i
 | 0, _ => rfl
 | i + 1, h => by rw [msk, msk, msk_congr i (fun r hr => h r (by omega)), h i (by omega)]
theorem msk_all {K n : Nat} {σ : Nat → Nat} (hl : ∀ r, r < n → σ r < n) (hK : n ≤ K) : ∀ i, i ≤ n → (∀ r s, r < i → s < i → σ r = σ s → r = s) →
  msk σ i < 2 ^ n ∧ pop K (msk σ i) = i ∧ ∀ k, (msk σ i / 2 ^ k % 2 = 1 ↔ ∃ r, r < i ∧ σ r = k)
 | 0, _, _ => ⟨Nat.pow_pos (by omega), pop_zero K, fun k => by rw [msk, Nat.zero_div]; exact ⟨fun h => (by cases h), fun ⟨r, h, _⟩ => absurd h (Nat.not_lt_zero _)⟩⟩
 | i + 1, hi, hinj => by
  obtain ⟨h1, h2, h3⟩ := msk_all hl hK i (by omega) (fun r s hr hs e => hinj r s (by omega) (by omega) e)
  have hz : msk σ i / 2 ^ σ i % 2 = 0 := by
   have : ¬ msk σ i / 2 ^ σ i % 2 = 1 := fun h => by
    obtain ⟨r, hr, e⟩ := (h3 _).1 h
    have := hinj r i (by omega) (by omega) e
    omega
   omega
  have hs := hl i (by omega)
  refine ⟨bit_lt n _ _ h1 hs hz, by rw [msk, pop_add K _ _ (by omega) hz, h2], fun k => ?_⟩
  rw [msk, bit_add _ _ _ hz]
  by_cases e : k = σ i
  ·rw [if_pos e]
   exact ⟨fun _ => ⟨i, by omega, e.symm⟩, fun _ => rfl⟩
  ·rw [if_neg e, h3]
   constructor
   ·rintro ⟨r, hr, he⟩
    exact ⟨r, by omega, he⟩
   ·rintro ⟨r, hr, he⟩
    refine ⟨r, ?_, he⟩
    have : r ≠ i := fun h => e (by rw [← he, h])
    omega
section
variable {K n : Nat} {c : Nat → Nat → Int} {T : Nat → S152}
theorem DpI.le (h : DpI K n c (2 ^ n) 0 T) (hK : n ≤ K) {σ : Nat → Nat} (hl : ∀ r, r < n → σ r < n) (hinj : ∀ r s, r < n → s < n → σ r = σ s → r = s) : ∀ i, i ≤ n → (T (msk σ i)).f0 ≤ sumTo i (fun r => c r (σ r))
 | 0, _ => by rw [msk, h.zero]; exact Int.le_refl _
 | i + 1, hi => by
  have ih := DpI.le h hK hl hinj i (by omega)
  obtain ⟨h1, h2, h3⟩ := msk_all hl hK i (by omega) (fun r s hr hs e => hinj r s (by omega) (by omega) e)
  have hz : msk σ i / 2 ^ σ i % 2 = 0 := by
   have : ¬ msk σ i / 2 ^ σ i % 2 = 1 := fun h => by
    obtain ⟨r, hr, e⟩ := (h3 _).1 h
    have := hinj r i (by omega) (by omega) e
    omega
   omega
  have := (h.done (msk σ i) (σ i) (.inl h1) (hl i (by omega)) hz h1).2
  rw [h2] at this
  rw [sumTo_succ, msk]
  omega
theorem DpI.real (h : DpI K n c (2 ^ n) 0 T) (hK : n ≤ K) : ∀ (f X : Nat), X ≤ f → X < 2 ^ n → ∃ σ : Nat → Nat, (∀ r, r < pop K X → σ r < n) ∧ (∀ r s, r < pop K X → s < pop K X → σ r = σ s → r = s) ∧ msk σ (pop K X) = X ∧ (T X).f0 = sumTo (pop K X) (fun r => c r (σ r)) ∧
  (∀ k, (X / 2 ^ k % 2 = 1 ↔ ∃ r, r < pop K X ∧ σ r = k)) ∧ ∃ l, Chain (2 ^ n) T X l ∧ l.reverse = (List.range (pop K X)).map fun r => ((σ r : Nat) : Int)
 | f, X, hf, hX => by
  by_cases e : X = 0
  ·subst e
   refine ⟨fun _ => 0, ?_, ?_, ?_, ?_, fun k => ?_, [], .nil 0 (by rw [h.zero]; show (-1 : Int) < 0; decide) hX, by rw [pop_zero]; rfl⟩
   ·intro r hr; rw [pop_zero] at hr; omega
   ·intro r s hr; rw [pop_zero] at hr; omega
   ·rw [pop_zero]; rfl
   ·rw [pop_zero, h.zero]; rfl
   ·rw [Nat.zero_div, pop_zero]
    exact ⟨fun h => (by cases h), fun ⟨r, h, _⟩ => absurd h (Nat.not_lt_zero _)⟩
  ·obtain ⟨Y, k, a1, a2, a3, a4, a5, a6, a7⟩ := h.link X e (h.ok (by omega) hX)
   have hp : 0 < 2 ^ k := Nat.pow_pos (by omega)
   match f, hf with
   | 0, hf => omega
   | f + 1, hf =>
    obtain ⟨σ, s1, s2, s3, s4, s5, l, s6, s7⟩ := DpI.real h hK f Y (by omega) a5
    have hpop : pop K X = pop K Y + 1 := by rw [a3, pop_add K k Y (by omega) a2]
    obtain ⟨p, hpY⟩ : ∃ p, p = pop K Y := ⟨_, rfl⟩
    rw [← hpY] at s1 s2 s3 s4 s5 s7 hpop
    have hno : ∀ r, r < p → σ r ≠ k := fun r hr er => by
     have := (s5 k).2 ⟨r, hr, er⟩
     omega
    rw [hpop]
    refine ⟨upd σ p k, fun r hr => ?_, fun r s hr hs ers => ?_, ?_, ?_, fun k' => ?_, (T X).f2 :: l, ?_, ?_⟩
    ·by_cases er : r = p
     ·rw [er, upd_self]; exact a1
     ·rw [upd_ne _ _ er]; exact s1 r (by omega)
    ·by_cases er : r = p
     ·by_cases es : s = p
      ·omega
      ·rw [er, upd_self, upd_ne _ _ es] at ers
       exact absurd ers.symm (hno s (by omega))
     ·by_cases es : s = p
      ·rw [es, upd_self, upd_ne _ _ er] at ers
       exact absurd ers (hno r (by omega))
      ·rw [upd_ne _ _ er, upd_ne _ _ es] at ers
       exact s2 r s (by omega) (by omega) ers
    ·rw [msk, upd_self, msk_congr (τ := σ) p (fun r hr => upd_ne _ _ (by omega)), s3, a3]
    ·rw [sumTo_succ, upd_self, sumTo_congr (g := fun r => c r (σ r)) (fun r hr => by rw [upd_ne _ _ (by omega)]), ← s4, a7, hpY]
    ·rw [a3, bit_add _ _ _ a2]
     by_cases ek : k' = k
     ·rw [if_pos ek]
      exact ⟨fun _ => ⟨p, by omega, by rw [upd_self, ek]⟩, fun _ => rfl⟩
     ·rw [if_neg ek, s5]
      constructor
      ·rintro ⟨r, hr, he⟩
       exact ⟨r, by omega, by rw [upd_ne _ _ (by omega)]; exact he⟩
      ·rintro ⟨r, hr, he⟩
       by_cases er : r = p
       ·rw [er, upd_self] at he
        omega
       ·rw [upd_ne _ _ er] at he
        exact ⟨r, by omega, he⟩
    ·exact .cons X Y l hX (by rw [a7]; exact Int.natCast_nonneg _) (by rw [a7]) s6
    ·rw [List.reverse_cons, s7, List.range_succ, List.map_append, a7]
     congr 1
     ·refine List.map_congr_left (fun r hr => ?_)
      rw [upd_ne _ _ (by have := List.mem_range.1 hr; omega)]
     ·show [((k : Nat) : Int)] = [((upd σ p k p : Nat) : Int)]
      rw [upd_self]
theorem DpI.least (h : DpI K n c (2 ^ n) 0 T) (hK : n ≤ K) : ∃ σ, PM n (fun _ _ => false) σ ∧ (T (2 ^ n - 1)).f0 = cost n c σ ∧ IsLeast n c (fun _ _ => false) (some (T (2 ^ n - 1)).f0) ∧ ∃ l, Chain (2 ^ n) T (2 ^ n - 1) l ∧ l.reverse = (List.range n).map fun r => ((σ r : Nat) : Int) := by
 have h0 : 0 < 2 ^ n := Nat.pow_pos (by omega)
 have hall : ∀ m, pop m (2 ^ m - 1) = m ∧ True := fun m => ⟨by
  induction m with
  | zero => rfl
  | succ m ih =>
   have h2 : 2 ^ (m + 1) = 2 ^ m * 2 := Nat.pow_succ ..
   have h0 : 0 < 2 ^ m := Nat.pow_pos (by omega)
   rw [pop, show (2 ^ (m + 1) - 1) / 2 = 2 ^ m - 1 by omega, ih]
   omega, trivial⟩
 have hmore : ∀ d m x, x < 2 ^ m → pop (m + d) x = pop m x := fun d m => by
  induction m with
  | zero =>
   intro x hx
   rw [Nat.pow_zero] at hx
   obtain rfl : x = 0 := by omega
   rw [pop_zero, pop_zero]
  | succ m ih =>
   intro x hx
   have h2 : 2 ^ (m + 1) = 2 ^ m * 2 := Nat.pow_succ ..
   rw [show m + 1 + d = (m + d) + 1 by omega, pop, pop, ih (x / 2) (by omega)]
 have hpop : pop K (2 ^ n - 1) = n := by
  have := hmore (K - n) n (2 ^ n - 1) (by omega)
  rw [show n + (K - n) = K by omega] at this
  rw [this, (hall n).1]
 obtain ⟨σ, s1, s2, s3, s4, s5, l, s6, s7⟩ := DpI.real h hK _ (2 ^ n - 1) (Nat.le_refl _) (by omega)
 rw [hpop] at s1 s2 s4 s7
 have pm : PM n (fun _ _ => false) σ := ⟨⟨s1, s2⟩, fun _ _ => rfl⟩
 refine ⟨σ, pm, s4, ⟨⟨σ, pm, s4.symm⟩, fun τ hτ => ?_⟩, l, s6, s7⟩
 have h1 := DpI.le h hK hτ.inj.lt hτ.inj.inj n (Nat.le_refl _)
 obtain ⟨t1, t2, _⟩ := msk_all (K := K) hτ.inj.lt hK n (Nat.le_refl _) hτ.inj.inj
 rw [pop_full K n _ t1 t2] at h1
 exact h1
end
end Go.Proofs.Ytelabmhhnpfegaa.Hand
end
