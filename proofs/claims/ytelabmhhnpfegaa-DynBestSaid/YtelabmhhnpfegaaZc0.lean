/- Texts Dq Dr, cut to what is used. -/
import Derived.Test.YtelabmhhnpfegaaZa0
import Derived.Test.YtelabmhhnpfegaaZb4
import Derived.Test.YtelabmhhnpfegaaZb8
import Derived.Test.YtelabmhhnpfegaaZb9
set_option linter.unusedVariables false
set_option linter.unusedSimpArgs false
section
namespace Go.Proofs.Ytelabmhhnpfegaa.Hand
open Go.RowKit Go.Proofs.YtelabmhhnpfegaaW.PrintWords Go.Proofs.YtelabmhhnpfegaaW.PrintLast Go.Proofs.YtelabmhhnpfegaaW.PrintMore Go.Proofs.Ytelabmhhnpfegaa.PDynCells
theorem bval_append : ∀ (a b : List Int), bval (a ++ b) = bval a + 65536 ^ a.length * bval b
 | [], b => by simp [bval]
 | d :: t, b => by
  rw [List.cons_append, bval, bval, bval_append t b, List.length_cons, Int.pow_succ, Int.mul_add, Int.add_assoc]
  congr 2
  rw [← Int.mul_assoc, Int.mul_comm 65536]
theorem bval_bd : ∀ (l : List Int), (∀ d ∈ l, 0 ≤ d ∧ d < 65536) → 0 ≤ bval l ∧ bval l < 65536 ^ l.length
 | [], _ => by simp [bval]
 | d :: t, h => by
  have ih := bval_bd t (fun d hd => h d (List.mem_cons_of_mem _ hd))
  have h0 := h d List.mem_cons_self
  rw [bval, List.length_cons, Int.pow_succ]
  generalize (65536 : Int) ^ t.length = P at ih ⊢
  omega
theorem split_at {l : List Int} {i : Nat} (hi : i < l.length) : bval l = bval (l.take i) + 65536 ^ i * (l.getD i 0 + 65536 * bval (l.drop (i + 1))) := by
 conv => lhs; rw [← List.take_append_drop i l]
 rw [bval_append, List.length_take, Nat.min_eq_left (by omega), drop_cons hi 0, bval]
theorem getD_mem {l : List Int} {i : Nat} (hi : i < l.length) : l.getD i 0 ∈ l := by
 rw [List.getD_eq_getElem?_getD, List.getElem?_eq_getElem hi, Option.getD_some]
 exact List.getElem_mem _
theorem Dg.low {D : List Int} {m : Int} (h : Dg D m) (hn : D.length ≠ 0) : 65536 ^ (D.length - 1) ≤ m := by
 have hi : D.length - 1 < D.length := by omega
 have h1 := split_at hi
 have h2 := bval_bd (D.take (D.length - 1)) (fun d hd => h.dig d (List.mem_of_mem_take hd))
 have h3 := (h.dig _ (getD_mem hi)).1
 have h4 : D.getD (D.length - 1) 0 ≠ 0 := by
  rcases h.top with e | e
  ·exact absurd e hn
  ·exact e
 rw [List.drop_of_length_le (by omega), bval, Int.mul_zero, Int.add_zero, h.val] at h1
 have h5 : (65536 : Int) ^ (D.length - 1) * 1 ≤ 65536 ^ (D.length - 1) * D.getD (D.length - 1) 0 := Int.mul_le_mul_of_nonneg_left (by omega) (Int.le_of_lt (Int.pow_pos (by omega)))
 rw [Int.mul_one] at h5
 omega
theorem Dg.high {D : List Int} {m : Int} (h : Dg D m) : 0 ≤ m ∧ m < 65536 ^ D.length := by
 rw [← h.val]
 exact bval_bd D h.dig
theorem pow_mono {a b : Nat} (h : a ≤ b) : (65536 : Int) ^ a ≤ 65536 ^ b := by
 have h1 : 65536 ^ a ≤ 65536 ^ b := Nat.pow_le_pow_right (by omega) h
 have h2 := Int.ofNat_le.2 h1
 rwa [Int.natCast_pow, Int.natCast_pow] at h2
theorem Dg.shorter {D E : List Int} {m M : Int} (h : Dg D m) (k : Dg E M) (hl : D.length < E.length) : m < M := by
 have h1 := h.high.2
 have h2 := k.low (by omega)
 have h3 := pow_mono (show D.length ≤ E.length - 1 by omega)
 omega
def cmpI (m M : Int) : Int := if m < M then -1 else if M < m then 1 else 0
theorem far_l {D E : List Int} {n1 n2 : Bool} (hD : ∀ d ∈ D, 0 ≤ d ∧ d < 65536) (hE : ∀ d ∈ E, 0 ≤ d ∧ d < 65536) (hl : D.length = E.length) (hb : D.length ≤ 1000) :
  ∀ i, i ≤ D.length → D.drop i = E.drop i → ∃ k, secateurref01_far.l0 k ((i : Int) - 1) n1 D n2 E = some (cmpI (bval D) (bval E))
 | 0, _, h => by
  refine ⟨1, ?_⟩
  rw [List.drop_zero, List.drop_zero] at h
  subst h
  rw [secateurref01_far.l0, if_neg (by omega)]
  unfold cmpI
  simp
 | i + 1, hi, h => by
  have e1 : (((i + 1 : Nat) : Int) - 1) = (i : Int) := by omega
  have g1 : rd D (i : Int) = D.getD i 0 := by unfold rd; rw [Int.toNat_natCast]
  have g2 : rd E (i : Int) = E.getD i 0 := by unfold rd; rw [Int.toNat_natCast]
  have s1 := split_at (l := D) (i := i) (by omega)
  have s2 := split_at (l := E) (i := i) (by omega)
  have b1 := bval_bd (D.take i) (fun d hd => hD d (List.mem_of_mem_take hd))
  have b2 := bval_bd (E.take i) (fun d hd => hE d (List.mem_of_mem_take hd))
  rw [List.length_take, Nat.min_eq_left (by omega)] at b1 b2
  rw [← h] at s2
  rw [Int.mul_add] at s1 s2
  have hp : (0 : Int) < 65536 ^ i := Int.pow_pos (by omega)
  have key : ∀ x y : Int, x < y → (65536 : Int) ^ i * x + 65536 ^ i ≤ 65536 ^ i * y := fun x y hxy => by
   have h1 : (65536 : Int) ^ i * (x + 1) ≤ 65536 ^ i * y := Int.mul_le_mul_of_nonneg_left (by omega) (Int.le_of_lt hp)
   rw [Int.mul_add, Int.mul_one] at h1
   exact h1
  rw [e1]
  by_cases h1 : D.getD i 0 < E.getD i 0
  ·refine ⟨1, ?_⟩
   rw [secateurref01_far.l0, if_pos (by omega), if_pos (by omega), if_pos (by omega), if_pos (by omega), g1, g2, if_pos h1]
   unfold cmpI
   have := key _ _ h1
   rw [if_pos (by omega)]
  ·by_cases h2 : D.getD i 0 > E.getD i 0
   ·refine ⟨1, ?_⟩
    rw [secateurref01_far.l0, if_pos (by omega), if_pos (by omega), if_pos (by omega), if_pos (by omega), g1, g2, if_neg h1, if_pos h2]
    unfold cmpI
    have := key _ _ h2
    rw [if_neg (by omega), if_pos (by omega)]
   ·obtain ⟨k, hk⟩ := far_l (n1 := n1) (n2 := n2) hD hE hl hb i (by omega) (by
     rw [drop_cons (l := D) (by omega) 0, drop_cons (l := E) (by omega) 0, h]
     congr 1
     omega)
    refine ⟨k + 1, ?_⟩
    have hw : wrap64 ((i : Int) - 1) = (i : Int) - 1 := by unfold wrap64; omega
    rw [secateurref01_far.l0, if_pos (by omega), if_pos (by omega), if_pos (by omega), if_pos (by omega), g1, g2, if_neg h1, if_neg h2, hw, hk]
theorem far_f {D E : List Int} {m M : Int} {n1 n2 : Bool} (h : Dg D m) (k : Dg E M) (hb : D.length ≤ 1000) : ∃ j, secateurref01_far.f j n1 D n2 E = some (cmpI m M) := by
 unfold secateurref01_far.f
 by_cases hl : D.length = E.length
 ·obtain ⟨j, hj⟩ := far_l (n1 := n1) (n2 := n2) h.dig k.dig hl hb D.length (Nat.le_refl _) (by rw [List.drop_length, hl, List.drop_length])
  refine ⟨j, ?_⟩
  have hw : wrap64 ((D.length : Int) - 1) = (D.length : Int) - 1 := by unfold wrap64; omega
  rw [if_pos (by omega), hw, hj, h.val, k.val]
 ·refine ⟨0, ?_⟩
  rw [if_neg (by omega)]
  unfold cmpI
  by_cases h1 : D.length < E.length
  ·have := h.shorter k h1
   rw [if_pos (by omega), if_pos this]
  ·have := k.shorter h (by omega)
   rw [if_neg (by omega), if_neg (by omega), if_pos this]
theorem cmp_any (w : World) (m M : Int) (va vb : Value) (ha : BigV w false m va) (hb : BigV w false M vb) : Calls Try.prog 88 #[va, vb] w fun e w' => e = .returned (.int .i64 (cmpI m M)) ∧ Below w.heap.size w w' := by
 obtain ⟨ad, n, c, D, rfl, hc, hn, rfl, HC, hdg, _⟩ := ha
 obtain ⟨ad2, n2, c2, D2, rfl, hc2, hn2, rfl, HC2, hdg2, _⟩ := hb
 obtain ⟨j, hj⟩ := far_f (n1 := false) (n2 := false) hdg hdg2 hn
 refine secateurref01_Cmp.calls j false _ _ D false _ _ D2 _ w HC hc HC2 hc2 ?_
 unfold secateurref01_Cmp.f
 rw [if_neg (by decide), hj, Option.bind_some, if_neg (by decide)]
theorem cmp_low (w : World) (m M : Int) (va vb : Value) (ha : BigV w false m va) (hb : BigV w true M vb) : Calls Try.prog 88 #[va, vb] w fun e w' => e = .returned (.int .i64 1) ∧ Below w.heap.size w w' := by
 obtain ⟨ad, n, c, D, rfl, hc, hn, rfl, HC, hdg, _⟩ := ha
 obtain ⟨ad2, n2, c2, D2, rfl, hc2, hn2, rfl, HC2, hdg2, _⟩ := hb
 refine secateurref01_Cmp.calls 0 false _ _ D true _ _ D2 _ w HC hc HC2 hc2 ?_
 unfold secateurref01_Cmp.f
 rw [if_pos (by decide), if_neg (by decide)]
set_option maxHeartbeats 400000 in
set_option maxRecDepth 100000 in
theorem short_any' (w : World) (m : Int) (va : Value) (ha : BigV w false m va) (r : Int) (b : Bool) (h1 : Aside0 (m ≤ 9223372036854775807 → r = m ∧ b = true)) (h2 : Aside0 (9223372036854775807 < m → r = 0 ∧ b = false)) :
  Calls Try.prog 52 #[va] w fun e w' => e = .returned (.tuple #[.int .i64 r, .bool b]) ∧ Below w.heap.size w w' := by
 have hA' := Aside0.mk ha
 have hA := hA'
 obtain ⟨ad, n, c, D, rfl, hc, hn, hD, HC, hdg, _⟩ := ha
 have DG := Aside0.mk hdg
 have HN := Aside0.mk hD
 have HA := Aside0.mk HC
 clear hdg hD HC
 have hu111 := Try.underlying111
 go_enter Try.func52, Try.ntmps52
 go_wp2_with fail
 obtain ⟨W1, hW1⟩ : ∃ W, W = w.alloc (.cells #[.bool false, .slice (some ad) n c] 111) := ⟨_, rfl⟩
 rw [← hW1]
 have B1 : Aside0 (Below w.heap.size w W1) := ⟨by rw [hW1]; exact below_alloc (Below.refl _ _) _⟩
 obtain ⟨p1, hp1⟩ : ∃ p, p = w.heap.size := ⟨_, rfl⟩
 have Q1 : Aside0 (W1.heap[p1]? = some (.cells #[.bool false, .slice (some ad) n c] 111 (0, 0))) := ⟨by rw [hW1, hp1]; exact heap_alloc_new _ _⟩
 rw [← hp1]
 clear hW1 hp1
 refine (of_low W1).mono ?_
 rintro _ W2 ⟨v2, rfl, H2⟩
 obtain ⟨ad2, n2, c2, D2, rfl, _⟩ := id H2.out.1
 go_wp2_with fail
 clear hA
 obtain ⟨W3, hW3⟩ : ∃ W, W = W2.alloc (.cells #[.bool true, .slice (some ad2) n2 c2] 111) := ⟨_, rfl⟩
 rw [← hW3]
 have B3 : Aside0 (Below W2.heap.size W2 W3) := ⟨by rw [hW3]; exact below_alloc (Below.refl _ _) _⟩
 obtain ⟨p2, hp2⟩ : ∃ p, p = W2.heap.size := ⟨_, rfl⟩
 have Q3 : Aside0 (W3.heap[p2]? = some (.cells #[.bool true, .slice (some ad2) n2 c2] 111 (0, 0))) := ⟨by rw [hW3, hp2]; exact heap_alloc_new _ _⟩
 rw [← hp2]
 clear hW3 hp2
 refine (of_pos W3 9223372036854775807 (by omega) (by omega)).mono ?_
 rintro _ W4 ⟨v4, rfl, H4⟩
 obtain ⟨ad4, n4, c4, D4, rfl, _⟩ := id H4.out.1
 go_upto_region 3 with fail
 obtain ⟨W5, hW5⟩ : ∃ W, W = W4.alloc (.cells #[.bool false, .slice (some ad4) n4 c4] 111) := ⟨_, rfl⟩
 rw [← hW5]
 have B5 : Aside0 (Below W4.heap.size W4 W5) := ⟨by rw [hW5]; exact below_alloc (Below.refl _ _) _⟩
 obtain ⟨p3, hp3⟩ : ∃ p, p = W4.heap.size := ⟨_, rfl⟩
 have Q5 : Aside0 (W5.heap[p3]? = some (.cells #[.bool false, .slice (some ad4) n4 c4] 111 (0, 0))) := ⟨by rw [hW5, hp3]; exact heap_alloc_new _ _⟩
 rw [← hp3]
 clear hW5 hp3
 have B25 : Aside0 (Below W2.heap.size W2 W5) := ⟨B3.out.trans ((H4.out.2.trans (B5.out.mono H4.out.2.size)).mono B3.out.size)⟩
 have B15 : Aside0 (Below W1.heap.size W1 W5) := ⟨H2.out.2.trans (B25.out.mono H2.out.2.size)⟩
 have B05 : Aside0 (Below w.heap.size w W5) := ⟨B1.out.trans (B15.out.mono B1.out.size)⟩
 have R1 : Aside0 (W5.heap[p1]? = some (.cells #[.bool false, .slice (some ad) n c] 111 (0, 0))) := ⟨blk_below Q1.out B15.out⟩
 have R2 : Aside0 (W5.heap[p2]? = some (.cells #[.bool true, .slice (some ad2) n2 c2] 111 (0, 0))) := ⟨blk_below (blk_below Q3.out H4.out.2) B5.out⟩
 have V1 := Aside0.mk (hA'.out.below B05.out)
 have V2 := Aside0.mk (H2.out.1.below B25.out)
 have V4 := Aside0.mk (H4.out.1.below B5.out)
 have a0 : W5.cell? ⟨p1, 0, none⟩ = some (.bool false) := (blk_cell R1.out 0).trans rfl
 have a1 : W5.cell? ⟨p1, 1, none⟩ = some (.slice (some ad) n c) := (blk_cell R1.out 1).trans rfl
 have b0 : W5.cell? ⟨p2, 0, none⟩ = some (.bool true) := (blk_cell R2.out 0).trans rfl
 have b1 : W5.cell? ⟨p2, 1, none⟩ = some (.slice (some ad2) n2 c2) := (blk_cell R2.out 1).trans rfl
 go_wp2_with fail
 clear a0 a1 b0 b1
 refine (cmp_low W5 m _ _ _ V1.out V2.out).mono ?_
 rintro _ W6 ⟨rfl, B6'⟩
 have B6 := Aside0.mk B6'
 clear B6'
 have S1 : Aside0 (W6.heap[p1]? = some (.cells #[.bool false, .slice (some ad) n c] 111 (0, 0))) := ⟨blk_below R1.out B6.out⟩
 have S2 : Aside0 (W6.heap[p3]? = some (.cells #[.bool false, .slice (some ad4) n4 c4] 111 (0, 0))) := ⟨blk_below Q5.out B6.out⟩
 have a0 : W6.cell? ⟨p1, 0, none⟩ = some (.bool false) := (blk_cell S1.out 0).trans rfl
 have a1 : W6.cell? ⟨p1, 1, none⟩ = some (.slice (some ad) n c) := (blk_cell S1.out 1).trans rfl
 have b0 : W6.cell? ⟨p3, 0, none⟩ = some (.bool false) := (blk_cell S2.out 0).trans rfl
 have b1 : W6.cell? ⟨p3, 1, none⟩ = some (.slice (some ad4) n4 c4) := (blk_cell S2.out 1).trans rfl
 go_wp2_with fail
 clear a0 a1 b0 b1
 refine (cmp_any W6 m 9223372036854775807 _ _ (V1.out.below B6.out) (V4.out.below B6.out)).mono ?_
 rintro _ W7 ⟨rfl, B7'⟩
 have B7 := Aside0.mk (B05.out.trans ((B6.out.trans (B7'.mono B6.out.size)).mono B05.out.size))
 have T1 : Aside0 (W7.heap[p1]? = some (.cells #[.bool false, .slice (some ad) n c] 111 (0, 0))) := ⟨blk_below S1.out B7'⟩
 clear B7'
 obtain ⟨z, hz⟩ : ∃ z, z = cmpI m 9223372036854775807 := ⟨_, rfl⟩
 rw [← hz]
 have a0 : W7.cell? ⟨p1, 0, none⟩ = some (.bool false) := (blk_cell T1.out 0).trans rfl
 have a1 : W7.cell? ⟨p1, 1, none⟩ = some (.slice (some ad) n c) := (blk_cell T1.out 1).trans rfl
 by_cases hm : m ≤ 9223372036854775807
 ·have hz0 : decide (z > 0) = false := decide_eq_false (by
   rw [hz]; unfold cmpI; split
   ·decide
   ·rw [if_neg (by omega)]; decide)
  have hz1 : decide (0 < z) = false := hz0
  have HM := Aside0.mk hm
  obtain ⟨e1, e2⟩ := h1.out hm
  subst e1
  subst e2
  clear hz hm h1 h2
  go_wp2_with fail
  have K0 : Aside0 (bval (D.drop n) = 0) := ⟨by rw [List.drop_of_length_le (by rw [HN.out]; exact Nat.le_refl _)]; rfl⟩
  go_loop [8, 9] (fun v8 v9 => ∃ (i : Nat) (s : Int), i ≤ n ∧ v8 = .int .i64 s ∧ v9 = .int .i64 ((i : Int) - 1) ∧ Aside0 (bval (D.drop i) = s)) (fun _ v9 => (intOf v9 + 1).toNat)
  case atStart => exact ⟨n, 0, Nat.le_refl _, rfl, by first | rfl | (congr 1; unfold wrap64; omega), K0⟩
  case round =>
   clear K0
   obtain ⟨i, s, hi, rfl, rfl, KB⟩ := hrel
   rcases Nat.eq_zero_or_pos i with h0 | h0
   ·subst h0
    have E : Aside0 (r = s) := ⟨by rw [← KB.out, List.drop_zero, DG.out.val]⟩
    go_wp2_with fail
    go_ret2
    exact ⟨by rw [E.out]; rfl, B7.out⟩
   ·obtain ⟨j, rfl⟩ : ∃ j, i = j + 1 := ⟨i - 1, by omega⟩
    obtain ⟨ae, e, hx'⟩ := at_U HA.out j (by omega)
    injection e with e
    subst e
    have hx := pw_cell_below B7.out hx'
    clear hx'
    have hj : j < D.length := by rw [HN.out]; omega
    have hd := DG.out.dig _ (getD_mem hj)
    obtain ⟨d, hd0⟩ : ∃ d, d = D.getD j 0 := ⟨_, rfl⟩
    rw [← hd0] at hx hd
    have N1 : Aside0 (bval (D.drop j) = s * 65536 + d) := ⟨by rw [drop_cons hj 0, bval, KB.out, hd0]; omega⟩
    have bd : 0 ≤ s ∧ s * 65536 + d ≤ 9223372036854775807 := by
     have h1 := bval_bd (D.drop (j + 1)) (fun d hd => DG.out.dig d (List.mem_of_mem_drop hd))
     rw [KB.out] at h1
     have h2 := bval_append (D.take j) (D.drop j)
     rw [List.take_append_drop, DG.out.val, N1.out] at h2
     have h3 := bval_bd (D.take j) (fun d hd => DG.out.dig d (List.mem_of_mem_take hd))
     have h4 : (1 : Int) * (s * 65536 + d) ≤ 65536 ^ (D.take j).length * (s * 65536 + d) := Int.mul_le_mul_of_nonneg_right (by have := pow_mono (Nat.zero_le (D.take j).length); rwa [Int.pow_zero] at this) (by omega)
     rw [Int.one_mul] at h4
     exact ⟨h1.1, Int.le_trans h4 (Int.le_trans (by omega) HM.out)⟩
    obtain ⟨b0, b1⟩ := bd
    obtain ⟨d0, d1⟩ := hd
    have w1 : wrap64 (((j + 1 : Nat) : Int) - 1) = (j : Int) := by unfold wrap64; omega
    have w2 : ((j : Int) + 1 - 1) = (j : Int) := by omega
    clear hd0
    have jn : j < n := by omega
    go_wp2_with fail
    exact ⟨⟨j, s * 65536 + d, by omega, rfl, rfl, N1⟩, by simp [intOf]⟩
 ·have hz0 : decide (z > 0) = true := decide_eq_true (by
   rw [hz]; unfold cmpI; rw [if_neg (by omega), if_pos (by omega)]; decide)
  have hz1 : decide (0 < z) = true := hz0
  obtain ⟨e1, e2⟩ := h2.out (by omega)
  subst e1
  subst e2
  clear hz hm h1 h2
  go_wp2_with fail
  go_ret2
  exact ⟨rfl, B7.out⟩
theorem short_any (w : World) (m : Int) (va : Value) (ha : BigV w false m va) :
  Calls Try.prog 52 #[va] w fun e w' => e = .returned (.tuple #[.int .i64 (if m ≤ 9223372036854775807 then m else 0), .bool (decide (m ≤ 9223372036854775807))]) ∧ Below w.heap.size w w' :=
 short_any' w m va ha _ _ ⟨fun h => ⟨if_pos h, decide_eq_true h⟩⟩ ⟨fun h => ⟨if_neg (by omega), decide_eq_false (by omega)⟩⟩
end Go.Proofs.Ytelabmhhnpfegaa.Hand
end
section
namespace Go.Proofs.Ytelabmhhnpfegaa.Hand
open Go.RowKit Go.Proofs.YtelabmhhnpfegaaW.PrintWords Go.Proofs.YtelabmhhnpfegaaW.PrintLast Go.Proofs.YtelabmhhnpfegaaW.PrintMore Go.Proofs.Ytelabmhhnpfegaa.PDynCells
set_option maxHeartbeats 400000 in
set_option maxRecDepth 100000 in
theorem rn_any (w : World) (x : PI) (v : Value) (h : InstC w x v) (hx : PIok x) (hi : IOk x) : Calls Try.prog 49 #[v] w fun e w' => e = .returned (.int .i64 (nP x)) ∧ Below w.heap.size w w' := by
 have HI := Aside0.mk h
 have HX := Aside0.mk hx
 have IOa := Aside0.mk hi
 have n2 : x.items.length ≤ 4096 := hi.nitems
 have n5 : x.sets.length ≤ 4096 := hi.nsets
 have n3 : x.cost.length ≤ 64 := by
  by_cases e : x.kind = 1 ∨ x.kind = 2
  ·exact (hi.side e).2
  ·rw [hi.kc e]; exact Nat.zero_le _
 have NP : Aside0 ((x.kind = 2 → nP x = (x.cost.length : Int) - 1) ∧ (x.kind ≠ 2 → nP x = (x.items.length : Int) + x.cost.length + x.sets.length)) := ⟨by
  have hk := hi.kind
  unfold nP
  constructor
  ·intro e
   rw [if_neg (by omega), if_neg (by omega), if_pos e]
  ·intro e
   by_cases k0 : x.kind = 0
   ·rw [if_pos k0, hi.kc (by omega), (hi.k3 (by omega)).2]
    simp
   ·rw [if_neg k0, (hi.k0 k0).2]
    by_cases k1 : x.kind = 1
    ·rw [if_pos k1, (hi.k3 (by omega)).2]
     simp
    ·rw [if_neg k1, if_neg e, hi.kc (by omega)]
     simp⟩
 obtain ⟨A2, c2, A3, c3, A5, c5, rfl, h2, l2, h3, l3, h5, l5⟩ := h
 clear hi hx h2 h3 h5
 have CK : Aside0 (chk x = 0) := ⟨iok.2 IOa.out⟩
 have hu57 := Try.underlying57
 go_enter Try.func49, Try.ntmps49
 go_wp2_with fail
 obtain ⟨W1, hW1⟩ : ∃ W, W = w.alloc (.cells #[.int .i64 x.kind, .int .i64 x.cap, .slice A2 x.items.length c2, .slice A3 x.cost.length c3, .int .i64 x.size, .slice A5 x.sets.length c5] 57) := ⟨_, rfl⟩
 rw [← hW1]
 have B1 : Aside0 (Below w.heap.size w W1) := ⟨by rw [hW1]; exact below_alloc (Below.refl _ _) _⟩
 obtain ⟨p1, hp1⟩ : ∃ p, p = w.heap.size := ⟨_, rfl⟩
 have Q1 : Aside0 (W1.heap[p1]? = some (.cells #[.int .i64 x.kind, .int .i64 x.cap, .slice A2 x.items.length c2, .slice A3 x.cost.length c3, .int .i64 x.size, .slice A5 x.sets.length c5] 57 (0, 0))) := ⟨by rw [hW1, hp1]; exact heap_alloc_new _ _⟩
 rw [← hp1]
 clear hW1 hp1
 refine (rcheck_any W1 x _ (HI.out.below B1.out) HX.out).mono ?_
 rintro _ W2 ⟨rfl, B2'⟩
 have B2 := Aside0.mk (B1.out.trans (B2'.mono B1.out.size))
 have Q2 : Aside0 (W2.heap[p1]? = some (.cells #[.int .i64 x.kind, .int .i64 x.cap, .slice A2 x.items.length c2, .slice A3 x.cost.length c3, .int .i64 x.size, .slice A5 x.sets.length c5] 57 (0, 0))) := ⟨blk_below Q1.out B2'⟩
 clear B2' Q1
 rw [CK.out]
 have q0 : W2.cell? ⟨p1, 0, none⟩ = some (.int .i64 x.kind) := (blk_cell Q2.out 0).trans rfl
 have q2 : W2.cell? ⟨p1, 2, none⟩ = some (.slice A2 x.items.length c2) := (blk_cell Q2.out 2).trans rfl
 have q3 : W2.cell? ⟨p1, 3, none⟩ = some (.slice A3 x.cost.length c3) := (blk_cell Q2.out 3).trans rfl
 have q5 : W2.cell? ⟨p1, 5, none⟩ = some (.slice A5 x.sets.length c5) := (blk_cell Q2.out 5).trans rfl
 by_cases k2 : x.kind = 2
 ·have e := Aside0.mk (NP.out.1 k2)
  have g : (x.kind == 2) = true := by rw [k2]; rfl
  clear k2
  go_wp2_with fail
  go_ret
  exact ⟨by rw [e.out]; rfl, B2.out⟩
 ·have e := Aside0.mk (NP.out.2 k2)
  have g : (x.kind == 2) = false := by simpa using k2
  clear k2
  go_wp2_with fail
  go_ret
  exact ⟨by rw [e.out]; rfl, B2.out⟩
theorem pow2_mono {a b : Nat} (h : a ≤ b) : (2 : Int) ^ a ≤ 2 ^ b := by
 have h1 : 2 ^ a ≤ 2 ^ b := Nat.pow_le_pow_right (by omega) h
 have h2 := Int.ofNat_le.2 h1
 rwa [Int.natCast_pow, Int.natCast_pow] at h2
set_option maxHeartbeats 1000000 in
set_option maxRecDepth 100000 in
theorem rcells_any' (w : World) (x : PI) (v : Value) (h : InstC w x v) (hx : PIok x) (r1 r2 : Int) (hr : Aside0 (cellsP x = (r1, r2))) : Calls Try.prog 23 #[v] w fun e w' => e = .returned (.tuple #[.int .i64 r1, .int .i64 r2]) ∧ Below w.heap.size w w' := by
 have HI := Aside0.mk h
 have HX := Aside0.mk hx
 obtain ⟨A2, c2, A3, c3, A5, c5, rfl, h2, l2, h3, l3, h5, l5⟩ := h
 have H2 := Aside0.mk h2
 obtain ⟨n2, hn2⟩ : ∃ n, n = x.items.length := ⟨_, rfl⟩
 obtain ⟨n3, hn3⟩ : ∃ n, n = x.cost.length := ⟨_, rfl⟩
 obtain ⟨n5, hn5⟩ : ∃ n, n = x.sets.length := ⟨_, rfl⟩
 obtain ⟨kd, hkd⟩ : ∃ n, n = x.kind := ⟨_, rfl⟩
 obtain ⟨cap, hcap⟩ : ∃ n, n = x.cap := ⟨_, rfl⟩
 obtain ⟨sz, hsz⟩ : ∃ n, n = x.size := ⟨_, rfl⟩
 rw [← hn2] at HI H2 l2 ⊢
 rw [← hn3] at HI l3 ⊢
 rw [← hn5] at HI l5 ⊢
 rw [← hkd, ← hcap, ← hsz] at HI ⊢
 have HF := Aside0.mk (And.intro hkd (And.intro hcap hsz))
 have HN := Aside0.mk (And.intro hn2 (And.intro hn3 hn5))
 clear hkd hcap hsz hn2 hn3 hn5 h2 h3 h5 hx
 have hu57 := Try.underlying57
 have hu111 := Try.underlying111
 go_enter Try.func23, Try.ntmps23
 go_wp2_with fail
 obtain ⟨W1, hW1⟩ : ∃ W, W = w.alloc (.cells #[.int .i64 kd, .int .i64 cap, .slice A2 n2 c2, .slice A3 n3 c3, .int .i64 sz, .slice A5 n5 c5] 57) := ⟨_, rfl⟩
 rw [← hW1]
 have B1 : Aside0 (Below w.heap.size w W1) := ⟨by rw [hW1]; exact below_alloc (Below.refl _ _) _⟩
 obtain ⟨p1, hp1⟩ : ∃ p, p = w.heap.size := ⟨_, rfl⟩
 have Q1 : Aside0 (W1.heap[p1]? = some (.cells #[.int .i64 kd, .int .i64 cap, .slice A2 n2 c2, .slice A3 n3 c3, .int .i64 sz, .slice A5 n5 c5] 57 (0, 0))) := ⟨by rw [hW1, hp1]; exact heap_alloc_new _ _⟩
 rw [← hp1]
 clear hW1 hp1
 refine (rcheck_any W1 x _ (HI.out.below B1.out) HX.out).mono ?_
 rintro _ W2 ⟨rfl, B2'⟩
 have B2 := Aside0.mk (B1.out.trans (B2'.mono B1.out.size))
 have Q2 : Aside0 (W2.heap[p1]? = some (.cells #[.int .i64 kd, .int .i64 cap, .slice A2 n2 c2, .slice A3 n3 c3, .int .i64 sz, .slice A5 n5 c5] 57 (0, 0))) := ⟨blk_below Q1.out B2'⟩
 clear B2' Q1 B1
 by_cases hc : chk x = 0
 ·rw [hc]
  have IOa := Aside0.mk (iok.1 hc)
  have CP : Aside0 ((r1, r2) = if 1048576 < qP x then (0, 24) else (qP x, 0)) := ⟨by rw [← hr.out]; unfold cellsP; rw [if_pos hc]⟩
  have N2 : n2 ≤ 4096 := by rw [HN.out.1]; exact IOa.out.nitems
  have N5 : n5 ≤ 4096 := by rw [HN.out.2.2]; exact IOa.out.nsets
  have SZ : 0 ≤ sz ∧ sz ≤ 4096 := by rw [HF.out.2.2]; exact IOa.out.size
  have CA : 0 ≤ cap ∧ cap ≤ 2147483648 := by rw [HF.out.2.1]; exact IOa.out.cap
  obtain ⟨SZ0, SZ1⟩ := SZ
  obtain ⟨CA0, CA1⟩ := CA
  clear hc
  have q0 : W2.cell? ⟨p1, 0, none⟩ = some (.int .i64 kd) := (blk_cell Q2.out 0).trans rfl
  have q1 : W2.cell? ⟨p1, 1, none⟩ = some (.int .i64 cap) := (blk_cell Q2.out 1).trans rfl
  have q2 : W2.cell? ⟨p1, 2, none⟩ = some (.slice A2 n2 c2) := (blk_cell Q2.out 2).trans rfl
  have q3 : W2.cell? ⟨p1, 3, none⟩ = some (.slice A3 n3 c3) := (blk_cell Q2.out 3).trans rfl
  have q4 : W2.cell? ⟨p1, 4, none⟩ = some (.int .i64 sz) := (blk_cell Q2.out 4).trans rfl
  have q5 : W2.cell? ⟨p1, 5, none⟩ = some (.slice A5 n5 c5) := (blk_cell Q2.out 5).trans rfl
  go_upto_block 0 with fail
  go_cut [5, 6, 7, 8, 9] from 22 to 63 (fun s5 s6 _ _ _ wx => ∃ (a : Int) (t : Nat), s5 = .int .i64 a ∧ s6 = .int .i64 t ∧ Aside0 (a = aP x ∧ t = tP x ∧ Below W2.heap.size W2 wx))
  case first =>
   by_cases k0 : kd = 0
   ·have g0 : (kd == 0) = true := by rw [k0]; rfl
    have AP : Aside0 (aP x = ((x.items.length : Int) + 1) * (roomP x + 1) ∧ tP x = 0) := ⟨by rw [HF.out.1] at k0; unfold aP tP; rw [if_pos k0, if_pos k0]; exact ⟨rfl, rfl⟩⟩
    clear k0 q0 q3 q4 q5
    go_wp2_with fail
    go_loop [7, 8] (fun v7 v8 => ∃ (k : Nat) (s : Int), k ≤ n2 ∧ 0 ≤ s ∧ s ≤ 2147483648 * k ∧ v7 = .int .i64 s ∧ v8 = .int .i64 k ∧ Aside0 (s = wsum (x.items.take k))) (fun _ i => n2 - (intOf i).toNat)
    case atStart => exact ⟨0, 0, Nat.zero_le _, by omega, by omega, rfl, rfl, ⟨by simp [wsum]⟩⟩
    case round =>
     obtain ⟨k, s, hk, s0, s1, rfl, rfl, KS⟩ := hrel
     by_cases hlt : k < n2
     ·obtain ⟨ad, rfl, a0, a1⟩ := at_T101 (Kd.C_below H2.out B2.out) (k : Int) (by omega) (by omega)
      rw [Int.toNat_natCast] at a0 a1
      have hlt' : k < x.items.length := by rw [← HN.out.1]; exact hlt
      obtain ⟨t, ht⟩ : ∃ t, t = (rd_T101 x.items (k : Int)).f1 := ⟨_, rfl⟩
      rw [← ht] at a1
      have HT : t = (x.items.getD k z101).f1 := by rw [ht]; unfold rd_T101; rw [Int.toNat_natCast]
      have tb := (IOa.out.items (x.items.getD k z101) (by
       rw [List.getD_eq_getElem?_getD, List.getElem?_eq_getElem hlt', Option.getD_some]
       exact List.getElem_mem _)).2
      rw [← HT] at tb
      have NX : Aside0 (s + t = wsum (x.items.take (k + 1))) := ⟨by rw [wsum_take hlt', KS.out, HT]⟩
      obtain ⟨t0, t1⟩ := tb
      clear a0 ht HT hlt' KS
      go_wp2_with fail
      exact ⟨⟨k + 1, s + t, by omega, by omega, by omega, rfl, by go_num, NX⟩, by simp [intOf]; omega⟩
     ·obtain rfl : n2 = k := by omega
      have KS' : Aside0 (s = wsum x.items) := ⟨by rw [KS.out, List.take_of_length_le (by rw [HN.out.1]; exact Nat.le_refl _)]⟩
      clear KS hlt hk
      by_cases hcmp : cap < s
      ·have g1 : decide (s > cap) = true := decide_eq_true hcmp
       have g2 : decide (cap < s) = true := decide_eq_true hcmp
       have RP : Aside0 ((cap + 1) * ((n2 : Int) + 1) = aP x) := ⟨by
        rw [AP.out.1, Int.mul_comm, HN.out.1]
        unfold roomP
        rw [← KS'.out, ← HF.out.2.1, if_pos hcmp]⟩
       have bb : 0 ≤ (cap + 1) * ((n2 : Int) + 1) ∧ (cap + 1) * ((n2 : Int) + 1) ≤ 17592186044416 := by rw [RP.out]; exact aP_bd IOa.out
       obtain ⟨bb0, bb1⟩ := bb
       clear hcmp
       go_wp2_with fail
       go_meet
       exact ⟨_, 0, rfl, rfl, ⟨RP.out, AP.out.2.symm, Below.refl _ _⟩⟩
      ·have g1 : decide (s > cap) = false := decide_eq_false hcmp
       have g2 : decide (cap < s) = false := decide_eq_false hcmp
       have RP : Aside0 ((s + 1) * ((n2 : Int) + 1) = aP x) := ⟨by
        rw [AP.out.1, Int.mul_comm, HN.out.1]
        unfold roomP
        rw [← KS'.out, ← HF.out.2.1, if_neg hcmp]⟩
       have bb : 0 ≤ (s + 1) * ((n2 : Int) + 1) ∧ (s + 1) * ((n2 : Int) + 1) ≤ 17592186044416 := by rw [RP.out]; exact aP_bd IOa.out
       obtain ⟨bb0, bb1⟩ := bb
       clear hcmp
       go_wp2_with fail
       go_meet
       exact ⟨_, 0, rfl, rfl, ⟨RP.out, AP.out.2.symm, Below.refl _ _⟩⟩
   ·have g0 : (kd == 0) = false := by simpa using k0
    by_cases k3 : kd = 3
    ·have g3 : (kd == 3) = true := by rw [k3]; rfl
     have AP : Aside0 (aP x = (n5 : Int) + 1 ∧ tP x = sz.toNat) := ⟨by
      have e0 := k0
      have e3 := k3
      rw [HF.out.1] at e0 e3
      unfold aP tP
      rw [if_neg e0, if_neg e0, if_pos e3, if_pos e3, HN.out.2.2, HF.out.2.2]
      exact ⟨rfl, rfl⟩⟩
     clear k0 k3
     go_wp2_with fail
     go_meet
     exact ⟨_, sz.toNat, rfl, by rw [Int.toNat_of_nonneg SZ0], ⟨AP.out.1.symm, AP.out.2.symm, Below.refl _ _⟩⟩
    ·have g3 : (kd == 3) = false := by simpa using k3
     have AP : Aside0 (aP x = nP x ∧ tP x = (nP x).toNat) := ⟨by
      have e0 := k0
      have e3 := k3
      rw [HF.out.1] at e0 e3
      unfold aP tP
      rw [if_neg e0, if_neg e0, if_neg e3, if_neg e3]
      exact ⟨rfl, rfl⟩⟩
     clear k0 k3
     go_wp2_with fail
     refine (rn_any W2 x _ (HI.out.below B2.out) HX.out IOa.out).mono ?_
     rintro _ W3 ⟨rfl, B3'⟩
     have B3 := Aside0.mk B3'
     clear B3'
     go_wp2_with fail
     go_meet
     exact ⟨_, (nP x).toNat, rfl, by rw [Int.toNat_of_nonneg (n_bd IOa.out).1], ⟨AP.out.1.symm, AP.out.2.symm, B3.out⟩⟩
  case rest =>
  clear q0 q1 q2 q3 q4 q5
  obtain ⟨a, t, rfl, rfl, HC⟩ := hcut
  obtain ⟨a0, a1⟩ : 0 ≤ a ∧ a ≤ 17592186044416 := by rw [HC.out.1]; exact aP_bd IOa.out
  have T1 : t ≤ 4096 := by
   rw [HC.out.2.1]
   have h1 := n_bd IOa.out
   have h2 := IOa.out.size
   unfold tP
   split
   ·omega
   ·split <;> omega
  have QQ : Aside0 (qP x = a * 2 ^ t) := ⟨by unfold qP; rw [HC.out.1, HC.out.2.1]⟩
  have BC := Aside0.mk (B2.out.trans (HC.out.2.2.mono B2.out.size))
  obtain ⟨W3, hW3⟩ : ∃ W, W = wc := ⟨_, rfl⟩
  rw [← hW3] at BC ⊢
  clear HC hW3
  go_wp2_with fail
  refine (of_pos W3 a a0 (by omega)).mono ?_
  rintro _ W4 ⟨v4, rfl, H4⟩
  obtain ⟨ad4, n4, c4, D4, rfl, _⟩ := id H4.out.1
  go_upto_region 23 with fail
  obtain ⟨W5, hW5⟩ : ∃ W, W = W4.alloc (.cells #[.bool false, .slice (some ad4) n4 c4] 111) := ⟨_, rfl⟩
  rw [← hW5]
  have B5 : Aside0 (Below W4.heap.size W4 W5) := ⟨by rw [hW5]; exact below_alloc (Below.refl _ _) _⟩
  obtain ⟨p3, hp3⟩ : ∃ p, p = W4.heap.size := ⟨_, rfl⟩
  have Q5 : Aside0 (W5.heap[p3]? = some (.cells #[.bool false, .slice (some ad4) n4 c4] 111 (0, 0))) := ⟨by rw [hW5, hp3]; exact heap_alloc_new _ _⟩
  rw [← hp3]
  have P3 : Aside0 (w.heap.size ≤ p3) := ⟨by rw [hp3]; exact Nat.le_trans BC.out.size H4.out.2.size⟩
  clear hW5 hp3
  go_wp2_with fail
  refine (of_pos W5 2 (by omega) (by omega)).mono ?_
  rintro _ W6 ⟨v6, rfl, H6⟩
  obtain ⟨ad6, n6, c6, D6, rfl, _⟩ := id H6.out.1
  go_upto_region 25 with fail
  obtain ⟨W7, hW7⟩ : ∃ W, W = W6.alloc (.cells #[.bool false, .slice (some ad6) n6 c6] 111) := ⟨_, rfl⟩
  rw [← hW7]
  have B7 : Aside0 (Below W6.heap.size W6 W7) := ⟨by rw [hW7]; exact below_alloc (Below.refl _ _) _⟩
  obtain ⟨p4, hp4⟩ : ∃ p, p = W6.heap.size := ⟨_, rfl⟩
  have Q7 : Aside0 (W7.heap[p4]? = some (.cells #[.bool false, .slice (some ad6) n6 c6] 111 (0, 0))) := ⟨by rw [hW7, hp4]; exact heap_alloc_new _ _⟩
  rw [← hp4]
  have P4 : Aside0 (p3 ≠ p4) := ⟨by
   have h1 := (Array.getElem?_eq_some_iff.1 Q5.out).1
   have h2 := H6.out.2.size
   omega⟩
  have V6 := Aside0.mk (H6.out.1.below B7.out)
  have K0 : Aside0 (∃ vb ad n c, vb = .agg #[.bool false, .slice (some ad) n c] ∧ BigV W7 false (a * 2 ^ 0) vb ∧ BigV W7 false 2 (.agg #[.bool false, .slice (some ad6) n6 c6]) ∧ W7.heap[p3]? = some (.cells #[.bool false, .slice (some ad) n c] 111 (0, 0)) ∧ W7.heap[p4]? = some (.cells #[.bool false, .slice (some ad6) n6 c6] 111 (0, 0)) ∧ Below w.heap.size w W7) := ⟨_, ad4, n4, c4, rfl, by
    rw [Int.pow_zero, Int.mul_one]
    exact ((H4.out.1.below B5.out).below H6.out.2).below B7.out, V6.out, blk_below (blk_below Q5.out H6.out.2) B7.out, Q7.out,
    ((BC.out.trans (H4.out.2.mono BC.out.size)).trans (B5.out.mono (Nat.le_trans BC.out.size H4.out.2.size))).trans ((H6.out.2.trans (B7.out.mono H6.out.2.size)).mono (Nat.le_trans BC.out.size (Nat.le_trans H4.out.2.size B5.out.size)))⟩
  clear hW7 hp4 V6
  go_loopw [12] (fun v wr => ∃ i : Nat, i ≤ t ∧ v = .int .i64 i ∧ Aside0 (∃ vb ad n c, vb = .agg #[.bool false, .slice (some ad) n c] ∧ BigV wr false (a * 2 ^ i) vb ∧ BigV wr false 2 (.agg #[.bool false, .slice (some ad6) n6 c6]) ∧ wr.heap[p3]? = some (.cells #[.bool false, .slice (some ad) n c] 111 (0, 0)) ∧ wr.heap[p4]? = some (.cells #[.bool false, .slice (some ad6) n6 c6] 111 (0, 0)) ∧ Below w.heap.size w wr)) (fun v _ => t - (intOf v).toNat)
  case atStart => exact ⟨0, Nat.zero_le _, rfl, K0⟩
  case round =>
   clear K0
   obtain ⟨i, hi, rfl, ⟨vb, ad, n, c, rfl, v1, v2, k3, k4, k5⟩⟩ := hrel
   have V1 := Aside0.mk v1
   have V2 := Aside0.mk v2
   have K3 := Aside0.mk k3
   have K4 := Aside0.mk k4
   have K5 := Aside0.mk k5
   clear v1 v2 k3 k4 k5
   have b0 : wr.cell? ⟨p3, 0, none⟩ = some (.bool false) := (blk_cell K3.out 0).trans rfl
   have b1 : wr.cell? ⟨p3, 1, none⟩ = some (.slice (some ad) n c) := (blk_cell K3.out 1).trans rfl
   by_cases hlt : i < t
   ·by_cases h4 : 4 < n
    ·have g : decide ((n : Int) > 4) = true := decide_eq_true (by omega)
     have g2 : decide (4 < n) = true := decide_eq_true h4
     have E : Aside0 (r1 = 0 ∧ r2 = 24) := ⟨by
      obtain ⟨ad', n', c', D', e, _, _, hD, _, hdg, _⟩ := V1.out
      injection e with e
      injection e with e
      injection e with e1 e2
      injection e2 with e2 _
      injection e2 with _ e2 _
      have h5 := hdg.low (by omega)
      have h6 := pow_mono (show 4 ≤ D'.length - 1 by omega)
      have h7 : a * 2 ^ i ≤ a * 2 ^ t := Int.mul_le_mul_of_nonneg_left (pow2_mono (by omega)) a0
      have h8 := CP.out
      have hp4 : (65536 : Int) ^ 4 = 18446744073709551616 := by decide
      rw [QQ.out, if_pos (by omega)] at h8
      injection h8 with h8 h9
      exact ⟨h8, h9⟩⟩
     obtain ⟨e1, e2⟩ := E.out
     subst e1
     subst e2
     clear h4 E
     go_wp2_with fail
     go_ret2
     exact ⟨rfl, K5.out⟩
    ·have g : decide ((n : Int) > 4) = false := decide_eq_false (by omega)
     have g2 : decide (4 < n) = false := decide_eq_false h4
     have c0 : wr.cell? ⟨p4, 0, none⟩ = some (.bool false) := (blk_cell K4.out 0).trans rfl
     have c1 : wr.cell? ⟨p4, 1, none⟩ = some (.slice (some ad6) n6 c6) := (blk_cell K4.out 1).trans rfl
     go_wp2_with fail
     clear b0 b1 c0 c1
     refine (mul_two wr (a * 2 ^ i) _ _ V1.out V2.out (fun ad' n' c' e => by
      injection e with e
      injection e with e
      injection e with e1 e2
      injection e2 with e2 _
      injection e2 with _ e2 _
      omega)).mono ?_
     rintro _ w8 ⟨v8, rfl, H8⟩
     obtain ⟨ad8, n8, c8, D8, rfl, _⟩ := id H8.out.1
     have Z3 : Aside0 (w8.heap[p3]? = some (.cells #[.bool false, .slice (some ad) n c] 111 (0, 0))) := ⟨blk_below K3.out H8.out.2⟩
     have Z4 : Aside0 (w8.heap[p4]? = some (.cells #[.bool false, .slice (some ad6) n6 c6] 111 (0, 0))) := ⟨blk_below K4.out H8.out.2⟩
     have b0 : w8.cell? ⟨p3, 0, none⟩ = some (.bool false) := (blk_cell Z3.out 0).trans rfl
     have b1 : w8.cell? ⟨p3, 1, none⟩ = some (.slice (some ad) n c) := (blk_cell Z3.out 1).trans rfl
     have bz : ∀ j, w8.frozen? ⟨p3, j, none⟩ = false := blk_frozen Z3.out
     go_wp2_with fail
     have Y3 := blk_put (blk_put Z3.out 0 (.bool false) rfl) 1 (.slice (some ad8) n8 c8) rfl
     have VV := (H8.out.1.set Z3.out (by decide) 0 (.bool false)).set (blk_put Z3.out 0 (.bool false) rfl) (by decide) 1 (.slice (some ad8) n8 c8)
     have V2' := (((V2.out.below H8.out.2).set Z3.out (by decide) 0 (.bool false)).set (blk_put Z3.out 0 (.bool false) rfl) (by decide) 1 (.slice (some ad8) n8 c8))
     have Y4 := blk_far (blk_far Z4.out (p := ⟨p3, 0, none⟩) P4.out.symm (.bool false)) (p := ⟨p3, 1, none⟩) P4.out.symm (.slice (some ad8) n8 c8)
     have Y5 := ((K5.out.trans (H8.out.2.mono K5.out.size)).setCell (p := ⟨p3, 0, none⟩) P3.out (.bool false)).setCell (p := ⟨p3, 1, none⟩) P3.out (.slice (some ad8) n8 c8)
     rw [show 2 * (a * 2 ^ i) = a * 2 ^ (i + 1) by rw [Int.pow_succ, Int.mul_comm 2, Int.mul_assoc]] at VV
     exact ⟨⟨i + 1, by omega, by go_num, ⟨_, ad8, n8, c8, rfl, VV, V2', Y3, Y4, Y5⟩⟩, by simp [intOf]; omega⟩
   ·obtain rfl : t = i := by omega
    go_wp2_with fail
    clear b0 b1
    refine (short_any wr _ _ V1.out).mono ?_
    rintro _ w8 ⟨rfl, B8'⟩
    have B8 := Aside0.mk (K5.out.trans (B8'.mono K5.out.size))
    clear B8'
    rw [← QQ.out]
    obtain ⟨q, hq⟩ : ∃ q, q = qP x := ⟨_, rfl⟩
    rw [← hq] at CP ⊢
    by_cases h1 : q ≤ 9223372036854775807
    ·rw [if_pos h1, decide_eq_true h1]
     by_cases h2 : 1048576 < q
     ·have g : decide (q > 1048576) = true := decide_eq_true h2
      have g2 : decide (1048576 < q) = true := decide_eq_true h2
      have E : Aside0 (r1 = 0 ∧ r2 = 24) := ⟨by
       have h8 := CP.out
       rw [if_pos h2] at h8
       injection h8 with h8 h9
       exact ⟨h8, h9⟩⟩
      obtain ⟨e1, e2⟩ := E.out
      subst e1
      subst e2
      clear h1 h2 hq E
      go_wp2_with fail
      go_ret2
      exact ⟨rfl, B8.out⟩
     ·have g : decide (q > 1048576) = false := decide_eq_false h2
      have g2 : decide (1048576 < q) = false := decide_eq_false h2
      have E : Aside0 (r1 = q ∧ r2 = 0) := ⟨by
       have h8 := CP.out
       rw [if_neg h2] at h8
       injection h8 with h8 h9
       exact ⟨h8, h9⟩⟩
      obtain ⟨e1, e2⟩ := E.out
      subst e1
      subst e2
      clear h1 h2 hq E
      go_wp2_with fail
      go_ret2
      exact ⟨rfl, B8.out⟩
    ·rw [if_neg h1, decide_eq_false h1]
     have E : Aside0 (r1 = 0 ∧ r2 = 24) := ⟨by
      have h8 := CP.out
      rw [if_pos (by omega)] at h8
      injection h8 with h8 h9
      exact ⟨h8, h9⟩⟩
     obtain ⟨e1, e2⟩ := E.out
     subst e1
     subst e2
     clear h1 hq E
     go_wp2_with fail
     go_ret2
     exact ⟨rfl, B8.out⟩
 ·have CP : Aside0 (r1 = 0 ∧ r2 = chk x) := ⟨by
   have h1 := hr.out
   unfold cellsP at h1
   rw [if_neg hc] at h1
   injection h1 with h1 h2
   exact ⟨h1.symm, h2.symm⟩⟩
  obtain ⟨z, hz⟩ : ∃ z, z = chk x := ⟨_, rfl⟩
  rw [← hz] at hc CP ⊢
  have g : (z == 0) = false := by simpa using hc
  obtain ⟨e1, e2⟩ := CP.out
  subst e1
  subst e2
  clear hc hz CP
  go_wp2_with fail
  go_ret2
  exact ⟨rfl, B2.out⟩
end Go.Proofs.Ytelabmhhnpfegaa.Hand
end
