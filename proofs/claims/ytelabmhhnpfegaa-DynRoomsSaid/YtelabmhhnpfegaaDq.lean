/- The document's numbers: Short, walked. -/
import Derived.Test.YtelabmhhnpfegaaDp
import Derived.Test.YtelabmhhnpfegaaDka
namespace Go.Proofs.Ytelabmhhnpfegaa.Hand
open Go.RowKit Go.Proofs.YtelabmhhnpfegaaW.PrintWords Go.Proofs.YtelabmhhnpfegaaW.PrintLast Go.Proofs.YtelabmhhnpfegaaW.PrintMore Go.Proofs.Ytelabmhhnpfegaa.PDynCells
theorem bval_append : ∀ (a b : List Int), bval (a ++ b) = bval a + 65536 ^ a.length * bval b
  | [], b => by simp [bval]
  | d :: t, b => by
    rw [List.cons_append, bval, bval, bval_append t b, List.length_cons, Int.pow_succ, Int.mul_add, Int.add_assoc]
    congr 2
    rw [← Int.mul_assoc, Int.mul_comm 65536]
theorem bval_bd : ∀ (l : List Int), (∀ d ∈ l, 0 ≤ d ∧ d < 65536) → 0 ≤ bval l ∧ bval l < 65536 ^ l.length
  | [], _ => by simp [bval]
  | d :: t, h => by
    have ih := bval_bd t (fun d hd => h d (List.mem_cons_of_mem _ hd))
    have h0 := h d List.mem_cons_self
    rw [bval, List.length_cons, Int.pow_succ]
    generalize (65536 : Int) ^ t.length = P at ih ⊢
    omega
theorem split_at {l : List Int} {i : Nat} (hi : i < l.length) : bval l = bval (l.take i) + 65536 ^ i * (l.getD i 0 + 65536 * bval (l.drop (i + 1))) := by
  conv => lhs; rw [← List.take_append_drop i l]
  rw [bval_append, List.length_take, Nat.min_eq_left (by omega), drop_cons hi 0, bval]
theorem getD_mem {l : List Int} {i : Nat} (hi : i < l.length) : l.getD i 0 ∈ l := by
  rw [List.getD_eq_getElem?_getD, List.getElem?_eq_getElem hi, Option.getD_some]
  exact List.getElem_mem _
theorem Dg.low {D : List Int} {m : Int} (h : Dg D m) (hn : D.length ≠ 0) : 65536 ^ (D.length - 1) ≤ m := by
  have hi : D.length - 1 < D.length := by omega
  have h1 := split_at hi
  have h2 := bval_bd (D.take (D.length - 1)) (fun d hd => h.dig d (List.mem_of_mem_take hd))
  have h3 := (h.dig _ (getD_mem hi)).1
  have h4 : D.getD (D.length - 1) 0 ≠ 0 := by
    rcases h.top with e | e
    · exact absurd e hn
    · exact e
  rw [List.drop_of_length_le (by omega), bval, Int.mul_zero, Int.add_zero, h.val] at h1
  have h5 : (65536 : Int) ^ (D.length - 1) * 1 ≤ 65536 ^ (D.length - 1) * D.getD (D.length - 1) 0 := Int.mul_le_mul_of_nonneg_left (by omega) (Int.le_of_lt (Int.pow_pos (by omega)))
  rw [Int.mul_one] at h5
  omega
theorem Dg.high {D : List Int} {m : Int} (h : Dg D m) : 0 ≤ m ∧ m < 65536 ^ D.length := by
  rw [← h.val]
  exact bval_bd D h.dig
theorem pow_mono {a b : Nat} (h : a ≤ b) : (65536 : Int) ^ a ≤ 65536 ^ b := by
  have h1 : 65536 ^ a ≤ 65536 ^ b := Nat.pow_le_pow_right (by omega) h
  have h2 := Int.ofNat_le.2 h1
  rwa [Int.natCast_pow, Int.natCast_pow] at h2
theorem Dg.shorter {D E : List Int} {m M : Int} (h : Dg D m) (k : Dg E M) (hl : D.length < E.length) : m < M := by
  have h1 := h.high.2
  have h2 := k.low (by omega)
  have h3 := pow_mono (show D.length ≤ E.length - 1 by omega)
  omega
def cmpI (m M : Int) : Int := if m < M then -1 else if M < m then 1 else 0
theorem far_l {D E : List Int} {n1 n2 : Bool} (hD : ∀ d ∈ D, 0 ≤ d ∧ d < 65536) (hE : ∀ d ∈ E, 0 ≤ d ∧ d < 65536) (hl : D.length = E.length) (hb : D.length ≤ 1000) :
    ∀ i, i ≤ D.length → D.drop i = E.drop i → ∃ k, secateurref01_far.l0 k ((i : Int) - 1) n1 D n2 E = some (cmpI (bval D) (bval E))
  | 0, _, h => by
    refine ⟨1, ?_⟩
    rw [List.drop_zero, List.drop_zero] at h
    subst h
    rw [secateurref01_far.l0, if_neg (by omega)]
    unfold cmpI
    simp
  | i + 1, hi, h => by
    have e1 : (((i + 1 : Nat) : Int) - 1) = (i : Int) := by omega
    have g1 : rd D (i : Int) = D.getD i 0 := by unfold rd; rw [Int.toNat_natCast]
    have g2 : rd E (i : Int) = E.getD i 0 := by unfold rd; rw [Int.toNat_natCast]
    have s1 := split_at (l := D) (i := i) (by omega)
    have s2 := split_at (l := E) (i := i) (by omega)
    have b1 := bval_bd (D.take i) (fun d hd => hD d (List.mem_of_mem_take hd))
    have b2 := bval_bd (E.take i) (fun d hd => hE d (List.mem_of_mem_take hd))
    rw [List.length_take, Nat.min_eq_left (by omega)] at b1 b2
    rw [← h] at s2
    rw [Int.mul_add] at s1 s2
    have hp : (0 : Int) < 65536 ^ i := Int.pow_pos (by omega)
    have key : ∀ x y : Int, x < y → (65536 : Int) ^ i * x + 65536 ^ i ≤ 65536 ^ i * y := fun x y hxy => by
      have h1 : (65536 : Int) ^ i * (x + 1) ≤ 65536 ^ i * y := Int.mul_le_mul_of_nonneg_left (by omega) (Int.le_of_lt hp)
      rw [Int.mul_add, Int.mul_one] at h1
      exact h1
    rw [e1]
    by_cases h1 : D.getD i 0 < E.getD i 0
    · refine ⟨1, ?_⟩
      rw [secateurref01_far.l0, if_pos (by omega), if_pos (by omega), if_pos (by omega), if_pos (by omega), g1, g2, if_pos h1]
      unfold cmpI
      have := key _ _ h1
      rw [if_pos (by omega)]
    · by_cases h2 : D.getD i 0 > E.getD i 0
      · refine ⟨1, ?_⟩
        rw [secateurref01_far.l0, if_pos (by omega), if_pos (by omega), if_pos (by omega), if_pos (by omega), g1, g2, if_neg h1, if_pos h2]
        unfold cmpI
        have := key _ _ h2
        rw [if_neg (by omega), if_pos (by omega)]
      · obtain ⟨k, hk⟩ := far_l (n1 := n1) (n2 := n2) hD hE hl hb i (by omega) (by
          rw [drop_cons (l := D) (by omega) 0, drop_cons (l := E) (by omega) 0, h]
          congr 1
          omega)
        refine ⟨k + 1, ?_⟩
        have hw : wrap64 ((i : Int) - 1) = (i : Int) - 1 := by unfold wrap64; omega
        rw [secateurref01_far.l0, if_pos (by omega), if_pos (by omega), if_pos (by omega), if_pos (by omega), g1, g2, if_neg h1, if_neg h2, hw, hk]
theorem far_f {D E : List Int} {m M : Int} {n1 n2 : Bool} (h : Dg D m) (k : Dg E M) (hb : D.length ≤ 1000) : ∃ j, secateurref01_far.f j n1 D n2 E = some (cmpI m M) := by
  unfold secateurref01_far.f
  by_cases hl : D.length = E.length
  · obtain ⟨j, hj⟩ := far_l (n1 := n1) (n2 := n2) h.dig k.dig hl hb D.length (Nat.le_refl _) (by rw [List.drop_length, hl, List.drop_length])
    refine ⟨j, ?_⟩
    have hw : wrap64 ((D.length : Int) - 1) = (D.length : Int) - 1 := by unfold wrap64; omega
    rw [if_pos (by omega), hw, hj, h.val, k.val]
  · refine ⟨0, ?_⟩
    rw [if_neg (by omega)]
    unfold cmpI
    by_cases h1 : D.length < E.length
    · have := h.shorter k h1
      rw [if_pos (by omega), if_pos this]
    · have := k.shorter h (by omega)
      rw [if_neg (by omega), if_neg (by omega), if_pos this]
/-- Cmp of numbers from 0 on. -/
theorem cmp_any (w : World) (m M : Int) (va vb : Value) (ha : BigV w false m va) (hb : BigV w false M vb) : Calls Try.prog 88 #[va, vb] w fun e w' => e = .returned (.int .i64 (cmpI m M)) ∧ Below w.heap.size w w' := by
  obtain ⟨ad, n, c, D, rfl, hc, hn, rfl, HC, hdg, _⟩ := ha
  obtain ⟨ad2, n2, c2, D2, rfl, hc2, hn2, rfl, HC2, hdg2, _⟩ := hb
  obtain ⟨j, hj⟩ := far_f (n1 := false) (n2 := false) hdg hdg2 hn
  refine secateurref01_Cmp.calls j false _ _ D false _ _ D2 _ w HC hc HC2 hc2 ?_
  unfold secateurref01_Cmp.f
  rw [if_neg (by decide), hj, Option.bind_some, if_neg (by decide)]
theorem cmp_low (w : World) (m M : Int) (va vb : Value) (ha : BigV w false m va) (hb : BigV w true M vb) : Calls Try.prog 88 #[va, vb] w fun e w' => e = .returned (.int .i64 1) ∧ Below w.heap.size w w' := by
  obtain ⟨ad, n, c, D, rfl, hc, hn, rfl, HC, hdg, _⟩ := ha
  obtain ⟨ad2, n2, c2, D2, rfl, hc2, hn2, rfl, HC2, hdg2, _⟩ := hb
  refine secateurref01_Cmp.calls 0 false _ _ D true _ _ D2 _ w HC hc HC2 hc2 ?_
  unfold secateurref01_Cmp.f
  rw [if_pos (by decide), if_neg (by decide)]
set_option maxHeartbeats 400000 in
set_option maxRecDepth 100000 in
theorem short_any' (w : World) (m : Int) (va : Value) (ha : BigV w false m va) (r : Int) (b : Bool) (h1 : Aside0 (m ≤ 9223372036854775807 → r = m ∧ b = true)) (h2 : Aside0 (9223372036854775807 < m → r = 0 ∧ b = false)) :
    Calls Try.prog 52 #[va] w fun e w' => e = .returned (.tuple #[.int .i64 r, .bool b]) ∧ Below w.heap.size w w' := by
  have hA' := Aside0.mk ha
  have hA := hA'
  obtain ⟨ad, n, c, D, rfl, hc, hn, hD, HC, hdg, _⟩ := ha
  have DG := Aside0.mk hdg
  have HN := Aside0.mk hD
  have HA := Aside0.mk HC
  clear hdg hD HC
  have hu111 := Try.underlying111
  go_enter Try.func52, Try.ntmps52
  go_wp2_with fail
  obtain ⟨W1, hW1⟩ : ∃ W, W = w.alloc (.cells #[.bool false, .slice (some ad) n c] 111) := ⟨_, rfl⟩
  rw [← hW1]
  have B1 : Aside0 (Below w.heap.size w W1) := ⟨by rw [hW1]; exact below_alloc (Below.refl _ _) _⟩
  obtain ⟨p1, hp1⟩ : ∃ p, p = w.heap.size := ⟨_, rfl⟩
  have Q1 : Aside0 (W1.heap[p1]? = some (.cells #[.bool false, .slice (some ad) n c] 111 (0, 0))) := ⟨by rw [hW1, hp1]; exact heap_alloc_new _ _⟩
  rw [← hp1]
  clear hW1 hp1
  refine (of_low W1).mono ?_
  rintro _ W2 ⟨v2, rfl, H2⟩
  obtain ⟨ad2, n2, c2, D2, rfl, _⟩ := id H2.out.1
  go_wp2_with fail
  clear hA
  obtain ⟨W3, hW3⟩ : ∃ W, W = W2.alloc (.cells #[.bool true, .slice (some ad2) n2 c2] 111) := ⟨_, rfl⟩
  rw [← hW3]
  have B3 : Aside0 (Below W2.heap.size W2 W3) := ⟨by rw [hW3]; exact below_alloc (Below.refl _ _) _⟩
  obtain ⟨p2, hp2⟩ : ∃ p, p = W2.heap.size := ⟨_, rfl⟩
  have Q3 : Aside0 (W3.heap[p2]? = some (.cells #[.bool true, .slice (some ad2) n2 c2] 111 (0, 0))) := ⟨by rw [hW3, hp2]; exact heap_alloc_new _ _⟩
  rw [← hp2]
  clear hW3 hp2
  refine (of_pos W3 9223372036854775807 (by omega) (by omega)).mono ?_
  rintro _ W4 ⟨v4, rfl, H4⟩
  obtain ⟨ad4, n4, c4, D4, rfl, _⟩ := id H4.out.1
  go_upto_region 3 with fail
  obtain ⟨W5, hW5⟩ : ∃ W, W = W4.alloc (.cells #[.bool false, .slice (some ad4) n4 c4] 111) := ⟨_, rfl⟩
  rw [← hW5]
  have B5 : Aside0 (Below W4.heap.size W4 W5) := ⟨by rw [hW5]; exact below_alloc (Below.refl _ _) _⟩
  obtain ⟨p3, hp3⟩ : ∃ p, p = W4.heap.size := ⟨_, rfl⟩
  have Q5 : Aside0 (W5.heap[p3]? = some (.cells #[.bool false, .slice (some ad4) n4 c4] 111 (0, 0))) := ⟨by rw [hW5, hp3]; exact heap_alloc_new _ _⟩
  rw [← hp3]
  clear hW5 hp3
  have B25 : Aside0 (Below W2.heap.size W2 W5) := ⟨B3.out.trans ((H4.out.2.trans (B5.out.mono H4.out.2.size)).mono B3.out.size)⟩
  have B15 : Aside0 (Below W1.heap.size W1 W5) := ⟨H2.out.2.trans (B25.out.mono H2.out.2.size)⟩
  have B05 : Aside0 (Below w.heap.size w W5) := ⟨B1.out.trans (B15.out.mono B1.out.size)⟩
  have R1 : Aside0 (W5.heap[p1]? = some (.cells #[.bool false, .slice (some ad) n c] 111 (0, 0))) := ⟨blk_below Q1.out B15.out⟩
  have R2 : Aside0 (W5.heap[p2]? = some (.cells #[.bool true, .slice (some ad2) n2 c2] 111 (0, 0))) := ⟨blk_below (blk_below Q3.out H4.out.2) B5.out⟩
  have V1 := Aside0.mk (hA'.out.below B05.out)
  have V2 := Aside0.mk (H2.out.1.below B25.out)
  have V4 := Aside0.mk (H4.out.1.below B5.out)
  have a0 : W5.cell? ⟨p1, 0, none⟩ = some (.bool false) := (blk_cell R1.out 0).trans rfl
  have a1 : W5.cell? ⟨p1, 1, none⟩ = some (.slice (some ad) n c) := (blk_cell R1.out 1).trans rfl
  have b0 : W5.cell? ⟨p2, 0, none⟩ = some (.bool true) := (blk_cell R2.out 0).trans rfl
  have b1 : W5.cell? ⟨p2, 1, none⟩ = some (.slice (some ad2) n2 c2) := (blk_cell R2.out 1).trans rfl
  go_wp2_with fail
  clear a0 a1 b0 b1
  refine (cmp_low W5 m _ _ _ V1.out V2.out).mono ?_
  rintro _ W6 ⟨rfl, B6'⟩
  have B6 := Aside0.mk B6'
  clear B6'
  have S1 : Aside0 (W6.heap[p1]? = some (.cells #[.bool false, .slice (some ad) n c] 111 (0, 0))) := ⟨blk_below R1.out B6.out⟩
  have S2 : Aside0 (W6.heap[p3]? = some (.cells #[.bool false, .slice (some ad4) n4 c4] 111 (0, 0))) := ⟨blk_below Q5.out B6.out⟩
  have a0 : W6.cell? ⟨p1, 0, none⟩ = some (.bool false) := (blk_cell S1.out 0).trans rfl
  have a1 : W6.cell? ⟨p1, 1, none⟩ = some (.slice (some ad) n c) := (blk_cell S1.out 1).trans rfl
  have b0 : W6.cell? ⟨p3, 0, none⟩ = some (.bool false) := (blk_cell S2.out 0).trans rfl
  have b1 : W6.cell? ⟨p3, 1, none⟩ = some (.slice (some ad4) n4 c4) := (blk_cell S2.out 1).trans rfl
  go_wp2_with fail
  clear a0 a1 b0 b1
  refine (cmp_any W6 m 9223372036854775807 _ _ (V1.out.below B6.out) (V4.out.below B6.out)).mono ?_
  rintro _ W7 ⟨rfl, B7'⟩
  have B7 := Aside0.mk (B05.out.trans ((B6.out.trans (B7'.mono B6.out.size)).mono B05.out.size))
  have T1 : Aside0 (W7.heap[p1]? = some (.cells #[.bool false, .slice (some ad) n c] 111 (0, 0))) := ⟨blk_below S1.out B7'⟩
  clear B7'
  obtain ⟨z, hz⟩ : ∃ z, z = cmpI m 9223372036854775807 := ⟨_, rfl⟩
  rw [← hz]
  have a0 : W7.cell? ⟨p1, 0, none⟩ = some (.bool false) := (blk_cell T1.out 0).trans rfl
  have a1 : W7.cell? ⟨p1, 1, none⟩ = some (.slice (some ad) n c) := (blk_cell T1.out 1).trans rfl
  by_cases hm : m ≤ 9223372036854775807
  · have hz0 : decide (z > 0) = false := decide_eq_false (by
      rw [hz]; unfold cmpI; split
      · decide
      · rw [if_neg (by omega)]; decide)
    have hz1 : decide (0 < z) = false := hz0
    have HM := Aside0.mk hm
    obtain ⟨e1, e2⟩ := h1.out hm
    subst e1
    subst e2
    clear hz hm h1 h2
    go_wp2_with fail
    have K0 : Aside0 (bval (D.drop n) = 0) := ⟨by rw [List.drop_of_length_le (by rw [HN.out]; exact Nat.le_refl _)]; rfl⟩
    go_loop [8, 9] (fun v8 v9 => ∃ (i : Nat) (s : Int), i ≤ n ∧ v8 = .int .i64 s ∧ v9 = .int .i64 ((i : Int) - 1) ∧ Aside0 (bval (D.drop i) = s)) (fun _ v9 => (intOf v9 + 1).toNat)
    case atStart => exact ⟨n, 0, Nat.le_refl _, rfl, by first | rfl | (congr 1; unfold wrap64; omega), K0⟩
    case round =>
      clear K0
      obtain ⟨i, s, hi, rfl, rfl, KB⟩ := hrel
      rcases Nat.eq_zero_or_pos i with h0 | h0
      · subst h0
        have E : Aside0 (r = s) := ⟨by rw [← KB.out, List.drop_zero, DG.out.val]⟩
        go_wp2_with fail
        go_ret2
        exact ⟨by rw [E.out]; rfl, B7.out⟩
      · obtain ⟨j, rfl⟩ : ∃ j, i = j + 1 := ⟨i - 1, by omega⟩
        obtain ⟨ae, e, hx'⟩ := at_U HA.out j (by omega)
        injection e with e
        subst e
        have hx := pw_cell_below B7.out hx'
        clear hx'
        have hj : j < D.length := by rw [HN.out]; omega
        have hd := DG.out.dig _ (getD_mem hj)
        obtain ⟨d, hd0⟩ : ∃ d, d = D.getD j 0 := ⟨_, rfl⟩
        rw [← hd0] at hx hd
        have N1 : Aside0 (bval (D.drop j) = s * 65536 + d) := ⟨by rw [drop_cons hj 0, bval, KB.out, hd0]; omega⟩
        have bd : 0 ≤ s ∧ s * 65536 + d ≤ 9223372036854775807 := by
          have h1 := bval_bd (D.drop (j + 1)) (fun d hd => DG.out.dig d (List.mem_of_mem_drop hd))
          rw [KB.out] at h1
          have h2 := bval_append (D.take j) (D.drop j)
          rw [List.take_append_drop, DG.out.val, N1.out] at h2
          have h3 := bval_bd (D.take j) (fun d hd => DG.out.dig d (List.mem_of_mem_take hd))
          have h4 : (1 : Int) * (s * 65536 + d) ≤ 65536 ^ (D.take j).length * (s * 65536 + d) := Int.mul_le_mul_of_nonneg_right (by have := pow_mono (Nat.zero_le (D.take j).length); rwa [Int.pow_zero] at this) (by omega)
          rw [Int.one_mul] at h4
          exact ⟨h1.1, Int.le_trans h4 (Int.le_trans (by omega) HM.out)⟩
        obtain ⟨b0, b1⟩ := bd
        obtain ⟨d0, d1⟩ := hd
        have w1 : wrap64 (((j + 1 : Nat) : Int) - 1) = (j : Int) := by unfold wrap64; omega
        have w2 : ((j : Int) + 1 - 1) = (j : Int) := by omega
        clear hd0
        have jn : j < n := by omega
        go_wp2_with fail
        exact ⟨⟨j, s * 65536 + d, by omega, rfl, rfl, N1⟩, by simp [intOf]⟩
  · have hz0 : decide (z > 0) = true := decide_eq_true (by
      rw [hz]; unfold cmpI; rw [if_neg (by omega), if_pos (by omega)]; decide)
    have hz1 : decide (0 < z) = true := hz0
    obtain ⟨e1, e2⟩ := h2.out (by omega)
    subst e1
    subst e2
    clear hz hm h1 h2
    go_wp2_with fail
    go_ret2
    exact ⟨rfl, B7.out⟩
theorem short_any (w : World) (m : Int) (va : Value) (ha : BigV w false m va) :
    Calls Try.prog 52 #[va] w fun e w' => e = .returned (.tuple #[.int .i64 (if m ≤ 9223372036854775807 then m else 0), .bool (decide (m ≤ 9223372036854775807))]) ∧ Below w.heap.size w w' :=
  short_any' w m va ha _ _ ⟨fun h => ⟨if_pos h, decide_eq_true h⟩⟩ ⟨fun h => ⟨if_neg (by omega), decide_eq_false (by omega)⟩⟩
end Go.Proofs.Ytelabmhhnpfegaa.Hand
