/- Answers: rises and order, in plain Lean and walked. -/
import Derived.Test.YtofomlpdklhigaaGreatDoorKf
import Derived.Test.YtofomlpdklhigaaGreatDoorDh
namespace Go.Proofs.YtofomlpdklhigaaGreatDoor.Hand
open Go.RowKit Go.Proofs.YtofomlpdklhigaaGreatDoorW.PrintWords Go.Proofs.YtofomlpdklhigaaGreatDoorW.PrintLast Go.Proofs.YtofomlpdklhigaaGreatDoorW.PrintMore Go.Proofs.YtofomlpdklhigaaGreatDoor.PSigns
set_option linter.unusedVariables false
set_option linter.unusedSimpArgs false
set_option maxHeartbeats 1000000 in
set_option maxRecDepth 100000 in
theorem rises_any (w : World) (A : Option Addr) (n c : Nat) (xs : List Int) (N : Int) (hC : (Kd.int .i64).C w A n xs) (hn : n ≤ 17592186044416) (r : Bool) (RR : r = ascB N (-1) xs) :
    Calls Tryz.prog 92 #[.slice A n c, .int .i64 N] w fun e w' => e = .returned (.bool r) ∧ w = w' := by
  have HC := Aside0.mk hC
  have HL : Aside0 (xs.length = n) := ⟨hC.1⟩
  have HR := Aside0.mk RR
  clear hC RR
  go_enter Tryz.func92, Tryz.ntmps92
  go_wp2_with fail
  have J0 : Aside0 (ascB N (-1) (xs.take 0) = true) := ⟨rfl⟩
  go_loop [5, 10] (fun v5 v => ∃ (j : Nat) (last : Int), j ≤ n ∧ v5 = .int .i64 last ∧ v = .int .i64 j ∧ Aside0 (ascB N (-1) (xs.take j) = true ∧ last = if j = 0 then -1 else xs.getD (j - 1) 0)) (fun _ v => n - (intOf v).toNat)
  case atStart => exact ⟨0, -1, Nat.zero_le _, rfl, rfl, ⟨J0.out, rfl⟩⟩
  case round =>
    clear J0
    obtain ⟨j, last, hj, rfl, rfl, KJ⟩ := hrel
    by_cases hlt : j < n
    · obtain ⟨ae, rfl, hx⟩ := at_Int HC.out j hlt
      have NZ := Aside0.mk (asc_take N xs j (-1) (by rw [HL.out]; exact hlt))
      obtain ⟨z, hz⟩ : ∃ z, z = xs.getD j 0 := ⟨_, rfl⟩
      rw [← hz] at hx
      have HZ := Aside0.mk hz
      clear hz
      have NN : Aside0 (ascB N (-1) (xs.take (j + 1)) = !(decide (z ≤ last) || decide (z ≥ N))) := ⟨by
        rw [NZ.out, KJ.out.1, Bool.true_and, ← HZ.out, ← KJ.out.2]⟩
      have BAD : Aside0 (ascB N (-1) (xs.take (j + 1)) = false → r = false) := ⟨fun hb => by
        rw [HR.out, Bool.eq_false_iff]
        intro ha
        have := asc_short N xs (-1) (j + 1) ha
        rw [hb] at this
        cases this⟩
      cases g1 : decide (z ≤ last) with
      | true =>
        have N1 : Aside0 (r = false) := ⟨BAD.out (by rw [NN.out, g1]; rfl)⟩
        go_wp2_with fail
        go_ret
        exact ⟨by rw [N1.out]; rfl, rfl⟩
      | false =>
        cases g2 : decide (z ≥ N) with
        | true =>
          have g3 : decide (N ≤ z) = true := g2
          have N1 : Aside0 (r = false) := ⟨BAD.out (by rw [NN.out, g1, g2]; rfl)⟩
          go_wp2_with fail
          go_ret
          exact ⟨by rw [N1.out]; rfl, rfl⟩
        | false =>
          have g3 : decide (N ≤ z) = false := g2
          have N1 : Aside0 (ascB N (-1) (xs.take (j + 1)) = true ∧ z = if j + 1 = 0 then -1 else xs.getD (j + 1 - 1) 0) := ⟨by rw [NN.out, g1, g2]; rfl, by rw [if_neg (by omega), Nat.add_sub_cancel]; exact HZ.out⟩
          go_wp2_with fail
          exact ⟨⟨j + 1, z, by omega, rfl, by go_num, N1⟩, by simp [intOf]; omega⟩
    · obtain rfl : n = j := by omega
      have N1 : Aside0 (r = true) := ⟨by
        have h1 := KJ.out.1
        rw [List.take_of_length_le (by rw [HL.out]; exact Nat.le_refl _)] at h1
        rw [HR.out, h1]⟩
      go_wp2_with fail
      go_ret
      exact ⟨by rw [N1.out]; rfl, rfl⟩
/-- All numbers below n, each once. -/
def ordB (xs : List Int) (n : Nat) : Bool := decide (xs.length = n) && (List.range n).all fun k => decide ((k : Int) ∈ xs)
theorem count_full (p : Nat → Bool) (n : Nat) : (List.range n).countP p = n ↔ (List.range n).all p = true := by
  rw [List.all_eq_true]
  have := List.countP_eq_length (p := p) (l := List.range n)
  rw [List.length_range] at this
  exact this
theorem dup_short : ∀ (n : Nat) (xs : List Int), (∀ k, k < n → (k : Int) ∈ xs) → n ≤ xs.length
  | 0, _, _ => Nat.zero_le _
  | n + 1, xs, h => by
    have h1 := dup_short n (xs.erase (n : Int)) (fun k hk => (List.mem_erase_of_ne (by omega)).2 (h k (by omega)))
    have h2 := List.length_erase_of_mem (h n (Nat.lt_succ_self n))
    have h3 : 0 < xs.length := List.length_pos_of_mem (h n (Nat.lt_succ_self n))
    omega
/-- A number that is there twice: too few others. -/
theorem ord_dup {xs : List Int} {n j k : Nat} (hk : k < n) (hj : j < xs.length) (hx : xs.getD j 0 = (k : Int)) (hd : (k : Int) ∈ xs.take j) : ordB xs n = false := by
  rw [Bool.eq_false_iff]
  intro h
  unfold ordB at h
  simp only [Bool.and_eq_true, decide_eq_true_eq, List.all_eq_true, List.mem_range] at h
  obtain ⟨h1, h2⟩ := h
  have h3 := dup_short n (xs.take j ++ xs.drop (j + 1)) (fun i hi => by
    have hm := h2 i hi
    rw [← List.take_append_drop j xs, drop_cons hj 0, List.mem_append, List.mem_cons] at hm
    rw [List.mem_append]
    rcases hm with hm | hm | hm
    · exact .inl hm
    · rw [hx] at hm
      rw [hm]
      exact .inl hd
    · exact .inr hm)
  rw [List.length_append, List.length_take, List.length_drop] at h3
  omega
def inP (xs : List Int) (n k : Nat) : Bool := decide (k < n) && decide ((k : Int) ∈ xs)
theorem inP_snoc (L : List Int) (n k : Nat) (z : Int) : (inP L n k || (decide (0 ≤ z) && decide (z < (n : Int)) && decide (k = z.toNat))) = inP (L ++ [z]) n k := by
  unfold inP
  simp only [List.mem_append, List.mem_singleton]
  by_cases h1 : k < n
  · by_cases h2 : (k : Int) ∈ L
    · simp [h1, h2]
    · by_cases h3 : (k : Int) = z
      · have h4 : k = z.toNat := by omega
        have h5 : 0 ≤ z := by omega
        have h6 : z < (n : Int) := by omega
        rw [decide_eq_true h5, decide_eq_true h6, decide_eq_true h4]
        simp [h1, h3]
      · by_cases h5 : 0 ≤ z
        · have h6 : k ≠ z.toNat := by omega
          simp [h1, h2, h3, h6]
        · simp [h1, h2, h3, h5]
  · by_cases h5 : z < (n : Int)
    · by_cases h6 : 0 ≤ z
      · have h7 : k ≠ z.toNat := by omega
        simp [h1, h7]
      · simp [h1, h6]
    · simp [h1, h5]
theorem count_in (L : List Int) (n : Nat) : (List.range n).countP (inP L n) = n ↔ (List.range n).all (fun k => decide ((k : Int) ∈ L)) = true := by
  rw [count_full, List.all_eq_true, List.all_eq_true]
  constructor
  · intro h k hk
    have h3 := h k hk
    unfold inP at h3
    simp only [Bool.and_eq_true, decide_eq_true_eq] at h3
    exact decide_eq_true h3.2
  · intro h k hk
    have h2 := List.mem_range.1 hk
    have h3 := h k hk
    unfold inP
    simpa [h2] using h3
set_option maxHeartbeats 1000000 in
set_option maxRecDepth 100000 in
theorem order_any (w : World) (A : Option Addr) (m c : Nat) (xs : List Int) (n : Nat) (hC : (Kd.int .i64).C w A m xs) (hm : m ≤ 17592186044416) (hn : n ≤ 4096) (r : Bool) (RR : r = ordB xs n) :
    Calls Tryz.prog 94 #[.slice A m c, .int .i64 (n : Int)] w fun e w' => e = .returned (.bool r) ∧ Aside0 (Below w.heap.size w w') := by
  have HC := Aside0.mk hC
  have HL : Aside0 (xs.length = m) := ⟨hC.1⟩
  have HR := Aside0.mk RR
  have hu197 := Tryz.underlying189
  clear hC RR
  go_enter Tryz.func94, Tryz.ntmps94
  go_wp2_with fail
  refine (new_any w n hn).mono ?_
  rintro _ w2 ⟨vs, rfl, H2⟩
  obtain ⟨g0, cc, ws, rfl, hc0, hw0⟩ := H2.out.1
  go_upto_region 2 with fail
  obtain ⟨nw, hnw⟩ : ∃ q, q = ws.length := ⟨_, rfl⟩
  obtain ⟨W3, hW3⟩ : ∃ W, W = w2.alloc (.cells #[.int .i64 (n : Int), .slice (some ⟨g0, 0, none⟩) ws.length cc] 189) := ⟨_, rfl⟩
  rw [← hW3]
  obtain ⟨p5, hp5⟩ : ∃ p, p = w2.heap.size := ⟨_, rfl⟩
  have B3 : Aside0 (Below w.heap.size w W3) := ⟨by rw [hW3]; exact H2.out.2.alloc H2.out.2.size _⟩
  have G5 : Aside0 (w.heap.size ≤ p5) := ⟨by rw [hp5]; exact H2.out.2.size⟩
  have K0 : Aside0 (∃ (g q cc : Nat), W3.heap[p5]? = some (.cells #[.int .i64 (n : Int), .slice (some ⟨g, 0, none⟩) q cc] 189 (0, 0)) ∧ BS W3 (.agg #[.int .i64 (n : Int), .slice (some ⟨g, 0, none⟩) q cc]) n (inP (xs.take 0) n) ∧ Below w.heap.size w W3) := ⟨g0, ws.length, cc, by rw [hW3, hp5]; exact heap_alloc_new _ _, by
    rw [hW3]
    exact (BS.below (v := .agg #[.int .i64 (n : Int), .slice (some ⟨g0, 0, none⟩) ws.length cc]) ⟨g0, cc, ws, rfl, hc0, hw0⟩ (below_alloc (Below.refl _ _) _)).same (fun k => by unfold inP; simp), B3.out⟩
  rw [← hp5]
  clear hW3 hp5 hc0 hw0 hnw H2
  go_wp2_with fail
  go_loopw [16] (fun v16 wr => ∃ j : Nat, j ≤ m ∧ v16 = .int .i64 (j : Int) ∧ Aside0 (∃ (g q cc : Nat), wr.heap[p5]? = some (.cells #[.int .i64 (n : Int), .slice (some ⟨g, 0, none⟩) q cc] 189 (0, 0)) ∧ BS wr (.agg #[.int .i64 (n : Int), .slice (some ⟨g, 0, none⟩) q cc]) n (inP (xs.take j) n) ∧ Below w.heap.size w wr)) (fun v16 _ => m - (intOf v16).toNat)
  case atStart => exact ⟨0, Nat.zero_le _, rfl, K0⟩
  case round =>
    clear K0
    obtain ⟨j, hj, rfl, KK⟩ := hrel
    obtain ⟨g, q, cc, k1, k2, k3⟩ := KK.out
    have q0 : wr.cell? ⟨p5, 0, none⟩ = some (.int .i64 (n : Int)) := (blk_cell k1 0).trans rfl
    have q1 : wr.cell? ⟨p5, 1, none⟩ = some (.slice (some ⟨g, 0, none⟩) q cc) := (blk_cell k1 1).trans rfl
    have KS := Aside0.mk (And.intro k1 (And.intro k2 k3))
    clear k1 k2 k3 KK
    by_cases hlt : j < m
    · obtain ⟨ae, rfl, hx'⟩ := at_Int HC.out j hlt
      have hx := pw_cell_below KS.out.2.2 hx'
      obtain ⟨z, hz⟩ : ∃ z, z = xs.getD j 0 := ⟨_, rfl⟩
      rw [← hz] at hx
      have HZ := Aside0.mk hz
      clear hx' hz
      obtain ⟨b, hb⟩ : ∃ b, b = (decide (0 ≤ z) && decide (z < (n : Int)) && inP (xs.take j) n z.toNat) := ⟨_, rfl⟩
      have HB := Aside0.mk hb
      clear hb
      go_wp2_with fail
      refine (has_any wr _ n _ KS.out.2.1 hn z b HB.out).mono ?_
      rintro _ w3 ⟨rfl, hb3⟩
      have B4 := Aside0.mk hb3.out
      clear q0 q1 hb3
      cases b with
      | true =>
        have N1 : Aside0 (r = false) := ⟨by
          have h1 := HB.out.symm
          simp only [Bool.and_eq_true, decide_eq_true_eq] at h1
          obtain ⟨⟨h2, h3⟩, h4⟩ := h1
          unfold inP at h4
          simp only [Bool.and_eq_true, decide_eq_true_eq] at h4
          rw [HR.out]
          exact ord_dup (k := z.toNat) h4.1 (by rw [HL.out]; exact hlt) (by rw [← HZ.out]; omega) h4.2⟩
        go_wp2_with fail
        go_ret
        exact ⟨by rw [N1.out]; rfl, ⟨KS.out.2.2.trans (B4.out.mono KS.out.2.2.size)⟩⟩
      | false =>
        have Q4 := Aside0.mk (blk_below KS.out.1 B4.out)
        have q0 : w3.cell? ⟨p5, 0, none⟩ = some (.int .i64 (n : Int)) := (blk_cell Q4.out 0).trans rfl
        have q1 : w3.cell? ⟨p5, 1, none⟩ = some (.slice (some ⟨g, 0, none⟩) q cc) := (blk_cell Q4.out 1).trans rfl
        clear hx
        go_wp2_with fail
        refine (with_any w3 _ n _ (KS.out.2.1.below B4.out) hn z).mono ?_
        rintro _ w4 ⟨v4, rfl, H4⟩
        obtain ⟨g4, c4, ws4, rfl, o4, d4⟩ := H4.out.1
        have Q6 := Aside0.mk (blk_below Q4.out H4.out.2)
        have B6 : Aside0 (Below w.heap.size w w4) := ⟨KS.out.2.2.trans ((B4.out.trans (H4.out.2.mono B4.out.size)).mono KS.out.2.2.size)⟩
        clear q0 q1
        have e0 : w4.cell? ⟨p5, 0, none⟩ = some (.int .i64 (n : Int)) := (blk_cell Q6.out 0).trans rfl
        have e1 : w4.cell? ⟨p5, 1, none⟩ = some (.slice (some ⟨g, 0, none⟩) q cc) := (blk_cell Q6.out 1).trans rfl
        have e2 : ∀ j, w4.frozen? ⟨p5, j, none⟩ = false := fun j => blk_frozen Q6.out j
        obtain ⟨nw, hnw⟩ : ∃ q, q = ws4.length := ⟨_, rfl⟩
        have N1 : Aside0 (∃ (g q cc : Nat), ((w4.setCell ⟨p5, 0, none⟩ (.int .i64 (n : Int))).setCell ⟨p5, 1, none⟩ (.slice (some ⟨g4, 0, none⟩) ws4.length c4)).heap[p5]? = some (.cells #[.int .i64 (n : Int), .slice (some ⟨g, 0, none⟩) q cc] 189 (0, 0)) ∧ BS ((w4.setCell ⟨p5, 0, none⟩ (.int .i64 (n : Int))).setCell ⟨p5, 1, none⟩ (.slice (some ⟨g4, 0, none⟩) ws4.length c4)) (.agg #[.int .i64 (n : Int), .slice (some ⟨g, 0, none⟩) q cc]) n (inP (xs.take (j + 1)) n) ∧ Below w.heap.size w ((w4.setCell ⟨p5, 0, none⟩ (.int .i64 (n : Int))).setCell ⟨p5, 1, none⟩ (.slice (some ⟨g4, 0, none⟩) ws4.length c4))) :=
          ⟨g4, ws4.length, c4, blk_set (blk_set Q6.out 0 _) 1 _, (((BS.set (v := .agg #[.int .i64 (n : Int), .slice (some ⟨g4, 0, none⟩) ws4.length c4]) ⟨g4, c4, ws4, rfl, o4, d4⟩ Q6.out (by decide) 0 _).set (blk_set Q6.out 0 _) (by decide) 1 _)).same (fun k => by
            have hl : j < xs.length := by rw [HL.out]; exact hlt
            show (inP (xs.take j) n k || (decide (0 ≤ z) && decide (z < (n : Int)) && decide (k = z.toNat))) = inP (xs.take (j + 1)) n k
            rw [take_snoc hl 0, ← HZ.out]
            exact inP_snoc _ _ _ _), (B6.out.setCell (p := ⟨p5, 0, none⟩) G5.out _).setCell (p := ⟨p5, 1, none⟩) G5.out _⟩
        rw [← hnw] at N1 ⊢
        clear o4 d4 H4 hnw
        go_wp2_with fail
        exact ⟨⟨j + 1, by omega, by go_num, N1⟩, by simp [intOf]; omega⟩
    · obtain rfl : m = j := by omega
      have hall : xs.take m = xs := List.take_of_length_le (by rw [HL.out]; exact Nat.le_refl _)
      obtain ⟨ct, hct⟩ : ∃ ct, ct = (List.range n).countP (inP (xs.take m) n) := ⟨_, rfl⟩
      have HCT := Aside0.mk hct
      have RF : Aside0 (r = (decide (m = n) && decide (ct = n))) := ⟨by
        rw [HR.out]
        unfold ordB
        rw [HL.out]
        congr 1
        rw [Bool.eq_iff_iff, decide_eq_true_eq, hct, hall, count_in]⟩
      clear hall hct
      by_cases hmn : m = n
      · subst hmn
        go_wp2_with fail
        refine (count_any wr _ m _ KS.out.2.1 hn).mono ?_
        rintro _ w3 ⟨rfl, hb3⟩
        have B4 := Aside0.mk hb3
        rw [← HCT.out]
        clear hb3 q0 q1
        by_cases hc : ct = m
        · have g : ((ct : Int) == (m : Int)) = true := beq_iff_eq.2 (by omega)
          have N1 : Aside0 (r = true) := ⟨by rw [RF.out]; simp [hc]⟩
          go_wp2_with fail
          go_ret
          exact ⟨by rw [N1.out]; rfl, ⟨KS.out.2.2.trans (B4.out.mono KS.out.2.2.size)⟩⟩
        · have g : ((ct : Int) == (m : Int)) = false := beq_eq_false_iff_ne.2 (by omega)
          have N1 : Aside0 (r = false) := ⟨by rw [RF.out]; simp [hc]⟩
          go_wp2_with fail
          go_ret
          exact ⟨by rw [N1.out]; rfl, ⟨KS.out.2.2.trans (B4.out.mono KS.out.2.2.size)⟩⟩
      · have g : ((m : Int) == (n : Int)) = false := beq_eq_false_iff_ne.2 (by omega)
        have N1 : Aside0 (r = false) := ⟨by rw [RF.out]; simp [hmn]⟩
        go_wp2_with fail
        go_ret
        exact ⟨by rw [N1.out]; rfl, ⟨KS.out.2.2⟩⟩
end Go.Proofs.YtofomlpdklhigaaGreatDoor.Hand
