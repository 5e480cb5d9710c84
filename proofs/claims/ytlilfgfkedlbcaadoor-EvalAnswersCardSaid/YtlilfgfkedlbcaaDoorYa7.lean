/- Texts Kg Jb, cut to what is used. -/
import Derived.WalkKit
import Derived.Test.YtlilfgfkedlbcaaDoorYa0
import Derived.Test.YtlilfgfkedlbcaaDoorYa1
import Derived.Test.YtlilfgfkedlbcaaDoorYa5
import Derived.Test.YtlilfgfkedlbcaaDoorYa6
set_option linter.unusedVariables false
set_option linter.unusedSimpArgs false
section
namespace Go.Proofs.YtlilfgfkedlbcaaDoor.Hand
open Go.RowKit Go.Proofs.YtlilfgfkedlbcaaDoorW.PrintWords Go.Proofs.YtlilfgfkedlbcaaDoorW.PrintLast Go.Proofs.YtlilfgfkedlbcaaDoorW.PrintMore Go.Proofs.YtlilfgfkedlbcaaDoor.PEvalBetter
set_option maxHeartbeats 1000000 in
set_option maxRecDepth 100000 in
theorem rises_any (w : World) (A : Option Addr) (n c : Nat) (xs : List Int) (N : Int) (hC : (Kd.int .i64).C w A n xs) (hn : n ≤ 17592186044416) (r : Bool) (RR : r = ascB N (-1) xs) :
  Calls Tryd.prog 32 #[.slice A n c, .int .i64 N] w fun e w' => e = .returned (.bool r) ∧ w = w' := by
 have HC := Aside0.mk hC
 have HL : Aside0 (xs.length = n) := ⟨hC.1⟩
 have HR := Aside0.mk RR
 clear hC RR
 go_enter Tryd.func32, Tryd.ntmps32
 go_wp2_with fail
 have J0 : Aside0 (ascB N (-1) (xs.take 0) = true) := ⟨rfl⟩
 go_loop [5, 10] (fun v5 v => ∃ (j : Nat) (last : Int), j ≤ n ∧ v5 = .int .i64 last ∧ v = .int .i64 j ∧ Aside0 (ascB N (-1) (xs.take j) = true ∧ last = if j = 0 then -1 else xs.getD (j - 1) 0)) (fun _ v => n - (intOf v).toNat)
 case atStart => exact ⟨0, -1, Nat.zero_le _, rfl, rfl, ⟨J0.out, rfl⟩⟩
 case round =>
  clear J0
  obtain ⟨j, last, hj, rfl, rfl, KJ⟩ := hrel
  by_cases hlt : j < n
  ·obtain ⟨ae, rfl, hx⟩ := at_Int HC.out j hlt
   have NZ := Aside0.mk (asc_take N xs j (-1) (by rw [HL.out]; exact hlt))
   obtain ⟨z, hz⟩ : ∃ z, z = xs.getD j 0 := ⟨_, rfl⟩
   rw [← hz] at hx
   have HZ := Aside0.mk hz
   clear hz
   have NN : Aside0 (ascB N (-1) (xs.take (j + 1)) = !(decide (z ≤ last) || decide (z ≥ N))) := ⟨by
    rw [NZ.out, KJ.out.1, Bool.true_and, ← HZ.out, ← KJ.out.2]⟩
   have BAD : Aside0 (ascB N (-1) (xs.take (j + 1)) = false → r = false) := ⟨fun hb => by
    rw [HR.out, Bool.eq_false_iff]
    intro ha
    have := asc_short N xs (-1) (j + 1) ha
    rw [hb] at this
    cases this⟩
   cases g1 : decide (z ≤ last) with
   | true =>
    have N1 : Aside0 (r = false) := ⟨BAD.out (by rw [NN.out, g1]; rfl)⟩
    go_wp2_with fail
    go_ret
    exact ⟨by rw [N1.out]; rfl, rfl⟩
   | false =>
    cases g2 : decide (z ≥ N) with
    | true =>
     have g3 : decide (N ≤ z) = true := g2
     have N1 : Aside0 (r = false) := ⟨BAD.out (by rw [NN.out, g1, g2]; rfl)⟩
     go_wp2_with fail
     go_ret
     exact ⟨by rw [N1.out]; rfl, rfl⟩
    | false =>
     have g3 : decide (N ≤ z) = false := g2
     have N1 : Aside0 (ascB N (-1) (xs.take (j + 1)) = true ∧ z = if j + 1 = 0 then -1 else xs.getD (j + 1 - 1) 0) := ⟨by rw [NN.out, g1, g2]; rfl, by rw [if_neg (by omega), Nat.add_sub_cancel]; exact HZ.out⟩
     go_wp2_with fail
     exact ⟨⟨j + 1, z, by omega, rfl, by go_num, N1⟩, by simp [intOf]; omega⟩
  ·obtain rfl : n = j := by omega
   have N1 : Aside0 (r = true) := ⟨by
    have h1 := KJ.out.1
    rw [List.take_of_length_le (by rw [HL.out]; exact Nat.le_refl _)] at h1
    rw [HR.out, h1]⟩
   go_wp2_with fail
   go_ret
   exact ⟨by rw [N1.out]; rfl, rfl⟩
def ordB (xs : List Int) (n : Nat) : Bool := decide (xs.length = n) && (List.range n).all fun k => decide ((k : Int) ∈ xs)
theorem count_full (p : Nat → Bool) (n : Nat) : (List.range n).countP p = n ↔ (List.range n).all p = true := by
 rw [List.all_eq_true]
 have := List.countP_eq_length (p := p) (l := List.range n)
 rw [List.length_range] at this
 exact this
theorem dup_short : ∀ (n : Nat) (xs : List Int), (∀ k, k < n → (k : Int) ∈ xs) → n ≤ xs.length
 | 0, _, _ => Nat.zero_le _
 | n + 1, xs, h => by
  have h1 := dup_short n (xs.erase (n : Int)) (fun k hk => (List.mem_erase_of_ne (by omega)).2 (h k (by omega)))
  have h2 := List.length_erase_of_mem (h n (Nat.lt_succ_self n))
  have h3 : 0 < xs.length := List.length_pos_of_mem (h n (Nat.lt_succ_self n))
  omega
theorem ord_dup {xs : List Int} {n j k : Nat} (hk : k < n) (hj : j < xs.length) (hx : xs.getD j 0 = (k : Int)) (hd : (k : Int) ∈ xs.take j) : ordB xs n = false := by
 rw [Bool.eq_false_iff]
 intro h
 unfold ordB at h
 simp only [Bool.and_eq_true, decide_eq_true_eq, List.all_eq_true, List.mem_range] at h
 obtain ⟨h1, h2⟩ := h
 have h3 := dup_short n (xs.take j ++ xs.drop (j + 1)) (fun i hi => by
  have hm := h2 i hi
  rw [← List.take_append_drop j xs, drop_cons hj 0, List.mem_append, List.mem_cons] at hm
  rw [List.mem_append]
  rcases hm with hm | hm | hm
  ·exact .inl hm
  ·rw [hx] at hm
   rw [hm]
   exact .inl hd
  ·exact .inr hm)
 rw [List.length_append, List.length_take, List.length_drop] at h3
 omega
def inP (xs : List Int) (n k : Nat) : Bool := decide (k < n) && decide ((k : Int) ∈ xs)
theorem inP_snoc (L : List Int) (n k : Nat) (z : Int) : (inP L n k || (decide (0 ≤ z) && decide (z < (n : Int)) && decide (k = z.toNat))) = inP (L ++ [z]) n k := by
 unfold inP
 simp only [List.mem_append, List.mem_singleton]
 by_cases h1 : k < n
 ·by_cases h2 : (k : Int) ∈ L
  ·simp [h1, h2]
  ·by_cases h3 : (k : Int) = z
   ·have h4 : k = z.toNat := by omega
    have h5 : 0 ≤ z := by omega
    have h6 : z < (n : Int) := by omega
    rw [decide_eq_true h5, decide_eq_true h6, decide_eq_true h4]
    simp [h1, h3]
   ·by_cases h5 : 0 ≤ z
    ·have h6 : k ≠ z.toNat := by omega
     simp [h1, h2, h3, h6]
    ·simp [h1, h2, h3, h5]
 ·by_cases h5 : z < (n : Int)
  ·by_cases h6 : 0 ≤ z
   ·have h7 : k ≠ z.toNat := by omega
    simp [h1, h7]
   ·simp [h1, h6]
  ·simp [h1, h5]
theorem count_in (L : List Int) (n : Nat) : (List.range n).countP (inP L n) = n ↔ (List.range n).all (fun k => decide ((k : Int) ∈ L)) = true := by
 rw [count_full, List.all_eq_true, List.all_eq_true]
 constructor
 ·intro h k hk
  have h3 := h k hk
  unfold inP at h3
  simp only [Bool.and_eq_true, decide_eq_true_eq] at h3
  exact decide_eq_true h3.2
 ·intro h k hk
  have h2 := List.mem_range.1 hk
  have h3 := h k hk
  unfold inP
  simpa [h2] using h3
set_option maxHeartbeats 1000000 in
set_option maxRecDepth 100000 in
theorem order_any (w : World) (A : Option Addr) (m c : Nat) (xs : List Int) (n : Nat) (hC : (Kd.int .i64).C w A m xs) (hm : m ≤ 17592186044416) (hn : n ≤ 4096) (r : Bool) (RR : r = ordB xs n) :
  Calls Tryd.prog 34 #[.slice A m c, .int .i64 (n : Int)] w fun e w' => e = .returned (.bool r) ∧ Aside0 (Below w.heap.size w w') := by
 have HC := Aside0.mk hC
 have HL : Aside0 (xs.length = m) := ⟨hC.1⟩
 have HR := Aside0.mk RR
 have hu197 := Tryd.underlying82
 clear hC RR
 go_enter Tryd.func34, Tryd.ntmps34
 go_wp2_with fail
 refine (new_any w n hn).mono ?_
 rintro _ w2 ⟨vs, rfl, H2⟩
 obtain ⟨g0, cc, ws, rfl, hc0, hw0⟩ := H2.out.1
 go_upto_region 2 with fail
 obtain ⟨nw, hnw⟩ : ∃ q, q = ws.length := ⟨_, rfl⟩
 obtain ⟨W3, hW3⟩ : ∃ W, W = w2.alloc (.cells #[.int .i64 (n : Int), .slice (some ⟨g0, 0, none⟩) ws.length cc] 82) := ⟨_, rfl⟩
 rw [← hW3]
 obtain ⟨p5, hp5⟩ : ∃ p, p = w2.heap.size := ⟨_, rfl⟩
 have B3 : Aside0 (Below w.heap.size w W3) := ⟨by rw [hW3]; exact H2.out.2.alloc H2.out.2.size _⟩
 have G5 : Aside0 (w.heap.size ≤ p5) := ⟨by rw [hp5]; exact H2.out.2.size⟩
 have K0 : Aside0 (∃ (g q cc : Nat), W3.heap[p5]? = some (.cells #[.int .i64 (n : Int), .slice (some ⟨g, 0, none⟩) q cc] 82 (0, 0)) ∧ BS W3 (.agg #[.int .i64 (n : Int), .slice (some ⟨g, 0, none⟩) q cc]) n (inP (xs.take 0) n) ∧ Below w.heap.size w W3) := ⟨g0, ws.length, cc, by rw [hW3, hp5]; exact heap_alloc_new _ _, by
  rw [hW3]
  exact (BS.below (v := .agg #[.int .i64 (n : Int), .slice (some ⟨g0, 0, none⟩) ws.length cc]) ⟨g0, cc, ws, rfl, hc0, hw0⟩ (below_alloc (Below.refl _ _) _)).same (fun k => by unfold inP; simp), B3.out⟩
 rw [← hp5]
 clear hW3 hp5 hc0 hw0 hnw H2
 go_wp2_with fail
 go_loopw [16] (fun v16 wr => ∃ j : Nat, j ≤ m ∧ v16 = .int .i64 (j : Int) ∧ Aside0 (∃ (g q cc : Nat), wr.heap[p5]? = some (.cells #[.int .i64 (n : Int), .slice (some ⟨g, 0, none⟩) q cc] 82 (0, 0)) ∧ BS wr (.agg #[.int .i64 (n : Int), .slice (some ⟨g, 0, none⟩) q cc]) n (inP (xs.take j) n) ∧ Below w.heap.size w wr)) (fun v16 _ => m - (intOf v16).toNat)
 case atStart => exact ⟨0, Nat.zero_le _, rfl, K0⟩
 case round =>
  clear K0
  obtain ⟨j, hj, rfl, KK⟩ := hrel
  obtain ⟨g, q, cc, k1, k2, k3⟩ := KK.out
  have q0 : wr.cell? ⟨p5, 0, none⟩ = some (.int .i64 (n : Int)) := (blk_cell k1 0).trans rfl
  have q1 : wr.cell? ⟨p5, 1, none⟩ = some (.slice (some ⟨g, 0, none⟩) q cc) := (blk_cell k1 1).trans rfl
  have KS := Aside0.mk (And.intro k1 (And.intro k2 k3))
  clear k1 k2 k3 KK
  by_cases hlt : j < m
  ·obtain ⟨ae, rfl, hx'⟩ := at_Int HC.out j hlt
   have hx := pw_cell_below KS.out.2.2 hx'
   obtain ⟨z, hz⟩ : ∃ z, z = xs.getD j 0 := ⟨_, rfl⟩
   rw [← hz] at hx
   have HZ := Aside0.mk hz
   clear hx' hz
   obtain ⟨b, hb⟩ : ∃ b, b = (decide (0 ≤ z) && decide (z < (n : Int)) && inP (xs.take j) n z.toNat) := ⟨_, rfl⟩
   have HB := Aside0.mk hb
   clear hb
   go_wp2_with fail
   refine (has_any wr _ n _ KS.out.2.1 hn z b HB.out).mono ?_
   rintro _ w3 ⟨rfl, hb3⟩
   have B4 := Aside0.mk hb3.out
   clear q0 q1 hb3
   cases b with
   | true =>
    have N1 : Aside0 (r = false) := ⟨by
     have h1 := HB.out.symm
     simp only [Bool.and_eq_true, decide_eq_true_eq] at h1
     obtain ⟨⟨h2, h3⟩, h4⟩ := h1
     unfold inP at h4
     simp only [Bool.and_eq_true, decide_eq_true_eq] at h4
     rw [HR.out]
     exact ord_dup (k := z.toNat) h4.1 (by rw [HL.out]; exact hlt) (by rw [← HZ.out]; omega) h4.2⟩
    go_wp2_with fail
    go_ret
    exact ⟨by rw [N1.out]; rfl, ⟨KS.out.2.2.trans (B4.out.mono KS.out.2.2.size)⟩⟩
   | false =>
    have Q4 := Aside0.mk (blk_below KS.out.1 B4.out)
    have q0 : w3.cell? ⟨p5, 0, none⟩ = some (.int .i64 (n : Int)) := (blk_cell Q4.out 0).trans rfl
    have q1 : w3.cell? ⟨p5, 1, none⟩ = some (.slice (some ⟨g, 0, none⟩) q cc) := (blk_cell Q4.out 1).trans rfl
    clear hx
    go_wp2_with fail
    refine (with_any w3 _ n _ (KS.out.2.1.below B4.out) hn z).mono ?_
    rintro _ w4 ⟨v4, rfl, H4⟩
    obtain ⟨g4, c4, ws4, rfl, o4, d4⟩ := H4.out.1
    have Q6 := Aside0.mk (blk_below Q4.out H4.out.2)
    have B6 : Aside0 (Below w.heap.size w w4) := ⟨KS.out.2.2.trans ((B4.out.trans (H4.out.2.mono B4.out.size)).mono KS.out.2.2.size)⟩
    clear q0 q1
    have e0 : w4.cell? ⟨p5, 0, none⟩ = some (.int .i64 (n : Int)) := (blk_cell Q6.out 0).trans rfl
    have e1 : w4.cell? ⟨p5, 1, none⟩ = some (.slice (some ⟨g, 0, none⟩) q cc) := (blk_cell Q6.out 1).trans rfl
    have e2 : ∀ j, w4.frozen? ⟨p5, j, none⟩ = false := fun j => blk_frozen Q6.out j
    obtain ⟨nw, hnw⟩ : ∃ q, q = ws4.length := ⟨_, rfl⟩
    have N1 : Aside0 (∃ (g q cc : Nat), ((w4.setCell ⟨p5, 0, none⟩ (.int .i64 (n : Int))).setCell ⟨p5, 1, none⟩ (.slice (some ⟨g4, 0, none⟩) ws4.length c4)).heap[p5]? = some (.cells #[.int .i64 (n : Int), .slice (some ⟨g, 0, none⟩) q cc] 82 (0, 0)) ∧ BS ((w4.setCell ⟨p5, 0, none⟩ (.int .i64 (n : Int))).setCell ⟨p5, 1, none⟩ (.slice (some ⟨g4, 0, none⟩) ws4.length c4)) (.agg #[.int .i64 (n : Int), .slice (some ⟨g, 0, none⟩) q cc]) n (inP (xs.take (j + 1)) n) ∧ Below w.heap.size w ((w4.setCell ⟨p5, 0, none⟩ (.int .i64 (n : Int))).setCell ⟨p5, 1, none⟩ (.slice (some ⟨g4, 0, none⟩) ws4.length c4))) :=
     ⟨g4, ws4.length, c4, blk_set (blk_set Q6.out 0 _) 1 _, (((BS.set (v := .agg #[.int .i64 (n : Int), .slice (some ⟨g4, 0, none⟩) ws4.length c4]) ⟨g4, c4, ws4, rfl, o4, d4⟩ Q6.out (by decide) 0 _).set (blk_set Q6.out 0 _) (by decide) 1 _)).same (fun k => by
      have hl : j < xs.length := by rw [HL.out]; exact hlt
      show (inP (xs.take j) n k || (decide (0 ≤ z) && decide (z < (n : Int)) && decide (k = z.toNat))) = inP (xs.take (j + 1)) n k
      rw [take_snoc hl 0, ← HZ.out]
      exact inP_snoc _ _ _ _), (B6.out.setCell (p := ⟨p5, 0, none⟩) G5.out _).setCell (p := ⟨p5, 1, none⟩) G5.out _⟩
    rw [← hnw] at N1 ⊢
    clear o4 d4 H4 hnw
    go_wp2_with fail
    exact ⟨⟨j + 1, by omega, by go_num, N1⟩, by simp [intOf]; omega⟩
  ·obtain rfl : m = j := by omega
   have hall : xs.take m = xs := List.take_of_length_le (by rw [HL.out]; exact Nat.le_refl _)
   obtain ⟨ct, hct⟩ : ∃ ct, ct = (List.range n).countP (inP (xs.take m) n) := ⟨_, rfl⟩
   have HCT := Aside0.mk hct
   have RF : Aside0 (r = (decide (m = n) && decide (ct = n))) := ⟨by
    rw [HR.out]
    unfold ordB
    rw [HL.out]
    congr 1
    rw [Bool.eq_iff_iff, decide_eq_true_eq, hct, hall, count_in]⟩
   clear hall hct
   by_cases hmn : m = n
   ·subst hmn
    go_wp2_with fail
    refine (count_any wr _ m _ KS.out.2.1 hn).mono ?_
    rintro _ w3 ⟨rfl, hb3⟩
    have B4 := Aside0.mk hb3
    rw [← HCT.out]
    clear hb3 q0 q1
    by_cases hc : ct = m
    ·have g : ((ct : Int) == (m : Int)) = true := beq_iff_eq.2 (by omega)
     have N1 : Aside0 (r = true) := ⟨by rw [RF.out]; simp [hc]⟩
     go_wp2_with fail
     go_ret
     exact ⟨by rw [N1.out]; rfl, ⟨KS.out.2.2.trans (B4.out.mono KS.out.2.2.size)⟩⟩
    ·have g : ((ct : Int) == (m : Int)) = false := beq_eq_false_iff_ne.2 (by omega)
     have N1 : Aside0 (r = false) := ⟨by rw [RF.out]; simp [hc]⟩
     go_wp2_with fail
     go_ret
     exact ⟨by rw [N1.out]; rfl, ⟨KS.out.2.2.trans (B4.out.mono KS.out.2.2.size)⟩⟩
   ·have g : ((m : Int) == (n : Int)) = false := beq_eq_false_iff_ne.2 (by omega)
    have N1 : Aside0 (r = false) := ⟨by rw [RF.out]; simp [hmn]⟩
    go_wp2_with fail
    go_ret
    exact ⟨by rw [N1.out]; rfl, ⟨KS.out.2.2⟩⟩
end Go.Proofs.YtlilfgfkedlbcaaDoor.Hand
end
section
namespace Go.Proofs.YtlilfgfkedlbcaaDoor.Hand
def sumTo (n : Nat) (f : Nat → Int) : Int := ((List.range n).map f).sum
theorem sumTo_succ (n : Nat) (f : Nat → Int) : sumTo (n + 1) f = sumTo n f + f n := by
 unfold sumTo
 rw [List.range_succ, List.map_append, List.sum_append]
 simp
theorem sumTo_congr {n : Nat} {f g : Nat → Int} (h : ∀ i, i < n → f i = g i) : sumTo n f = sumTo n g := by
 induction n with
 | zero => rfl
 | succ n ih => rw [sumTo_succ, sumTo_succ, ih (fun i hi => h i (by omega)), h n (by omega)]
theorem sumTo_abs {n : Nat} {f : Nat → Int} {B : Int} (h : ∀ i, i < n → -B ≤ f i ∧ f i ≤ B) : -(n * B) ≤ sumTo n f ∧ sumTo n f ≤ n * B := by
 induction n with
 | zero => simp [sumTo]
 | succ n ih =>
  have h1 := ih (fun i hi => h i (by omega))
  have h2 := h n (by omega)
  rw [sumTo_succ]
  have e : ((n + 1 : Nat) : Int) * B = n * B + B := by rw [Int.natCast_add, Int.add_mul]; simp
  rw [e]
  omega
theorem perm_sum {l m : List Int} (h : l.Perm m) : l.sum = m.sum := by
 induction h with
 | nil => rfl
 | cons x _ ih => simp [ih]
 | swap x y l => simp only [List.sum_cons]; omega
 | trans _ _ ih1 ih2 => rw [ih1, ih2]
theorem pigeon (n : Nat) : ∀ l : List Nat, l.Nodup → (∀ x ∈ l, x < n) → l.length ≤ n := by
 induction n with
 | zero =>
  intro l _ h
  cases l with
  | nil => simp
  | cons x l => exact absurd (h x List.mem_cons_self) (Nat.not_lt_zero _)
 | succ n ih =>
  intro l hn h
  by_cases hm : n ∈ l
  ·have h1 := ih (l.erase n) (hn.erase n) (fun x hx => by
    have h2 := h x (List.mem_of_mem_erase hx)
    have h3 : x ≠ n := fun e => by
     subst e
     exact (hn.not_mem_erase) hx
    omega)
   rw [List.length_erase_of_mem hm] at h1
   omega
  ·have := ih l hn (fun x hx => by
    have h2 := h x hx
    have h3 : x ≠ n := fun e => hm (e ▸ hx)
    omega)
   omega
theorem perm_range (n : Nat) : ∀ l : List Nat, l.Nodup → (∀ x ∈ l, x < n) → l.length = n → l.Perm (List.range n) := by
 induction n with
 | zero =>
  intro l _ _ h
  obtain rfl := List.eq_nil_of_length_eq_zero h
  exact .nil
 | succ n ih =>
  intro l hn h hl
  have hm : n ∈ l := by
   refine Classical.byContradiction fun hm => ?_
   have := pigeon n l hn (fun x hx => by
    have h2 := h x hx
    have h3 : x ≠ n := fun e => hm (e ▸ hx)
    omega)
   omega
  have h1 := ih (l.erase n) (hn.erase n) (fun x hx => by
   have h2 := h x (List.mem_of_mem_erase hx)
   have h3 : x ≠ n := fun e => by
    subst e
    exact (hn.not_mem_erase) hx
   omega) (by rw [List.length_erase_of_mem hm]; omega)
  rw [List.range_succ]
  exact (List.perm_cons_erase hm).trans ((h1.cons n).trans (List.perm_append_comm (l₁ := [n])))
structure Inj (n : Nat) (σ : Nat → Nat) : Prop where
 lt : ∀ i, i < n → σ i < n
 inj : ∀ i j, i < n → j < n → σ i = σ j → i = j
theorem nodup_map {n : Nat} {σ : Nat → Nat} (h : ∀ i j, i < n → j < n → σ i = σ j → i = j) : ((List.range n).map σ).Nodup := by
 induction n with
 | zero => simp
 | succ n ih =>
  rw [List.range_succ, List.map_append, List.nodup_append]
  refine ⟨ih (fun i j hi hj => h i j (by omega) (by omega)), by simp, fun a ha b hb => ?_⟩
  obtain ⟨i, hi, rfl⟩ := List.mem_map.1 ha
  simp at hb
  subst hb
  intro e
  have := h i n (by have := List.mem_range.1 hi; omega) (by omega) e
  have := List.mem_range.1 hi
  omega
theorem Inj.perm {n : Nat} {σ : Nat → Nat} (h : Inj n σ) : ((List.range n).map σ).Perm (List.range n) :=
 perm_range n _ (nodup_map h.inj) (fun x hx => by
  obtain ⟨i, hi, rfl⟩ := List.mem_map.1 hx
  exact h.lt i (List.mem_range.1 hi)) (by simp)
theorem Inj.sum {n : Nat} {σ : Nat → Nat} (h : Inj n σ) (f : Nat → Int) : sumTo n (fun i => f (σ i)) = sumTo n f := by
 have := perm_sum (h.perm.map f)
 rw [List.map_map] at this
 exact this
theorem Inj.onto {n : Nat} {σ : Nat → Nat} (h : Inj n σ) {k : Nat} (hk : k < n) : ∃ i, i < n ∧ σ i = k := by
 have : k ∈ (List.range n).map σ := (h.perm.mem_iff).2 (List.mem_range.2 hk)
 obtain ⟨i, hi, e⟩ := List.mem_map.1 this
 exact ⟨i, List.mem_range.1 hi, e⟩
structure PM (n : Nat) (no : Nat → Nat → Bool) (σ : Nat → Nat) : Prop where
 inj : Inj n σ
 may : ∀ i, i < n → no i (σ i) = false
def cost (n : Nat) (c : Nat → Nat → Int) (σ : Nat → Nat) : Int := sumTo n (fun i => c i (σ i))
structure Fair (n : Nat) (c : Nat → Nat → Int) (no : Nat → Nat → Bool) (u v : Nat → Int) : Prop where
 le : ∀ i k, i < n → k < n → no i k = false → u i + v k ≤ c i k
end Go.Proofs.YtlilfgfkedlbcaaDoor.Hand
namespace Go.Proofs.YtlilfgfkedlbcaaDoor.Hand
structure Tb where
 n : Nat
 c : Nat → Nat → Int
 no : Nat → Nat → Bool
structure TbOk (t : Tb) : Prop where
 n64 : t.n ≤ 64
 mag : ∀ i k, i < t.n → k < t.n → -2147483648 ≤ t.c i k ∧ t.c i k ≤ 2147483648
structure St where
 u : Nat → Int
 v : Nat → Int
 of : Nat → Int
 least : Nat → Int
 far : Nat → Bool
 from_ : Nat → Int
 seen : Nat → Bool
abbrev M : Int := 2147483648
structure Inv (t : Tb) (r : Nat) (u v of : Nat → Int) : Prop where
 range : ∀ k, k < t.n → of k = -1 ∨ ∃ i : Nat, of k = (i : Int) ∧ i < r
 onto : ∀ i, i < r → ∃ k, k < t.n ∧ of k = (i : Int)
 inj : ∀ k k', k < t.n → k' < t.n → of k = of k' → 0 ≤ of k → k = k'
 tight : ∀ k (i : Nat), k < t.n → of k = (i : Int) → t.no i k = false ∧ u i + v k = t.c i k
 fair : ∀ i k, i < r → k < t.n → t.no i k = false → u i + v k ≤ t.c i k
 free : ∀ k, k < t.n → of k = -1 → v k = 0
 vb : ∀ k, k < t.n → -(254 * M) ≤ v k ∧ v k ≤ 254 * M
 rest : ∀ i, r ≤ i → u i = 0
theorem Inv.ub {t : Tb} (ht : TbOk t) {r : Nat} {u v of : Nat → Int} (h : Inv t r u v of) (hr : r ≤ t.n) : ∀ i, i < r → -(255 * M) ≤ u i ∧ u i ≤ 255 * M := fun i hi => by
 obtain ⟨k, hk, e⟩ := h.onto i hi
 have h1 := (h.tight k i hk e).2
 have h2 := h.vb k hk
 have h3 := ht.mag i k (by omega) hk
 unfold M at *
 omega
def rowOf (of : Nat → Int) (r : Nat) (b : Int) : Nat := if b < 0 then r else (of b.toNat).toNat
structure Look (t : Tb) (r : Nat) (s : St) (L : List Nat) : Prop where
 rlt : r < t.n
 range : ∀ k, k < t.n → s.of k = -1 ∨ ∃ i : Nat, s.of k = (i : Int) ∧ i < r
 onto : ∀ i, i < r → ∃ k, k < t.n ∧ s.of k = (i : Int)
 inj : ∀ k k', k < t.n → k' < t.n → s.of k = s.of k' → 0 ≤ s.of k → k = k'
 tight : ∀ k (i : Nat), k < t.n → s.of k = (i : Int) → t.no i k = false ∧ s.u i + s.v k = t.c i k
 fair : ∀ i k, i < r → k < t.n → t.no i k = false → s.u i + s.v k ≤ t.c i k
 free : ∀ k, k < t.n → s.of k = -1 → s.v k = 0
 rest : ∀ i, r < i → s.u i = 0
 nodup : L.Nodup
 sees : ∀ k, k < t.n → (s.seen k = true ↔ k ∈ L)
 lin : ∀ k ∈ L, k < t.n ∧ 0 ≤ s.of k
 vb : ∀ k, k < t.n → k ∉ L → -(254 * M) ≤ s.v k ∧ s.v k ≤ 254 * M
 sb : ∀ k ∈ L, -((2 * (L.length : Int) - 1) * M) ≤ s.v k + s.u r ∧ s.v k + s.u r ≤ (2 * (L.length : Int) - 1) * M
 rb : -(400 * M) ≤ s.u r ∧ s.u r ≤ 400 * M
 way : ∀ (l1 : List Nat) (k : Nat) (l2 : List Nat), L = l1 ++ k :: l2 → s.from_ k = -1 ∨ ∃ b ∈ l2, s.from_ k = (b : Int)
 edge : ∀ k ∈ L, t.no (rowOf s.of r (s.from_ k)) k = false ∧ s.u (rowOf s.of r (s.from_ k)) + s.v k = t.c (rowOf s.of r (s.from_ k)) k
def Tree (s : St) (r : Nat) (L : List Nat) (i : Nat) : Prop := i = r ∨ ∃ k ∈ L, s.of k = (i : Int)
structure Spread (t : Tb) (r : Nat) (s : St) (L : List Nat) : Prop extends Look t r s L where
 fbnd : ∀ k, k < t.n → k ∉ L → s.far k = true → s.least k = 0
 fars : ∀ k, k < t.n → k ∉ L → (s.far k = true ↔ ∀ i, Tree s r L i → t.no i k = true)
 comes : ∀ k, k < t.n → k ∉ L → s.far k = false → (s.from_ k = -1 ∨ ∃ b ∈ L, s.from_ k = (b : Int)) ∧ t.no (rowOf s.of r (s.from_ k)) k = false ∧ s.least k = t.c (rowOf s.of r (s.from_ k)) k - s.u (rowOf s.of r (s.from_ k)) - s.v k
 min : ∀ k, k < t.n → k ∉ L → ∀ i, Tree s r L i → t.no i k = false → s.least k ≤ t.c i k - s.u i - s.v k
 lb : ∀ k, k < t.n → k ∉ L → s.far k = false → -((2 * (L.length : Int) + 1) * M) ≤ s.least k + s.v k + s.u r ∧ s.least k + s.v k + s.u r ≤ (2 * (L.length : Int) + 1) * M
 own : L ≠ [] → ∀ k, k < t.n → t.no r k = false → s.u r + s.v k ≤ t.c r k
structure Ahead (t : Tb) (r : Nat) (s : St) (L : List Nat) : Prop extends Look t r s L where
 fbnd : ∀ k, k < t.n → k ∉ L → s.far k = true → s.least k = 0
 fars : ∀ k, k < t.n → k ∉ L → (s.far k = true ↔ ∀ i, L ≠ [] → Tree s r L.tail i → t.no i k = true)
 comes : ∀ k, k < t.n → k ∉ L → s.far k = false → (s.from_ k = -1 ∨ ∃ b ∈ L.tail, s.from_ k = (b : Int)) ∧ t.no (rowOf s.of r (s.from_ k)) k = false ∧ s.least k = t.c (rowOf s.of r (s.from_ k)) k - s.u (rowOf s.of r (s.from_ k)) - s.v k
 min : ∀ k, k < t.n → k ∉ L → ∀ i, L ≠ [] → Tree s r L.tail i → t.no i k = false → s.least k ≤ t.c i k - s.u i - s.v k
 lb : ∀ k, k < t.n → k ∉ L → s.far k = false → -((2 * (L.length : Int) - 1) * M) ≤ s.least k + s.v k + s.u r ∧ s.least k + s.v k + s.u r ≤ (2 * (L.length : Int) - 1) * M
 own : L ≠ [] → ∀ k, k < t.n → t.no r k = false → s.u r + s.v k ≤ t.c r k
theorem Look.len {t : Tb} {r : Nat} {s : St} {L : List Nat} (h : Look t r s L) : L.length ≤ r := by
 have hn : (L.map fun k => (s.of k).toNat).Nodup := by
  have : ∀ l : List Nat, l.Nodup → (∀ k ∈ l, k < t.n ∧ 0 ≤ s.of k) → (l.map fun k => (s.of k).toNat).Nodup := by
   intro l
   induction l with
   | nil => intro _ _; simp
   | cons a l ih =>
    intro hn hl
    rw [List.nodup_cons] at hn
    rw [List.map_cons, List.nodup_cons]
    refine ⟨fun hm => ?_, ih hn.2 (fun k hk => hl k (List.mem_cons_of_mem _ hk))⟩
    obtain ⟨b, hb, e⟩ := List.mem_map.1 hm
    have h1 := hl a List.mem_cons_self
    have h2 := hl b (List.mem_cons_of_mem _ hb)
    have e2 := h.inj a b h1.1 h2.1 (by omega) h1.2
    exact hn.1 (e2 ▸ hb)
  exact this L h.nodup h.lin
 have := pigeon r _ hn (fun x hx => by
  obtain ⟨k, hk, rfl⟩ := List.mem_map.1 hx
  obtain ⟨h1, h2⟩ := h.lin k hk
  rcases h.range k h1 with e | ⟨i, e, hi⟩
  ·rw [e] at h2; omega
  ·rw [e]; simpa using hi)
 simpa using this
end Go.Proofs.YtlilfgfkedlbcaaDoor.Hand
end
