/- Texts Dn Do, cut to what is used. -/
import Derived.StillTailTactics
import Derived.Deep.QuietTactic
import Derived.BigQuiet
import Derived.Test.YtelabmhhnpfegaaZa0
import Derived.Test.YtelabmhhnpfegaaZb1
set_option linter.unusedVariables false
set_option linter.unusedSimpArgs false
section
namespace Go.Proofs.Ytelabmhhnpfegaa.Hand
open Go.RowKit Go.Proofs.YtelabmhhnpfegaaW.PrintWords Go.Proofs.YtelabmhhnpfegaaW.PrintLast Go.Proofs.YtelabmhhnpfegaaW.PrintMore Go.Proofs.Ytelabmhhnpfegaa.PDynCells
def bval : List Int → Int
 | [] => 0
 | d :: t => d + 65536 * bval t
theorem bval_snoc : ∀ (l : List Int) (d : Int), bval (l ++ [d]) = bval l + d * 65536 ^ l.length
 | [], d => by simp [bval]
 | e :: t, d => by
  rw [List.cons_append, bval, bval_snoc t d, bval, List.length_cons, Int.pow_succ, Int.mul_add, Int.add_assoc]
  congr 2
  rw [← Int.mul_assoc, ← Int.mul_assoc, Int.mul_comm 65536 d, Int.mul_assoc, Int.mul_assoc, Int.mul_comm 65536]
theorem bval_drop0 {l : List Int} {n : Nat} (hn : n < l.length) (h : l.getD n 0 = 0) : bval (l.take n) = bval (l.take (n + 1)) := by
 rw [take_snoc hn 0, bval_snoc, h]
 simp
theorem at_U {w : World} {A : Option Addr} {n : Nat} {xs : List Int} (h : (Kd.int .u64).C w A n xs) (k : Nat) (hk : k < n) : ∃ ad, A = some ad ∧ w.cell? (ad.add k) = some (.int .u64 (xs.getD k 0)) := by
 obtain ⟨ad, e, hc⟩ := (Kd.reads_of_C (enc := Value.int .u64) (d := (0 : Int)) h).at_ (k : Int) (by omega) (by omega)
 rw [Int.toNat_natCast] at hc
 exact ⟨ad, e, by rw [hc]; unfold rdOf; rw [Int.toNat_natCast]⟩
structure TrimS (D : List Int) (n : Nat) : Prop where
 le : n ≤ D.length
 val : bval (D.take n) = bval D
 top : n = 0 ∨ D.getD (n - 1) 0 ≠ 0
set_option maxHeartbeats 4000000 in
set_option maxRecDepth 100000 in
theorem trim_true (w : World) (ad : Addr) (c : Nat) (D : List Int) (hD : (Kd.int .u64).C w (some ad) D.length D) (hc : D.length ≤ c) (hl : D.length ≤ 17592186044416) :
  Calls Try.prog 87 #[.agg #[.bool true, .slice (some ad) D.length c]] w fun e w' => ∃ n : Nat, e = .returned (.agg #[.bool (true && decide (0 < n)), .slice (some ad) n c]) ∧ Aside0 (TrimS D n ∧ Below w.heap.size w w') := by
 obtain ⟨nD, hnD⟩ : ∃ n, n = D.length := ⟨_, rfl⟩
 rw [← hnD] at hD hc hl ⊢
 have HD := Aside0.mk hD
 have HN := Aside0.mk hnD
 clear hnD hD
 have hu111 := Try.underlying111
 go_enter Try.func87, Try.ntmps87
 go_wp2_with fail
 obtain ⟨W1, hW1⟩ : ∃ W, W = (w.alloc (.cells #[.bool true, .slice (some ad) nD c] 111)).alloc (.cells #[.bool false, .slice none 0 0] 111) := ⟨_, rfl⟩
 rw [← hW1]
 have B1 : Aside0 (Below w.heap.size w W1) := ⟨by rw [hW1]; exact below_alloc (below_alloc (Below.refl _ _) _) _⟩
 obtain ⟨p1, hp1⟩ : ∃ p, p = w.heap.size := ⟨_, rfl⟩
 have Q1 : Aside0 (W1.heap[p1]? = some (.cells #[.bool true, .slice (some ad) nD c] 111 (0, 0))) := ⟨by rw [hW1, hp1]; simp only [al_get, al_size]; repeat (first | rw [if_pos trivial] | rw [if_neg (by omega)])⟩
 have Q2 : Aside0 (W1.heap[p1 + 1]? = some (.cells #[.bool false, .slice none 0 0] 111 (0, 0))) := ⟨by rw [hW1, hp1]; simp only [al_get, al_size]; repeat (first | rw [if_pos trivial] | rw [if_neg (by omega)])⟩
 rw [← hp1]
 have HP := Aside0.mk hp1
 clear hW1 hp1
 have q0 : W1.cell? ⟨p1, 0, none⟩ = some (.bool true) := (blk_cell Q1.out 0).trans rfl
 have q1 : W1.cell? ⟨p1, 1, none⟩ = some (.slice (some ad) nD c) := (blk_cell Q1.out 1).trans rfl
 have K0 : Aside0 (bval (D.take nD) = bval D) := ⟨by rw [HN.out, List.take_length]⟩
 go_loop [3] (fun v => ∃ n : Nat, n ≤ nD ∧ v = .int .i64 n ∧ Aside0 (bval (D.take n) = bval D)) (fun v => (intOf v).toNat)
 case atStart => exact ⟨nD, Nat.le_refl _, rfl, K0⟩
 case round =>
  clear K0
  obtain ⟨n, hn, rfl, KB⟩ := hrel
  rcases Nat.eq_zero_or_pos n with h0 | h0
  ·obtain rfl := h0
   have N1 : Aside0 (TrimS D 0) := ⟨Nat.zero_le _, KB.out, .inl rfl⟩
   clear KB
   go_upto_region 4 with fail
   have q0' : W1.drew.cell? ⟨p1, 0, none⟩ = some (.bool true) := q0
   have q1' : W1.drew.cell? ⟨p1, 1, none⟩ = some (.slice (some ad) nD c) := q1
   refine start_ (n := 12) (S := fun w' => w'.cell? ⟨p1, 0, none⟩ = some (.bool true) ∧ w'.cell? ⟨p1, 1, none⟩ = some (.slice (some ad) nD c)) (ds := [11]) #[false, false, false, false, false, false, false, false, false, false, false, false] (by kernel_rfl) rfl rfl ⟨q0', q1'⟩ (fun hHeld => ?_)
   clear q0' q1'
   refine puU 0 (some 20) ?_ rfl rfl (by kernel_rfl) (fun _ _ _ h => h) (Or.inl ⟨by rfl, ?_⟩) ?_ ?_ ?_
   rotate_left
   ·intro w'
    go_simp
    with_reducible rfl
   rotate_left
   ·simp only [Act.put, lsA, lsB, lsC]
    rfl
   refine taU 1 (some 21) ?_ rfl rfl (by kernel_rfl) (fun _ _ _ h => h) (Or.inl ⟨by rfl, ?_⟩) hHeld ?_ ?_ ?_
   rotate_left
   ·rintro w' ⟨s0, s1⟩
    go_simp
    with_reducible rfl
   rotate_left
   ·simp only [Act.put, lsA, lsB, lsC]
    rfl
   refine puU 2 (some 22) ?_ rfl rfl (by kernel_rfl) (fun _ _ _ h => h) (Or.inl ⟨by rfl, ?_⟩) ?_ ?_ ?_
   rotate_left
   ·intro w'
    go_simp
    with_reducible rfl
   rotate_left
   ·simp only [Act.put, lsA, lsB, lsC]
    rfl
   refine puU 3 (some 23) ?_ rfl rfl (by kernel_rfl) (fun _ _ _ h => h) (Or.inl ⟨by rfl, ?_⟩) ?_ ?_ ?_
   rotate_left
   ·intro w'
    go_simp
    with_reducible rfl
   rotate_left
   ·simp only [Act.put, lsA, lsB, lsC]
    rfl
   refine puU 4 (some 24) ?_ rfl rfl (by kernel_rfl) (fun _ _ _ h => h) (Or.inl ⟨by rfl, ?_⟩) ?_ ?_ ?_
   rotate_left
   ·intro w'
    go_simp
    with_reducible rfl
   rotate_left
   ·simp only [Act.put, lsA, lsB, lsC]
    rfl
   refine puU 5 (some 25) ?_ rfl rfl (by kernel_rfl) (fun _ _ _ h => h) (Or.inl ⟨by rfl, ?_⟩) ?_ ?_ ?_
   rotate_left
   ·intro w'
    go_simp
    with_reducible rfl
   rotate_left
   ·simp only [Act.put, lsA, lsB, lsC]
    rfl
   refine puU 6 (some 26) ?_ rfl rfl (by kernel_rfl) (fun _ _ _ h => h) (Or.inl ⟨by rfl, ?_⟩) ?_ ?_ ?_
   rotate_left
   ·intro w'
    go_simp
    with_reducible rfl
   rotate_left
   ·simp only [Act.put, lsA, lsB, lsC]
    rfl
   refine taU 7 (some 27) ?_ rfl rfl (by kernel_rfl) (fun _ _ _ h => h) (Or.inl ⟨by rfl, ?_⟩) hHeld ?_ ?_ ?_
   rotate_left
   ·rintro w' ⟨s0, s1⟩
    go_simp
    with_reducible rfl
   rotate_left
   ·simp only [Act.put, lsA, lsB, lsC]
    rfl
   refine puU 8 (some 28) ?_ rfl rfl (by kernel_rfl) (fun _ _ _ h => h) (Or.inl ⟨by rfl, ?_⟩) ?_ ?_ ?_
   rotate_left
   ·intro w'
    go_simp
    with_reducible rfl
   rotate_left
   ·simp only [Act.put, lsA, lsB, lsC]
    rfl
   refine puU 9 (some 29) ?_ rfl rfl (by kernel_rfl) (fun _ _ _ h => h) (Or.inl ⟨by rfl, ?_⟩) ?_ ?_ ?_
   rotate_left
   ·intro w'
    go_simp
    with_reducible rfl
   rotate_left
   ·simp only [Act.put, lsA, lsB, lsC]
    rfl
   refine puU 10 (some 30) ?_ rfl rfl (by kernel_rfl) (fun _ _ _ h => h) (Or.inl ⟨by rfl, ?_⟩) ?_ ?_ ?_
   rotate_left
   ·intro w'
    go_simp
    with_reducible rfl
   rotate_left
   ·simp only [Act.put, lsA, lsB, lsC]
    rfl
   refine last_ (i := 11) (N := none) #[true, true, true, true, true, true, true, true, true, true, true, true] rfl rfl (by kernel_rfl) (by decide) (fun K hK => ?_)
   have h0 : W1.cell? ⟨p1 + 1, 0, none⟩ = some (.bool false) := (blk_cell Q2.out 0).trans rfl
   have h1 : W1.cell? ⟨p1 + 1, 1, none⟩ = some (.slice none 0 0) := (blk_cell Q2.out 1).trans rfl
   have h2 : ∀ j, W1.frozen? ⟨p1 + 1, j, none⟩ = false := blk_frozen (w := W1) Q2.out
   refine skip_ (w1 := ?_) (by rfl) rfl ?_ ?_
   rotate_left
   ·go_simp
    rfl
   refine hK.out _ _ ?_
   clear hK K h0 h1 h2
   refine done_ (by kernel_rfl) ?_
   clear hHeld q0 q1
   have QZ := blk_put (blk_put (w := W1) Q2.out 0 (.bool false) rfl) 1 (.slice (some ad) 0 c) rfl
   go_wp2_with fail
   have r0 := (blk_cell QZ 0).trans rfl
   have r1 := (blk_cell QZ 1).trans rfl
   refine bodyPost_ret (v := .agg #[.bool false, .slice (some ad) 0 c]) (by simp [results, Try.results87, go_sem, r0, r1]) rfl ?_
   refine ⟨0, by simp, ⟨N1.out, ?_⟩⟩
   have hb := B1.out
   exact below_drew ((hb.setCell (p := ⟨p1 + 1, 0, none⟩) (by have := HP.out; show w.heap.size ≤ p1 + 1; omega) _).setCell (p := ⟨p1 + 1, 1, none⟩) (by have := HP.out; show w.heap.size ≤ p1 + 1; omega) _)
  ·obtain ⟨m, rfl⟩ : ∃ m, n = m + 1 := ⟨n - 1, by omega⟩
   have g1 : decide (((m + 1 : Nat) : Int) > 0) = true := decide_eq_true (by omega)
   have g2 : decide (0 < m + 1) = true := decide_eq_true (by omega)
   obtain ⟨ae, e, hx'⟩ := at_U HD.out m (by omega)
   injection e with e
   subst e
   have hx := pw_cell_below B1.out hx'
   clear hx'
   obtain ⟨z, hz⟩ : ∃ z, z = D.getD m 0 := ⟨_, rfl⟩
   rw [← hz] at hx
   have HZ := Aside0.mk hz
   clear hz
   have hwm : wrap64 (((m + 1 : Nat) : Int) - 1) = (m : Int) := by unfold wrap64; omega
   have hwm2 : wrap64 ((m : Int) + 1 - 1) = (m : Int) := by unfold wrap64; omega
   have hwm3 : IntKind.i64.wrap ((m : Int) + 1 - 1) = (m : Int) := by rw [i64_w]; exact hwm2
   have hmn : m < nD := by omega
   by_cases h2 : z = 0
   ·have g3 : (z == 0) = true := by rw [h2]; rfl
    have N1 : Aside0 (bval (D.take m) = bval D) := ⟨by rw [bval_drop0 (by rw [← HN.out]; exact hmn) (by rw [← HZ.out]; exact h2)]; exact KB.out⟩
    clear h2 KB
    go_wp2_with fail
    go_round
    case measure => simp [intOf]
    case rel => exact ⟨m, by omega, by first | rfl | simp, N1⟩
   ·have g3 : (z == 0) = false := by simpa using h2
    have N1 : Aside0 (TrimS D (m + 1)) := ⟨by rw [← HN.out]; exact hn, KB.out, .inr (by rw [Nat.add_sub_cancel, ← HZ.out]; exact h2)⟩
    clear h2 KB
    go_upto_region 4 with fail
    have k1 : 0 ≤ (m : Int) + 1 := by omega
    have k2 : (m : Int) + 1 ≤ (c : Int) := by omega
    have q0' : W1.drew.cell? ⟨p1, 0, none⟩ = some (.bool true) := q0
    have q1' : W1.drew.cell? ⟨p1, 1, none⟩ = some (.slice (some ad) nD c) := q1
    refine start_ (n := 12) (S := fun w' => w'.cell? ⟨p1, 0, none⟩ = some (.bool true) ∧ w'.cell? ⟨p1, 1, none⟩ = some (.slice (some ad) nD c)) (ds := [11]) #[false, false, false, false, false, false, false, false, false, false, false, false] (by kernel_rfl) rfl rfl ⟨q0', q1'⟩ (fun hHeld => ?_)
    clear q0' q1'
    refine puU 0 (some 20) ?_ rfl rfl (by kernel_rfl) (fun _ _ _ h => h) (Or.inl ⟨by rfl, ?_⟩) ?_ ?_ ?_
    rotate_left
    ·intro w'
     go_simp
     with_reducible rfl
    rotate_left
    ·simp only [Act.put, lsA, lsB, lsC]
     rfl
    refine taU 1 (some 21) ?_ rfl rfl (by kernel_rfl) (fun _ _ _ h => h) (Or.inl ⟨by rfl, ?_⟩) hHeld ?_ ?_ ?_
    rotate_left
    ·rintro w' ⟨s0, s1⟩
     go_simp
     with_reducible rfl
    rotate_left
    ·simp only [Act.put, lsA, lsB, lsC]
     rfl
    refine puU 2 (some 22) ?_ rfl rfl (by kernel_rfl) (fun _ _ _ h => h) (Or.inl ⟨by rfl, ?_⟩) ?_ ?_ ?_
    rotate_left
    ·intro w'
     go_simp
     with_reducible rfl
    rotate_left
    ·simp only [Act.put, lsA, lsB, lsC]
     rfl
    refine puU 3 (some 23) ?_ rfl rfl (by kernel_rfl) (fun _ _ _ h => h) (Or.inl ⟨by rfl, ?_⟩) ?_ ?_ ?_
    rotate_left
    ·intro w'
     go_simp
     with_reducible rfl
    rotate_left
    ·simp only [Act.put, lsA, lsB, lsC]
     rfl
    refine puU 4 (some 24) ?_ rfl rfl (by kernel_rfl) (fun _ _ _ h => h) (Or.inl ⟨by rfl, ?_⟩) ?_ ?_ ?_
    rotate_left
    ·intro w'
     go_simp
     with_reducible rfl
    rotate_left
    ·simp only [Act.put, lsA, lsB, lsC]
     rfl
    refine puU 5 (some 25) ?_ rfl rfl (by kernel_rfl) (fun _ _ _ h => h) (Or.inl ⟨by rfl, ?_⟩) ?_ ?_ ?_
    rotate_left
    ·intro w'
     go_simp
     with_reducible rfl
    rotate_left
    ·simp only [Act.put, lsA, lsB, lsC]
     rfl
    refine puU 6 (some 26) ?_ rfl rfl (by kernel_rfl) (fun _ _ _ h => h) (Or.inl ⟨by rfl, ?_⟩) ?_ ?_ ?_
    rotate_left
    ·intro w'
     go_simp
     with_reducible rfl
    rotate_left
    ·simp only [Act.put, lsA, lsB, lsC]
     rfl
    refine taU 7 (some 27) ?_ rfl rfl (by kernel_rfl) (fun _ _ _ h => h) (Or.inl ⟨by rfl, ?_⟩) hHeld ?_ ?_ ?_
    rotate_left
    ·rintro w' ⟨s0, s1⟩
     go_simp
     with_reducible rfl
    rotate_left
    ·simp only [Act.put, lsA, lsB, lsC]
     rfl
    refine puU 8 (some 28) ?_ rfl rfl (by kernel_rfl) (fun _ _ _ h => h) (Or.inl ⟨by rfl, ?_⟩) ?_ ?_ ?_
    rotate_left
    ·intro w'
     go_simp
     with_reducible rfl
    rotate_left
    ·simp only [Act.put, lsA, lsB, lsC]
     rfl
    refine puU 9 (some 29) ?_ rfl rfl (by kernel_rfl) (fun _ _ _ h => h) (Or.inl ⟨by rfl, ?_⟩) ?_ ?_ ?_
    rotate_left
    ·intro w'
     go_simp
     with_reducible rfl
    rotate_left
    ·simp only [Act.put, lsA, lsB, lsC]
     rfl
    refine puU 10 (some 30) ?_ rfl rfl (by kernel_rfl) (fun _ _ _ h => h) (Or.inl ⟨by rfl, ?_⟩) ?_ ?_ ?_
    rotate_left
    ·intro w'
     go_simp
     with_reducible rfl
    rotate_left
    ·simp only [Act.put, lsA, lsB, lsC]
     rfl
    refine last_ (i := 11) (N := none) #[true, true, true, true, true, true, true, true, true, true, true, true] rfl rfl (by kernel_rfl) (by decide) (fun K hK => ?_)
    have h0 : W1.cell? ⟨p1 + 1, 0, none⟩ = some (.bool false) := (blk_cell Q2.out 0).trans rfl
    have h1 : W1.cell? ⟨p1 + 1, 1, none⟩ = some (.slice none 0 0) := (blk_cell Q2.out 1).trans rfl
    have h2 : ∀ j, W1.frozen? ⟨p1 + 1, j, none⟩ = false := blk_frozen (w := W1) Q2.out
    refine skip_ (w1 := ?_) (by rfl) rfl ?_ ?_
    rotate_left
    ·go_simp
     rfl
    refine hK.out _ _ ?_
    clear hK K h0 h1 h2
    refine done_ (by kernel_rfl) ?_
    clear hHeld q0 q1
    have QZ := blk_put (blk_put (w := W1) Q2.out 0 (.bool true) rfl) 1 (.slice (some ad) (m + 1) c) rfl
    go_wp2_with fail
    have r0 := (blk_cell QZ 0).trans rfl
    have r1 := (blk_cell QZ 1).trans rfl
    refine bodyPost_ret (v := .agg #[.bool true, .slice (some ad) (m + 1) c]) (by simp [results, Try.results87, go_sem, r0, r1]) rfl ?_
    refine ⟨(m + 1), by simp, ⟨N1.out, ?_⟩⟩
    have hb := B1.out
    exact below_drew ((hb.setCell (p := ⟨p1 + 1, 0, none⟩) (by have := HP.out; show w.heap.size ≤ p1 + 1; omega) _).setCell (p := ⟨p1 + 1, 1, none⟩) (by have := HP.out; show w.heap.size ≤ p1 + 1; omega) _)
set_option maxHeartbeats 4000000 in
set_option maxRecDepth 100000 in
theorem trim_false (w : World) (ad : Addr) (c : Nat) (D : List Int) (hD : (Kd.int .u64).C w (some ad) D.length D) (hc : D.length ≤ c) (hl : D.length ≤ 17592186044416) :
  Calls Try.prog 87 #[.agg #[.bool false, .slice (some ad) D.length c]] w fun e w' => ∃ n : Nat, e = .returned (.agg #[.bool (false && decide (0 < n)), .slice (some ad) n c]) ∧ Aside0 (TrimS D n ∧ Below w.heap.size w w') := by
 obtain ⟨nD, hnD⟩ : ∃ n, n = D.length := ⟨_, rfl⟩
 rw [← hnD] at hD hc hl ⊢
 have HD := Aside0.mk hD
 have HN := Aside0.mk hnD
 clear hnD hD
 have hu111 := Try.underlying111
 go_enter Try.func87, Try.ntmps87
 go_wp2_with fail
 obtain ⟨W1, hW1⟩ : ∃ W, W = (w.alloc (.cells #[.bool false, .slice (some ad) nD c] 111)).alloc (.cells #[.bool false, .slice none 0 0] 111) := ⟨_, rfl⟩
 rw [← hW1]
 have B1 : Aside0 (Below w.heap.size w W1) := ⟨by rw [hW1]; exact below_alloc (below_alloc (Below.refl _ _) _) _⟩
 obtain ⟨p1, hp1⟩ : ∃ p, p = w.heap.size := ⟨_, rfl⟩
 have Q1 : Aside0 (W1.heap[p1]? = some (.cells #[.bool false, .slice (some ad) nD c] 111 (0, 0))) := ⟨by rw [hW1, hp1]; simp only [al_get, al_size]; repeat (first | rw [if_pos trivial] | rw [if_neg (by omega)])⟩
 have Q2 : Aside0 (W1.heap[p1 + 1]? = some (.cells #[.bool false, .slice none 0 0] 111 (0, 0))) := ⟨by rw [hW1, hp1]; simp only [al_get, al_size]; repeat (first | rw [if_pos trivial] | rw [if_neg (by omega)])⟩
 rw [← hp1]
 have HP := Aside0.mk hp1
 clear hW1 hp1
 have q0 : W1.cell? ⟨p1, 0, none⟩ = some (.bool false) := (blk_cell Q1.out 0).trans rfl
 have q1 : W1.cell? ⟨p1, 1, none⟩ = some (.slice (some ad) nD c) := (blk_cell Q1.out 1).trans rfl
 have K0 : Aside0 (bval (D.take nD) = bval D) := ⟨by rw [HN.out, List.take_length]⟩
 go_loop [3] (fun v => ∃ n : Nat, n ≤ nD ∧ v = .int .i64 n ∧ Aside0 (bval (D.take n) = bval D)) (fun v => (intOf v).toNat)
 case atStart => exact ⟨nD, Nat.le_refl _, rfl, K0⟩
 case round =>
  clear K0
  obtain ⟨n, hn, rfl, KB⟩ := hrel
  rcases Nat.eq_zero_or_pos n with h0 | h0
  ·obtain rfl := h0
   have N1 : Aside0 (TrimS D 0) := ⟨Nat.zero_le _, KB.out, .inl rfl⟩
   clear KB
   go_upto_region 4 with fail
   have q0' : W1.drew.cell? ⟨p1, 0, none⟩ = some (.bool false) := q0
   have q1' : W1.drew.cell? ⟨p1, 1, none⟩ = some (.slice (some ad) nD c) := q1
   refine start_ (n := 12) (S := fun w' => w'.cell? ⟨p1, 0, none⟩ = some (.bool false) ∧ w'.cell? ⟨p1, 1, none⟩ = some (.slice (some ad) nD c)) (ds := [11]) #[false, false, false, false, false, false, false, false, false, false, false, false] (by kernel_rfl) rfl rfl ⟨q0', q1'⟩ (fun hHeld => ?_)
   clear q0' q1'
   refine puU 0 (some 20) ?_ rfl rfl (by kernel_rfl) (fun _ _ _ h => h) (Or.inl ⟨by rfl, ?_⟩) ?_ ?_ ?_
   rotate_left
   ·intro w'
    go_simp
    with_reducible rfl
   rotate_left
   ·simp only [Act.put, lsA, lsB, lsC]
    rfl
   refine taU 1 (some 21) ?_ rfl rfl (by kernel_rfl) (fun _ _ _ h => h) (Or.inl ⟨by rfl, ?_⟩) hHeld ?_ ?_ ?_
   rotate_left
   ·rintro w' ⟨s0, s1⟩
    go_simp
    with_reducible rfl
   rotate_left
   ·simp only [Act.put, lsA, lsB, lsC]
    rfl
   refine puU 2 (some 22) ?_ rfl rfl (by kernel_rfl) (fun _ _ _ h => h) (Or.inl ⟨by rfl, ?_⟩) ?_ ?_ ?_
   rotate_left
   ·intro w'
    go_simp
    with_reducible rfl
   rotate_left
   ·simp only [Act.put, lsA, lsB, lsC]
    rfl
   refine pure_ (i := 3) (N := some 23) (v := undef) (a' := ?_) #[true, true, true, true, false, false, false, false, false, false, false, false] rfl rfl (by kernel_rfl) (fun _ _ _ h => h) (Or.inr ⟨by rfl, rfl⟩) ?_ ?_
   rotate_left
   ·simp only [Act.put, lsA, lsB, lsC]
    rfl
   refine pure_ (i := 4) (N := some 24) (v := undef) (a' := ?_) #[true, true, true, true, true, false, false, false, false, false, false, false] rfl rfl (by kernel_rfl) (fun _ _ _ h => h) (Or.inr ⟨by rfl, rfl⟩) ?_ ?_
   rotate_left
   ·simp only [Act.put, lsA, lsB, lsC]
    rfl
   refine puU 5 (some 25) ?_ rfl rfl (by kernel_rfl) (fun _ _ _ h => h) (Or.inl ⟨by rfl, ?_⟩) ?_ ?_ ?_
   rotate_left
   ·intro w'
    go_simp
    with_reducible rfl
   rotate_left
   ·simp only [Act.put, lsA, lsB, lsC]
    rfl
   refine puU 6 (some 26) ?_ rfl rfl (by kernel_rfl) (fun _ _ _ h => h) (Or.inl ⟨by rfl, ?_⟩) ?_ ?_ ?_
   rotate_left
   ·intro w'
    go_simp
    with_reducible rfl
   rotate_left
   ·simp only [Act.put, lsA, lsB, lsC]
    rfl
   refine taU 7 (some 27) ?_ rfl rfl (by kernel_rfl) (fun _ _ _ h => h) (Or.inl ⟨by rfl, ?_⟩) hHeld ?_ ?_ ?_
   rotate_left
   ·rintro w' ⟨s0, s1⟩
    go_simp
    with_reducible rfl
   rotate_left
   ·simp only [Act.put, lsA, lsB, lsC]
    rfl
   refine puU 8 (some 28) ?_ rfl rfl (by kernel_rfl) (fun _ _ _ h => h) (Or.inl ⟨by rfl, ?_⟩) ?_ ?_ ?_
   rotate_left
   ·intro w'
    go_simp
    with_reducible rfl
   rotate_left
   ·simp only [Act.put, lsA, lsB, lsC]
    rfl
   refine puU 9 (some 29) ?_ rfl rfl (by kernel_rfl) (fun _ _ _ h => h) (Or.inl ⟨by rfl, ?_⟩) ?_ ?_ ?_
   rotate_left
   ·intro w'
    go_simp
    with_reducible rfl
   rotate_left
   ·simp only [Act.put, lsA, lsB, lsC]
    rfl
   refine puU 10 (some 30) ?_ rfl rfl (by kernel_rfl) (fun _ _ _ h => h) (Or.inl ⟨by rfl, ?_⟩) ?_ ?_ ?_
   rotate_left
   ·intro w'
    go_simp
    with_reducible rfl
   rotate_left
   ·simp only [Act.put, lsA, lsB, lsC]
    rfl
   refine last_ (i := 11) (N := none) #[true, true, true, true, true, true, true, true, true, true, true, true] rfl rfl (by kernel_rfl) (by decide) (fun K hK => ?_)
   have h0 : W1.cell? ⟨p1 + 1, 0, none⟩ = some (.bool false) := (blk_cell Q2.out 0).trans rfl
   have h1 : W1.cell? ⟨p1 + 1, 1, none⟩ = some (.slice none 0 0) := (blk_cell Q2.out 1).trans rfl
   have h2 : ∀ j, W1.frozen? ⟨p1 + 1, j, none⟩ = false := blk_frozen (w := W1) Q2.out
   refine skip_ (w1 := ?_) (by rfl) rfl ?_ ?_
   rotate_left
   ·go_simp
    rfl
   refine hK.out _ _ ?_
   clear hK K h0 h1 h2
   refine done_ (by kernel_rfl) ?_
   clear hHeld q0 q1
   have QZ := blk_put (blk_put (w := W1) Q2.out 0 (.bool false) rfl) 1 (.slice (some ad) 0 c) rfl
   go_wp2_with fail
   have r0 := (blk_cell QZ 0).trans rfl
   have r1 := (blk_cell QZ 1).trans rfl
   refine bodyPost_ret (v := .agg #[.bool false, .slice (some ad) 0 c]) (by simp [results, Try.results87, go_sem, r0, r1]) rfl ?_
   refine ⟨0, by simp, ⟨N1.out, ?_⟩⟩
   have hb := B1.out
   exact below_drew ((hb.setCell (p := ⟨p1 + 1, 0, none⟩) (by have := HP.out; show w.heap.size ≤ p1 + 1; omega) _).setCell (p := ⟨p1 + 1, 1, none⟩) (by have := HP.out; show w.heap.size ≤ p1 + 1; omega) _)
  ·obtain ⟨m, rfl⟩ : ∃ m, n = m + 1 := ⟨n - 1, by omega⟩
   have g1 : decide (((m + 1 : Nat) : Int) > 0) = true := decide_eq_true (by omega)
   have g2 : decide (0 < m + 1) = true := decide_eq_true (by omega)
   obtain ⟨ae, e, hx'⟩ := at_U HD.out m (by omega)
   injection e with e
   subst e
   have hx := pw_cell_below B1.out hx'
   clear hx'
   obtain ⟨z, hz⟩ : ∃ z, z = D.getD m 0 := ⟨_, rfl⟩
   rw [← hz] at hx
   have HZ := Aside0.mk hz
   clear hz
   have hwm : wrap64 (((m + 1 : Nat) : Int) - 1) = (m : Int) := by unfold wrap64; omega
   have hwm2 : wrap64 ((m : Int) + 1 - 1) = (m : Int) := by unfold wrap64; omega
   have hwm3 : IntKind.i64.wrap ((m : Int) + 1 - 1) = (m : Int) := by rw [i64_w]; exact hwm2
   have hmn : m < nD := by omega
   by_cases h2 : z = 0
   ·have g3 : (z == 0) = true := by rw [h2]; rfl
    have N1 : Aside0 (bval (D.take m) = bval D) := ⟨by rw [bval_drop0 (by rw [← HN.out]; exact hmn) (by rw [← HZ.out]; exact h2)]; exact KB.out⟩
    clear h2 KB
    go_wp2_with fail
    go_round
    case measure => simp [intOf]
    case rel => exact ⟨m, by omega, by first | rfl | simp, N1⟩
   ·have g3 : (z == 0) = false := by simpa using h2
    have N1 : Aside0 (TrimS D (m + 1)) := ⟨by rw [← HN.out]; exact hn, KB.out, .inr (by rw [Nat.add_sub_cancel, ← HZ.out]; exact h2)⟩
    clear h2 KB
    go_upto_region 4 with fail
    have k1 : 0 ≤ (m : Int) + 1 := by omega
    have k2 : (m : Int) + 1 ≤ (c : Int) := by omega
    have q0' : W1.drew.cell? ⟨p1, 0, none⟩ = some (.bool false) := q0
    have q1' : W1.drew.cell? ⟨p1, 1, none⟩ = some (.slice (some ad) nD c) := q1
    refine start_ (n := 12) (S := fun w' => w'.cell? ⟨p1, 0, none⟩ = some (.bool false) ∧ w'.cell? ⟨p1, 1, none⟩ = some (.slice (some ad) nD c)) (ds := [11]) #[false, false, false, false, false, false, false, false, false, false, false, false] (by kernel_rfl) rfl rfl ⟨q0', q1'⟩ (fun hHeld => ?_)
    clear q0' q1'
    refine puU 0 (some 20) ?_ rfl rfl (by kernel_rfl) (fun _ _ _ h => h) (Or.inl ⟨by rfl, ?_⟩) ?_ ?_ ?_
    rotate_left
    ·intro w'
     go_simp
     with_reducible rfl
    rotate_left
    ·simp only [Act.put, lsA, lsB, lsC]
     rfl
    refine taU 1 (some 21) ?_ rfl rfl (by kernel_rfl) (fun _ _ _ h => h) (Or.inl ⟨by rfl, ?_⟩) hHeld ?_ ?_ ?_
    rotate_left
    ·rintro w' ⟨s0, s1⟩
     go_simp
     with_reducible rfl
    rotate_left
    ·simp only [Act.put, lsA, lsB, lsC]
     rfl
    refine puU 2 (some 22) ?_ rfl rfl (by kernel_rfl) (fun _ _ _ h => h) (Or.inl ⟨by rfl, ?_⟩) ?_ ?_ ?_
    rotate_left
    ·intro w'
     go_simp
     with_reducible rfl
    rotate_left
    ·simp only [Act.put, lsA, lsB, lsC]
     rfl
    refine pure_ (i := 3) (N := some 23) (v := undef) (a' := ?_) #[true, true, true, true, false, false, false, false, false, false, false, false] rfl rfl (by kernel_rfl) (fun _ _ _ h => h) (Or.inr ⟨by rfl, rfl⟩) ?_ ?_
    rotate_left
    ·simp only [Act.put, lsA, lsB, lsC]
     rfl
    refine pure_ (i := 4) (N := some 24) (v := undef) (a' := ?_) #[true, true, true, true, true, false, false, false, false, false, false, false] rfl rfl (by kernel_rfl) (fun _ _ _ h => h) (Or.inr ⟨by rfl, rfl⟩) ?_ ?_
    rotate_left
    ·simp only [Act.put, lsA, lsB, lsC]
     rfl
    refine puU 5 (some 25) ?_ rfl rfl (by kernel_rfl) (fun _ _ _ h => h) (Or.inl ⟨by rfl, ?_⟩) ?_ ?_ ?_
    rotate_left
    ·intro w'
     go_simp
     with_reducible rfl
    rotate_left
    ·simp only [Act.put, lsA, lsB, lsC]
     rfl
    refine puU 6 (some 26) ?_ rfl rfl (by kernel_rfl) (fun _ _ _ h => h) (Or.inl ⟨by rfl, ?_⟩) ?_ ?_ ?_
    rotate_left
    ·intro w'
     go_simp
     with_reducible rfl
    rotate_left
    ·simp only [Act.put, lsA, lsB, lsC]
     rfl
    refine taU 7 (some 27) ?_ rfl rfl (by kernel_rfl) (fun _ _ _ h => h) (Or.inl ⟨by rfl, ?_⟩) hHeld ?_ ?_ ?_
    rotate_left
    ·rintro w' ⟨s0, s1⟩
     go_simp
     with_reducible rfl
    rotate_left
    ·simp only [Act.put, lsA, lsB, lsC]
     rfl
    refine puU 8 (some 28) ?_ rfl rfl (by kernel_rfl) (fun _ _ _ h => h) (Or.inl ⟨by rfl, ?_⟩) ?_ ?_ ?_
    rotate_left
    ·intro w'
     go_simp
     with_reducible rfl
    rotate_left
    ·simp only [Act.put, lsA, lsB, lsC]
     rfl
    refine puU 9 (some 29) ?_ rfl rfl (by kernel_rfl) (fun _ _ _ h => h) (Or.inl ⟨by rfl, ?_⟩) ?_ ?_ ?_
    rotate_left
    ·intro w'
     go_simp
     with_reducible rfl
    rotate_left
    ·simp only [Act.put, lsA, lsB, lsC]
     rfl
    refine puU 10 (some 30) ?_ rfl rfl (by kernel_rfl) (fun _ _ _ h => h) (Or.inl ⟨by rfl, ?_⟩) ?_ ?_ ?_
    rotate_left
    ·intro w'
     go_simp
     with_reducible rfl
    rotate_left
    ·simp only [Act.put, lsA, lsB, lsC]
     rfl
    refine last_ (i := 11) (N := none) #[true, true, true, true, true, true, true, true, true, true, true, true] rfl rfl (by kernel_rfl) (by decide) (fun K hK => ?_)
    have h0 : W1.cell? ⟨p1 + 1, 0, none⟩ = some (.bool false) := (blk_cell Q2.out 0).trans rfl
    have h1 : W1.cell? ⟨p1 + 1, 1, none⟩ = some (.slice none 0 0) := (blk_cell Q2.out 1).trans rfl
    have h2 : ∀ j, W1.frozen? ⟨p1 + 1, j, none⟩ = false := blk_frozen (w := W1) Q2.out
    refine skip_ (w1 := ?_) (by rfl) rfl ?_ ?_
    rotate_left
    ·go_simp
     rfl
    refine hK.out _ _ ?_
    clear hK K h0 h1 h2
    refine done_ (by kernel_rfl) ?_
    clear hHeld q0 q1
    have QZ := blk_put (blk_put (w := W1) Q2.out 0 (.bool false) rfl) 1 (.slice (some ad) (m + 1) c) rfl
    go_wp2_with fail
    have r0 := (blk_cell QZ 0).trans rfl
    have r1 := (blk_cell QZ 1).trans rfl
    refine bodyPost_ret (v := .agg #[.bool false, .slice (some ad) (m + 1) c]) (by simp [results, Try.results87, go_sem, r0, r1]) rfl ?_
    refine ⟨(m + 1), by simp, ⟨N1.out, ?_⟩⟩
    have hb := B1.out
    exact below_drew ((hb.setCell (p := ⟨p1 + 1, 0, none⟩) (by have := HP.out; show w.heap.size ≤ p1 + 1; omega) _).setCell (p := ⟨p1 + 1, 1, none⟩) (by have := HP.out; show w.heap.size ≤ p1 + 1; omega) _)
end Go.Proofs.Ytelabmhhnpfegaa.Hand
end
section
namespace Go.Proofs.Ytelabmhhnpfegaa.Hand
open Go.RowKit Go.Proofs.YtelabmhhnpfegaaW.PrintWords Go.Proofs.YtelabmhhnpfegaaW.PrintLast Go.Proofs.YtelabmhhnpfegaaW.PrintMore Go.Proofs.Ytelabmhhnpfegaa.PDynCells
structure Dg (D : List Int) (m : Int) : Prop where
 dig : ∀ d ∈ D, 0 ≤ d ∧ d < 65536
 val : bval D = m
 top : D.length = 0 ∨ D.getD (D.length - 1) 0 ≠ 0
def dgT (u : Int) (i : Nat) : List Int := (List.range i).map fun j => u / 65536 ^ j % 65536
theorem dgT_snoc (u : Int) (i : Nat) : dgT u (i + 1) = dgT u i ++ [u / 65536 ^ i % 65536] := by
 unfold dgT
 rw [List.range_succ, List.map_append]
 rfl
theorem dgT_len (u : Int) (i : Nat) : (dgT u i).length = i := by
 unfold dgT
 rw [List.length_map, List.length_range]
theorem dgT_dig (u : Int) (i : Nat) : ∀ d ∈ dgT u i, 0 ≤ d ∧ d < 65536 := by
 intro d hd
 unfold dgT at hd
 obtain ⟨j, _, rfl⟩ := List.mem_map.1 hd
 exact ⟨Int.emod_nonneg _ (by omega), Int.emod_lt_of_pos _ (by omega)⟩
theorem dgT_val (u : Int) : ∀ i : Nat, bval (dgT u i) = u - u / 65536 ^ i * 65536 ^ i
 | 0 => by simp [dgT, bval]
 | i + 1 => by
  rw [dgT_snoc, bval_snoc, dgT_val u i, dgT_len, Int.pow_succ, ← Int.mul_assoc]
  rw [← Int.ediv_ediv_of_nonneg (by exact Int.le_of_lt (Int.pow_pos (by omega)))]
  generalize u / 65536 ^ i = z
  have h := Int.emod_add_mul_ediv z 65536
  have e : z * 65536 ^ i = (z % 65536) * 65536 ^ i + z / 65536 * 65536 ^ i * 65536 := by
   conv => lhs; rw [← h]
   rw [Int.add_mul, Int.mul_comm 65536, Int.mul_assoc, Int.mul_assoc, Int.mul_comm 65536]
  omega
theorem getD_take' {l : List Int} {n k : Nat} (h : k < n) : (l.take n).getD k 0 = l.getD k 0 := by
 rw [List.getD_eq_getElem?_getD, List.getD_eq_getElem?_getD, List.getElem?_take, if_pos h]
theorem TrimS.dg {D : List Int} {n : Nat} (h : TrimS D n) (hd : ∀ d ∈ D, 0 ≤ d ∧ d < 65536) : Dg (D.take n) (bval D) := by
 refine ⟨fun d hm => hd d (List.mem_of_mem_take hm), h.val, ?_⟩
 have hl : (D.take n).length = n := by rw [List.length_take]; have := h.le; omega
 rw [hl]
 rcases h.top with e | e
 ·exact .inl e
 ·by_cases h0 : n = 0
  ·exact .inl h0
  ·right
   rw [getD_take' (by omega)]
   exact e
theorem CU_take {w : World} {A : Option Addr} {ys : List Int} (h : (Kd.int .u64).C w A ys.length ys) {n : Nat} (hn : n ≤ ys.length) : (Kd.int .u64).C w A n (ys.take n) := by
 obtain ⟨_, hm, hc⟩ := h
 refine ⟨by rw [List.length_take]; omega, by omega, fun h0 => ?_⟩
 obtain ⟨ad, e, hj⟩ := hc (by omega)
 refine ⟨ad, e, fun j p hp => hj j p ?_⟩
 rw [List.getElem?_take] at hp
 split at hp
 ·exact hp
 ·cases hp
def BigV (w : World) (neg : Bool) (m : Int) (v : Value) : Prop := ∃ (ad : Addr) (n c : Nat) (D : List Int), v = .agg #[.bool neg, .slice (some ad) n c] ∧ n ≤ c ∧ n ≤ 1000 ∧ D.length = n ∧ (Kd.int .u64).C w (some ad) n D ∧ Dg D m ∧ ∃ cs, w.heap[ad.block]? = some (.cells cs 145 (0, 0))
theorem BigV.below {w w1 : World} {neg : Bool} {m : Int} {v : Value} (h : BigV w neg m v) (hb : Below w.heap.size w w1) : BigV w1 neg m v := by
 obtain ⟨ad, n, c, D, h1, h2, h3, h4, h5, h6, cs, h7⟩ := h
 exact ⟨ad, n, c, D, h1, h2, h3, h4, Kd.C_below h5 hb, h6, cs, blk_below h7 hb⟩
theorem BigV.set {w : World} {neg : Bool} {m : Int} {v : Value} (h : BigV w neg m v) {g : Nat} {cs : Array Value} {t : TypeId} (hb : w.heap[g]? = some (.cells cs t (0, 0))) (ht : t ≠ 145) (j : Nat) (u : Value) : BigV (w.setCell ⟨g, j, none⟩ u) neg m v := by
 obtain ⟨ad, n, c, D, h1, h2, h3, h4, h5, h6, cs, h7⟩ := h
 have hne : ad.block ≠ g := ty_ne h7 hb ht.symm
 exact ⟨ad, n, c, D, h1, h2, h3, h4, Kd.C_keep (0 : Int) h5 ((KeepBut.refl w g none).set_ j u) (fun a e _ => by injection e with e; rw [← e]; exact hne), h6, cs, blk_far h7 hne u⟩
theorem trim_big (w : World) (neg : Bool) (ad : Addr) (nD c : Nat) (D : List Int) (hn : D.length = nD) (hD : (Kd.int .u64).C w (some ad) nD D) (hty : ∃ cs, w.heap[ad.block]? = some (.cells cs 145 (0, 0))) (hc : nD ≤ c) (hl : nD ≤ 1000) (hd : ∀ d ∈ D, 0 ≤ d ∧ d < 65536) (hz : neg = true → bval D ≠ 0) :
  Calls Try.prog 87 #[.agg #[.bool neg, .slice (some ad) nD c]] w fun e w' => ∃ (n : Nat), e = .returned (.agg #[.bool neg, .slice (some ad) n c]) ∧ Aside0 (BigV w' neg (bval D) (.agg #[.bool neg, .slice (some ad) n c]) ∧ n ≤ nD ∧ Below w.heap.size w w') := by
 subst hn
 obtain ⟨cs, hcs⟩ := hty
 have key : ∀ n, TrimS D n → (neg && decide (0 < n)) = neg := fun n h => by
  cases neg with
  | false => rfl
  | true =>
   have : n ≠ 0 := fun e => by
    have h1 := h.val
    rw [e, List.take_zero] at h1
    exact hz rfl h1.symm
   simp
   omega
 have go : ∀ n (w' : World), TrimS D n → Below w.heap.size w w' → BigV w' neg (bval D) (.agg #[.bool neg, .slice (some ad) n c]) := fun n w' h hb =>
  ⟨ad, n, c, D.take n, rfl, by have := h.le; omega, by have := h.le; omega, by rw [List.length_take]; have := h.le; omega, Kd.C_below (CU_take hD h.le) hb, h.dg hd, cs, blk_below hcs hb⟩
 cases neg with
 | false =>
  refine (trim_false w ad c D hD hc (by omega)).mono ?_
  rintro _ w' ⟨n, rfl, h⟩
  exact ⟨n, by rw [key n h.out.1], go n w' h.out.1 h.out.2, h.out.1.le, h.out.2⟩
 | true =>
  refine (trim_true w ad c D hD hc (by omega)).mono ?_
  rintro _ w' ⟨n, rfl, h⟩
  exact ⟨n, by rw [key n h.out.1], go n w' h.out.1 h.out.2, h.out.1.le, h.out.2⟩
set_option maxHeartbeats 400000 in
set_option maxRecDepth 100000 in
theorem of_pos (w : World) (a : Int) (h0 : 0 ≤ a) (h1 : a ≤ 9223372036854775807) :
  Calls Try.prog 50 #[.int .i64 a] w fun e w' => ∃ v, e = .returned v ∧ Aside0 (BigV w' false a v ∧ Below w.heap.size w w') := by
 have hu109 := Try.underlying109
 have hu111 := Try.underlying111
 have g1 : decide (a < 0) = false := decide_eq_false (by omega)
 go_enter Try.func50, Try.ntmps50
 go_wp2_with fail
 obtain ⟨W1, hW1⟩ : ∃ W, W = w.alloc (.cells #[.bool false, .slice none 0 0] 111) := ⟨_, rfl⟩
 rw [← hW1]
 have B1 : Aside0 (Below w.heap.size w W1) := ⟨by rw [hW1]; exact below_alloc (Below.refl _ _) _⟩
 obtain ⟨p1, hp1⟩ : ∃ p, p = w.heap.size := ⟨_, rfl⟩
 have Q1 : Aside0 (W1.heap[p1]? = some (.cells #[.bool false, .slice none 0 0] 111 (0, 0))) := ⟨by rw [hW1, hp1]; exact heap_alloc_new _ _⟩
 rw [← hp1]
 have HP := Aside0.mk hp1
 clear hW1 hp1
 obtain ⟨u, hu⟩ : ∃ u : Int, u = a := ⟨_, rfl⟩
 rw [← hu]
 have HU := Aside0.mk hu
 have hu0 : 0 ≤ u := by omega
 have hu1 : u < 18446744073709551616 := by omega
 have HUB := Aside0.mk (And.intro hu0 hu1)
 clear hu
 have g2 : decide (u < 0) = false := decide_eq_false (by omega)
 have K0 : Aside0 (u = u / 65536 ^ 0 ∧ (Kd.int .u64).R 145 W1 W1.heap.size (fun _ => True) (.slice none 0 0) (dgT u 0) ∧ Below W1.heap.size W1 W1) := ⟨by simp, Kd.R_nil _ _ _ _ _, Below.refl _ _⟩
 go_loopw [3, 4, 5] (fun v3 v4 v5 wr => ∃ (i : Nat) (z : Int) (A : Option Addr) (n c : Nat), i ≤ 4 ∧ 0 ≤ z ∧ z < 18446744073709551616 ∧ v3 = .int .u64 z ∧ v4 = .slice A n c ∧ v5 = .int .i64 i ∧ Aside0 (z = u / 65536 ^ i ∧ (Kd.int .u64).R 145 wr W1.heap.size (fun _ => True) (.slice A n c) (dgT u i) ∧ Below W1.heap.size W1 wr)) (fun _ _ i _ => 4 - (intOf i).toNat)
 case atStart => exact ⟨0, u, none, 0, 0, by omega, hu0, hu1, rfl, rfl, rfl, K0⟩
 case round =>
  clear K0 hu0 hu1
  obtain ⟨i, z, A, n, c, hi, hz0, hz1, rfl, rfl, rfl, KK⟩ := hrel
  by_cases hlt : i < 4
  ·have HL : Aside0 (((dgT u i).length + 1) * 8 ≤ 140737488355328) := ⟨by rw [dgT_len]; omega⟩
   go_wp2_with (at_builtin; refine Kd.R_append (Kd.int .u64) (w0 := W1) W1.heap.size rfl _ _ 109 145 (.int .u64 0) 8 rfl Try.underlying109 info145 rfl (by decide) (by omega) (.slice A n c) (dgT u i) (z % 65536) [.int .u64 (z % 65536)] (fun _ => True) (fun _ => False) rfl rfl rfl (fun _ h => h.elim) (fun _ _ => trivial) KK.out.2.1 KK.out.2.2 KK.out.2.2.size HL.out ?_; intro v7 w7 ho7 hb7 _ _; obtain ⟨A7, n7, c7, rfl, _⟩ := R_open ho7; have O7 := Aside0.mk ho7; have B7 := Aside0.mk hb7; clear ho7 hb7)
   have N1 : Aside0 (z / 65536 = u / 65536 ^ (i + 1) ∧ (Kd.int .u64).R 145 w7 W1.heap.size (fun _ => True) (.slice A7 n7 c7) (dgT u (i + 1)) ∧ Below W1.heap.size W1 w7) := ⟨by
    rw [KK.out.1, Int.pow_succ]
    exact Int.ediv_ediv_of_nonneg (Int.le_of_lt (Int.pow_pos (by omega))), by rw [dgT_snoc, ← KK.out.1]; exact O7.out, B7.out⟩
   have hb : 0 ≤ z / 65536 ∧ z / 65536 < 18446744073709551616 := by omega
   go_roundw
   case rel => exact ⟨i + 1, _, _, _, _, by omega, hb.1, hb.2, rfl, rfl, by go_num, N1⟩
   case measure => simp [intOf]; omega
  ·obtain rfl : i = 4 := by omega
   have hC := R_C KK.out.2.1
   rw [dgT_len] at hC
   obtain ⟨hC1, hC2, hC3⟩ := hC
   subst hC2
   obtain ⟨ad, e⟩ : ∃ ad, A = some ad := by
    obtain ⟨_, _, hc⟩ := hC1
    obtain ⟨ad, e, _⟩ := hc (by omega)
    exact ⟨ad, e⟩
   subst e
   have HC := Aside0.mk hC1
   have TY : Aside0 (∃ cs, wr.heap[ad.block]? = some (.cells cs 145 (0, 0))) := ⟨by
    obtain ⟨g, cap, e, h1, h2, h3⟩ := Kd.R_form KK.out.2.1 (by rw [dgT_len]; omega)
    injection e with e _ _
    injection e with e
    rw [e]
    exact h3⟩
   clear hC1 hlt hi
   have VV' : Aside0 (bval (dgT u 4) = u) := ⟨by
    rw [dgT_val]
    have h1 : u / 65536 ^ 4 = 0 := by
     have := HUB.out
     rw [show (65536 : Int) ^ 4 = 18446744073709551616 from by decide]
     omega
    rw [h1]
    omega⟩
   obtain ⟨L, hL⟩ : ∃ L, L = dgT u 4 := ⟨_, rfl⟩
   have LL : Aside0 (L.length = 4) := ⟨by rw [hL, dgT_len]⟩
   have LD : Aside0 (∀ d ∈ L, 0 ≤ d ∧ d < 65536) := ⟨by rw [hL]; exact dgT_dig u 4⟩
   have VV : Aside0 (bval L = u) := ⟨by rw [hL]; exact VV'.out⟩
   rw [← hL] at HC
   clear hL VV'
   have q0 : wr.cell? ⟨p1, 0, none⟩ = some (.bool false) := (blk_cell (blk_below Q1.out KK.out.2.2) 0).trans rfl
   have q1 : wr.cell? ⟨p1, 1, none⟩ = some (.slice none 0 0) := (blk_cell (blk_below Q1.out KK.out.2.2) 1).trans rfl
   go_wp2_with fail
   clear q0 q1
   have TB := trim_big wr false ad 4 c L LL.out HC.out TY.out hC3 (by omega) LD.out (by rw [VV.out]; exact fun h => absurd h (by decide))
   refine TB.mono ?_
   clear TB
   rintro _ w9 ⟨m, rfl, H9⟩
   have Q9 : Aside0 (w9.heap[p1]? = some (.cells #[.bool false, .slice none 0 0] 111 (0, 0))) := ⟨blk_below (blk_below Q1.out KK.out.2.2) H9.out.2.2⟩
   have q0 : w9.cell? ⟨p1, 0, none⟩ = some (.bool false) := (blk_cell Q9.out 0).trans rfl
   have q1 : w9.cell? ⟨p1, 1, none⟩ = some (.slice none 0 0) := (blk_cell Q9.out 1).trans rfl
   have q2 : ∀ j, w9.frozen? ⟨p1, j, none⟩ = false := blk_frozen Q9.out
   go_wp2_with fail
   clear q0 q1 q2
   have QZ := blk_put (blk_put Q9.out 0 (.bool false) rfl) 1 (.slice (some ad) m c) rfl
   have r0 := (blk_cell QZ 0).trans rfl
   have r1 := (blk_cell QZ 1).trans rfl
   refine bodyPost_ret (v := .agg #[.bool false, .slice (some ad) m c]) (by simp [results, Try.results50, go_sem, r0, r1]) rfl ?_
   have hb := B1.out.trans ((KK.out.2.2.trans (H9.out.2.2.mono KK.out.2.2.size)).mono B1.out.size)
   refine ⟨_, rfl, ⟨?_, (hb.setCell (p := ⟨p1, 0, none⟩) (by have := HP.out; show w.heap.size ≤ p1; omega) _).setCell (p := ⟨p1, 1, none⟩) (by have := HP.out; show w.heap.size ≤ p1; omega) _⟩⟩
   have hv := H9.out.1
   rw [VV.out, HU.out] at hv
   exact (hv.set Q9.out (by decide) 0 (.bool false)).set (blk_put Q9.out 0 (.bool false) rfl) (by decide) 1 (.slice (some ad) m c)
set_option maxHeartbeats 400000 in
set_option maxRecDepth 100000 in
theorem of_low (w : World)  :
  Calls Try.prog 50 #[.int .i64 (-9223372036854775808)] w fun e w' => ∃ v, e = .returned v ∧ Aside0 (BigV w' true 9223372036854775808 v ∧ Below w.heap.size w w') := by
 have hu109 := Try.underlying109
 have hu111 := Try.underlying111
 skip
 go_enter Try.func50, Try.ntmps50
 go_wp2_with fail
 obtain ⟨W1, hW1⟩ : ∃ W, W = w.alloc (.cells #[.bool false, .slice none 0 0] 111) := ⟨_, rfl⟩
 rw [← hW1]
 have B1 : Aside0 (Below w.heap.size w W1) := ⟨by rw [hW1]; exact below_alloc (Below.refl _ _) _⟩
 obtain ⟨p1, hp1⟩ : ∃ p, p = w.heap.size := ⟨_, rfl⟩
 have Q1 : Aside0 (W1.heap[p1]? = some (.cells #[.bool false, .slice none 0 0] 111 (0, 0))) := ⟨by rw [hW1, hp1]; exact heap_alloc_new _ _⟩
 rw [← hp1]
 have HP := Aside0.mk hp1
 clear hW1 hp1
 obtain ⟨u, hu⟩ : ∃ u : Int, u = 9223372036854775808 := ⟨_, rfl⟩
 rw [← hu]
 have HU := Aside0.mk hu
 have hu0 : 0 ≤ u := by omega
 have hu1 : u < 18446744073709551616 := by omega
 have HUB := Aside0.mk (And.intro hu0 hu1)
 clear hu
 have g2 : decide (u < 0) = false := decide_eq_false (by omega)
 have g3 : decide (0 < u) = true := decide_eq_true (by have := HU.out; omega)
 have K0 : Aside0 (u = u / 65536 ^ 0 ∧ (Kd.int .u64).R 145 W1 W1.heap.size (fun _ => True) (.slice none 0 0) (dgT u 0) ∧ Below W1.heap.size W1 W1) := ⟨by simp, Kd.R_nil _ _ _ _ _, Below.refl _ _⟩
 go_loopw [3, 4, 5] (fun v3 v4 v5 wr => ∃ (i : Nat) (z : Int) (A : Option Addr) (n c : Nat), i ≤ 4 ∧ 0 ≤ z ∧ z < 18446744073709551616 ∧ v3 = .int .u64 z ∧ v4 = .slice A n c ∧ v5 = .int .i64 i ∧ Aside0 (z = u / 65536 ^ i ∧ (Kd.int .u64).R 145 wr W1.heap.size (fun _ => True) (.slice A n c) (dgT u i) ∧ Below W1.heap.size W1 wr)) (fun _ _ i _ => 4 - (intOf i).toNat)
 case atStart => exact ⟨0, u, none, 0, 0, by omega, hu0, hu1, rfl, rfl, rfl, K0⟩
 case round =>
  clear K0 hu0 hu1
  obtain ⟨i, z, A, n, c, hi, hz0, hz1, rfl, rfl, rfl, KK⟩ := hrel
  by_cases hlt : i < 4
  ·have HL : Aside0 (((dgT u i).length + 1) * 8 ≤ 140737488355328) := ⟨by rw [dgT_len]; omega⟩
   go_wp2_with (at_builtin; refine Kd.R_append (Kd.int .u64) (w0 := W1) W1.heap.size rfl _ _ 109 145 (.int .u64 0) 8 rfl Try.underlying109 info145 rfl (by decide) (by omega) (.slice A n c) (dgT u i) (z % 65536) [.int .u64 (z % 65536)] (fun _ => True) (fun _ => False) rfl rfl rfl (fun _ h => h.elim) (fun _ _ => trivial) KK.out.2.1 KK.out.2.2 KK.out.2.2.size HL.out ?_; intro v7 w7 ho7 hb7 _ _; obtain ⟨A7, n7, c7, rfl, _⟩ := R_open ho7; have O7 := Aside0.mk ho7; have B7 := Aside0.mk hb7; clear ho7 hb7)
   have N1 : Aside0 (z / 65536 = u / 65536 ^ (i + 1) ∧ (Kd.int .u64).R 145 w7 W1.heap.size (fun _ => True) (.slice A7 n7 c7) (dgT u (i + 1)) ∧ Below W1.heap.size W1 w7) := ⟨by
    rw [KK.out.1, Int.pow_succ]
    exact Int.ediv_ediv_of_nonneg (Int.le_of_lt (Int.pow_pos (by omega))), by rw [dgT_snoc, ← KK.out.1]; exact O7.out, B7.out⟩
   have hb : 0 ≤ z / 65536 ∧ z / 65536 < 18446744073709551616 := by omega
   go_roundw
   case rel => exact ⟨i + 1, _, _, _, _, by omega, hb.1, hb.2, rfl, rfl, by go_num, N1⟩
   case measure => simp [intOf]; omega
  ·obtain rfl : i = 4 := by omega
   have hC := R_C KK.out.2.1
   rw [dgT_len] at hC
   obtain ⟨hC1, hC2, hC3⟩ := hC
   subst hC2
   obtain ⟨ad, e⟩ : ∃ ad, A = some ad := by
    obtain ⟨_, _, hc⟩ := hC1
    obtain ⟨ad, e, _⟩ := hc (by omega)
    exact ⟨ad, e⟩
   subst e
   have HC := Aside0.mk hC1
   have TY : Aside0 (∃ cs, wr.heap[ad.block]? = some (.cells cs 145 (0, 0))) := ⟨by
    obtain ⟨g, cap, e, h1, h2, h3⟩ := Kd.R_form KK.out.2.1 (by rw [dgT_len]; omega)
    injection e with e _ _
    injection e with e
    rw [e]
    exact h3⟩
   clear hC1 hlt hi
   have VV' : Aside0 (bval (dgT u 4) = u) := ⟨by
    rw [dgT_val]
    have h1 : u / 65536 ^ 4 = 0 := by
     have := HUB.out
     rw [show (65536 : Int) ^ 4 = 18446744073709551616 from by decide]
     omega
    rw [h1]
    omega⟩
   obtain ⟨L, hL⟩ : ∃ L, L = dgT u 4 := ⟨_, rfl⟩
   have LL : Aside0 (L.length = 4) := ⟨by rw [hL, dgT_len]⟩
   have LD : Aside0 (∀ d ∈ L, 0 ≤ d ∧ d < 65536) := ⟨by rw [hL]; exact dgT_dig u 4⟩
   have VV : Aside0 (bval L = u) := ⟨by rw [hL]; exact VV'.out⟩
   rw [← hL] at HC
   clear hL VV'
   have q0 : wr.cell? ⟨p1, 0, none⟩ = some (.bool false) := (blk_cell (blk_below Q1.out KK.out.2.2) 0).trans rfl
   have q1 : wr.cell? ⟨p1, 1, none⟩ = some (.slice none 0 0) := (blk_cell (blk_below Q1.out KK.out.2.2) 1).trans rfl
   go_wp2_with fail
   clear q0 q1
   have TB := trim_big wr true ad 4 c L LL.out HC.out TY.out hC3 (by omega) LD.out (by rw [VV.out]; intro _; rw [HU.out]; decide)
   refine TB.mono ?_
   clear TB
   rintro _ w9 ⟨m, rfl, H9⟩
   have Q9 : Aside0 (w9.heap[p1]? = some (.cells #[.bool false, .slice none 0 0] 111 (0, 0))) := ⟨blk_below (blk_below Q1.out KK.out.2.2) H9.out.2.2⟩
   have q0 : w9.cell? ⟨p1, 0, none⟩ = some (.bool false) := (blk_cell Q9.out 0).trans rfl
   have q1 : w9.cell? ⟨p1, 1, none⟩ = some (.slice none 0 0) := (blk_cell Q9.out 1).trans rfl
   have q2 : ∀ j, w9.frozen? ⟨p1, j, none⟩ = false := blk_frozen Q9.out
   go_wp2_with fail
   clear q0 q1 q2
   have QZ := blk_put (blk_put Q9.out 0 (.bool true) rfl) 1 (.slice (some ad) m c) rfl
   have r0 := (blk_cell QZ 0).trans rfl
   have r1 := (blk_cell QZ 1).trans rfl
   refine bodyPost_ret (v := .agg #[.bool true, .slice (some ad) m c]) (by simp [results, Try.results50, go_sem, r0, r1]) rfl ?_
   have hb := B1.out.trans ((KK.out.2.2.trans (H9.out.2.2.mono KK.out.2.2.size)).mono B1.out.size)
   refine ⟨_, rfl, ⟨?_, (hb.setCell (p := ⟨p1, 0, none⟩) (by have := HP.out; show w.heap.size ≤ p1; omega) _).setCell (p := ⟨p1, 1, none⟩) (by have := HP.out; show w.heap.size ≤ p1; omega) _⟩⟩
   have hv := H9.out.1
   rw [VV.out, HU.out] at hv
   exact (hv.set Q9.out (by decide) 0 (.bool true)).set (blk_put Q9.out 0 (.bool true) rfl) (by decide) 1 (.slice (some ad) m c)
end Go.Proofs.Ytelabmhhnpfegaa.Hand
end
