/- The document's numbers, digit by digit: trim, walked. -/
import Derived.Test.YtelabmhhnpfegaaDm
import Derived.StillTailTactics
import Derived.Deep.QuietTactic
import Derived.BigQuiet
namespace Go.Proofs.Ytelabmhhnpfegaa.Hand
open Go.RowKit Go.Proofs.YtelabmhhnpfegaaW.PrintWords Go.Proofs.YtelabmhhnpfegaaW.PrintLast Go.Proofs.YtelabmhhnpfegaaW.PrintMore Go.Proofs.Ytelabmhhnpfegaa.PDynCells
def bval : List Int → Int
  | [] => 0
  | d :: t => d + 65536 * bval t
theorem bval_snoc : ∀ (l : List Int) (d : Int), bval (l ++ [d]) = bval l + d * 65536 ^ l.length
  | [], d => by simp [bval]
  | e :: t, d => by
    rw [List.cons_append, bval, bval_snoc t d, bval, List.length_cons, Int.pow_succ, Int.mul_add, Int.add_assoc]
    congr 2
    rw [← Int.mul_assoc, ← Int.mul_assoc, Int.mul_comm 65536 d, Int.mul_assoc, Int.mul_assoc, Int.mul_comm 65536]
theorem bval_drop0 {l : List Int} {n : Nat} (hn : n < l.length) (h : l.getD n 0 = 0) : bval (l.take n) = bval (l.take (n + 1)) := by
  rw [take_snoc hn 0, bval_snoc, h]
  simp
theorem at_U {w : World} {A : Option Addr} {n : Nat} {xs : List Int} (h : (Kd.int .u64).C w A n xs) (k : Nat) (hk : k < n) : ∃ ad, A = some ad ∧ w.cell? (ad.add k) = some (.int .u64 (xs.getD k 0)) := by
  obtain ⟨ad, e, hc⟩ := (Kd.reads_of_C (enc := Value.int .u64) (d := (0 : Int)) h).at_ (k : Int) (by omega) (by omega)
  rw [Int.toNat_natCast] at hc
  exact ⟨ad, e, by rw [hc]; unfold rdOf; rw [Int.toNat_natCast]⟩
/-- n of the digits are left. -/
structure TrimS (D : List Int) (n : Nat) : Prop where
  le : n ≤ D.length
  val : bval (D.take n) = bval D
  top : n = 0 ∨ D.getD (n - 1) 0 ≠ 0

set_option maxHeartbeats 4000000 in
set_option maxRecDepth 100000 in
theorem trim_true (w : World) (ad : Addr) (c : Nat) (D : List Int) (hD : (Kd.int .u64).C w (some ad) D.length D) (hc : D.length ≤ c) (hl : D.length ≤ 17592186044416) :
    Calls Try.prog 87 #[.agg #[.bool true, .slice (some ad) D.length c]] w fun e w' => ∃ n : Nat, e = .returned (.agg #[.bool (true && decide (0 < n)), .slice (some ad) n c]) ∧ Aside0 (TrimS D n ∧ Below w.heap.size w w') := by
  obtain ⟨nD, hnD⟩ : ∃ n, n = D.length := ⟨_, rfl⟩
  rw [← hnD] at hD hc hl ⊢
  have HD := Aside0.mk hD
  have HN := Aside0.mk hnD
  clear hnD hD
  have hu111 := Try.underlying111
  go_enter Try.func87, Try.ntmps87
  go_wp2_with fail
  obtain ⟨W1, hW1⟩ : ∃ W, W = (w.alloc (.cells #[.bool true, .slice (some ad) nD c] 111)).alloc (.cells #[.bool false, .slice none 0 0] 111) := ⟨_, rfl⟩
  rw [← hW1]
  have B1 : Aside0 (Below w.heap.size w W1) := ⟨by rw [hW1]; exact below_alloc (below_alloc (Below.refl _ _) _) _⟩
  obtain ⟨p1, hp1⟩ : ∃ p, p = w.heap.size := ⟨_, rfl⟩
  have Q1 : Aside0 (W1.heap[p1]? = some (.cells #[.bool true, .slice (some ad) nD c] 111 (0, 0))) := ⟨by rw [hW1, hp1]; simp only [al_get, al_size]; repeat (first | rw [if_pos trivial] | rw [if_neg (by omega)])⟩
  have Q2 : Aside0 (W1.heap[p1 + 1]? = some (.cells #[.bool false, .slice none 0 0] 111 (0, 0))) := ⟨by rw [hW1, hp1]; simp only [al_get, al_size]; repeat (first | rw [if_pos trivial] | rw [if_neg (by omega)])⟩
  rw [← hp1]
  have HP := Aside0.mk hp1
  clear hW1 hp1
  have q0 : W1.cell? ⟨p1, 0, none⟩ = some (.bool true) := (blk_cell Q1.out 0).trans rfl
  have q1 : W1.cell? ⟨p1, 1, none⟩ = some (.slice (some ad) nD c) := (blk_cell Q1.out 1).trans rfl
  have K0 : Aside0 (bval (D.take nD) = bval D) := ⟨by rw [HN.out, List.take_length]⟩
  go_loop [3] (fun v => ∃ n : Nat, n ≤ nD ∧ v = .int .i64 n ∧ Aside0 (bval (D.take n) = bval D)) (fun v => (intOf v).toNat)
  case atStart => exact ⟨nD, Nat.le_refl _, rfl, K0⟩
  case round =>
    clear K0
    obtain ⟨n, hn, rfl, KB⟩ := hrel
    rcases Nat.eq_zero_or_pos n with h0 | h0
    · obtain rfl := h0
      have N1 : Aside0 (TrimS D 0) := ⟨Nat.zero_le _, KB.out, .inl rfl⟩
      clear KB
      go_upto_region 4 with fail
      have q0' : W1.drew.cell? ⟨p1, 0, none⟩ = some (.bool true) := q0
      have q1' : W1.drew.cell? ⟨p1, 1, none⟩ = some (.slice (some ad) nD c) := q1
      refine start_ (n := 12) (S := fun w' => w'.cell? ⟨p1, 0, none⟩ = some (.bool true) ∧ w'.cell? ⟨p1, 1, none⟩ = some (.slice (some ad) nD c)) (ds := [11]) #[false, false, false, false, false, false, false, false, false, false, false, false] (by kernel_rfl) rfl rfl ⟨q0', q1'⟩ (fun hHeld => ?_)
      clear q0' q1'
      refine pure_ (i := 0) (N := some 20) (v := ?_) (a' := ?_) #[true, false, false, false, false, false, false, false, false, false, false, false] rfl rfl (by kernel_rfl) (fun _ _ _ h => h) (Or.inl ⟨by rfl, ?_⟩) ?_ ?_
      rotate_left
      · intro w'
        go_simp
        with_reducible rfl
      rotate_left
      · simp only [Act.put, List.setIfInBounds_toArray, List.set_cons_zero, List.set_cons_succ]
        rfl
      refine take_ (i := 1) (N := some 21) (v := ?_) (a' := ?_) #[true, true, false, false, false, false, false, false, false, false, false, false] rfl rfl (by kernel_rfl) (fun _ _ _ h => h) (Or.inl ⟨by rfl, ?_⟩) hHeld ?_ ?_
      rotate_left
      · rintro w' ⟨s0, s1⟩
        go_simp
        with_reducible rfl
      rotate_left
      · simp only [Act.put, List.setIfInBounds_toArray, List.set_cons_zero, List.set_cons_succ]
        rfl
      refine pure_ (i := 2) (N := some 22) (v := ?_) (a' := ?_) #[true, true, true, false, false, false, false, false, false, false, false, false] rfl rfl (by kernel_rfl) (fun _ _ _ h => h) (Or.inl ⟨by rfl, ?_⟩) ?_ ?_
      rotate_left
      · intro w'
        go_simp
        with_reducible rfl
      rotate_left
      · simp only [Act.put, List.setIfInBounds_toArray, List.set_cons_zero, List.set_cons_succ]
        rfl
      refine pure_ (i := 3) (N := some 23) (v := ?_) (a' := ?_) #[true, true, true, true, false, false, false, false, false, false, false, false] rfl rfl (by kernel_rfl) (fun _ _ _ h => h) (Or.inl ⟨by rfl, ?_⟩) ?_ ?_
      rotate_left
      · intro w'
        go_simp
        with_reducible rfl
      rotate_left
      · simp only [Act.put, List.setIfInBounds_toArray, List.set_cons_zero, List.set_cons_succ]
        rfl
      refine pure_ (i := 4) (N := some 24) (v := ?_) (a' := ?_) #[true, true, true, true, true, false, false, false, false, false, false, false] rfl rfl (by kernel_rfl) (fun _ _ _ h => h) (Or.inl ⟨by rfl, ?_⟩) ?_ ?_
      rotate_left
      · intro w'
        go_simp
        with_reducible rfl
      rotate_left
      · simp only [Act.put, List.setIfInBounds_toArray, List.set_cons_zero, List.set_cons_succ]
        rfl
      refine pure_ (i := 5) (N := some 25) (v := ?_) (a' := ?_) #[true, true, true, true, true, true, false, false, false, false, false, false] rfl rfl (by kernel_rfl) (fun _ _ _ h => h) (Or.inl ⟨by rfl, ?_⟩) ?_ ?_
      rotate_left
      · intro w'
        go_simp
        with_reducible rfl
      rotate_left
      · simp only [Act.put, List.setIfInBounds_toArray, List.set_cons_zero, List.set_cons_succ]
        rfl
      refine pure_ (i := 6) (N := some 26) (v := ?_) (a' := ?_) #[true, true, true, true, true, true, true, false, false, false, false, false] rfl rfl (by kernel_rfl) (fun _ _ _ h => h) (Or.inl ⟨by rfl, ?_⟩) ?_ ?_
      rotate_left
      · intro w'
        go_simp
        with_reducible rfl
      rotate_left
      · simp only [Act.put, List.setIfInBounds_toArray, List.set_cons_zero, List.set_cons_succ]
        rfl
      refine take_ (i := 7) (N := some 27) (v := ?_) (a' := ?_) #[true, true, true, true, true, true, true, true, false, false, false, false] rfl rfl (by kernel_rfl) (fun _ _ _ h => h) (Or.inl ⟨by rfl, ?_⟩) hHeld ?_ ?_
      rotate_left
      · rintro w' ⟨s0, s1⟩
        go_simp
        with_reducible rfl
      rotate_left
      · simp only [Act.put, List.setIfInBounds_toArray, List.set_cons_zero, List.set_cons_succ]
        rfl
      refine pure_ (i := 8) (N := some 28) (v := ?_) (a' := ?_) #[true, true, true, true, true, true, true, true, true, false, false, false] rfl rfl (by kernel_rfl) (fun _ _ _ h => h) (Or.inl ⟨by rfl, ?_⟩) ?_ ?_
      rotate_left
      · intro w'
        go_simp
        with_reducible rfl
      rotate_left
      · simp only [Act.put, List.setIfInBounds_toArray, List.set_cons_zero, List.set_cons_succ]
        rfl
      refine pure_ (i := 9) (N := some 29) (v := ?_) (a' := ?_) #[true, true, true, true, true, true, true, true, true, true, false, false] rfl rfl (by kernel_rfl) (fun _ _ _ h => h) (Or.inl ⟨by rfl, ?_⟩) ?_ ?_
      rotate_left
      · intro w'
        go_simp
        with_reducible rfl
      rotate_left
      · simp only [Act.put, List.setIfInBounds_toArray, List.set_cons_zero, List.set_cons_succ]
        rfl
      refine pure_ (i := 10) (N := some 30) (v := ?_) (a' := ?_) #[true, true, true, true, true, true, true, true, true, true, true, false] rfl rfl (by kernel_rfl) (fun _ _ _ h => h) (Or.inl ⟨by rfl, ?_⟩) ?_ ?_
      rotate_left
      · intro w'
        go_simp
        with_reducible rfl
      rotate_left
      · simp only [Act.put, List.setIfInBounds_toArray, List.set_cons_zero, List.set_cons_succ]
        rfl
      refine last_ (i := 11) (N := none) #[true, true, true, true, true, true, true, true, true, true, true, true] rfl rfl (by kernel_rfl) (by decide) (fun K hK => ?_)
      have h0 : W1.cell? ⟨p1 + 1, 0, none⟩ = some (.bool false) := (blk_cell Q2.out 0).trans rfl
      have h1 : W1.cell? ⟨p1 + 1, 1, none⟩ = some (.slice none 0 0) := (blk_cell Q2.out 1).trans rfl
      have h2 : ∀ j, W1.frozen? ⟨p1 + 1, j, none⟩ = false := blk_frozen (w := W1) Q2.out
      refine skip_ (w1 := ?_) (by rfl) rfl ?_ ?_
      rotate_left
      · go_simp
        rfl
      refine hK.out _ _ ?_
      clear hK K h0 h1 h2
      refine done_ (by kernel_rfl) ?_
      clear hHeld q0 q1
      have QZ := blk_put (blk_put (w := W1) Q2.out 0 (.bool false) rfl) 1 (.slice (some ad) 0 c) rfl
      go_wp2_with fail
      have r0 := (blk_cell QZ 0).trans rfl
      have r1 := (blk_cell QZ 1).trans rfl
      refine bodyPost_ret (v := .agg #[.bool false, .slice (some ad) 0 c]) (by simp [results, Try.results87, go_sem, r0, r1]) rfl ?_
      refine ⟨0, by simp, ⟨N1.out, ?_⟩⟩
      have hb := B1.out
      exact below_drew ((hb.setCell (p := ⟨p1 + 1, 0, none⟩) (by have := HP.out; show w.heap.size ≤ p1 + 1; omega) _).setCell (p := ⟨p1 + 1, 1, none⟩) (by have := HP.out; show w.heap.size ≤ p1 + 1; omega) _)
    · obtain ⟨m, rfl⟩ : ∃ m, n = m + 1 := ⟨n - 1, by omega⟩
      have g1 : decide (((m + 1 : Nat) : Int) > 0) = true := decide_eq_true (by omega)
      have g2 : decide (0 < m + 1) = true := decide_eq_true (by omega)
      obtain ⟨ae, e, hx'⟩ := at_U HD.out m (by omega)
      injection e with e
      subst e
      have hx := pw_cell_below B1.out hx'
      clear hx'
      obtain ⟨z, hz⟩ : ∃ z, z = D.getD m 0 := ⟨_, rfl⟩
      rw [← hz] at hx
      have HZ := Aside0.mk hz
      clear hz
      have hwm : wrap64 (((m + 1 : Nat) : Int) - 1) = (m : Int) := by unfold wrap64; omega
      have hwm2 : wrap64 ((m : Int) + 1 - 1) = (m : Int) := by unfold wrap64; omega
      have hwm3 : IntKind.i64.wrap ((m : Int) + 1 - 1) = (m : Int) := by rw [i64_w]; exact hwm2
      have hmn : m < nD := by omega
      by_cases h2 : z = 0
      · have g3 : (z == 0) = true := by rw [h2]; rfl
        have N1 : Aside0 (bval (D.take m) = bval D) := ⟨by rw [bval_drop0 (by rw [← HN.out]; exact hmn) (by rw [← HZ.out]; exact h2)]; exact KB.out⟩
        clear h2 KB
        go_wp2_with fail
        go_round
        case measure => simp [intOf]
        case rel => exact ⟨m, by omega, by first | rfl | simp, N1⟩
      · have g3 : (z == 0) = false := by simpa using h2
        have N1 : Aside0 (TrimS D (m + 1)) := ⟨by rw [← HN.out]; exact hn, KB.out, .inr (by rw [Nat.add_sub_cancel, ← HZ.out]; exact h2)⟩
        clear h2 KB
        go_upto_region 4 with fail
        have k1 : 0 ≤ (m : Int) + 1 := by omega
        have k2 : (m : Int) + 1 ≤ (c : Int) := by omega
        have q0' : W1.drew.cell? ⟨p1, 0, none⟩ = some (.bool true) := q0
        have q1' : W1.drew.cell? ⟨p1, 1, none⟩ = some (.slice (some ad) nD c) := q1
        refine start_ (n := 12) (S := fun w' => w'.cell? ⟨p1, 0, none⟩ = some (.bool true) ∧ w'.cell? ⟨p1, 1, none⟩ = some (.slice (some ad) nD c)) (ds := [11]) #[false, false, false, false, false, false, false, false, false, false, false, false] (by kernel_rfl) rfl rfl ⟨q0', q1'⟩ (fun hHeld => ?_)
        clear q0' q1'
        refine pure_ (i := 0) (N := some 20) (v := ?_) (a' := ?_) #[true, false, false, false, false, false, false, false, false, false, false, false] rfl rfl (by kernel_rfl) (fun _ _ _ h => h) (Or.inl ⟨by rfl, ?_⟩) ?_ ?_
        rotate_left
        · intro w'
          go_simp
          with_reducible rfl
        rotate_left
        · simp only [Act.put, List.setIfInBounds_toArray, List.set_cons_zero, List.set_cons_succ]
          rfl
        refine take_ (i := 1) (N := some 21) (v := ?_) (a' := ?_) #[true, true, false, false, false, false, false, false, false, false, false, false] rfl rfl (by kernel_rfl) (fun _ _ _ h => h) (Or.inl ⟨by rfl, ?_⟩) hHeld ?_ ?_
        rotate_left
        · rintro w' ⟨s0, s1⟩
          go_simp
          with_reducible rfl
        rotate_left
        · simp only [Act.put, List.setIfInBounds_toArray, List.set_cons_zero, List.set_cons_succ]
          rfl
        refine pure_ (i := 2) (N := some 22) (v := ?_) (a' := ?_) #[true, true, true, false, false, false, false, false, false, false, false, false] rfl rfl (by kernel_rfl) (fun _ _ _ h => h) (Or.inl ⟨by rfl, ?_⟩) ?_ ?_
        rotate_left
        · intro w'
          go_simp
          with_reducible rfl
        rotate_left
        · simp only [Act.put, List.setIfInBounds_toArray, List.set_cons_zero, List.set_cons_succ]
          rfl
        refine pure_ (i := 3) (N := some 23) (v := ?_) (a' := ?_) #[true, true, true, true, false, false, false, false, false, false, false, false] rfl rfl (by kernel_rfl) (fun _ _ _ h => h) (Or.inl ⟨by rfl, ?_⟩) ?_ ?_
        rotate_left
        · intro w'
          go_simp
          with_reducible rfl
        rotate_left
        · simp only [Act.put, List.setIfInBounds_toArray, List.set_cons_zero, List.set_cons_succ]
          rfl
        refine pure_ (i := 4) (N := some 24) (v := ?_) (a' := ?_) #[true, true, true, true, true, false, false, false, false, false, false, false] rfl rfl (by kernel_rfl) (fun _ _ _ h => h) (Or.inl ⟨by rfl, ?_⟩) ?_ ?_
        rotate_left
        · intro w'
          go_simp
          with_reducible rfl
        rotate_left
        · simp only [Act.put, List.setIfInBounds_toArray, List.set_cons_zero, List.set_cons_succ]
          rfl
        refine pure_ (i := 5) (N := some 25) (v := ?_) (a' := ?_) #[true, true, true, true, true, true, false, false, false, false, false, false] rfl rfl (by kernel_rfl) (fun _ _ _ h => h) (Or.inl ⟨by rfl, ?_⟩) ?_ ?_
        rotate_left
        · intro w'
          go_simp
          with_reducible rfl
        rotate_left
        · simp only [Act.put, List.setIfInBounds_toArray, List.set_cons_zero, List.set_cons_succ]
          rfl
        refine pure_ (i := 6) (N := some 26) (v := ?_) (a' := ?_) #[true, true, true, true, true, true, true, false, false, false, false, false] rfl rfl (by kernel_rfl) (fun _ _ _ h => h) (Or.inl ⟨by rfl, ?_⟩) ?_ ?_
        rotate_left
        · intro w'
          go_simp
          with_reducible rfl
        rotate_left
        · simp only [Act.put, List.setIfInBounds_toArray, List.set_cons_zero, List.set_cons_succ]
          rfl
        refine take_ (i := 7) (N := some 27) (v := ?_) (a' := ?_) #[true, true, true, true, true, true, true, true, false, false, false, false] rfl rfl (by kernel_rfl) (fun _ _ _ h => h) (Or.inl ⟨by rfl, ?_⟩) hHeld ?_ ?_
        rotate_left
        · rintro w' ⟨s0, s1⟩
          go_simp
          with_reducible rfl
        rotate_left
        · simp only [Act.put, List.setIfInBounds_toArray, List.set_cons_zero, List.set_cons_succ]
          rfl
        refine pure_ (i := 8) (N := some 28) (v := ?_) (a' := ?_) #[true, true, true, true, true, true, true, true, true, false, false, false] rfl rfl (by kernel_rfl) (fun _ _ _ h => h) (Or.inl ⟨by rfl, ?_⟩) ?_ ?_
        rotate_left
        · intro w'
          go_simp
          with_reducible rfl
        rotate_left
        · simp only [Act.put, List.setIfInBounds_toArray, List.set_cons_zero, List.set_cons_succ]
          rfl
        refine pure_ (i := 9) (N := some 29) (v := ?_) (a' := ?_) #[true, true, true, true, true, true, true, true, true, true, false, false] rfl rfl (by kernel_rfl) (fun _ _ _ h => h) (Or.inl ⟨by rfl, ?_⟩) ?_ ?_
        rotate_left
        · intro w'
          go_simp
          with_reducible rfl
        rotate_left
        · simp only [Act.put, List.setIfInBounds_toArray, List.set_cons_zero, List.set_cons_succ]
          rfl
        refine pure_ (i := 10) (N := some 30) (v := ?_) (a' := ?_) #[true, true, true, true, true, true, true, true, true, true, true, false] rfl rfl (by kernel_rfl) (fun _ _ _ h => h) (Or.inl ⟨by rfl, ?_⟩) ?_ ?_
        rotate_left
        · intro w'
          go_simp
          with_reducible rfl
        rotate_left
        · simp only [Act.put, List.setIfInBounds_toArray, List.set_cons_zero, List.set_cons_succ]
          rfl
        refine last_ (i := 11) (N := none) #[true, true, true, true, true, true, true, true, true, true, true, true] rfl rfl (by kernel_rfl) (by decide) (fun K hK => ?_)
        have h0 : W1.cell? ⟨p1 + 1, 0, none⟩ = some (.bool false) := (blk_cell Q2.out 0).trans rfl
        have h1 : W1.cell? ⟨p1 + 1, 1, none⟩ = some (.slice none 0 0) := (blk_cell Q2.out 1).trans rfl
        have h2 : ∀ j, W1.frozen? ⟨p1 + 1, j, none⟩ = false := blk_frozen (w := W1) Q2.out
        refine skip_ (w1 := ?_) (by rfl) rfl ?_ ?_
        rotate_left
        · go_simp
          rfl
        refine hK.out _ _ ?_
        clear hK K h0 h1 h2
        refine done_ (by kernel_rfl) ?_
        clear hHeld q0 q1
        have QZ := blk_put (blk_put (w := W1) Q2.out 0 (.bool true) rfl) 1 (.slice (some ad) (m + 1) c) rfl
        go_wp2_with fail
        have r0 := (blk_cell QZ 0).trans rfl
        have r1 := (blk_cell QZ 1).trans rfl
        refine bodyPost_ret (v := .agg #[.bool true, .slice (some ad) (m + 1) c]) (by simp [results, Try.results87, go_sem, r0, r1]) rfl ?_
        refine ⟨(m + 1), by simp, ⟨N1.out, ?_⟩⟩
        have hb := B1.out
        exact below_drew ((hb.setCell (p := ⟨p1 + 1, 0, none⟩) (by have := HP.out; show w.heap.size ≤ p1 + 1; omega) _).setCell (p := ⟨p1 + 1, 1, none⟩) (by have := HP.out; show w.heap.size ≤ p1 + 1; omega) _)

set_option maxHeartbeats 4000000 in
set_option maxRecDepth 100000 in
theorem trim_false (w : World) (ad : Addr) (c : Nat) (D : List Int) (hD : (Kd.int .u64).C w (some ad) D.length D) (hc : D.length ≤ c) (hl : D.length ≤ 17592186044416) :
    Calls Try.prog 87 #[.agg #[.bool false, .slice (some ad) D.length c]] w fun e w' => ∃ n : Nat, e = .returned (.agg #[.bool (false && decide (0 < n)), .slice (some ad) n c]) ∧ Aside0 (TrimS D n ∧ Below w.heap.size w w') := by
  obtain ⟨nD, hnD⟩ : ∃ n, n = D.length := ⟨_, rfl⟩
  rw [← hnD] at hD hc hl ⊢
  have HD := Aside0.mk hD
  have HN := Aside0.mk hnD
  clear hnD hD
  have hu111 := Try.underlying111
  go_enter Try.func87, Try.ntmps87
  go_wp2_with fail
  obtain ⟨W1, hW1⟩ : ∃ W, W = (w.alloc (.cells #[.bool false, .slice (some ad) nD c] 111)).alloc (.cells #[.bool false, .slice none 0 0] 111) := ⟨_, rfl⟩
  rw [← hW1]
  have B1 : Aside0 (Below w.heap.size w W1) := ⟨by rw [hW1]; exact below_alloc (below_alloc (Below.refl _ _) _) _⟩
  obtain ⟨p1, hp1⟩ : ∃ p, p = w.heap.size := ⟨_, rfl⟩
  have Q1 : Aside0 (W1.heap[p1]? = some (.cells #[.bool false, .slice (some ad) nD c] 111 (0, 0))) := ⟨by rw [hW1, hp1]; simp only [al_get, al_size]; repeat (first | rw [if_pos trivial] | rw [if_neg (by omega)])⟩
  have Q2 : Aside0 (W1.heap[p1 + 1]? = some (.cells #[.bool false, .slice none 0 0] 111 (0, 0))) := ⟨by rw [hW1, hp1]; simp only [al_get, al_size]; repeat (first | rw [if_pos trivial] | rw [if_neg (by omega)])⟩
  rw [← hp1]
  have HP := Aside0.mk hp1
  clear hW1 hp1
  have q0 : W1.cell? ⟨p1, 0, none⟩ = some (.bool false) := (blk_cell Q1.out 0).trans rfl
  have q1 : W1.cell? ⟨p1, 1, none⟩ = some (.slice (some ad) nD c) := (blk_cell Q1.out 1).trans rfl
  have K0 : Aside0 (bval (D.take nD) = bval D) := ⟨by rw [HN.out, List.take_length]⟩
  go_loop [3] (fun v => ∃ n : Nat, n ≤ nD ∧ v = .int .i64 n ∧ Aside0 (bval (D.take n) = bval D)) (fun v => (intOf v).toNat)
  case atStart => exact ⟨nD, Nat.le_refl _, rfl, K0⟩
  case round =>
    clear K0
    obtain ⟨n, hn, rfl, KB⟩ := hrel
    rcases Nat.eq_zero_or_pos n with h0 | h0
    · obtain rfl := h0
      have N1 : Aside0 (TrimS D 0) := ⟨Nat.zero_le _, KB.out, .inl rfl⟩
      clear KB
      go_upto_region 4 with fail
      have q0' : W1.drew.cell? ⟨p1, 0, none⟩ = some (.bool false) := q0
      have q1' : W1.drew.cell? ⟨p1, 1, none⟩ = some (.slice (some ad) nD c) := q1
      refine start_ (n := 12) (S := fun w' => w'.cell? ⟨p1, 0, none⟩ = some (.bool false) ∧ w'.cell? ⟨p1, 1, none⟩ = some (.slice (some ad) nD c)) (ds := [11]) #[false, false, false, false, false, false, false, false, false, false, false, false] (by kernel_rfl) rfl rfl ⟨q0', q1'⟩ (fun hHeld => ?_)
      clear q0' q1'
      refine pure_ (i := 0) (N := some 20) (v := ?_) (a' := ?_) #[true, false, false, false, false, false, false, false, false, false, false, false] rfl rfl (by kernel_rfl) (fun _ _ _ h => h) (Or.inl ⟨by rfl, ?_⟩) ?_ ?_
      rotate_left
      · intro w'
        go_simp
        with_reducible rfl
      rotate_left
      · simp only [Act.put, List.setIfInBounds_toArray, List.set_cons_zero, List.set_cons_succ]
        rfl
      refine take_ (i := 1) (N := some 21) (v := ?_) (a' := ?_) #[true, true, false, false, false, false, false, false, false, false, false, false] rfl rfl (by kernel_rfl) (fun _ _ _ h => h) (Or.inl ⟨by rfl, ?_⟩) hHeld ?_ ?_
      rotate_left
      · rintro w' ⟨s0, s1⟩
        go_simp
        with_reducible rfl
      rotate_left
      · simp only [Act.put, List.setIfInBounds_toArray, List.set_cons_zero, List.set_cons_succ]
        rfl
      refine pure_ (i := 2) (N := some 22) (v := ?_) (a' := ?_) #[true, true, true, false, false, false, false, false, false, false, false, false] rfl rfl (by kernel_rfl) (fun _ _ _ h => h) (Or.inl ⟨by rfl, ?_⟩) ?_ ?_
      rotate_left
      · intro w'
        go_simp
        with_reducible rfl
      rotate_left
      · simp only [Act.put, List.setIfInBounds_toArray, List.set_cons_zero, List.set_cons_succ]
        rfl
      refine pure_ (i := 3) (N := some 23) (v := undef) (a' := ?_) #[true, true, true, true, false, false, false, false, false, false, false, false] rfl rfl (by kernel_rfl) (fun _ _ _ h => h) (Or.inr ⟨by rfl, rfl⟩) ?_ ?_
      rotate_left
      · simp only [Act.put, List.setIfInBounds_toArray, List.set_cons_zero, List.set_cons_succ]
        rfl
      refine pure_ (i := 4) (N := some 24) (v := undef) (a' := ?_) #[true, true, true, true, true, false, false, false, false, false, false, false] rfl rfl (by kernel_rfl) (fun _ _ _ h => h) (Or.inr ⟨by rfl, rfl⟩) ?_ ?_
      rotate_left
      · simp only [Act.put, List.setIfInBounds_toArray, List.set_cons_zero, List.set_cons_succ]
        rfl
      refine pure_ (i := 5) (N := some 25) (v := ?_) (a' := ?_) #[true, true, true, true, true, true, false, false, false, false, false, false] rfl rfl (by kernel_rfl) (fun _ _ _ h => h) (Or.inl ⟨by rfl, ?_⟩) ?_ ?_
      rotate_left
      · intro w'
        go_simp
        with_reducible rfl
      rotate_left
      · simp only [Act.put, List.setIfInBounds_toArray, List.set_cons_zero, List.set_cons_succ]
        rfl
      refine pure_ (i := 6) (N := some 26) (v := ?_) (a' := ?_) #[true, true, true, true, true, true, true, false, false, false, false, false] rfl rfl (by kernel_rfl) (fun _ _ _ h => h) (Or.inl ⟨by rfl, ?_⟩) ?_ ?_
      rotate_left
      · intro w'
        go_simp
        with_reducible rfl
      rotate_left
      · simp only [Act.put, List.setIfInBounds_toArray, List.set_cons_zero, List.set_cons_succ]
        rfl
      refine take_ (i := 7) (N := some 27) (v := ?_) (a' := ?_) #[true, true, true, true, true, true, true, true, false, false, false, false] rfl rfl (by kernel_rfl) (fun _ _ _ h => h) (Or.inl ⟨by rfl, ?_⟩) hHeld ?_ ?_
      rotate_left
      · rintro w' ⟨s0, s1⟩
        go_simp
        with_reducible rfl
      rotate_left
      · simp only [Act.put, List.setIfInBounds_toArray, List.set_cons_zero, List.set_cons_succ]
        rfl
      refine pure_ (i := 8) (N := some 28) (v := ?_) (a' := ?_) #[true, true, true, true, true, true, true, true, true, false, false, false] rfl rfl (by kernel_rfl) (fun _ _ _ h => h) (Or.inl ⟨by rfl, ?_⟩) ?_ ?_
      rotate_left
      · intro w'
        go_simp
        with_reducible rfl
      rotate_left
      · simp only [Act.put, List.setIfInBounds_toArray, List.set_cons_zero, List.set_cons_succ]
        rfl
      refine pure_ (i := 9) (N := some 29) (v := ?_) (a' := ?_) #[true, true, true, true, true, true, true, true, true, true, false, false] rfl rfl (by kernel_rfl) (fun _ _ _ h => h) (Or.inl ⟨by rfl, ?_⟩) ?_ ?_
      rotate_left
      · intro w'
        go_simp
        with_reducible rfl
      rotate_left
      · simp only [Act.put, List.setIfInBounds_toArray, List.set_cons_zero, List.set_cons_succ]
        rfl
      refine pure_ (i := 10) (N := some 30) (v := ?_) (a' := ?_) #[true, true, true, true, true, true, true, true, true, true, true, false] rfl rfl (by kernel_rfl) (fun _ _ _ h => h) (Or.inl ⟨by rfl, ?_⟩) ?_ ?_
      rotate_left
      · intro w'
        go_simp
        with_reducible rfl
      rotate_left
      · simp only [Act.put, List.setIfInBounds_toArray, List.set_cons_zero, List.set_cons_succ]
        rfl
      refine last_ (i := 11) (N := none) #[true, true, true, true, true, true, true, true, true, true, true, true] rfl rfl (by kernel_rfl) (by decide) (fun K hK => ?_)
      have h0 : W1.cell? ⟨p1 + 1, 0, none⟩ = some (.bool false) := (blk_cell Q2.out 0).trans rfl
      have h1 : W1.cell? ⟨p1 + 1, 1, none⟩ = some (.slice none 0 0) := (blk_cell Q2.out 1).trans rfl
      have h2 : ∀ j, W1.frozen? ⟨p1 + 1, j, none⟩ = false := blk_frozen (w := W1) Q2.out
      refine skip_ (w1 := ?_) (by rfl) rfl ?_ ?_
      rotate_left
      · go_simp
        rfl
      refine hK.out _ _ ?_
      clear hK K h0 h1 h2
      refine done_ (by kernel_rfl) ?_
      clear hHeld q0 q1
      have QZ := blk_put (blk_put (w := W1) Q2.out 0 (.bool false) rfl) 1 (.slice (some ad) 0 c) rfl
      go_wp2_with fail
      have r0 := (blk_cell QZ 0).trans rfl
      have r1 := (blk_cell QZ 1).trans rfl
      refine bodyPost_ret (v := .agg #[.bool false, .slice (some ad) 0 c]) (by simp [results, Try.results87, go_sem, r0, r1]) rfl ?_
      refine ⟨0, by simp, ⟨N1.out, ?_⟩⟩
      have hb := B1.out
      exact below_drew ((hb.setCell (p := ⟨p1 + 1, 0, none⟩) (by have := HP.out; show w.heap.size ≤ p1 + 1; omega) _).setCell (p := ⟨p1 + 1, 1, none⟩) (by have := HP.out; show w.heap.size ≤ p1 + 1; omega) _)
    · obtain ⟨m, rfl⟩ : ∃ m, n = m + 1 := ⟨n - 1, by omega⟩
      have g1 : decide (((m + 1 : Nat) : Int) > 0) = true := decide_eq_true (by omega)
      have g2 : decide (0 < m + 1) = true := decide_eq_true (by omega)
      obtain ⟨ae, e, hx'⟩ := at_U HD.out m (by omega)
      injection e with e
      subst e
      have hx := pw_cell_below B1.out hx'
      clear hx'
      obtain ⟨z, hz⟩ : ∃ z, z = D.getD m 0 := ⟨_, rfl⟩
      rw [← hz] at hx
      have HZ := Aside0.mk hz
      clear hz
      have hwm : wrap64 (((m + 1 : Nat) : Int) - 1) = (m : Int) := by unfold wrap64; omega
      have hwm2 : wrap64 ((m : Int) + 1 - 1) = (m : Int) := by unfold wrap64; omega
      have hwm3 : IntKind.i64.wrap ((m : Int) + 1 - 1) = (m : Int) := by rw [i64_w]; exact hwm2
      have hmn : m < nD := by omega
      by_cases h2 : z = 0
      · have g3 : (z == 0) = true := by rw [h2]; rfl
        have N1 : Aside0 (bval (D.take m) = bval D) := ⟨by rw [bval_drop0 (by rw [← HN.out]; exact hmn) (by rw [← HZ.out]; exact h2)]; exact KB.out⟩
        clear h2 KB
        go_wp2_with fail
        go_round
        case measure => simp [intOf]
        case rel => exact ⟨m, by omega, by first | rfl | simp, N1⟩
      · have g3 : (z == 0) = false := by simpa using h2
        have N1 : Aside0 (TrimS D (m + 1)) := ⟨by rw [← HN.out]; exact hn, KB.out, .inr (by rw [Nat.add_sub_cancel, ← HZ.out]; exact h2)⟩
        clear h2 KB
        go_upto_region 4 with fail
        have k1 : 0 ≤ (m : Int) + 1 := by omega
        have k2 : (m : Int) + 1 ≤ (c : Int) := by omega
        have q0' : W1.drew.cell? ⟨p1, 0, none⟩ = some (.bool false) := q0
        have q1' : W1.drew.cell? ⟨p1, 1, none⟩ = some (.slice (some ad) nD c) := q1
        refine start_ (n := 12) (S := fun w' => w'.cell? ⟨p1, 0, none⟩ = some (.bool false) ∧ w'.cell? ⟨p1, 1, none⟩ = some (.slice (some ad) nD c)) (ds := [11]) #[false, false, false, false, false, false, false, false, false, false, false, false] (by kernel_rfl) rfl rfl ⟨q0', q1'⟩ (fun hHeld => ?_)
        clear q0' q1'
        refine pure_ (i := 0) (N := some 20) (v := ?_) (a' := ?_) #[true, false, false, false, false, false, false, false, false, false, false, false] rfl rfl (by kernel_rfl) (fun _ _ _ h => h) (Or.inl ⟨by rfl, ?_⟩) ?_ ?_
        rotate_left
        · intro w'
          go_simp
          with_reducible rfl
        rotate_left
        · simp only [Act.put, List.setIfInBounds_toArray, List.set_cons_zero, List.set_cons_succ]
          rfl
        refine take_ (i := 1) (N := some 21) (v := ?_) (a' := ?_) #[true, true, false, false, false, false, false, false, false, false, false, false] rfl rfl (by kernel_rfl) (fun _ _ _ h => h) (Or.inl ⟨by rfl, ?_⟩) hHeld ?_ ?_
        rotate_left
        · rintro w' ⟨s0, s1⟩
          go_simp
          with_reducible rfl
        rotate_left
        · simp only [Act.put, List.setIfInBounds_toArray, List.set_cons_zero, List.set_cons_succ]
          rfl
        refine pure_ (i := 2) (N := some 22) (v := ?_) (a' := ?_) #[true, true, true, false, false, false, false, false, false, false, false, false] rfl rfl (by kernel_rfl) (fun _ _ _ h => h) (Or.inl ⟨by rfl, ?_⟩) ?_ ?_
        rotate_left
        · intro w'
          go_simp
          with_reducible rfl
        rotate_left
        · simp only [Act.put, List.setIfInBounds_toArray, List.set_cons_zero, List.set_cons_succ]
          rfl
        refine pure_ (i := 3) (N := some 23) (v := undef) (a' := ?_) #[true, true, true, true, false, false, false, false, false, false, false, false] rfl rfl (by kernel_rfl) (fun _ _ _ h => h) (Or.inr ⟨by rfl, rfl⟩) ?_ ?_
        rotate_left
        · simp only [Act.put, List.setIfInBounds_toArray, List.set_cons_zero, List.set_cons_succ]
          rfl
        refine pure_ (i := 4) (N := some 24) (v := undef) (a' := ?_) #[true, true, true, true, true, false, false, false, false, false, false, false] rfl rfl (by kernel_rfl) (fun _ _ _ h => h) (Or.inr ⟨by rfl, rfl⟩) ?_ ?_
        rotate_left
        · simp only [Act.put, List.setIfInBounds_toArray, List.set_cons_zero, List.set_cons_succ]
          rfl
        refine pure_ (i := 5) (N := some 25) (v := ?_) (a' := ?_) #[true, true, true, true, true, true, false, false, false, false, false, false] rfl rfl (by kernel_rfl) (fun _ _ _ h => h) (Or.inl ⟨by rfl, ?_⟩) ?_ ?_
        rotate_left
        · intro w'
          go_simp
          with_reducible rfl
        rotate_left
        · simp only [Act.put, List.setIfInBounds_toArray, List.set_cons_zero, List.set_cons_succ]
          rfl
        refine pure_ (i := 6) (N := some 26) (v := ?_) (a' := ?_) #[true, true, true, true, true, true, true, false, false, false, false, false] rfl rfl (by kernel_rfl) (fun _ _ _ h => h) (Or.inl ⟨by rfl, ?_⟩) ?_ ?_
        rotate_left
        · intro w'
          go_simp
          with_reducible rfl
        rotate_left
        · simp only [Act.put, List.setIfInBounds_toArray, List.set_cons_zero, List.set_cons_succ]
          rfl
        refine take_ (i := 7) (N := some 27) (v := ?_) (a' := ?_) #[true, true, true, true, true, true, true, true, false, false, false, false] rfl rfl (by kernel_rfl) (fun _ _ _ h => h) (Or.inl ⟨by rfl, ?_⟩) hHeld ?_ ?_
        rotate_left
        · rintro w' ⟨s0, s1⟩
          go_simp
          with_reducible rfl
        rotate_left
        · simp only [Act.put, List.setIfInBounds_toArray, List.set_cons_zero, List.set_cons_succ]
          rfl
        refine pure_ (i := 8) (N := some 28) (v := ?_) (a' := ?_) #[true, true, true, true, true, true, true, true, true, false, false, false] rfl rfl (by kernel_rfl) (fun _ _ _ h => h) (Or.inl ⟨by rfl, ?_⟩) ?_ ?_
        rotate_left
        · intro w'
          go_simp
          with_reducible rfl
        rotate_left
        · simp only [Act.put, List.setIfInBounds_toArray, List.set_cons_zero, List.set_cons_succ]
          rfl
        refine pure_ (i := 9) (N := some 29) (v := ?_) (a' := ?_) #[true, true, true, true, true, true, true, true, true, true, false, false] rfl rfl (by kernel_rfl) (fun _ _ _ h => h) (Or.inl ⟨by rfl, ?_⟩) ?_ ?_
        rotate_left
        · intro w'
          go_simp
          with_reducible rfl
        rotate_left
        · simp only [Act.put, List.setIfInBounds_toArray, List.set_cons_zero, List.set_cons_succ]
          rfl
        refine pure_ (i := 10) (N := some 30) (v := ?_) (a' := ?_) #[true, true, true, true, true, true, true, true, true, true, true, false] rfl rfl (by kernel_rfl) (fun _ _ _ h => h) (Or.inl ⟨by rfl, ?_⟩) ?_ ?_
        rotate_left
        · intro w'
          go_simp
          with_reducible rfl
        rotate_left
        · simp only [Act.put, List.setIfInBounds_toArray, List.set_cons_zero, List.set_cons_succ]
          rfl
        refine last_ (i := 11) (N := none) #[true, true, true, true, true, true, true, true, true, true, true, true] rfl rfl (by kernel_rfl) (by decide) (fun K hK => ?_)
        have h0 : W1.cell? ⟨p1 + 1, 0, none⟩ = some (.bool false) := (blk_cell Q2.out 0).trans rfl
        have h1 : W1.cell? ⟨p1 + 1, 1, none⟩ = some (.slice none 0 0) := (blk_cell Q2.out 1).trans rfl
        have h2 : ∀ j, W1.frozen? ⟨p1 + 1, j, none⟩ = false := blk_frozen (w := W1) Q2.out
        refine skip_ (w1 := ?_) (by rfl) rfl ?_ ?_
        rotate_left
        · go_simp
          rfl
        refine hK.out _ _ ?_
        clear hK K h0 h1 h2
        refine done_ (by kernel_rfl) ?_
        clear hHeld q0 q1
        have QZ := blk_put (blk_put (w := W1) Q2.out 0 (.bool false) rfl) 1 (.slice (some ad) (m + 1) c) rfl
        go_wp2_with fail
        have r0 := (blk_cell QZ 0).trans rfl
        have r1 := (blk_cell QZ 1).trans rfl
        refine bodyPost_ret (v := .agg #[.bool false, .slice (some ad) (m + 1) c]) (by simp [results, Try.results87, go_sem, r0, r1]) rfl ?_
        refine ⟨(m + 1), by simp, ⟨N1.out, ?_⟩⟩
        have hb := B1.out
        exact below_drew ((hb.setCell (p := ⟨p1 + 1, 0, none⟩) (by have := HP.out; show w.heap.size ≤ p1 + 1; omega) _).setCell (p := ⟨p1 + 1, 1, none⟩) (by have := HP.out; show w.heap.size ≤ p1 + 1; omega) _)
end Go.Proofs.Ytelabmhhnpfegaa.Hand
