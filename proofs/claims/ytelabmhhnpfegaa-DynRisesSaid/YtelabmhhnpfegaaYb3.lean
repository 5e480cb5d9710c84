/- Texts Dkr Dt Mf Mg Ec Ed Ee, cut to what is used. -/
import Derived.Test.YtelabmhhnpfegaaYa0
import Derived.Test.YtelabmhhnpfegaaYa3
import Derived.Test.YtelabmhhnpfegaaYa8
import Derived.Test.YtelabmhhnpfegaaYb2
set_option linter.unusedVariables false
set_option linter.unusedSimpArgs false
section
namespace Go.Proofs.Ytelabmhhnpfegaa.PDynCells
open Go.RowKit Go.Proofs.YtelabmhhnpfegaaW.PrintWords Go.Proofs.YtelabmhhnpfegaaW.PrintLast Go.Proofs.YtelabmhhnpfegaaW.PrintMore
attribute [local go_sem] max2_int min2_int max_two min_two max_three min_three max_four min_four
def slices_Reverse_int_int.l0 : Nat → List Int → Int → Int → Option (List Int)
 | 0, _, _, _ => none
 | k + 1, x0, x2, x3 => if x2 < x3 then (if 0 ≤ x3 then (if x3 < (x0.length : Int) then (if 0 ≤ x2 then (if x2 < (x0.length : Int) then (slices_Reverse_int_int.l0 k ((x0.set (x2 : Int).toNat (rd x0 x3)).set (x3 : Int).toNat (rd x0 x2)) (wrap64 (x2 + 1)) (wrap64 (x3 - 1))) else (none)) else (none)) else (none)) else (none)) else (some x0)
def slices_Reverse_int_int.f (k : Nat) (l0 : List Int) : Option (List Int) := slices_Reverse_int_int.l0 k l0 0 (wrap64 ((l0.length : Int) - 1))
theorem slices_Reverse_int_int.mono_l : ∀ k, (∀ y0 y1 y2, LeO (slices_Reverse_int_int.l0 k y0 y1 y2) (slices_Reverse_int_int.l0 (k + 1) y0 y1 y2))
 | 0 => fun _ _ _ r h => by simp [slices_Reverse_int_int.l0] at h
 | k + 1 => by
  have ih0 := slices_Reverse_int_int.mono_l k
  ·intro y0 y1 y2
   unfold slices_Reverse_int_int.l0
   repeat' first
   | (with_reducible exact ih0 _ _ _)
   | (with_reducible exact LeO.refl _)
   | (with_reducible exact LeO.none _)
   | (with_reducible refine LeO.ite ?_ ?_)
   | (with_reducible refine LeO.bind ?_ (fun _ => ?_))
   | exact ih0 _ _ _
   | exact LeO.none _
   | refine LeO.ite ?_ ?_
   | refine LeO.bind ?_ (fun _ => ?_)
theorem slices_Reverse_int_int.mono : ∀ a0 k, LeO (slices_Reverse_int_int.f k a0) (slices_Reverse_int_int.f (k + 1) a0) := by
 intro a0 k
 have ih0 := slices_Reverse_int_int.mono_l k
 unfold slices_Reverse_int_int.f
 repeat' first
   | (with_reducible exact ih0 _ _ _)
   | (with_reducible exact LeO.refl _)
   | (with_reducible exact LeO.none _)
   | (with_reducible refine LeO.ite ?_ ?_)
   | (with_reducible refine LeO.bind ?_ (fun _ => ?_))
   | exact ih0 _ _ _
   | exact LeO.none _
   | refine LeO.ite ?_ ?_
   | refine LeO.bind ?_ (fun _ => ?_)
def slices_Reverse_int_int.T3 : Bool × List (List Nat × List Nat) := (true, [([], []), ([], []), ([], []), ([], []), ([], []), ([], []), ([4, 5], [4, 5]), ([6], [6]), ([], []), ([], []), ([8, 9], [8, 9]), ([10], [10]), ([0, 1, 0, 1, 4, 5, 6, 7, 11], [0, 1]), ([12, 7, 0, 1, 4, 5, 6, 7, 11], [7, 12]), ([2, 3, 0, 1, 2, 3, 4, 5, 6, 7, 8, 9, 10, 11, 12, 13], [2, 3]), ([14, 11, 13, 0, 1, 2, 3, 4, 5, 6, 7, 8, 9, 10, 11, 12, 13], [11, 14])])
def slices_Reverse_int_int.B3 : List Nat := [0, 0, 0, 0, 0, 0, 48, 112, 0, 0, 768, 1792, 4083, 8179, 16383, 32767]
theorem slices_Reverse_int_int.tab3 : rtab .any (opsOf Try.f90 3) = slices_Reverse_int_int.T3 := by kernel_rfl
theorem slices_Reverse_int_int.bits3 : waitsOk slices_Reverse_int_int.T3.2 slices_Reverse_int_int.B3 = true := by kernel_rfl
set_option maxHeartbeats 8000000 in
set_option maxRecDepth 100000 in
theorem slices_Reverse_int_int.calls (k : Nat) (P0_ : Nat → Prop) (u9000_ : Value) (l0 : List Int) (r : List Int) (w0 w : World) (hB : Below w0.heap.size w0 w) (ho0 : Kd.R (Kd.int .i64) 3 w w0.heap.size P0_ u9000_ l0) (h : slices_Reverse_int_int.f k l0 = some r) :
  Calls Try.prog 90 #[u9000_] w fun e w' => e = .returned (.tuple #[]) ∧ Kd.R (Kd.int .i64) 3 w' w0.heap.size (fun k_ => (P0_ k_ ∨ w.heap.size ≤ k_)) u9000_ r ∧ Below w0.heap.size w0 w' ∧ Kept w w' (fun k_ => P0_ k_) := by
 have HO0 := Aside0.mk (show Kd.R (Kd.int .i64) 3 w w0.heap.size (fun k_ => (P0_ k_ ∨ w.heap.size ≤ k_)) u9000_ l0 from Kd.R_mono ho0 (fun k_ hk => (.inl hk)))
 have HK := Aside0.mk (Kept.refl w (fun k_ => P0_ k_))
 have HW0 := Aside0.mk hB.size
 have HB := Aside0.mk hB
 clear hB
 have H : (slices_Reverse_int_int.l0 k l0 0 (wrap64 ((l0.length : Int) - 1))) = some r := h
 clear h
 have H' := Aside0.mk H
 clear H
 obtain ⟨Ao2, co2, eo2⟩ := Kd.R_slice HO0.out
 subst eo2
 go_enter Try.func90, Try.ntmps90
 go_wp2
 go_loopg [2, 3] k (fun kq v2 v3 w' => ∃ (x0_1 : List Int) (x2_1 : Int) (x3_1 : Int), v2 = .int .i64 x2_1 ∧ v3 = .int .i64 x3_1 ∧ Aside0 (slices_Reverse_int_int.l0 kq x0_1 x2_1 x3_1 = some r) ∧ Aside0 (kq ≤ k) ∧ Aside0 (Kd.R (Kd.int .i64) 3 w' w0.heap.size (fun k_ => (P0_ k_ ∨ w.heap.size ≤ k_)) (.slice Ao2 l0.length co2) x0_1) ∧ Aside0 (Kept w w' (fun k_ => P0_ k_)) ∧ Aside0 (Below w0.heap.size w0 w'))
 case atStart => exact ⟨(l0), (0), (wrap64 ((l0.length : Int) - 1)), (by first | rfl | (simp; done) | (simp [*]; done)), (by first | rfl | (simp; done) | (simp [*]; done)), H', ⟨Nat.le_refl _⟩, ⟨by (with_reducible repeat (first | apply Kd.R_alloc | apply Kd.R_drewN | apply Kd.R_drew)); exact HO0.out⟩, ⟨by repeat (first | (with_reducible first | exact HK.out | apply Kept.alloc | apply Kept.drewN | apply Kept.drew) | exact HK.out)⟩, ⟨by repeat (first | (with_reducible first | exact HB.out | apply below_alloc | apply pw_below_drewN | apply below_drew1) | exact HB.out)⟩⟩
 case round =>
  clear H'
  try clear p2
  obtain ⟨x0_1, x2_1, x3_1, rfl, rfl, HA, HK1, HO_0, HK, HB⟩ := hrel
  have hl0_1 := (Kd.R_reads' HO_0.out).1
  rw [hl0_1] at HO_0
  (try simp only [hl0_1])
  cases gk with
  | zero => exact absurd HA.out (by simp [slices_Reverse_int_int.l0])
  | succ k1 =>
   have H := HA.out
   clear HA
   simp only [slices_Reverse_int_int.l0] at H
   by_cases c3 : x2_1 < x3_1
   ·rw [if_pos c3] at H
    have c3b0 : decide (x2_1 < x3_1) = true := decide_eq_true c3
    clear c3
    by_cases c4 : 0 ≤ x3_1
    ·rw [if_pos c4] at H
     have c4b0 : decide (0 ≤ x3_1) = true := decide_eq_true c4
     clear c4
     by_cases c5 : x3_1 < (x0_1.length : Int)
     ·rw [if_pos c5] at H
      have c5b0 : decide (x3_1 < (x0_1.length : Int)) = true := decide_eq_true c5
      clear c5
      by_cases c6 : 0 ≤ x2_1
      ·rw [if_pos c6] at H
       have c6b0 : decide (0 ≤ x2_1) = true := decide_eq_true c6
       clear c6
       by_cases c7 : x2_1 < (x0_1.length : Int)
       ·rw [if_pos c7] at H
        have c7b0 : decide (x2_1 < (x0_1.length : Int)) = true := decide_eq_true c7
        clear c7
        obtain ⟨y205, hy205⟩ : ∃ y_ : List Int, y_ = (x0_1.set (x2_1 : Int).toNat (rd x0_1 x3_1)) := ⟨_, rfl⟩
        replace H : (slices_Reverse_int_int.l0 k1 (y205.set (x3_1 : Int).toNat (rd x0_1 x2_1)) (wrap64 (x2_1 + 1)) (wrap64 (x3_1 - 1))) = some r := by first | (rw [hy205]; with_reducible exact H) | (have H2_ := (Option.bind_some _ _).symm.trans H; rw [hy205]; with_reducible exact H2_) | (have H2_ := (Option.bind_some _ _).symm.trans H; with_reducible exact H2_) | with_reducible exact H | (rw [hy205]; exact H) | exact H
        have Ny205 := Aside0.mk hy205
        clear hy205
        obtain ⟨y206, hy206⟩ : ∃ y_ : List Int, y_ = (y205.set (x3_1 : Int).toNat (rd x0_1 x2_1)) := ⟨_, rfl⟩
        replace H : (slices_Reverse_int_int.l0 k1 y206 (wrap64 (x2_1 + 1)) (wrap64 (x3_1 - 1))) = some r := by first | (rw [hy206]; with_reducible exact H) | (have H2_ := (Option.bind_some _ _).symm.trans H; rw [hy206]; with_reducible exact H2_) | (have H2_ := (Option.bind_some _ _).symm.trans H; with_reducible exact H2_) | with_reducible exact H | (rw [hy206]; exact H) | exact H
        have Ny206 := Aside0.mk hy206
        clear hy206
        have H' := Aside0.mk H
        clear H
        try go_wp2
        have n0_ := Aside0.mk (Kd.R_drew HO_0.out)
        have n1_ := Aside0.mk (Kept.drew HK.out)
        have n2_ := Aside0.mk (below_drew1 HB.out)
        clear HO_0
        clear HK
        clear HB
        have HO_0 := n0_
        have HK := n1_
        have HB := n2_
        clear n0_ n1_ n2_
        have p203 : 0 ≤ (x3_1 : Int) := of_decide_eq_true (by first | (with_reducible assumption) | assumption)
        have q203 : x3_1 < (x0_1.length : Int) := of_decide_eq_true (by first | (with_reducible assumption) | assumption)
        obtain ⟨ad203, e203, hx203_0⟩ := Kd.at_int (Kd.R_reads' HO_0.out).2.2 x3_1 p203 q203
        cases e203
        replace p203 := eq_true p203
        replace q203 := eq_true q203
        have p204 : 0 ≤ (x2_1 : Int) := of_decide_eq_true (by first | (with_reducible assumption) | assumption)
        have q204 : x2_1 < (x0_1.length : Int) := of_decide_eq_true (by first | (with_reducible assumption) | assumption)
        obtain ⟨ad204, e204, hx204_0⟩ := Kd.at_int (Kd.R_reads' HO_0.out).2.2 x2_1 p204 q204
        obtain rfl : ad203 = ad204 := (by injection e204)
        replace p204 := eq_true p204
        replace q204 := eq_true q204
        have p8 : 0 ≤ (x2_1 : Int) := of_decide_eq_true (by first | (with_reducible assumption) | assumption)
        have q8 : (x2_1 : Int) < ((x0_1.length : Int) : Int) := of_decide_eq_true (by first | (with_reducible assumption) | assumption)
        obtain ⟨go8, co8, eo8, gb8, gl8, cl8, HG8⟩ := Kd.R_form HO_0.out (by omega)
        (first | cases eo8 | (injection eo8 with ea_ en_ ec_; (first | subst ea_ | (injection ea_ with ea_; subst ea_)); subst ec_; clear en_))
        have GB8 := Aside0.mk gb8
        have GG8 := Aside0.mk HG8
        clear gb8 gl8 HG8
        have HMgo8 := Aside0.mk (show (P0_ go8 ∨ w.heap.size ≤ go8) from (HO_0.out.1 _ rfl))
        (first | simp only [add_plain] at hx203_0 | skip)
        (first | simp only [add_plain] at hx204_0 | skip)
        obtain ⟨hx8_0, hf8_0⟩ := Kd.R_celln 0 HO_0.out (x2_1 : Int) p8 q8
        replace p8 := eq_true p8
        replace q8 := eq_true q8
        have HP11 := Kd.R_putn HO_0.out (x2_1 : Int) (rd x0_1 x3_1)
        rw [← Ny205.out] at HP11
        have HQ11 := Aside0.mk HP11
        clear HP11
        have p9 : 0 ≤ (x3_1 : Int) := of_decide_eq_true (by first | (with_reducible assumption) | assumption)
        have q9 : (x3_1 : Int) < ((x0_1.length : Int) : Int) := of_decide_eq_true (by first | (with_reducible assumption) | assumption)
        obtain ⟨hx9_0, hf9_0⟩ := Kd.R_celln 0 HQ11.out (x3_1 : Int) p9 q9
        replace p9 := eq_true p9
        replace q9 := eq_true q9
        have HP12 := Kd.R_putn HQ11.out (x3_1 : Int) (rd x0_1 x2_1)
        rw [← Ny206.out] at HP12
        have HQ12 := Aside0.mk HP12
        clear HP12
        refine start_ (n := 16) (S := fun w' => w'.cell? ⟨go8, (x3_1).toNat, none⟩ = some (.int .i64 (rd x0_1 x3_1)) ∧ w'.cell? ⟨go8, (x2_1).toNat, none⟩ = some (.int .i64 (rd x0_1 x2_1))) (ds := [13, 15]) #[false, false, false, false, false, false, false, false, false, false, false, false, false, false, false, false] (by kernel_rfl) rfl rfl ⟨hx203_0, hx204_0⟩ (fun hHeld => ?_); refine with_tabW slices_Reverse_int_int.tab3 slices_Reverse_int_int.bits3 (fun HT_ HW_ => ?_)
        generalize wr.drew = w10 at HO_0 HK HB GG8 HQ11 HQ12 hf8_0 hf9_0 hx203_0 hx204_0 hx8_0 hx9_0 hHeld ⊢
        refine pure_ (i := 0) (N := some 14) (v := ?_) (a' := ?_) #[true, false, false, false, false, false, false, false, false, false, false, false, false, false, false, false] rfl rfl (any_of HT_.out (by kernel_rfl)) (fun _ _ _ h => h) (Or.inl ⟨by rfl, ?_⟩) ?_ ?_
        rotate_left
        ·intro w'
         go_simp
         with_reducible rfl
        rotate_left
        ·simp only [Act.put, lsA, lsB, lsC, i64_w, i32_w]
         rfl
        refine pure_ (i := 1) (N := some 15) (v := ?_) (a' := ?_) #[true, true, false, false, false, false, false, false, false, false, false, false, false, false, false, false] rfl rfl (any_of HT_.out (by kernel_rfl)) (fun _ _ _ h => h) (Or.inl ⟨by rfl, ?_⟩) ?_ ?_
        rotate_left
        ·intro w'
         go_simp
         with_reducible rfl
        rotate_left
        ·simp only [Act.put, lsA, lsB, lsC, i64_w, i32_w]
         rfl
        refine pure_ (i := 2) (N := some 16) (v := ?_) (a' := ?_) #[true, true, true, false, false, false, false, false, false, false, false, false, false, false, false, false] rfl rfl (any_of HT_.out (by kernel_rfl)) (fun _ _ _ h => h) (Or.inl ⟨by rfl, ?_⟩) ?_ ?_
        rotate_left
        ·intro w'
         go_simp
         with_reducible rfl
        rotate_left
        ·simp only [Act.put, lsA, lsB, lsC, i64_w, i32_w]
         rfl
        refine pure_ (i := 3) (N := some 17) (v := ?_) (a' := ?_) #[true, true, true, true, false, false, false, false, false, false, false, false, false, false, false, false] rfl rfl (any_of HT_.out (by kernel_rfl)) (fun _ _ _ h => h) (Or.inl ⟨by rfl, ?_⟩) ?_ ?_
        rotate_left
        ·intro w'
         go_simp
         with_reducible rfl
        rotate_left
        ·simp only [Act.put, lsA, lsB, lsC, i64_w, i32_w]
         rfl
        refine pure_ (i := 4) (N := some 18) (v := ?_) (a' := ?_) #[true, true, true, true, true, false, false, false, false, false, false, false, false, false, false, false] rfl rfl (any_of HT_.out (by kernel_rfl)) (fun _ _ _ h => h) (Or.inl ⟨by rfl, ?_⟩) ?_ ?_
        rotate_left
        ·intro w'
         go_simp
         with_reducible rfl
        rotate_left
        ·simp only [Act.put, lsA, lsB, lsC, i64_w, i32_w]
         rfl
        refine pure_ (i := 5) (N := some 19) (v := ?_) (a' := ?_) #[true, true, true, true, true, true, false, false, false, false, false, false, false, false, false, false] rfl rfl (any_of HT_.out (by kernel_rfl)) (fun _ _ _ h => h) (Or.inl ⟨by rfl, ?_⟩) ?_ ?_
        rotate_left
        ·intro w'
         go_simp
         with_reducible rfl
        rotate_left
        ·simp only [Act.put, lsA, lsB, lsC, i64_w, i32_w]
         rfl
        refine pure_ (i := 6) (N := some 20) (v := ?_) (a' := ?_) #[true, true, true, true, true, true, true, false, false, false, false, false, false, false, false, false] rfl rfl (any_of HT_.out (by kernel_rfl)) (fun _ _ _ h => h) (Or.inl ⟨by rfl, ?_⟩) ?_ ?_
        rotate_left
        ·intro w'
         go_simp
         with_reducible rfl
        rotate_left
        ·simp only [Act.put, lsA, lsB, lsC, i64_w, i32_w]
         rfl
        refine pure_ (i := 8) (N := some 22) (v := ?_) (a' := ?_) #[true, true, true, true, true, true, true, false, true, false, false, false, false, false, false, false] rfl rfl (any_of HT_.out (by kernel_rfl)) (fun _ _ _ h => h) (Or.inl ⟨by rfl, ?_⟩) ?_ ?_
        rotate_left
        ·intro w'
         go_simp
         with_reducible rfl
        rotate_left
        ·simp only [Act.put, lsA, lsB, lsC, i64_w, i32_w]
         rfl
        refine pure_ (i := 9) (N := some 23) (v := ?_) (a' := ?_) #[true, true, true, true, true, true, true, false, true, true, false, false, false, false, false, false] rfl rfl (any_of HT_.out (by kernel_rfl)) (fun _ _ _ h => h) (Or.inl ⟨by rfl, ?_⟩) ?_ ?_
        rotate_left
        ·intro w'
         go_simp
         with_reducible rfl
        rotate_left
        ·simp only [Act.put, lsA, lsB, lsC, i64_w, i32_w]
         rfl
        refine pure_ (i := 10) (N := some 24) (v := ?_) (a' := ?_) #[true, true, true, true, true, true, true, false, true, true, true, false, false, false, false, false] rfl rfl (any_of HT_.out (by kernel_rfl)) (fun _ _ _ h => h) (Or.inl ⟨by rfl, ?_⟩) ?_ ?_
        rotate_left
        ·intro w'
         go_simp
         with_reducible rfl
        rotate_left
        ·simp only [Act.put, lsA, lsB, lsC, i64_w, i32_w]
         rfl
        refine take_ (i := 7) (N := some 21) (v := ?_) (a' := ?_) #[true, true, true, true, true, true, true, true, true, true, true, false, false, false, false, false] rfl rfl (take_ofW HT_.out HW_.out (by kernel_rfl)) (fun _ _ _ h => h) (Or.inl ⟨by rfl, ?_⟩) hHeld ?_ ?_
        rotate_left
        ·rintro w' ⟨s0, s1⟩
         go_simp
         with_reducible rfl
        rotate_left
        ·simp only [Act.put, lsA, lsB, lsC, i64_w, i32_w]
         rfl
        refine take_ (i := 11) (N := some 25) (v := ?_) (a' := ?_) #[true, true, true, true, true, true, true, true, true, true, true, true, false, false, false, false] rfl rfl (take_ofW HT_.out HW_.out (by kernel_rfl)) (fun _ _ _ h => h) (Or.inl ⟨by rfl, ?_⟩) hHeld ?_ ?_
        rotate_left
        ·rintro w' ⟨s0, s1⟩
         go_simp
         with_reducible rfl
        rotate_left
        ·simp only [Act.put, lsA, lsB, lsC, i64_w, i32_w]
         rfl
        refine pure_ (i := 12) (N := some 26) (v := ?_) (a' := ?_) #[true, true, true, true, true, true, true, true, true, true, true, true, true, false, false, false] rfl rfl (any_of HT_.out (by kernel_rfl)) (fun _ _ _ h => h) (Or.inl ⟨by rfl, ?_⟩) ?_ ?_
        rotate_left
        ·intro w'
         go_simp
         with_reducible rfl
        rotate_left
        ·simp only [Act.put, lsA, lsB, lsC, i64_w, i32_w]
         rfl
        refine last_ (i := 13) (N := none) #[true, true, true, true, true, true, true, true, true, true, true, true, true, true, false, false] rfl rfl (one_of HT_.out (by kernel_rfl)) (by decide) (fun K hK => ?_)
        refine skip_ (w1 := ?_) (by rfl) rfl ?_ ?_
        rotate_left
        ·go_simp
         rfl
        refine hK.out _ _ ?_
        clear hK K
        refine pure_ (i := 14) (N := some 27) (v := ?_) (a' := ?_) #[true, true, true, true, true, true, true, true, true, true, true, true, true, true, true, false] rfl rfl (any_of HT_.out (by kernel_rfl)) (fun _ _ _ h => h) (Or.inl ⟨by rfl, ?_⟩) ?_ ?_
        rotate_left
        ·intro w'
         go_simp
         with_reducible rfl
        rotate_left
        ·simp only [Act.put, lsA, lsB, lsC, i64_w, i32_w]
         rfl
        refine last_ (i := 15) (N := none) #[true, true, true, true, true, true, true, true, true, true, true, true, true, true, true, true] rfl rfl (one_of HT_.out (by kernel_rfl)) (by decide) (fun K hK => ?_)
        refine skip_ (w1 := ?_) (by rfl) rfl ?_ ?_
        rotate_left
        ·go_simp
         rfl
        refine hK.out _ _ ?_
        clear hK K
        refine done_ (done_of HT_.out (by kernel_rfl)) ?_
        try go_wp2
        (try simp only [← hl0_1])
        go_roundg k1
        case measure => have := HK1.out; omega
        case rel => exact ⟨(y206), (wrap64 (x2_1 + 1)), (wrap64 (x3_1 - 1)), (by first | rfl | (simp; done) | (simp [*]; done)), (by first | rfl | (simp; done) | (simp [*]; done)), H', ⟨by have := HK1.out; omega⟩, ⟨by (try simp only [hl0_1]); (with_reducible repeat (first | apply Kd.R_alloc | apply Kd.R_drewN | apply Kd.R_drew)); exact HQ12.out⟩, ⟨by repeat (first | (with_reducible first | exact HK.out | apply Kept.alloc | apply Kept.drewN | apply Kept.drew | refine Kept.setCell ?_ HMgo8.out _ | refine Kept.setCell ?_ HMgo8.out _) | exact HK.out)⟩, ⟨by repeat (first | (with_reducible first | exact HB.out | apply below_alloc | apply pw_below_drewN | apply below_drew1 | refine below_set ?_ GB8.out | refine below_set ?_ GB8.out) | exact HB.out)⟩⟩
       ·rw [if_neg c7] at H
        exact absurd H (by simp)
      ·rw [if_neg c6] at H
       exact absurd H (by simp)
     ·rw [if_neg c5] at H
      exact absurd H (by simp)
    ·rw [if_neg c4] at H
     exact absurd H (by simp)
   ·rw [if_neg c3] at H
    have c3b0 : decide (x2_1 < x3_1) = false := decide_eq_false c3
    clear c3
    obtain rfl := Option.some.inj H
    go_wp2
    first | go_end0 | ((try simp only [Exit.inBlock, Exit.then]); refine bodyPost_ret (results_none rfl _ _ _) rfl ?_)
    exact ⟨by first | rfl | (simp [errW_none, errW_some] <;> rfl) | (simp [*, errW_none, errW_some] <;> rfl), (by first | exact (by (with_reducible repeat (first | apply Kd.R_alloc | apply Kd.R_drewN | apply Kd.R_drew)); exact HO_0.out) | (simp only [hl0_1]; exact (by (with_reducible repeat (first | apply Kd.R_alloc | apply Kd.R_drewN | apply Kd.R_drew)); exact HO_0.out))), by repeat (first | (with_reducible first | exact HB.out | apply below_alloc | apply pw_below_drewN | apply below_drew1) | exact HB.out), by repeat (first | (with_reducible first | exact HK.out | apply Kept.alloc | apply Kept.drewN | apply Kept.drew) | exact HK.out)⟩
end Go.Proofs.Ytelabmhhnpfegaa.PDynCells
end
section
namespace Go.Proofs.Ytelabmhhnpfegaa.Hand
open Go.RowKit Go.Proofs.YtelabmhhnpfegaaW.PrintWords Go.Proofs.YtelabmhhnpfegaaW.PrintLast Go.Proofs.YtelabmhhnpfegaaW.PrintMore Go.Proofs.Ytelabmhhnpfegaa.PDynCells
theorem rev_l : ∀ (f : Nat) (L : List Int) (i j : Nat), L.length ≤ 17592186044416 → (j - i ≤ f) → j < L.length → ∃ k L', slices_Reverse_int_int.l0 k L (i : Int) (j : Int) = some L' ∧ L'.length = L.length ∧ ∀ p, p < L.length → L'.getD p 0 = if i ≤ p ∧ p ≤ j then L.getD (i + j - p) 0 else L.getD p 0
 | 0, L, i, j, hl, hf, hj => by
  refine ⟨1, L, ?_, rfl, fun p hp => ?_⟩
  ·rw [slices_Reverse_int_int.l0, if_neg (by omega)]
  ·split
   ·rename_i h
    congr 1
    omega
   ·rfl
 | f + 1, L, i, j, hl, hf, hj => by
  by_cases h : i < j
  ·have w1 : wrap64 ((i : Int) + 1) = ((i + 1 : Nat) : Int) := by unfold wrap64; omega
   have w2 : wrap64 ((j : Int) - 1) = ((j - 1 : Nat) : Int) := by unfold wrap64; omega
   have r1 : rd L (i : Int) = L.getD i 0 := by unfold rd; rw [Int.toNat_natCast]
   have r2 : rd L (j : Int) = L.getD j 0 := by unfold rd; rw [Int.toNat_natCast]
   obtain ⟨k, L', hk, hl', hp'⟩ := rev_l f ((L.set i (L.getD j 0)).set j (L.getD i 0)) (i + 1) (j - 1) (by simpa using hl) (by omega) (by simp; omega)
   refine ⟨k + 1, L', ?_, by simpa using hl', fun p hp => ?_⟩
   ·rw [slices_Reverse_int_int.l0, if_pos (by omega), if_pos (by omega), if_pos (by omega), if_pos (by omega), if_pos (by omega), w1, w2, r1, r2, Int.toNat_natCast, Int.toNat_natCast, hk]
   ·have hs : ∀ q, q < L.length → ((L.set i (L.getD j 0)).set j (L.getD i 0)).getD q 0 = if j = q then L.getD i 0 else if i = q then L.getD j 0 else L.getD q 0 := fun q hq => by
     rw [getD_set (by simpa using hq), getD_set hq]
    rw [hp' p (by simpa using hp)]
    by_cases e : i + 1 ≤ p ∧ p ≤ j - 1
    ·rw [if_pos e, if_pos ⟨by omega, by omega⟩, hs _ (by omega), if_neg (by omega), if_neg (by omega)]
     congr 1
     omega
    ·rw [if_neg e, hs p hp]
     by_cases e1 : j = p
     ·rw [if_pos e1, if_pos ⟨by omega, by omega⟩]
      congr 1
      omega
     ·rw [if_neg e1]
      by_cases e2 : i = p
      ·rw [if_pos e2, if_pos ⟨by omega, by omega⟩]
       congr 1
       omega
      ·rw [if_neg e2, if_neg (by omega)]
  ·refine ⟨1, L, ?_, rfl, fun p hp => ?_⟩
   ·rw [slices_Reverse_int_int.l0, if_neg (by omega)]
   ·split
    ·rename_i h
     congr 1
     omega
    ·rfl
theorem getD_rev (L : List Int) (p : Nat) (hp : p < L.length) : L.reverse.getD p 0 = L.getD (L.length - 1 - p) 0 := by
 rw [List.getD_eq_getElem?_getD, List.getD_eq_getElem?_getD, List.getElem?_reverse hp]
theorem rev_f (L : List Int) (hl : L.length ≤ 17592186044416) : ∃ k, slices_Reverse_int_int.f k L = some L.reverse := by
 unfold slices_Reverse_int_int.f
 by_cases h0 : L.length = 0
 ·refine ⟨1, ?_⟩
  have : L = [] := List.eq_nil_of_length_eq_zero h0
  subst this
  have hw : wrap64 (((([] : List Int).length : Nat) : Int) - 1) = -1 := by
   show wrap64 ((0 : Int) - 1) = -1
   unfold wrap64
   omega
  rw [hw, slices_Reverse_int_int.l0, if_neg (by omega)]
  rfl
 ·have hw : wrap64 ((L.length : Int) - 1) = ((L.length - 1 : Nat) : Int) := by unfold wrap64; omega
  obtain ⟨k, L', hk, hl', hp'⟩ := rev_l L.length L 0 (L.length - 1) hl (by omega) (by omega)
  refine ⟨k, ?_⟩
  rw [hw]
  rw [show ((0 : Nat) : Int) = 0 from rfl] at hk
  rw [hk]
  congr 1
  refine ext_getD (by rw [hl', List.length_reverse]) (fun p hp => ?_)
  rw [hl'] at hp
  rw [hp' p hp, if_pos ⟨by omega, by omega⟩, getD_rev L p hp]
  congr 1
  omega
theorem rev_any (P : Nat → Prop) (v : Value) (l : List Int) (w0 w : World) (hB : Below w0.heap.size w0 w) (ho : (Kd.int .i64).R 3 w w0.heap.size P v l) (hl : l.length ≤ 17592186044416) :
  Calls Try.prog 90 #[v] w fun e w' => e = .returned (.tuple #[]) ∧ Aside0 ((Kd.int .i64).R 3 w' w0.heap.size (fun k => P k ∨ w.heap.size ≤ k) v l.reverse ∧ Below w0.heap.size w0 w' ∧ Kept w w' P) := by
 obtain ⟨k, hk⟩ := rev_f l hl
 exact (slices_Reverse_int_int.calls k P v l l.reverse w0 w hB ho hk).mono fun _ _ ⟨h1, h2, h3, h4⟩ => ⟨h1, h2, h3, h4⟩
def tbk (m : Nat) (l : List S101) : Nat → Nat → List Int
 | 0, _ => []
 | k + 1, w => if (rowK m l (k + 1)).getD w 0 = (rowK m l k).getD w 0 then tbk m l k w else (k : Int) :: tbk m l k (w - (l.getD k z101).f1.toNat)
theorem tbk_len (m : Nat) (l : List S101) : ∀ k w, (tbk m l k w).length ≤ k
 | 0, _ => Nat.le_refl _
 | k + 1, w => by
  unfold tbk
  split
  ·have := tbk_len m l k w
   omega
  ·have := tbk_len m l k (w - (l.getD k z101).f1.toNat)
   rw [List.length_cons]
   omega
theorem row_ne {m : Nat} {l : List S101} {k w : Nat} (hw : w < m) (h : (rowK m l (k + 1)).getD w 0 ≠ (rowK m l k).getD w 0) : (l.getD k z101).f1.toNat ≤ w := by
 rw [rowK, stepR_get (by rw [rowK_len]; exact hw)] at h
 split at h
 ·assumption
 ·exact absurd rfl h
set_option maxHeartbeats 1000000 in
set_option maxRecDepth 100000 in
theorem knapsack_any (w : World) (x : PI) (v : Value) (h : InstC w x v) (hi : IOk x) (hq : roomP x ≤ 1048576) :
  Calls Try.prog 54 #[v] w fun e w' => ∃ v, e = .returned (.tuple #[v, .int .i64 (-(rowK (roomP x + 1).toNat x.items x.items.length).getD (roomP x).toNat 0), .bool true]) ∧ Aside0 ((Kd.int .i64).R 3 w' w.heap.size (fun _ => True) v (tbk (roomP x + 1).toNat x.items x.items.length (roomP x).toNat).reverse ∧ Below w.heap.size w w') := by
 have HI := Aside0.mk h
 have IOa := Aside0.mk hi
 obtain ⟨A2, c2, A3, c3, A5, c5, rfl, h2, l2, h3, l3, h5, l5⟩ := h
 have H2 := Aside0.mk h2
 obtain ⟨n2, hn2⟩ : ∃ n, n = x.items.length := ⟨_, rfl⟩
 have b2 : n2 ≤ 4096 := by rw [hn2]; exact hi.nitems
 rw [← hn2] at HI H2 l2 ⊢
 have HN := Aside0.mk hn2
 obtain ⟨m, hm⟩ : ∃ m, m = (roomP x + 1).toNat := ⟨_, rfl⟩
 obtain ⟨m', hm'⟩ : ∃ m, m = (roomP x).toNat := ⟨_, rfl⟩
 rw [← hm, ← hm']
 have RB := room_bd hi
 have m1 : m = m' + 1 := by omega
 have m2 : m' ≤ 1048576 := by omega
 have HM := Aside0.mk hm
 have M1 := Aside0.mk m1
 have HQ := Aside0.mk hq
 clear hi h2 h3 h5 l3 l5 hn2 hm hm' RB hq
 have LBD := Aside0.mk (fun k i => rowK_bd (m := m) (l := x.items) (fun s hs => (IOa.out.items s hs).1) k i)
 obtain ⟨zc, hzc⟩ : ∃ z, z = (rowK m x.items n2).getD m' 0 := ⟨_, rfl⟩
 rw [← hzc]
 have zcb : 0 ≤ zc ∧ zc ≤ 2147483648 * n2 := by rw [hzc]; exact LBD.out n2 m'
 obtain ⟨zc0, zc1⟩ := zcb
 have HZC := Aside0.mk hzc
 have mB : m ≤ 1048577 := by omega
 clear hzc m1
 obtain ⟨TB, hTB⟩ : ∃ l, l = tbk m x.items n2 m' := ⟨_, rfl⟩
 rw [← hTB]
 have HTB := Aside0.mk hTB
 clear hTB
 have hu54 := Try.underlying54
 have hu101 := Try.underlying101
 go_enter Try.func54, Try.ntmps54
 go_wp2_with fail
 obtain ⟨W1, hW1⟩ : ∃ W, W = w.alloc (.cells #[.int .i64 x.kind, .int .i64 x.cap, .slice A2 n2 c2, .slice A3 x.cost.length c3, .int .i64 x.size, .slice A5 x.sets.length c5] 54) := ⟨_, rfl⟩
 rw [← hW1]
 have B1 : Aside0 (Below w.heap.size w W1) := ⟨by rw [hW1]; exact below_alloc (Below.refl _ _) _⟩
 obtain ⟨p1, hp1⟩ : ∃ p, p = w.heap.size := ⟨_, rfl⟩
 have Q1 : Aside0 (W1.heap[p1]? = some (.cells #[.int .i64 x.kind, .int .i64 x.cap, .slice A2 n2 c2, .slice A3 x.cost.length c3, .int .i64 x.size, .slice A5 x.sets.length c5] 54 (0, 0))) := ⟨by rw [hW1, hp1]; exact heap_alloc_new _ _⟩
 rw [← hp1]
 clear hW1 hp1
 refine (rows_any W1 x _ (HI.out.below B1.out) IOa.out HQ.out).mono ?_
 rintro _ W3 ⟨vt, rfl, HT⟩
 rw [← HM.out, ← HN.out] at HT
 obtain ⟨gt, ct, rfl⟩ : ∃ g c, vt = .slice (some ⟨g, 0, none⟩) (n2 + 1) c := by
  obtain ⟨g, cap, e, _⟩ := Kd.R_form HT.out.1 (by rw [rowsP_len]; omega)
  rw [rowsP_len] at e
  exact ⟨_, cap, e⟩
 have TC := Aside0.mk (R_C HT.out.1).1
 have B3 : Aside0 (Below w.heap.size w W3) := ⟨B1.out.trans (HT.out.2.mono B1.out.size)⟩
 have Q3 : Aside0 (W3.heap[p1]? = some (.cells #[.int .i64 x.kind, .int .i64 x.cap, .slice A2 n2 c2, .slice A3 x.cost.length c3, .int .i64 x.size, .slice A5 x.sets.length c5] 54 (0, 0))) := ⟨blk_below Q1.out HT.out.2⟩
 have ROW : Aside0 (∀ k, k ≤ n2 → ∃ a c, W3.cell? ⟨gt, k, none⟩ = some (.slice (some a) m c) ∧ (Kd.int .i64).C W3 (some a) m (rowK m x.items k)) := ⟨fun k hk => by
  obtain ⟨ar, AY, cY, e, y0, ly, hy⟩ := at_L2 TC.out (k : Int) (by omega) (by omega)
  injection e with e
  subst e
  have hyE : rd_L2 (rowsP m x.items n2) (k : Int) = rowK m x.items k := by unfold rd_L2; rw [Int.toNat_natCast]; exact rowsP_get m x.items hk
  rw [hyE, rowK_len] at y0 hy
  rw [Int.toNat_natCast] at y0
  obtain ⟨aY, e⟩ : ∃ a, AY = some a := by
   obtain ⟨_, _, hc⟩ := hy
   obtain ⟨a, e, _⟩ := hc (by have := M1.out; omega)
   exact ⟨a, e⟩
  subst e
  rw [show (⟨gt, 0, none⟩ : Addr).add k = ⟨gt, k, none⟩ by unfold Addr.add; split <;> simp_all] at y0
  exact ⟨aY, cY, y0, hy⟩⟩
 obtain ⟨a0, c0, y0, hy0⟩ := ROW.out 0 (Nat.zero_le _)
 obtain ⟨an, cn, yn, hyn⟩ := ROW.out n2 (Nat.le_refl _)
 obtain ⟨ae, e, xn⟩ := at_Int hyn m' (by have := M1.out; omega)
 injection e with e
 subst e
 rw [← HZC.out] at xn
 have hk1 : wrap64 ((n2 : Int) + 1 - 1) = (n2 : Int) := by unfold wrap64; omega
 have hk2 : (n2 : Int) + 1 - 1 = (n2 : Int) := by omega
 have e1 : (m : Int) = (m' : Int) + 1 := by have := M1.out; omega
 have m0 : 0 < m := by have := M1.out; omega
 have m3 : m' < m := by have := M1.out; omega
 have q2 : W3.cell? ⟨p1, 2, none⟩ = some (.slice A2 n2 c2) := (blk_cell Q3.out 2).trans rfl
 clear hy0 hyn
 go_wp2_with fail
 clear y0 yn xn hk1 hk2 e1 q2
 have K0 : Aside0 (TB = [] ++ tbk m x.items n2 m' ∧ (Kd.int .i64).R 3 W3 W3.heap.size (fun _ => True) (.slice none 0 0) [] ∧ Below W3.heap.size W3 W3) := ⟨by rw [HTB.out]; rfl, Kd.R_nil _ _ _ _ _, Below.refl _ _⟩
 have TL : Aside0 (TB.length ≤ 4096) := ⟨by rw [HTB.out]; exact Nat.le_trans (tbk_len _ _ _ _) b2⟩
 go_loopw [6, 8, 9] (fun v6 v8 v9 wr => ∃ (kk wv : Nat) (A : Option Addr) (n c : Nat) (lst : List Int), kk ≤ n2 ∧ wv < m ∧ v6 = .int .i64 (wv : Int) ∧ v8 = .slice A n c ∧ v9 = .int .i64 ((kk : Int) - 1) ∧ Aside0 (TB = lst ++ tbk m x.items kk wv ∧ (Kd.int .i64).R 3 wr W3.heap.size (fun _ => True) (.slice A n c) lst ∧ Below W3.heap.size W3 wr)) (fun _ _ v9 _ => (intOf v9 + 1).toNat)
 case atStart => exact ⟨n2, m', none, 0, 0, [], Nat.le_refl _, m3, rfl, rfl, rfl, K0⟩
 case round =>
  clear K0
  obtain ⟨kk, wv, A, n, c, lst, hk, hw, rfl, rfl, rfl, KK⟩ := hrel
  rcases Nat.eq_zero_or_pos kk with h0 | h0
  ·subst h0
   have E : Aside0 (TB = lst) := ⟨by have := KK.out.1; unfold tbk at this; rwa [List.append_nil] at this⟩
   have LL : Aside0 (lst.length ≤ 17592186044416) := ⟨by have := TL.out; rw [E.out] at this; omega⟩
   go_wp2_with fail
   refine (rev_any (fun _ => True) (.slice A n c) lst W3 wr KK.out.2.2 KK.out.2.1 LL.out).mono ?_
   rintro _ w9 ⟨rfl, H9⟩
   go_wp2_with fail
   refine bodyPost_ret (v := .tuple #[.slice A n c, .int .i64 (-zc), .bool true]) (by simp [results, Try.results54, go_sem]) rfl ?_
   refine ⟨_, rfl, ⟨?_, B3.out.trans (H9.out.2.1.mono B3.out.size)⟩⟩
   rw [E.out]
   exact Kd.R_mono (Kd.R_lower H9.out.1 B3.out.size) (fun _ _ => trivial)
  ·obtain ⟨q, rfl⟩ : ∃ q, kk = q + 1 := ⟨kk - 1, by omega⟩
   have LST : Aside0 (lst.length + 1 ≤ 4097) := ⟨by
    have h1 := TL.out
    rw [KK.out.1, List.length_append] at h1
    omega⟩
   obtain ⟨a1, c1, y1', hy1⟩ := ROW.out (q + 1) (by omega)
   obtain ⟨a0, c0, y0', hy0⟩ := ROW.out q (by omega)
   have y1 := pw_cell_below KK.out.2.2 y1'
   have y0 := pw_cell_below KK.out.2.2 y0'
   obtain ⟨ae, e, z1'⟩ := at_Int hy1 wv hw
   injection e with e
   subst e
   obtain ⟨ae, e, z0'⟩ := at_Int hy0 wv hw
   injection e with e
   subst e
   have z1 := pw_cell_below KK.out.2.2 z1'
   have z0 := pw_cell_below KK.out.2.2 z0'
   obtain ⟨u1, hu1⟩ : ∃ z, z = (rowK m x.items (q + 1)).getD wv 0 := ⟨_, rfl⟩
   obtain ⟨u0, hu0⟩ : ∃ z, z = (rowK m x.items q).getD wv 0 := ⟨_, rfl⟩
   rw [← hu1] at z1
   rw [← hu0] at z0
   have U := Aside0.mk (And.intro hu1 hu0)
   have w1 : wrap64 (((q + 1 : Nat) : Int) - 1) = (q : Int) := by unfold wrap64; omega
   have w2 : (q : Int) + 1 - 1 = (q : Int) := by omega
   have w4 : IntKind.i64.wrap ((q : Int) + 1) = (q : Int) + 1 := by rw [i64_w]; unfold wrap64; omega
   have w5 : 0 ≤ (q : Int) + 1 := by omega
   have w6 : (q : Int) + 1 < (n2 : Int) + 1 := by omega
   have w7 : ((q : Int) + 1).toNat = q + 1 := by omega
   clear y1' y0' hy1 hy0 z1' z0' hu1 hu0 h0
   by_cases hne : u1 = u0
   ·have g : (u1 != u0) = false := by rw [hne]; simp
    have N1 : Aside0 (TB = lst ++ tbk m x.items q wv) := ⟨by
     have h1 := KK.out.1
     unfold tbk at h1
     rwa [if_pos (by rw [← U.out.1, ← U.out.2]; exact hne)] at h1⟩
    clear hne
    go_upto_region 8 with fail
    go_quiet (fail)
    clear w4 w5 w6 w7
    go_wp2_with fail
    exact ⟨⟨q, wv, A, n, c, lst, by omega, hw, rfl, rfl, by first | rfl | simp, ⟨N1.out, Kd.R_drewN KK.out.2.1 nq, pw_below_drewN KK.out.2.2 nq⟩⟩, by simp [intOf]⟩
   ·have g : (u1 != u0) = true := by simpa using hne
    have WT := row_ne (m := m) (l := x.items) (k := q) hw (by rw [← U.out.1, ← U.out.2]; exact hne)
    have N1 : Aside0 (TB = (lst ++ [(q : Int)]) ++ tbk m x.items q (wv - (x.items.getD q z101).f1.toNat)) := ⟨by
     have h1 := KK.out.1
     unfold tbk at h1
     rw [if_neg (by rw [← U.out.1, ← U.out.2]; exact hne)] at h1
     rw [h1, List.append_assoc]
     rfl⟩
    obtain ⟨ad, e, i0', i1'⟩ := at_T101 H2.out (q : Int) (by omega) (by omega)
    subst e
    rw [Int.toNat_natCast] at i1'
    have hs2 : (rd_T101 x.items (q : Int)).f1 = (x.items.getD q z101).f1 := by unfold rd_T101; rw [Int.toNat_natCast]
    have sb := (IOa.out.items (x.items.getD q z101) (by
     rw [List.getD_eq_getElem?_getD, List.getElem?_eq_getElem (by rw [← HN.out]; omega), Option.getD_some]
     exact List.getElem_mem _)).2
    obtain ⟨wt, hwt⟩ : ∃ n : Nat, (n : Int) = (x.items.getD q z101).f1 := ⟨(x.items.getD q z101).f1.toNat, by omega⟩
    rw [hs2, ← hwt] at i1'
    have hwt2 : (x.items.getD q z101).f1.toNat = wt := by omega
    rw [hwt2] at WT N1
    obtain ⟨dd, hdd⟩ : ∃ d, d = wv - wt := ⟨_, rfl⟩
    rw [← hdd] at N1
    have d1 : (wv : Int) - (wt : Int) = (dd : Int) := by omega
    have d2 : wrap64 ((wv : Int) - (wt : Int)) = (dd : Int) := by unfold wrap64; omega
    have d3 : dd < m := by omega
    have I1 := Aside0.mk (pw_cell_below B3.out i1')
    have HL : Aside0 ((lst.length + 1) * 8 ≤ 140737488355328) := ⟨by have := LST.out; omega⟩
    clear hne i0' i1' hs2 sb hwt hwt2 hdd WT
    go_upto_region 8 with fail
    go_quiet (fail)
    clear w4 w5 w6 w7
    have RQ := Aside0.mk (Kd.R_drewN KK.out.2.1 nq)
    have BQ := Aside0.mk (pw_below_drewN KK.out.2.2 nq)
    go_upto_region 10 with (at_builtin; refine Kd.R_append (Kd.int .i64) (w0 := W3) W3.heap.size rfl _ _ 29 3 (.int .i64 0) 8 rfl Try.underlying29 infoR3 rfl (by decide) (by decide) (.slice A n c) lst (q : Int) [.int .i64 (q : Int)] (fun _ => True) (fun _ => False) rfl rfl rfl (fun _ h => h.elim) (fun _ _ => trivial) RQ.out BQ.out BQ.out.size HL.out ?_; intro v7 w7 ho7 hb7 _ _; obtain ⟨A7, n7, c7, rfl, _⟩ := R_open ho7; have O7 := Aside0.mk ho7; have B7 := Aside0.mk hb7; clear ho7 hb7)
    have q2 : w7.cell? ⟨p1, 2, none⟩ = some (.slice (some ad) n2 c2) := (blk_cell (blk_below Q3.out B7.out) 2).trans rfl
    have i1 := pw_cell_below B7.out I1.out
    clear y1 y0 z1 z0
    go_wp2_with fail
    exact ⟨⟨q, dd, A7, n7, c7, lst ++ [(q : Int)], by omega, d3, rfl, rfl, by first | rfl | simp, ⟨N1.out, O7.out, B7.out⟩⟩, by simp [intOf]⟩
end Go.Proofs.Ytelabmhhnpfegaa.Hand
end
section
namespace Go.Proofs.Ytelabmhhnpfegaa.Hand
open Go.RowKit Go.Proofs.Ytelabmhhnpfegaa.PDynCells
end Go.Proofs.Ytelabmhhnpfegaa.Hand
end
section
namespace Go.Proofs.Ytelabmhhnpfegaa.Hand
open Go.RowKit Go.Proofs.Ytelabmhhnpfegaa.PDynCells
structure Answ (x : PI) (f : Bool) (z : Int) (l : List Int) : Prop where
 yes : f = true → mayP x l = true ∧ cosP x l = (z, 0) ∧ ∀ y, mayP x y = true → z ≤ (cosP x y).1
 no : f = false → l = [] ∧ z = 0 ∧ ∀ y, mayP x y = false
end Go.Proofs.Ytelabmhhnpfegaa.Hand
end
section
namespace Go.Proofs.Ytelabmhhnpfegaa.Hand
open Go.RowKit Go.Proofs.YtelabmhhnpfegaaW.PrintWords Go.Proofs.YtelabmhhnpfegaaW.PrintLast Go.Proofs.YtelabmhhnpfegaaW.PrintMore Go.Proofs.Ytelabmhhnpfegaa.PDynCells
def fldS (s : S152) (j : Nat) : Value := if j = 0 then .int .i64 s.f0 else if j = 1 then .bool s.f1 else if j = 2 then .int .i64 s.f2 else .int .i64 s.f3
def tabS (n : Nat) (f : Nat → S152) : Array Value := ((List.range (n * 4)).map fun j => fldS (f (j / 4)) (j % 4)).toArray
theorem tabS_at {n : Nat} {f : Nat → S152} {j : Nat} (h : j < n * 4) : (tabS n f)[j]? = some (fldS (f (j / 4)) (j % 4)) := by simp [tabS, h]
theorem tabS_get {n : Nat} {f : Nat → S152} {i j : Nat} (hi : i < n) (hj : j < 4) : (tabS n f)[i * 4 + j]? = some (fldS (f i) j) := by
 rw [tabS_at (by omega), show (i * 4 + j) / 4 = i by omega, show (i * 4 + j) % 4 = j by omega]
theorem tabS_set (n : Nat) (f : Nat → S152) (i : Nat) (s : S152) : ((((tabS n f).setIfInBounds (i * 4) (.int .i64 s.f0)).setIfInBounds (i * 4 + 1) (.bool s.f1)).setIfInBounds (i * 4 + 2) (.int .i64 s.f2)).setIfInBounds (i * 4 + 3) (.int .i64 s.f3) = tabS n (upd f i s) := by
 have hsz : (tabS n f).size = n * 4 := by simp [tabS]
 apply Array.ext_getElem?
 intro j
 by_cases hl : j < n * 4
 ·rw [tabS_at hl]
  by_cases hi : j / 4 = i
  ·rw [hi, upd_self]
   have h4 : j % 4 = 0 ∨ j % 4 = 1 ∨ j % 4 = 2 ∨ j % 4 = 3 := by omega
   rcases h4 with h | h | h | h <;> rw [h]
   ·obtain rfl : j = i * 4 := by omega
    simp [hsz, hl, fldS]
   ·obtain rfl : j = i * 4 + 1 := by omega
    simp [hsz, hl, fldS]
   ·obtain rfl : j = i * 4 + 2 := by omega
    simp [hsz, hl, fldS]
   ·obtain rfl : j = i * 4 + 3 := by omega
    simp [hsz, hl, fldS]
  ·rw [upd_ne _ _ hi, Array.getElem?_setIfInBounds, if_neg (by omega), Array.getElem?_setIfInBounds, if_neg (by omega), Array.getElem?_setIfInBounds, if_neg (by omega), Array.getElem?_setIfInBounds, if_neg (by omega), tabS_at hl]
 ·rw [Array.getElem?_eq_none (by simp [hsz]; omega), Array.getElem?_eq_none (by simp [tabS]; omega)]
def SB (w : World) (g n : Nat) (f : Nat → S152) : Prop := w.heap[g]? = some (.cells (tabS n f) 152 (0, 0))
section
variable {w : World} {g n i : Nat} {f : Nat → S152}
theorem SB.c0 (h : SB w g n f) (hi : i < n) : w.cell? ⟨g, i * 4, none⟩ = some (.int .i64 (f i).f0) := (blk_cell h _).trans (tabS_get (j := 0) hi (by omega))
theorem SB.c1 (h : SB w g n f) (hi : i < n) : w.cell? ⟨g, i * 4 + 1, none⟩ = some (.bool (f i).f1) := (blk_cell h _).trans (tabS_get hi (by omega))
theorem SB.c2 (h : SB w g n f) (hi : i < n) : w.cell? ⟨g, i * 4 + 2, none⟩ = some (.int .i64 (f i).f2) := (blk_cell h _).trans (tabS_get hi (by omega))
theorem SB.c3 (h : SB w g n f) (hi : i < n) : w.cell? ⟨g, i * 4 + 3, none⟩ = some (.int .i64 (f i).f3) := (blk_cell h _).trans (tabS_get hi (by omega))
theorem SB.z (h : SB w g n f) (i : Nat) : w.frozen? ⟨g, i, none⟩ = false := blk_frozen h i
theorem SB.set (h : SB w g n f) (i : Nat) (s : S152) : SB ((((w.setCell ⟨g, i * 4, none⟩ (.int .i64 s.f0)).setCell ⟨g, i * 4 + 1, none⟩ (.bool s.f1)).setCell ⟨g, i * 4 + 2, none⟩ (.int .i64 s.f2)).setCell ⟨g, i * 4 + 3, none⟩ (.int .i64 s.f3)) g n (upd f i s) := by
 unfold SB
 rw [← tabS_set]
 exact blk_set (blk_set (blk_set (blk_set h _ _) _ _) _ _) _ _
end
def offS (s : S152) (a p q : Int) : S152 := if s.f1 = true ∧ ¬ a < s.f0 then s else ⟨a, true, p, q⟩
end Go.Proofs.Ytelabmhhnpfegaa.Hand
end
section
namespace Go.Proofs.Ytelabmhhnpfegaa.Hand
open Go.RowKit Go.Proofs.YtelabmhhnpfegaaW.PrintWords Go.Proofs.YtelabmhhnpfegaaW.PrintLast Go.Proofs.YtelabmhhnpfegaaW.PrintMore Go.Proofs.Ytelabmhhnpfegaa.PDynCells
inductive Chain (n : Nat) (T : Nat → S152) : Nat → List Int → Prop
 | nil (X : Nat) (h : (T X).f2 < 0) (hX : X < n) : Chain n T X []
 | cons (X Y : Nat) (l : List Int) (hX : X < n) (h : 0 ≤ (T X).f2) (e : (T X).f3 = (Y : Int)) (hl : Chain n T Y l) : Chain n T X ((T X).f2 :: l)
theorem Chain.lt {n : Nat} {T : Nat → S152} {X : Nat} {l : List Int} (h : Chain n T X l) : X < n := by cases h <;> assumption
end Go.Proofs.Ytelabmhhnpfegaa.Hand
end
section
namespace Go.Proofs.Ytelabmhhnpfegaa.Hand
open Go.RowKit Go.Proofs.Ytelabmhhnpfegaa.PDynCells
def pop : Nat → Nat → Nat
 | 0, _ => 0
 | k + 1, m => m % 2 + pop k (m / 2)
theorem half_pow (m j : Nat) : m / 2 ^ (j + 1) = m / 2 / 2 ^ j := by rw [Nat.pow_succ, Nat.mul_comm, Nat.div_div_eq_div_mul]
theorem pop_add : ∀ k j m, j < k → m / 2 ^ j % 2 = 0 → pop k (m + 2 ^ j) = pop k m + 1
 | 0, _, _, h, _ => absurd h (Nat.not_lt_zero _)
 | k + 1, 0, m, _, h => by
  rw [Nat.pow_zero, Nat.div_one] at h
  rw [Nat.pow_zero, pop, pop, show (m + 1) / 2 = m / 2 by omega]
  omega
 | k + 1, j + 1, m, hj, h => by
  rw [half_pow] at h
  have hp : 2 ^ (j + 1) = 2 ^ j * 2 := Nat.pow_succ ..
  rw [pop, pop, show (m + 2 ^ (j + 1)) % 2 = m % 2 by omega, show (m + 2 ^ (j + 1)) / 2 = m / 2 + 2 ^ j by omega, pop_add k j (m / 2) (by omega) h]
  omega
theorem bit_add : ∀ j k m, m / 2 ^ j % 2 = 0 → (m + 2 ^ j) / 2 ^ k % 2 = if k = j then 1 else m / 2 ^ k % 2
 | 0, 0, m, h => by
  rw [Nat.pow_zero, Nat.div_one] at h
  rw [Nat.pow_zero, Nat.div_one, if_pos rfl]
  omega
 | 0, k + 1, m, h => by
  rw [Nat.pow_zero, Nat.div_one] at h
  rw [Nat.pow_zero, if_neg (by omega), half_pow, half_pow, show (m + 1) / 2 = m / 2 by omega]
 | j + 1, 0, m, h => by
  have hp : 2 ^ (j + 1) = 2 ^ j * 2 := Nat.pow_succ ..
  rw [Nat.pow_zero, Nat.div_one, Nat.div_one, if_neg (by omega)]
  omega
 | j + 1, k + 1, m, h => by
  rw [half_pow] at h
  have hp : 2 ^ (j + 1) = 2 ^ j * 2 := Nat.pow_succ ..
  rw [half_pow, half_pow, show (m + 2 ^ (j + 1)) / 2 = m / 2 + 2 ^ j by omega, bit_add j k (m / 2) h]
  by_cases e : k = j
  ·rw [if_pos e, if_pos (by omega)]
  ·rw [if_neg e, if_neg (by omega)]
theorem bit_lt : ∀ n j m, m < 2 ^ n → j < n → m / 2 ^ j % 2 = 0 → m + 2 ^ j < 2 ^ n
 | 0, _, _, _, h, _ => absurd h (Nat.not_lt_zero _)
 | n + 1, 0, m, hm, _, h => by
  have hp : 2 ^ (n + 1) = 2 ^ n * 2 := Nat.pow_succ ..
  rw [Nat.pow_zero, Nat.div_one] at h
  rw [Nat.pow_zero]
  omega
 | n + 1, j + 1, m, hm, hj, h => by
  have hp : 2 ^ (n + 1) = 2 ^ n * 2 := Nat.pow_succ ..
  have hp2 : 2 ^ (j + 1) = 2 ^ j * 2 := Nat.pow_succ ..
  rw [half_pow] at h
  have := bit_lt n j (m / 2) (by omega) (by omega) h
  omega
theorem bit_some : ∀ n m, m < 2 ^ n → m ≠ 0 → ∃ k, k < n ∧ m / 2 ^ k % 2 = 1
 | 0, m, h, h0 => by rw [Nat.pow_zero] at h; omega
 | n + 1, m, h, h0 => by
  have hp : 2 ^ (n + 1) = 2 ^ n * 2 := Nat.pow_succ ..
  by_cases e : m % 2 = 1
  ·exact ⟨0, by omega, by rw [Nat.pow_zero, Nat.div_one]; exact e⟩
  ·obtain ⟨k, hk, hb⟩ := bit_some n (m / 2) (by omega) (by omega)
   exact ⟨k + 1, by omega, by rw [half_pow]; exact hb⟩
theorem bit_sub : ∀ k m, m / 2 ^ k % 2 = 1 → 2 ^ k ≤ m ∧ (m - 2 ^ k) / 2 ^ k % 2 = 0
 | 0, m, h => by
  rw [Nat.pow_zero, Nat.div_one] at h
  rw [Nat.pow_zero, Nat.div_one]
  omega
 | k + 1, m, h => by
  have hp : 2 ^ (k + 1) = 2 ^ k * 2 := Nat.pow_succ ..
  rw [half_pow] at h
  obtain ⟨h1, h2⟩ := bit_sub k (m / 2) h
  refine ⟨by omega, ?_⟩
  rw [half_pow, show (m - 2 ^ (k + 1)) / 2 = m / 2 - 2 ^ k by omega]
  exact h2
theorem pop_zero : ∀ k, pop k 0 = 0
 | 0 => rfl
 | k + 1 => by rw [pop, Nat.zero_mod, Nat.zero_div, pop_zero k]
theorem pop_le : ∀ k n m, m < 2 ^ n → pop k m ≤ n
 | 0, n, m, _ => Nat.zero_le _
 | k + 1, 0, m, h => by
  rw [Nat.pow_zero] at h
  obtain rfl : m = 0 := by omega
  rw [pop_zero]
  exact Nat.le_refl _
 | k + 1, n + 1, m, h => by
  have hp : 2 ^ (n + 1) = 2 ^ n * 2 := Nat.pow_succ ..
  have := pop_le k n (m / 2) (by omega)
  rw [pop]
  omega
theorem pop_full : ∀ k n m, m < 2 ^ n → pop k m = n → m = 2 ^ n - 1
 | _, 0, m, h, _ => by rw [Nat.pow_zero] at h ⊢; omega
 | 0, n + 1, m, _, hp => by cases hp
 | k + 1, n + 1, m, h, hp => by
  have h2 : 2 ^ (n + 1) = 2 ^ n * 2 := Nat.pow_succ ..
  have h0 : 0 < 2 ^ n := Nat.pow_pos (by omega)
  rw [pop] at hp
  have := pop_le k n (m / 2) (by omega)
  have := pop_full k n (m / 2) (by omega) (by omega)
  omega
structure DpI (K n : Nat) (c : Nat → Nat → Int) (M j : Nat) (T : Nat → S152) : Prop where
 zero : T 0 = ⟨0, true, -1, 0⟩
 link : ∀ X, X ≠ 0 → (T X).f1 = true → ∃ Y k, k < n ∧ Y / 2 ^ k % 2 = 0 ∧ X = Y + 2 ^ k ∧ Y ≤ M ∧ Y < 2 ^ n ∧ (T Y).f1 = true ∧ T X = ⟨(T Y).f0 + c (pop K Y) k, true, k, Y⟩
 done : ∀ m k, (m < M ∨ m = M ∧ k < j) → k < n → m / 2 ^ k % 2 = 0 → m < 2 ^ n → (T (m + 2 ^ k)).f1 = true ∧ (T (m + 2 ^ k)).f0 ≤ (T m).f0 + c (pop K m) k
section
variable {K n M j : Nat} {c : Nat → Nat → Int} {T : Nat → S152}
theorem DpI.ok (h : DpI K n c M j T) {m : Nat} (hm : m ≤ M) (hn : m < 2 ^ n) : (T m).f1 = true := by
 by_cases e : m = 0
 ·rw [e, h.zero]
 ·obtain ⟨k, hk, hb⟩ := bit_some n m hn e
  obtain ⟨h1, h2⟩ := bit_sub k m hb
  have hp : 0 < 2 ^ k := Nat.pow_pos (by omega)
  have := (h.done (m - 2 ^ k) k (.inl (by omega)) hk h2 (by omega)).1
  rwa [show m - 2 ^ k + 2 ^ k = m by omega] at this
theorem DpI.start : DpI K n c 0 0 (upd (fun _ => z152) 0 ⟨0, true, -1, 0⟩) where
 zero := upd_self _ _ _
 link X hX h := by
  rw [upd_ne _ _ hX] at h
  cases h
 done m k hm := by omega
theorem DpI.skip (h : DpI K n c M j T) (hb : M / 2 ^ j % 2 ≠ 0) : DpI K n c M (j + 1) T where
 zero := h.zero
 link := h.link
 done m k hm hk hmk hmn := by
  refine h.done m k ?_ hk hmk hmn
  rcases hm with hm | ⟨rfl, hm⟩
  ·exact .inl hm
  ·by_cases e : k = j
   ·rw [e] at hmk
    exact absurd hmk hb
   ·exact .inr ⟨rfl, by omega⟩
theorem offS_ok (s : S152) (a p q : Int) : (offS s a p q).f1 = true ∧ (offS s a p q).f0 ≤ a ∧ (s.f1 = true → (offS s a p q).f0 ≤ s.f0) := by
 unfold offS
 split
 ·rename_i h
  exact ⟨h.1, by omega, fun _ => Int.le_refl _⟩
 ·rename_i h
  refine ⟨rfl, Int.le_refl _, fun hs => ?_⟩
  show a ≤ s.f0
  by_cases hl : a < s.f0
  ·omega
  ·exact absurd ⟨hs, hl⟩ h
theorem DpI.put (h : DpI K n c M j T) (hM : M < 2 ^ n) (hj : j < n) (hb : M / 2 ^ j % 2 = 0) :
  DpI K n c M (j + 1) (upd T (M + 2 ^ j) (offS (T (M + 2 ^ j)) ((T M).f0 + c (pop K M) j) j M)) := by
 have hp : 0 < 2 ^ j := Nat.pow_pos (by omega)
 have old : ∀ Y, Y ≤ M → upd T (M + 2 ^ j) (offS (T (M + 2 ^ j)) ((T M).f0 + c (pop K M) j) j M) Y = T Y := fun Y hY => upd_ne _ _ (by omega)
 obtain ⟨o1, o2, o3⟩ := offS_ok (T (M + 2 ^ j)) ((T M).f0 + c (pop K M) j) j M
 refine ⟨by rw [old 0 (Nat.zero_le _)]; exact h.zero, fun X hX hok => ?_, fun m k hm hk hmk hmn => ?_⟩
 ·by_cases e : X = M + 2 ^ j
  ·subst e
   rw [upd_self] at hok ⊢
   unfold offS at hok ⊢
   split at hok
   ·rename_i hc
    rw [if_pos hc]
    obtain ⟨Y, k, a1, a2, a3, a4, a5, a6, a7⟩ := h.link _ hX hc.1
    have oY := old Y a4
    unfold offS at oY
    rw [if_pos hc] at oY
    exact ⟨Y, k, a1, a2, a3, a4, a5, by rw [oY]; exact a6, by rw [oY]; exact a7⟩
   ·rename_i hc
    rw [if_neg hc]
    have oM := old M (Nat.le_refl _)
    unfold offS at oM
    rw [if_neg hc] at oM
    exact ⟨M, j, hj, hb, rfl, Nat.le_refl _, hM, by rw [oM]; exact h.ok (Nat.le_refl _) hM, by rw [oM]⟩
  ·rw [upd_ne _ _ e] at hok ⊢
   obtain ⟨Y, k, a1, a2, a3, a4, a5, a6, a7⟩ := h.link X hX hok
   exact ⟨Y, k, a1, a2, a3, a4, a5, by rw [old Y a4]; exact a6, by rw [old Y a4]; exact a7⟩
 ·have hmM : m ≤ M := by omega
  rw [old m hmM]
  by_cases e : m + 2 ^ k = M + 2 ^ j
  ·rw [e, upd_self]
   refine ⟨o1, ?_⟩
   by_cases e2 : m = M ∧ k = j
   ·obtain ⟨rfl, rfl⟩ := e2
    exact o2
   ·have hold := h.done m k (by
     rcases hm with hm | ⟨rfl, hm⟩
     ·exact .inl hm
     ·exact .inr ⟨rfl, by
       have : k ≠ j := fun e3 => e2 ⟨rfl, e3⟩
       omega⟩) hk hmk hmn
    rw [e] at hold
    have := o3 hold.1
    omega
  ·rw [upd_ne _ _ e]
   refine h.done m k ?_ hk hmk hmn
   rcases hm with hm | ⟨rfl, hm⟩
   ·exact .inl hm
   ·exact .inr ⟨rfl, by
     have : k ≠ j := fun e3 => e (by rw [e3])
     omega⟩
theorem DpI.next (h : DpI K n c M n T) : DpI K n c (M + 1) 0 T where
 zero := h.zero
 link X hX hok := by
  obtain ⟨Y, k, a1, a2, a3, a4, a5, a6, a7⟩ := h.link X hX hok
  exact ⟨Y, k, a1, a2, a3, by omega, a5, a6, a7⟩
 done m k hm hk hmk hmn := h.done m k (by omega) hk hmk hmn
end
def msk (σ : Nat → Nat) : Nat → Nat
 | 0 => 0
 | i + 1 => msk σ i + 2 ^ σ i
theorem msk_congr {σ τ : Nat → Nat} : ∀ i, (∀ r, r < i → σ r = τ r) → msk σ i = msk τ i
 | 0, _ => rfl
 | i + 1, h => by rw [msk, msk, msk_congr i (fun r hr => h r (by omega)), h i (by omega)]
theorem msk_all {K n : Nat} {σ : Nat → Nat} (hl : ∀ r, r < n → σ r < n) (hK : n ≤ K) : ∀ i, i ≤ n → (∀ r s, r < i → s < i → σ r = σ s → r = s) →
  msk σ i < 2 ^ n ∧ pop K (msk σ i) = i ∧ ∀ k, (msk σ i / 2 ^ k % 2 = 1 ↔ ∃ r, r < i ∧ σ r = k)
 | 0, _, _ => ⟨Nat.pow_pos (by omega), pop_zero K, fun k => by rw [msk, Nat.zero_div]; exact ⟨fun h => (by cases h), fun ⟨r, h, _⟩ => absurd h (Nat.not_lt_zero _)⟩⟩
 | i + 1, hi, hinj => by
  obtain ⟨h1, h2, h3⟩ := msk_all hl hK i (by omega) (fun r s hr hs e => hinj r s (by omega) (by omega) e)
  have hz : msk σ i / 2 ^ σ i % 2 = 0 := by
   have : ¬ msk σ i / 2 ^ σ i % 2 = 1 := fun h => by
    obtain ⟨r, hr, e⟩ := (h3 _).1 h
    have := hinj r i (by omega) (by omega) e
    omega
   omega
  have hs := hl i (by omega)
  refine ⟨bit_lt n _ _ h1 hs hz, by rw [msk, pop_add K _ _ (by omega) hz, h2], fun k => ?_⟩
  rw [msk, bit_add _ _ _ hz]
  by_cases e : k = σ i
  ·rw [if_pos e]
   exact ⟨fun _ => ⟨i, by omega, e.symm⟩, fun _ => rfl⟩
  ·rw [if_neg e, h3]
   constructor
   ·rintro ⟨r, hr, he⟩
    exact ⟨r, by omega, he⟩
   ·rintro ⟨r, hr, he⟩
    refine ⟨r, ?_, he⟩
    have : r ≠ i := fun h => e (by rw [← he, h])
    omega
section
variable {K n : Nat} {c : Nat → Nat → Int} {T : Nat → S152}
theorem DpI.le (h : DpI K n c (2 ^ n) 0 T) (hK : n ≤ K) {σ : Nat → Nat} (hl : ∀ r, r < n → σ r < n) (hinj : ∀ r s, r < n → s < n → σ r = σ s → r = s) : ∀ i, i ≤ n → (T (msk σ i)).f0 ≤ sumTo i (fun r => c r (σ r))
 | 0, _ => by rw [msk, h.zero]; exact Int.le_refl _
 | i + 1, hi => by
  have ih := DpI.le h hK hl hinj i (by omega)
  obtain ⟨h1, h2, h3⟩ := msk_all hl hK i (by omega) (fun r s hr hs e => hinj r s (by omega) (by omega) e)
  have hz : msk σ i / 2 ^ σ i % 2 = 0 := by
   have : ¬ msk σ i / 2 ^ σ i % 2 = 1 := fun h => by
    obtain ⟨r, hr, e⟩ := (h3 _).1 h
    have := hinj r i (by omega) (by omega) e
    omega
   omega
  have := (h.done (msk σ i) (σ i) (.inl h1) (hl i (by omega)) hz h1).2
  rw [h2] at this
  rw [sumTo_succ, msk]
  omega
theorem DpI.real (h : DpI K n c (2 ^ n) 0 T) (hK : n ≤ K) : ∀ (f X : Nat), X ≤ f → X < 2 ^ n → ∃ σ : Nat → Nat, (∀ r, r < pop K X → σ r < n) ∧ (∀ r s, r < pop K X → s < pop K X → σ r = σ s → r = s) ∧ msk σ (pop K X) = X ∧ (T X).f0 = sumTo (pop K X) (fun r => c r (σ r)) ∧
  (∀ k, (X / 2 ^ k % 2 = 1 ↔ ∃ r, r < pop K X ∧ σ r = k)) ∧ ∃ l, Chain (2 ^ n) T X l ∧ l.reverse = (List.range (pop K X)).map fun r => ((σ r : Nat) : Int)
 | f, X, hf, hX => by
  by_cases e : X = 0
  ·subst e
   refine ⟨fun _ => 0, ?_, ?_, ?_, ?_, fun k => ?_, [], .nil 0 (by rw [h.zero]; show (-1 : Int) < 0; decide) hX, by rw [pop_zero]; rfl⟩
   ·intro r hr; rw [pop_zero] at hr; omega
   ·intro r s hr; rw [pop_zero] at hr; omega
   ·rw [pop_zero]; rfl
   ·rw [pop_zero, h.zero]; rfl
   ·rw [Nat.zero_div, pop_zero]
    exact ⟨fun h => (by cases h), fun ⟨r, h, _⟩ => absurd h (Nat.not_lt_zero _)⟩
  ·obtain ⟨Y, k, a1, a2, a3, a4, a5, a6, a7⟩ := h.link X e (h.ok (by omega) hX)
   have hp : 0 < 2 ^ k := Nat.pow_pos (by omega)
   match f, hf with
   | 0, hf => omega
   | f + 1, hf =>
    obtain ⟨σ, s1, s2, s3, s4, s5, l, s6, s7⟩ := DpI.real h hK f Y (by omega) a5
    have hpop : pop K X = pop K Y + 1 := by rw [a3, pop_add K k Y (by omega) a2]
    obtain ⟨p, hpY⟩ : ∃ p, p = pop K Y := ⟨_, rfl⟩
    rw [← hpY] at s1 s2 s3 s4 s5 s7 hpop
    have hno : ∀ r, r < p → σ r ≠ k := fun r hr er => by
     have := (s5 k).2 ⟨r, hr, er⟩
     omega
    rw [hpop]
    refine ⟨upd σ p k, fun r hr => ?_, fun r s hr hs ers => ?_, ?_, ?_, fun k' => ?_, (T X).f2 :: l, ?_, ?_⟩
    ·by_cases er : r = p
     ·rw [er, upd_self]; exact a1
     ·rw [upd_ne _ _ er]; exact s1 r (by omega)
    ·by_cases er : r = p
     ·by_cases es : s = p
      ·omega
      ·rw [er, upd_self, upd_ne _ _ es] at ers
       exact absurd ers.symm (hno s (by omega))
     ·by_cases es : s = p
      ·rw [es, upd_self, upd_ne _ _ er] at ers
       exact absurd ers (hno r (by omega))
      ·rw [upd_ne _ _ er, upd_ne _ _ es] at ers
       exact s2 r s (by omega) (by omega) ers
    ·rw [msk, upd_self, msk_congr (τ := σ) p (fun r hr => upd_ne _ _ (by omega)), s3, a3]
    ·rw [sumTo_succ, upd_self, sumTo_congr (g := fun r => c r (σ r)) (fun r hr => by rw [upd_ne _ _ (by omega)]), ← s4, a7, hpY]
    ·rw [a3, bit_add _ _ _ a2]
     by_cases ek : k' = k
     ·rw [if_pos ek]
      exact ⟨fun _ => ⟨p, by omega, by rw [upd_self, ek]⟩, fun _ => rfl⟩
     ·rw [if_neg ek, s5]
      constructor
      ·rintro ⟨r, hr, he⟩
       exact ⟨r, by omega, by rw [upd_ne _ _ (by omega)]; exact he⟩
      ·rintro ⟨r, hr, he⟩
       by_cases er : r = p
       ·rw [er, upd_self] at he
        omega
       ·rw [upd_ne _ _ er] at he
        exact ⟨r, by omega, he⟩
    ·exact .cons X Y l hX (by rw [a7]; exact Int.natCast_nonneg _) (by rw [a7]) s6
    ·rw [List.reverse_cons, s7, List.range_succ, List.map_append, a7]
     congr 1
     ·refine List.map_congr_left (fun r hr => ?_)
      rw [upd_ne _ _ (by have := List.mem_range.1 hr; omega)]
     ·show [((k : Nat) : Int)] = [((upd σ p k p : Nat) : Int)]
      rw [upd_self]
theorem DpI.least (h : DpI K n c (2 ^ n) 0 T) (hK : n ≤ K) : ∃ σ, PM n (fun _ _ => false) σ ∧ (T (2 ^ n - 1)).f0 = cost n c σ ∧ IsLeast n c (fun _ _ => false) (some (T (2 ^ n - 1)).f0) ∧ ∃ l, Chain (2 ^ n) T (2 ^ n - 1) l ∧ l.reverse = (List.range n).map fun r => ((σ r : Nat) : Int) := by
 have h0 : 0 < 2 ^ n := Nat.pow_pos (by omega)
 have hall : ∀ m, pop m (2 ^ m - 1) = m ∧ True := fun m => ⟨by
  induction m with
  | zero => rfl
  | succ m ih =>
   have h2 : 2 ^ (m + 1) = 2 ^ m * 2 := Nat.pow_succ ..
   have h0 : 0 < 2 ^ m := Nat.pow_pos (by omega)
   rw [pop, show (2 ^ (m + 1) - 1) / 2 = 2 ^ m - 1 by omega, ih]
   omega, trivial⟩
 have hmore : ∀ d m x, x < 2 ^ m → pop (m + d) x = pop m x := fun d m => by
  induction m with
  | zero =>
   intro x hx
   rw [Nat.pow_zero] at hx
   obtain rfl : x = 0 := by omega
   rw [pop_zero, pop_zero]
  | succ m ih =>
   intro x hx
   have h2 : 2 ^ (m + 1) = 2 ^ m * 2 := Nat.pow_succ ..
   rw [show m + 1 + d = (m + d) + 1 by omega, pop, pop, ih (x / 2) (by omega)]
 have hpop : pop K (2 ^ n - 1) = n := by
  have := hmore (K - n) n (2 ^ n - 1) (by omega)
  rw [show n + (K - n) = K by omega] at this
  rw [this, (hall n).1]
 obtain ⟨σ, s1, s2, s3, s4, s5, l, s6, s7⟩ := DpI.real h hK _ (2 ^ n - 1) (Nat.le_refl _) (by omega)
 rw [hpop] at s1 s2 s4 s7
 have pm : PM n (fun _ _ => false) σ := ⟨⟨s1, s2⟩, fun _ _ => rfl⟩
 refine ⟨σ, pm, s4, ⟨⟨σ, pm, s4.symm⟩, fun τ hτ => ?_⟩, l, s6, s7⟩
 have h1 := DpI.le h hK hτ.inj.lt hτ.inj.inj n (Nat.le_refl _)
 obtain ⟨t1, t2, _⟩ := msk_all (K := K) hτ.inj.lt hK n (Nat.le_refl _) hτ.inj.inj
 rw [pop_full K n _ t1 t2] at h1
 exact h1
end
end Go.Proofs.Ytelabmhhnpfegaa.Hand
end
