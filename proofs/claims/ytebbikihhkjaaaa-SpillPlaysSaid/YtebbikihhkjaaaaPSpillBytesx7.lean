-- PRINTED BY print.sh 35421559b90ae4d0a3588c463048766b98c2df88dd9212a6774a882060cdf62d: not written by this session
import Derived.Test.YtebbikihhkjaaaaPSpillBytesx0
import Derived.Test.YtebbikihhkjaaaaPSpillBytesx1
namespace Go.Proofs.Ytebbikihhkjaaaa.PSpillBytes
open Go.RowKit Go.Proofs.YtebbikihhkjaaaaW.PrintWords Go.Proofs.YtebbikihhkjaaaaW.PrintLast Go.Proofs.YtebbikihhkjaaaaW.PrintMore
attribute [local go_sem] max2_int min2_int max_two min_two max_three min_three max_four min_four   -- for this text's walks alone
set_option linter.unusedVariables false
set_option linter.unusedSimpArgs false

attribute [local go_sem high] eqA26
/-! ### secateurlaw21_same: function 15 -/
mutual
def secateurlaw21_same.l0 : Nat → List (S30) → List (S28) → Int → Int → Option (Bool)
  | 0, _, _, _, _ => none
  | k + 1, x1, x14, x15, x16 => if x16 < x15 then (if 0 ≤ x16 then (if x16 < (x14.length : Int) then (if x16 < (x1.length : Int) then (if (!(((rd_T28 x14 x16).f0.f0) == ((rd_T30 x1 x16).f0)) || (!(((rd_T28 x14 x16).f0.f1) == ((rd_T30 x1 x16).f1)) || (!(((rd_T28 x14 x16).f0.f2) == ((rd_T30 x1 x16).f2))))) = true then (secateurlaw21_same.j1 k x1 x14 x15 x16 true ((rd_T28 x14 x16).f0.f0) ((rd_T28 x14 x16).f0.f1) ((rd_T28 x14 x16).f0.f2) ((rd_T28 x14 x16).f1) ((rd_T30 x1 x16).f0) ((rd_T30 x1 x16).f1) ((rd_T30 x1 x16).f2) ((rd_T30 x1 x16).f3)) else (secateurlaw21_same.j1 k x1 x14 x15 x16 ((((rd_T28 x14 x16).f1).length : Int) != (((rd_T30 x1 x16).f3).length : Int)) ((rd_T28 x14 x16).f0.f0) ((rd_T28 x14 x16).f0.f1) ((rd_T28 x14 x16).f0.f2) ((rd_T28 x14 x16).f1) ((rd_T30 x1 x16).f0) ((rd_T30 x1 x16).f1) ((rd_T30 x1 x16).f2) ((rd_T30 x1 x16).f3))) else (none)) else (none)) else (none)) else (some true)
def secateurlaw21_same.j1 : Nat → List (S30) → List (S28) → Int → Int → Bool → Int → Int → Int → List Int → Int → Int → Int → List Int → Option (Bool)
  | 0, _, _, _, _, _, _, _, _, _, _, _, _, _ => none
  | k + 1, x1, x14, x15, x16, x43, x194000, x194001, x194002, x194003, x196000, x196001, x196002, x196003 => if x43 = true then (some false) else (secateurlaw21_same.l1 k x1 x14 x15 x16 (x194003.length : Int) 0 x194000 x194001 x194002 x194003 x196000 x196001 x196002 x196003)
def secateurlaw21_same.l1 : Nat → List (S30) → List (S28) → Int → Int → Int → Int → Int → Int → Int → List Int → Int → Int → Int → List Int → Option (Bool)
  | 0, _, _, _, _, _, _, _, _, _, _, _, _, _, _ => none
  | k + 1, x1, x14, x15, x16, x46, x47, x194000, x194001, x194002, x194003, x196000, x196001, x196002, x196003 => if x47 < x46 then (if 0 ≤ x47 then (if x47 < (x194003.length : Int) then (if x47 < (x196003.length : Int) then (if (rd x194003 x47) = (rd x196003 x47) then (secateurlaw21_same.l1 k x1 x14 x15 x16 x46 (wrap64 (x47 + 1)) x194000 x194001 x194002 x194003 x196000 x196001 x196002 x196003) else (some false)) else (none)) else (none)) else (none)) else (secateurlaw21_same.l0 k x1 x14 x15 (wrap64 (x16 + 1)))
end
def secateurlaw21_same.f (k : Nat) (l0 : List (S28)) (l1 : List (S30)) : Option (Bool) := if (l0.length : Int) = (l1.length : Int) then (secateurlaw21_same.l0 k l1 l0 (l0.length : Int) 0) else (some false)
theorem secateurlaw21_same.mono_l : ∀ k, (∀ y0 y1 y2 y3, LeO (secateurlaw21_same.l0 k y0 y1 y2 y3) (secateurlaw21_same.l0 (k + 1) y0 y1 y2 y3)) ∧ (∀ y0 y1 y2 y3 y4 y5 y6 y7 y8 y9 y10 y11 y12, LeO (secateurlaw21_same.j1 k y0 y1 y2 y3 y4 y5 y6 y7 y8 y9 y10 y11 y12) (secateurlaw21_same.j1 (k + 1) y0 y1 y2 y3 y4 y5 y6 y7 y8 y9 y10 y11 y12)) ∧ (∀ y0 y1 y2 y3 y4 y5 y6 y7 y8 y9 y10 y11 y12 y13, LeO (secateurlaw21_same.l1 k y0 y1 y2 y3 y4 y5 y6 y7 y8 y9 y10 y11 y12 y13) (secateurlaw21_same.l1 (k + 1) y0 y1 y2 y3 y4 y5 y6 y7 y8 y9 y10 y11 y12 y13))
  | 0 => ⟨fun _ _ _ _ r h => by simp [secateurlaw21_same.l0] at h, fun _ _ _ _ _ _ _ _ _ _ _ _ _ r h => by simp [secateurlaw21_same.j1] at h, fun _ _ _ _ _ _ _ _ _ _ _ _ _ _ r h => by simp [secateurlaw21_same.l1] at h⟩
  | k + 1 => by
    obtain ⟨ih0, ih1, ih2⟩ := secateurlaw21_same.mono_l k
    refine ⟨?_, ?_, ?_⟩
    · intro y0 y1 y2 y3
      unfold secateurlaw21_same.l0
      repeat' first
      | (with_reducible exact ih0 _ _ _ _)
      | (with_reducible exact ih1 _ _ _ _ _ _ _ _ _ _ _ _ _)
      | (with_reducible exact ih2 _ _ _ _ _ _ _ _ _ _ _ _ _ _)
      | (with_reducible exact LeO.refl _)
      | (with_reducible exact LeO.none _)
      | (with_reducible refine LeO.ite ?_ ?_)
      | (with_reducible refine LeO.bind ?_ (fun _ => ?_))
      | exact ih0 _ _ _ _
      | exact ih1 _ _ _ _ _ _ _ _ _ _ _ _ _
      | exact ih2 _ _ _ _ _ _ _ _ _ _ _ _ _ _
      | exact LeO.none _
      | refine LeO.ite ?_ ?_
      | refine LeO.bind ?_ (fun _ => ?_)
    · intro y0 y1 y2 y3 y4 y5 y6 y7 y8 y9 y10 y11 y12
      unfold secateurlaw21_same.j1
      repeat' first
      | (with_reducible exact ih0 _ _ _ _)
      | (with_reducible exact ih1 _ _ _ _ _ _ _ _ _ _ _ _ _)
      | (with_reducible exact ih2 _ _ _ _ _ _ _ _ _ _ _ _ _ _)
      | (with_reducible exact LeO.refl _)
      | (with_reducible exact LeO.none _)
      | (with_reducible refine LeO.ite ?_ ?_)
      | (with_reducible refine LeO.bind ?_ (fun _ => ?_))
      | exact ih0 _ _ _ _
      | exact ih1 _ _ _ _ _ _ _ _ _ _ _ _ _
      | exact ih2 _ _ _ _ _ _ _ _ _ _ _ _ _ _
      | exact LeO.none _
      | refine LeO.ite ?_ ?_
      | refine LeO.bind ?_ (fun _ => ?_)
    · intro y0 y1 y2 y3 y4 y5 y6 y7 y8 y9 y10 y11 y12 y13
      unfold secateurlaw21_same.l1
      repeat' first
      | (with_reducible exact ih0 _ _ _ _)
      | (with_reducible exact ih1 _ _ _ _ _ _ _ _ _ _ _ _ _)
      | (with_reducible exact ih2 _ _ _ _ _ _ _ _ _ _ _ _ _ _)
      | (with_reducible exact LeO.refl _)
      | (with_reducible exact LeO.none _)
      | (with_reducible refine LeO.ite ?_ ?_)
      | (with_reducible refine LeO.bind ?_ (fun _ => ?_))
      | exact ih0 _ _ _ _
      | exact ih1 _ _ _ _ _ _ _ _ _ _ _ _ _
      | exact ih2 _ _ _ _ _ _ _ _ _ _ _ _ _ _
      | exact LeO.none _
      | refine LeO.ite ?_ ?_
      | refine LeO.bind ?_ (fun _ => ?_)
theorem secateurlaw21_same.mono : ∀ a0 a1 k, LeO (secateurlaw21_same.f k a0 a1) (secateurlaw21_same.f (k + 1) a0 a1) := by
  intro a0 a1 k
  obtain ⟨ih0, ih1, ih2⟩ := secateurlaw21_same.mono_l k
  unfold secateurlaw21_same.f
  repeat' first
      | (with_reducible exact ih0 _ _ _ _)
      | (with_reducible exact ih1 _ _ _ _ _ _ _ _ _ _ _ _ _)
      | (with_reducible exact ih2 _ _ _ _ _ _ _ _ _ _ _ _ _ _)
      | (with_reducible exact LeO.refl _)
      | (with_reducible exact LeO.none _)
      | (with_reducible refine LeO.ite ?_ ?_)
      | (with_reducible refine LeO.bind ?_ (fun _ => ?_))
      | exact ih0 _ _ _ _
      | exact ih1 _ _ _ _ _ _ _ _ _ _ _ _ _
      | exact ih2 _ _ _ _ _ _ _ _ _ _ _ _ _ _
      | exact LeO.none _
      | refine LeO.ite ?_ ?_
      | refine LeO.bind ?_ (fun _ => ?_)
set_option maxHeartbeats 8000000 in
set_option maxRecDepth 100000 in
theorem secateurlaw21_same.calls (k : Nat) (A0 : Option Addr) (c0 : Nat) (l0 : List (S28)) (A1 : Option Addr) (c1 : Nat) (l1 : List (S30)) (r : Bool) (w : World) (hr0 : Kd.C k28 w A0 l0.length l0) (hc0 : l0.length ≤ c0) (hr1 : Kd.C k30 w A1 l1.length l1) (hc1 : l1.length ≤ c1) (h : secateurlaw21_same.f k l0 l1 = some r) :
    Calls Try.prog 15 #[.slice A0 l0.length c0, .slice A1 l1.length c1] w fun e w' => e = .returned (.bool r) ∧ Below w.heap.size w w' := by
  have hu28 := Try.underlying28
  have hu30 := Try.underlying30
  have hu26 := Try.underlying26
  have HR0 := Aside0.mk hr0
  have HC0 := Aside0.mk hc0
  clear hr0 hc0
  have HR1 := Aside0.mk hr1
  have HC1 := Aside0.mk hc1
  clear hr1 hc1
  have HB := Aside0.mk (Below.refl w.heap.size w)
  have H : (if (l0.length : Int) = (l1.length : Int) then (secateurlaw21_same.l0 k l1 l0 (l0.length : Int) 0) else (some false)) = some r := h
  clear h
  by_cases c3 : (l0.length : Int) = (l1.length : Int)
  · rw [if_pos c3] at H
    have c3b0 : ((l0.length : Int) == (l1.length : Int)) = true := beq_iff_eq.mpr c3
    have c3b1 : ((l0.length : Int) != (l1.length : Int)) = false := bne_eq_false_iff_eq.mpr c3
    have c3b2 : (l0.length == l1.length) = true := by first | simpa using c3 | (simp at c3 ⊢; omega)
    clear c3
    have H' := Aside0.mk H
    clear H
    go_enter Try.func15, Try.ntmps15
    go_wp2
    repeat (go_quiet (fail); try go_wp2)
    go_loopg [16] k (fun kq v16 w' => ∃ (x16_1 : Int), v16 = .int .i64 x16_1 ∧ Aside0 (secateurlaw21_same.l0 kq l1 l0 (l0.length : Int) x16_1 = some r) ∧ Aside0 (kq ≤ k) ∧ Aside0 (Below w.heap.size w w'))
    case atStart => exact ⟨(0), (by first | rfl | (simp; done) | (simp [*]; done)), H', ⟨Nat.le_refl _⟩, ⟨by repeat (first | (with_reducible first | exact HB.out | apply below_alloc | apply pw_below_drewN | apply below_drew1) | exact HB.out)⟩⟩
    case round =>
      clear H'
      try clear c1
      try clear p2
      try clear c3
      try clear c3b0
      try clear c3b1
      try clear c3b2
      obtain ⟨x16_1, rfl, HA, HK1, HB⟩ := hrel
      cases gk with
      | zero => exact absurd HA.out (by simp [secateurlaw21_same.l0])
      | succ k1 =>
        have H := HA.out
        clear HA
        simp only [secateurlaw21_same.l0] at H
        by_cases c4 : x16_1 < (l0.length : Int)
        · rw [if_pos c4] at H
          have c4b0 : decide (x16_1 < (l0.length : Int)) = true := decide_eq_true c4
          clear c4
          by_cases c5 : 0 ≤ x16_1
          · rw [if_pos c5] at H
            have c5b0 : decide (0 ≤ x16_1) = true := decide_eq_true c5
            clear c5
            by_cases c6 : x16_1 < (l0.length : Int)
            · rw [if_pos c6] at H
              have c6b0 : decide (x16_1 < (l0.length : Int)) = true := decide_eq_true c6
              clear c6
              by_cases c7 : x16_1 < (l1.length : Int)
              · rw [if_pos c7] at H
                have c7b0 : decide (x16_1 < (l1.length : Int)) = true := decide_eq_true c7
                clear c7
                have HC8 := Aside0.mk H
                clear H
                have p192 : 0 ≤ (x16_1 : Int) := of_decide_eq_true (by first | (with_reducible assumption) | assumption)
                have q192 : x16_1 < (l0.length : Int) := of_decide_eq_true (by first | (with_reducible assumption) | assumption)
                obtain ⟨ad192, A192_3, c192_3, e192, hx192_0, hx192_1, hx192_2, hx192_3, hl192_3, hi192_3⟩ := at_T28 HR0.out x16_1 p192 q192
                cases e192
                replace hx192_0 := (HB.out.cell (World.block_lt_of_cell? w _ hx192_0)).trans hx192_0
                replace hx192_1 := (HB.out.cell (World.block_lt_of_cell? w _ hx192_1)).trans hx192_1
                replace hx192_2 := (HB.out.cell (World.block_lt_of_cell? w _ hx192_2)).trans hx192_2
                replace hx192_3 := (HB.out.cell (World.block_lt_of_cell? w _ hx192_3)).trans hx192_3
                have HR192_3 := Aside0.mk hi192_3
                have HC192_3 := Aside0.mk hl192_3
                clear hi192_3 hl192_3
                replace p192 := eq_true p192
                replace q192 := eq_true q192
                go_upto_region 7 with (first | ((with_reducible refine gate_dst (N := 6) rfl ?_); (try (refine gate_guard (by rfl) ?_; dsimp only)); refine box_event ?hg (N := 6) ?hd (cs := #[.int .i64 0, .int .i64 0, .int .i64 0, .slice none 0 0]) (t := 28) ?hr ?_; (case hd => rfl); (case hg => rfl); (case hr => first | (go_simp; done) | (go_simp; rfl)); intro gb193 hg w9 hbox hb; have n0_ := Aside0.mk (below_step (by repeat (first | (with_reducible first | exact HB.out | apply below_alloc | apply pw_below_drewN | apply below_drew1) | exact HB.out)) hb); have n1_ := Aside0.mk (hbox); have n2_ := Aside0.mk ((by rw [hg]; exact (below_size (by repeat (first | (with_reducible first | exact HB.out | apply below_alloc | apply pw_below_drewN | apply below_drew1) | exact HB.out))) : w.heap.size ≤ gb193)); have n3_ := Aside0.mk ((by rw [hg]; exact (below_size (by repeat (first | (with_reducible first | exact HB.out | apply below_alloc | apply pw_below_drewN | apply below_drew1) | exact HB.out))) : w.heap.size ≤ gb193)); clear HB; have HB := n0_; have BK193 := n1_; have GW193 := n2_; have GE193 := n3_; clear n0_ n1_ n2_ n3_; clear hb hbox hg; have hcz10_0 : w9.cell? ⟨gb193, 0, none⟩ = some (.int .i64 0) := (blk_cell BK193.out 0).trans rfl; have hcz10_1 : w9.cell? ⟨gb193, 1, none⟩ = some (.int .i64 0) := (blk_cell BK193.out 1).trans rfl; have hcz10_2 : w9.cell? ⟨gb193, 2, none⟩ = some (.int .i64 0) := (blk_cell BK193.out 2).trans rfl; have hcz10_3 : w9.cell? ⟨gb193, 3, none⟩ = some (.slice none 0 0) := (blk_cell BK193.out 3).trans rfl; have hfz10_0 := blk_frozen BK193.out 0; have hfz10_1 := blk_frozen BK193.out 1; have hfz10_2 := blk_frozen BK193.out 2; have hfz10_3 := blk_frozen BK193.out 3; have p194 : 0 ≤ (x16_1 : Int) := of_decide_eq_true (by first | (with_reducible assumption) | assumption); have q194 : x16_1 < (l1.length : Int) := of_decide_eq_true (by first | (with_reducible assumption) | assumption); obtain ⟨ad194, A194_3, c194_3, e194, hx194_0, hx194_1, hx194_2, hx194_3, hl194_3, hi194_3⟩ := at_T30 HR1.out x16_1 p194 q194; cases e194; have hn194_0 : ad194.block ≠ gb193 := Nat.ne_of_lt (Nat.lt_of_lt_of_le (by have := World.block_lt_of_cell? _ _ hx194_0; first | rwa [add_block] at this | exact this) GW193.out); have hn194_1 : ad194.block ≠ gb193 := Nat.ne_of_lt (Nat.lt_of_lt_of_le (by have := World.block_lt_of_cell? _ _ hx194_0; first | rwa [add_block] at this | exact this) GW193.out); have hn194_2 : ad194.block ≠ gb193 := Nat.ne_of_lt (Nat.lt_of_lt_of_le (by have := World.block_lt_of_cell? _ _ hx194_0; first | rwa [add_block] at this | exact this) GW193.out); have hn194_3 : ad194.block ≠ gb193 := Nat.ne_of_lt (Nat.lt_of_lt_of_le (by have := World.block_lt_of_cell? _ _ hx194_0; first | rwa [add_block] at this | exact this) GW193.out); replace hx194_0 := (HB.out.cell (World.block_lt_of_cell? w _ hx194_0)).trans hx194_0; replace hx194_1 := (HB.out.cell (World.block_lt_of_cell? w _ hx194_1)).trans hx194_1; replace hx194_2 := (HB.out.cell (World.block_lt_of_cell? w _ hx194_2)).trans hx194_2; replace hx194_3 := (HB.out.cell (World.block_lt_of_cell? w _ hx194_3)).trans hx194_3; have HR194_3 := Aside0.mk hi194_3; have HC194_3 := Aside0.mk hl194_3; clear hi194_3 hl194_3; replace hx194_0 := (cell_far (p := ⟨gb193, 0, none⟩) (by first | (rw [add_block]; exact hn194_0) | (show (Addr.add _ _).block ≠ _; rw [add_block]; exact hn194_0) | exact hn194_0) (.int .i64 ((rd_T28 l0 x16_1).f0.f0))).trans hx194_0; replace hx194_1 := (cell_far (p := ⟨gb193, 0, none⟩) (by first | (rw [add_block]; exact hn194_0) | (show (Addr.add _ _).block ≠ _; rw [add_block]; exact hn194_0) | exact hn194_0) (.int .i64 ((rd_T28 l0 x16_1).f0.f0))).trans hx194_1; replace hx194_2 := (cell_far (p := ⟨gb193, 0, none⟩) (by first | (rw [add_block]; exact hn194_0) | (show (Addr.add _ _).block ≠ _; rw [add_block]; exact hn194_0) | exact hn194_0) (.int .i64 ((rd_T28 l0 x16_1).f0.f0))).trans hx194_2; replace hx194_3 := (cell_far (p := ⟨gb193, 0, none⟩) (by first | (rw [add_block]; exact hn194_0) | (show (Addr.add _ _).block ≠ _; rw [add_block]; exact hn194_0) | exact hn194_0) (.int .i64 ((rd_T28 l0 x16_1).f0.f0))).trans hx194_3; replace hx194_0 := (cell_far (p := ⟨gb193, 1, none⟩) (by first | (rw [add_block]; exact hn194_1) | (show (Addr.add _ _).block ≠ _; rw [add_block]; exact hn194_1) | exact hn194_1) (.int .i64 ((rd_T28 l0 x16_1).f0.f1))).trans hx194_0; replace hx194_1 := (cell_far (p := ⟨gb193, 1, none⟩) (by first | (rw [add_block]; exact hn194_1) | (show (Addr.add _ _).block ≠ _; rw [add_block]; exact hn194_1) | exact hn194_1) (.int .i64 ((rd_T28 l0 x16_1).f0.f1))).trans hx194_1; replace hx194_2 := (cell_far (p := ⟨gb193, 1, none⟩) (by first | (rw [add_block]; exact hn194_1) | (show (Addr.add _ _).block ≠ _; rw [add_block]; exact hn194_1) | exact hn194_1) (.int .i64 ((rd_T28 l0 x16_1).f0.f1))).trans hx194_2; replace hx194_3 := (cell_far (p := ⟨gb193, 1, none⟩) (by first | (rw [add_block]; exact hn194_1) | (show (Addr.add _ _).block ≠ _; rw [add_block]; exact hn194_1) | exact hn194_1) (.int .i64 ((rd_T28 l0 x16_1).f0.f1))).trans hx194_3; replace hx194_0 := (cell_far (p := ⟨gb193, 2, none⟩) (by first | (rw [add_block]; exact hn194_2) | (show (Addr.add _ _).block ≠ _; rw [add_block]; exact hn194_2) | exact hn194_2) (.int .i64 ((rd_T28 l0 x16_1).f0.f2))).trans hx194_0; replace hx194_1 := (cell_far (p := ⟨gb193, 2, none⟩) (by first | (rw [add_block]; exact hn194_2) | (show (Addr.add _ _).block ≠ _; rw [add_block]; exact hn194_2) | exact hn194_2) (.int .i64 ((rd_T28 l0 x16_1).f0.f2))).trans hx194_1; replace hx194_2 := (cell_far (p := ⟨gb193, 2, none⟩) (by first | (rw [add_block]; exact hn194_2) | (show (Addr.add _ _).block ≠ _; rw [add_block]; exact hn194_2) | exact hn194_2) (.int .i64 ((rd_T28 l0 x16_1).f0.f2))).trans hx194_2; replace hx194_3 := (cell_far (p := ⟨gb193, 2, none⟩) (by first | (rw [add_block]; exact hn194_2) | (show (Addr.add _ _).block ≠ _; rw [add_block]; exact hn194_2) | exact hn194_2) (.int .i64 ((rd_T28 l0 x16_1).f0.f2))).trans hx194_3; replace hx194_0 := (cell_far (p := ⟨gb193, 3, none⟩) (by first | (rw [add_block]; exact hn194_3) | (show (Addr.add _ _).block ≠ _; rw [add_block]; exact hn194_3) | exact hn194_3) (.slice A192_3 ((rd_T28 l0 x16_1).f1).length c192_3)).trans hx194_0; replace hx194_1 := (cell_far (p := ⟨gb193, 3, none⟩) (by first | (rw [add_block]; exact hn194_3) | (show (Addr.add _ _).block ≠ _; rw [add_block]; exact hn194_3) | exact hn194_3) (.slice A192_3 ((rd_T28 l0 x16_1).f1).length c192_3)).trans hx194_1; replace hx194_2 := (cell_far (p := ⟨gb193, 3, none⟩) (by first | (rw [add_block]; exact hn194_3) | (show (Addr.add _ _).block ≠ _; rw [add_block]; exact hn194_3) | exact hn194_3) (.slice A192_3 ((rd_T28 l0 x16_1).f1).length c192_3)).trans hx194_2; replace hx194_3 := (cell_far (p := ⟨gb193, 3, none⟩) (by first | (rw [add_block]; exact hn194_3) | (show (Addr.add _ _).block ≠ _; rw [add_block]; exact hn194_3) | exact hn194_3) (.slice A192_3 ((rd_T28 l0 x16_1).f1).length c192_3)).trans hx194_3; (try have hy194_0 := fun (n_ : Nat) => (show ((((((w9.drewN n_).setCell ⟨gb193, 0, none⟩ (.int .i64 ((rd_T28 l0 x16_1).f0.f0))).setCell ⟨gb193, 1, none⟩ (.int .i64 ((rd_T28 l0 x16_1).f0.f1))).setCell ⟨gb193, 2, none⟩ (.int .i64 ((rd_T28 l0 x16_1).f0.f2))).setCell ⟨gb193, 3, none⟩ (.slice A192_3 ((rd_T28 l0 x16_1).f1).length c192_3))).cell? _ = some _ from hx194_0)); (try have hy194_1 := fun (n_ : Nat) => (show ((((((w9.drewN n_).setCell ⟨gb193, 0, none⟩ (.int .i64 ((rd_T28 l0 x16_1).f0.f0))).setCell ⟨gb193, 1, none⟩ (.int .i64 ((rd_T28 l0 x16_1).f0.f1))).setCell ⟨gb193, 2, none⟩ (.int .i64 ((rd_T28 l0 x16_1).f0.f2))).setCell ⟨gb193, 3, none⟩ (.slice A192_3 ((rd_T28 l0 x16_1).f1).length c192_3))).cell? _ = some _ from hx194_1)); (try have hy194_2 := fun (n_ : Nat) => (show ((((((w9.drewN n_).setCell ⟨gb193, 0, none⟩ (.int .i64 ((rd_T28 l0 x16_1).f0.f0))).setCell ⟨gb193, 1, none⟩ (.int .i64 ((rd_T28 l0 x16_1).f0.f1))).setCell ⟨gb193, 2, none⟩ (.int .i64 ((rd_T28 l0 x16_1).f0.f2))).setCell ⟨gb193, 3, none⟩ (.slice A192_3 ((rd_T28 l0 x16_1).f1).length c192_3))).cell? _ = some _ from hx194_2)); (try have hy194_3 := fun (n_ : Nat) => (show ((((((w9.drewN n_).setCell ⟨gb193, 0, none⟩ (.int .i64 ((rd_T28 l0 x16_1).f0.f0))).setCell ⟨gb193, 1, none⟩ (.int .i64 ((rd_T28 l0 x16_1).f0.f1))).setCell ⟨gb193, 2, none⟩ (.int .i64 ((rd_T28 l0 x16_1).f0.f2))).setCell ⟨gb193, 3, none⟩ (.slice A192_3 ((rd_T28 l0 x16_1).f1).length c192_3))).cell? _ = some _ from hx194_3)); clear hn194_0; clear hn194_1; clear hn194_2; clear hn194_3; replace p194 := eq_true p194; replace q194 := eq_true q194) | ((with_reducible refine gate_dst (N := 7) rfl ?_); (try (refine gate_guard (by rfl) ?_; dsimp only)); refine box_event ?hg (N := 7) ?hd (cs := #[.int .i64 0, .int .i64 0, .int .i64 0, .slice none 0 0]) (t := 30) ?hr ?_; (case hd => rfl); (case hg => rfl); (case hr => first | (go_simp; done) | (go_simp; rfl)); intro gb195 hg w11 hbox hb; have n0_ := Aside0.mk (blk_below (g := gb193) (o := .cells #[.int .i64 ((rd_T28 l0 x16_1).f0.f0), .int .i64 ((rd_T28 l0 x16_1).f0.f1), .int .i64 ((rd_T28 l0 x16_1).f0.f2), .slice A192_3 ((rd_T28 l0 x16_1).f1).length c192_3] 28 (0, 0)) (by (with_reducible repeat (first | refine blk_drewN ?_ _ | refine blk_drew ?_ | refine blk_alloc ?_ _)); refine blk_put (cs := #[.int .i64 ((rd_T28 l0 x16_1).f0.f0), .int .i64 ((rd_T28 l0 x16_1).f0.f1), .int .i64 ((rd_T28 l0 x16_1).f0.f2), .slice none 0 0]) ?_ 3 _ rfl; (with_reducible repeat (first | refine blk_drewN ?_ _ | refine blk_drew ?_ | refine blk_alloc ?_ _)); refine blk_put (cs := #[.int .i64 ((rd_T28 l0 x16_1).f0.f0), .int .i64 ((rd_T28 l0 x16_1).f0.f1), .int .i64 0, .slice none 0 0]) ?_ 2 _ rfl; (with_reducible repeat (first | refine blk_drewN ?_ _ | refine blk_drew ?_ | refine blk_alloc ?_ _)); refine blk_put (cs := #[.int .i64 ((rd_T28 l0 x16_1).f0.f0), .int .i64 0, .int .i64 0, .slice none 0 0]) ?_ 1 _ rfl; (with_reducible repeat (first | refine blk_drewN ?_ _ | refine blk_drew ?_ | refine blk_alloc ?_ _)); refine blk_put (cs := #[.int .i64 0, .int .i64 0, .int .i64 0, .slice none 0 0]) ?_ 0 _ rfl; (with_reducible repeat (first | refine blk_drewN ?_ _ | refine blk_drew ?_ | refine blk_alloc ?_ _)); exact BK193.out) hb); have n1_ := Aside0.mk (below_step (by repeat (first | (with_reducible first | exact HB.out | apply below_alloc | apply pw_below_drewN | apply below_drew1 | refine below_set ?_ GE193.out) | exact HB.out)) hb); have n2_ := Aside0.mk (hbox); have n3_ := Aside0.mk ((by rw [hg]; exact (below_size (by repeat (first | (with_reducible first | exact HB.out | apply below_alloc | apply pw_below_drewN | apply below_drew1 | refine below_set ?_ GE193.out) | exact HB.out))) : w.heap.size ≤ gb195)); have n4_ := Aside0.mk ((by rw [hg]; exact (below_size (by repeat (first | (with_reducible first | exact HB.out | apply below_alloc | apply pw_below_drewN | apply below_drew1 | refine below_set ?_ GE193.out) | exact HB.out))) : w.heap.size ≤ gb195)); have n5_ := Aside0.mk ((by rw [hg]; exact Nat.ne_of_lt (blk_lt (g := gb193) (o := .cells #[.int .i64 ((rd_T28 l0 x16_1).f0.f0), .int .i64 ((rd_T28 l0 x16_1).f0.f1), .int .i64 ((rd_T28 l0 x16_1).f0.f2), .slice A192_3 ((rd_T28 l0 x16_1).f1).length c192_3] 28 (0, 0)) (by (with_reducible repeat (first | refine blk_drewN ?_ _ | refine blk_drew ?_ | refine blk_alloc ?_ _)); refine blk_put (cs := #[.int .i64 ((rd_T28 l0 x16_1).f0.f0), .int .i64 ((rd_T28 l0 x16_1).f0.f1), .int .i64 ((rd_T28 l0 x16_1).f0.f2), .slice none 0 0]) ?_ 3 _ rfl; (with_reducible repeat (first | refine blk_drewN ?_ _ | refine blk_drew ?_ | refine blk_alloc ?_ _)); refine blk_put (cs := #[.int .i64 ((rd_T28 l0 x16_1).f0.f0), .int .i64 ((rd_T28 l0 x16_1).f0.f1), .int .i64 0, .slice none 0 0]) ?_ 2 _ rfl; (with_reducible repeat (first | refine blk_drewN ?_ _ | refine blk_drew ?_ | refine blk_alloc ?_ _)); refine blk_put (cs := #[.int .i64 ((rd_T28 l0 x16_1).f0.f0), .int .i64 0, .int .i64 0, .slice none 0 0]) ?_ 1 _ rfl; (with_reducible repeat (first | refine blk_drewN ?_ _ | refine blk_drew ?_ | refine blk_alloc ?_ _)); refine blk_put (cs := #[.int .i64 0, .int .i64 0, .int .i64 0, .slice none 0 0]) ?_ 0 _ rfl; (with_reducible repeat (first | refine blk_drewN ?_ _ | refine blk_drew ?_ | refine blk_alloc ?_ _)); exact BK193.out)) : gb193 ≠ gb195)); have n6_ := Aside0.mk ((by rw [hg]; exact Nat.ne_of_gt (blk_lt (g := gb193) (o := .cells #[.int .i64 ((rd_T28 l0 x16_1).f0.f0), .int .i64 ((rd_T28 l0 x16_1).f0.f1), .int .i64 ((rd_T28 l0 x16_1).f0.f2), .slice A192_3 ((rd_T28 l0 x16_1).f1).length c192_3] 28 (0, 0)) (by (with_reducible repeat (first | refine blk_drewN ?_ _ | refine blk_drew ?_ | refine blk_alloc ?_ _)); refine blk_put (cs := #[.int .i64 ((rd_T28 l0 x16_1).f0.f0), .int .i64 ((rd_T28 l0 x16_1).f0.f1), .int .i64 ((rd_T28 l0 x16_1).f0.f2), .slice none 0 0]) ?_ 3 _ rfl; (with_reducible repeat (first | refine blk_drewN ?_ _ | refine blk_drew ?_ | refine blk_alloc ?_ _)); refine blk_put (cs := #[.int .i64 ((rd_T28 l0 x16_1).f0.f0), .int .i64 ((rd_T28 l0 x16_1).f0.f1), .int .i64 0, .slice none 0 0]) ?_ 2 _ rfl; (with_reducible repeat (first | refine blk_drewN ?_ _ | refine blk_drew ?_ | refine blk_alloc ?_ _)); refine blk_put (cs := #[.int .i64 ((rd_T28 l0 x16_1).f0.f0), .int .i64 0, .int .i64 0, .slice none 0 0]) ?_ 1 _ rfl; (with_reducible repeat (first | refine blk_drewN ?_ _ | refine blk_drew ?_ | refine blk_alloc ?_ _)); refine blk_put (cs := #[.int .i64 0, .int .i64 0, .int .i64 0, .slice none 0 0]) ?_ 0 _ rfl; (with_reducible repeat (first | refine blk_drewN ?_ _ | refine blk_drew ?_ | refine blk_alloc ?_ _)); exact BK193.out)) : gb195 ≠ gb193)); clear BK193; clear HB; have BK193 := n0_; have HB := n1_; have BK195 := n2_; have GW195 := n3_; have GE195 := n4_; have NB193_195 := n5_; have NB195_193 := n6_; clear n0_ n1_ n2_ n3_ n4_ n5_ n6_; clear hb hbox hg; have hnb12 := NB195_193.out; have hnc12 := NB193_195.out; have hcz13_0 : w11.cell? ⟨gb195, 0, none⟩ = some (.int .i64 0) := (blk_cell BK195.out 0).trans rfl; have hcz13_1 : w11.cell? ⟨gb195, 1, none⟩ = some (.int .i64 0) := (blk_cell BK195.out 1).trans rfl; have hcz13_2 : w11.cell? ⟨gb195, 2, none⟩ = some (.int .i64 0) := (blk_cell BK195.out 2).trans rfl; have hcz13_3 : w11.cell? ⟨gb195, 3, none⟩ = some (.slice none 0 0) := (blk_cell BK195.out 3).trans rfl; have hfz13_0 := blk_frozen BK195.out 0; have hfz13_1 := blk_frozen BK195.out 1; have hfz13_2 := blk_frozen BK195.out 2; have hfz13_3 := blk_frozen BK195.out 3))
                repeat (go_quiet (first | ((with_reducible refine gate_dst (N := 6) rfl ?_); (try (refine gate_guard (by rfl) ?_; dsimp only)); refine box_event ?hg (N := 6) ?hd (cs := #[.int .i64 0, .int .i64 0, .int .i64 0, .slice none 0 0]) (t := 28) ?hr ?_; (case hd => rfl); (case hg => rfl); (case hr => first | (go_simp; done) | (go_simp; rfl)); intro gb193 hg w9 hbox hb; have n0_ := Aside0.mk (below_step (by repeat (first | (with_reducible first | exact HB.out | apply below_alloc | apply pw_below_drewN | apply below_drew1) | exact HB.out)) hb); have n1_ := Aside0.mk (hbox); have n2_ := Aside0.mk ((by rw [hg]; exact (below_size (by repeat (first | (with_reducible first | exact HB.out | apply below_alloc | apply pw_below_drewN | apply below_drew1) | exact HB.out))) : w.heap.size ≤ gb193)); have n3_ := Aside0.mk ((by rw [hg]; exact (below_size (by repeat (first | (with_reducible first | exact HB.out | apply below_alloc | apply pw_below_drewN | apply below_drew1) | exact HB.out))) : w.heap.size ≤ gb193)); clear HB; have HB := n0_; have BK193 := n1_; have GW193 := n2_; have GE193 := n3_; clear n0_ n1_ n2_ n3_; clear hb hbox hg; have hcz10_0 : w9.cell? ⟨gb193, 0, none⟩ = some (.int .i64 0) := (blk_cell BK193.out 0).trans rfl; have hcz10_1 : w9.cell? ⟨gb193, 1, none⟩ = some (.int .i64 0) := (blk_cell BK193.out 1).trans rfl; have hcz10_2 : w9.cell? ⟨gb193, 2, none⟩ = some (.int .i64 0) := (blk_cell BK193.out 2).trans rfl; have hcz10_3 : w9.cell? ⟨gb193, 3, none⟩ = some (.slice none 0 0) := (blk_cell BK193.out 3).trans rfl; have hfz10_0 := blk_frozen BK193.out 0; have hfz10_1 := blk_frozen BK193.out 1; have hfz10_2 := blk_frozen BK193.out 2; have hfz10_3 := blk_frozen BK193.out 3; have p194 : 0 ≤ (x16_1 : Int) := of_decide_eq_true (by first | (with_reducible assumption) | assumption); have q194 : x16_1 < (l1.length : Int) := of_decide_eq_true (by first | (with_reducible assumption) | assumption); obtain ⟨ad194, A194_3, c194_3, e194, hx194_0, hx194_1, hx194_2, hx194_3, hl194_3, hi194_3⟩ := at_T30 HR1.out x16_1 p194 q194; cases e194; have hn194_0 : ad194.block ≠ gb193 := Nat.ne_of_lt (Nat.lt_of_lt_of_le (by have := World.block_lt_of_cell? _ _ hx194_0; first | rwa [add_block] at this | exact this) GW193.out); have hn194_1 : ad194.block ≠ gb193 := Nat.ne_of_lt (Nat.lt_of_lt_of_le (by have := World.block_lt_of_cell? _ _ hx194_0; first | rwa [add_block] at this | exact this) GW193.out); have hn194_2 : ad194.block ≠ gb193 := Nat.ne_of_lt (Nat.lt_of_lt_of_le (by have := World.block_lt_of_cell? _ _ hx194_0; first | rwa [add_block] at this | exact this) GW193.out); have hn194_3 : ad194.block ≠ gb193 := Nat.ne_of_lt (Nat.lt_of_lt_of_le (by have := World.block_lt_of_cell? _ _ hx194_0; first | rwa [add_block] at this | exact this) GW193.out); replace hx194_0 := (HB.out.cell (World.block_lt_of_cell? w _ hx194_0)).trans hx194_0; replace hx194_1 := (HB.out.cell (World.block_lt_of_cell? w _ hx194_1)).trans hx194_1; replace hx194_2 := (HB.out.cell (World.block_lt_of_cell? w _ hx194_2)).trans hx194_2; replace hx194_3 := (HB.out.cell (World.block_lt_of_cell? w _ hx194_3)).trans hx194_3; have HR194_3 := Aside0.mk hi194_3; have HC194_3 := Aside0.mk hl194_3; clear hi194_3 hl194_3; replace hx194_0 := (cell_far (p := ⟨gb193, 0, none⟩) (by first | (rw [add_block]; exact hn194_0) | (show (Addr.add _ _).block ≠ _; rw [add_block]; exact hn194_0) | exact hn194_0) (.int .i64 ((rd_T28 l0 x16_1).f0.f0))).trans hx194_0; replace hx194_1 := (cell_far (p := ⟨gb193, 0, none⟩) (by first | (rw [add_block]; exact hn194_0) | (show (Addr.add _ _).block ≠ _; rw [add_block]; exact hn194_0) | exact hn194_0) (.int .i64 ((rd_T28 l0 x16_1).f0.f0))).trans hx194_1; replace hx194_2 := (cell_far (p := ⟨gb193, 0, none⟩) (by first | (rw [add_block]; exact hn194_0) | (show (Addr.add _ _).block ≠ _; rw [add_block]; exact hn194_0) | exact hn194_0) (.int .i64 ((rd_T28 l0 x16_1).f0.f0))).trans hx194_2; replace hx194_3 := (cell_far (p := ⟨gb193, 0, none⟩) (by first | (rw [add_block]; exact hn194_0) | (show (Addr.add _ _).block ≠ _; rw [add_block]; exact hn194_0) | exact hn194_0) (.int .i64 ((rd_T28 l0 x16_1).f0.f0))).trans hx194_3; replace hx194_0 := (cell_far (p := ⟨gb193, 1, none⟩) (by first | (rw [add_block]; exact hn194_1) | (show (Addr.add _ _).block ≠ _; rw [add_block]; exact hn194_1) | exact hn194_1) (.int .i64 ((rd_T28 l0 x16_1).f0.f1))).trans hx194_0; replace hx194_1 := (cell_far (p := ⟨gb193, 1, none⟩) (by first | (rw [add_block]; exact hn194_1) | (show (Addr.add _ _).block ≠ _; rw [add_block]; exact hn194_1) | exact hn194_1) (.int .i64 ((rd_T28 l0 x16_1).f0.f1))).trans hx194_1; replace hx194_2 := (cell_far (p := ⟨gb193, 1, none⟩) (by first | (rw [add_block]; exact hn194_1) | (show (Addr.add _ _).block ≠ _; rw [add_block]; exact hn194_1) | exact hn194_1) (.int .i64 ((rd_T28 l0 x16_1).f0.f1))).trans hx194_2; replace hx194_3 := (cell_far (p := ⟨gb193, 1, none⟩) (by first | (rw [add_block]; exact hn194_1) | (show (Addr.add _ _).block ≠ _; rw [add_block]; exact hn194_1) | exact hn194_1) (.int .i64 ((rd_T28 l0 x16_1).f0.f1))).trans hx194_3; replace hx194_0 := (cell_far (p := ⟨gb193, 2, none⟩) (by first | (rw [add_block]; exact hn194_2) | (show (Addr.add _ _).block ≠ _; rw [add_block]; exact hn194_2) | exact hn194_2) (.int .i64 ((rd_T28 l0 x16_1).f0.f2))).trans hx194_0; replace hx194_1 := (cell_far (p := ⟨gb193, 2, none⟩) (by first | (rw [add_block]; exact hn194_2) | (show (Addr.add _ _).block ≠ _; rw [add_block]; exact hn194_2) | exact hn194_2) (.int .i64 ((rd_T28 l0 x16_1).f0.f2))).trans hx194_1; replace hx194_2 := (cell_far (p := ⟨gb193, 2, none⟩) (by first | (rw [add_block]; exact hn194_2) | (show (Addr.add _ _).block ≠ _; rw [add_block]; exact hn194_2) | exact hn194_2) (.int .i64 ((rd_T28 l0 x16_1).f0.f2))).trans hx194_2; replace hx194_3 := (cell_far (p := ⟨gb193, 2, none⟩) (by first | (rw [add_block]; exact hn194_2) | (show (Addr.add _ _).block ≠ _; rw [add_block]; exact hn194_2) | exact hn194_2) (.int .i64 ((rd_T28 l0 x16_1).f0.f2))).trans hx194_3; replace hx194_0 := (cell_far (p := ⟨gb193, 3, none⟩) (by first | (rw [add_block]; exact hn194_3) | (show (Addr.add _ _).block ≠ _; rw [add_block]; exact hn194_3) | exact hn194_3) (.slice A192_3 ((rd_T28 l0 x16_1).f1).length c192_3)).trans hx194_0; replace hx194_1 := (cell_far (p := ⟨gb193, 3, none⟩) (by first | (rw [add_block]; exact hn194_3) | (show (Addr.add _ _).block ≠ _; rw [add_block]; exact hn194_3) | exact hn194_3) (.slice A192_3 ((rd_T28 l0 x16_1).f1).length c192_3)).trans hx194_1; replace hx194_2 := (cell_far (p := ⟨gb193, 3, none⟩) (by first | (rw [add_block]; exact hn194_3) | (show (Addr.add _ _).block ≠ _; rw [add_block]; exact hn194_3) | exact hn194_3) (.slice A192_3 ((rd_T28 l0 x16_1).f1).length c192_3)).trans hx194_2; replace hx194_3 := (cell_far (p := ⟨gb193, 3, none⟩) (by first | (rw [add_block]; exact hn194_3) | (show (Addr.add _ _).block ≠ _; rw [add_block]; exact hn194_3) | exact hn194_3) (.slice A192_3 ((rd_T28 l0 x16_1).f1).length c192_3)).trans hx194_3; (try have hy194_0 := fun (n_ : Nat) => (show ((((((w9.drewN n_).setCell ⟨gb193, 0, none⟩ (.int .i64 ((rd_T28 l0 x16_1).f0.f0))).setCell ⟨gb193, 1, none⟩ (.int .i64 ((rd_T28 l0 x16_1).f0.f1))).setCell ⟨gb193, 2, none⟩ (.int .i64 ((rd_T28 l0 x16_1).f0.f2))).setCell ⟨gb193, 3, none⟩ (.slice A192_3 ((rd_T28 l0 x16_1).f1).length c192_3))).cell? _ = some _ from hx194_0)); (try have hy194_1 := fun (n_ : Nat) => (show ((((((w9.drewN n_).setCell ⟨gb193, 0, none⟩ (.int .i64 ((rd_T28 l0 x16_1).f0.f0))).setCell ⟨gb193, 1, none⟩ (.int .i64 ((rd_T28 l0 x16_1).f0.f1))).setCell ⟨gb193, 2, none⟩ (.int .i64 ((rd_T28 l0 x16_1).f0.f2))).setCell ⟨gb193, 3, none⟩ (.slice A192_3 ((rd_T28 l0 x16_1).f1).length c192_3))).cell? _ = some _ from hx194_1)); (try have hy194_2 := fun (n_ : Nat) => (show ((((((w9.drewN n_).setCell ⟨gb193, 0, none⟩ (.int .i64 ((rd_T28 l0 x16_1).f0.f0))).setCell ⟨gb193, 1, none⟩ (.int .i64 ((rd_T28 l0 x16_1).f0.f1))).setCell ⟨gb193, 2, none⟩ (.int .i64 ((rd_T28 l0 x16_1).f0.f2))).setCell ⟨gb193, 3, none⟩ (.slice A192_3 ((rd_T28 l0 x16_1).f1).length c192_3))).cell? _ = some _ from hx194_2)); (try have hy194_3 := fun (n_ : Nat) => (show ((((((w9.drewN n_).setCell ⟨gb193, 0, none⟩ (.int .i64 ((rd_T28 l0 x16_1).f0.f0))).setCell ⟨gb193, 1, none⟩ (.int .i64 ((rd_T28 l0 x16_1).f0.f1))).setCell ⟨gb193, 2, none⟩ (.int .i64 ((rd_T28 l0 x16_1).f0.f2))).setCell ⟨gb193, 3, none⟩ (.slice A192_3 ((rd_T28 l0 x16_1).f1).length c192_3))).cell? _ = some _ from hx194_3)); clear hn194_0; clear hn194_1; clear hn194_2; clear hn194_3; replace p194 := eq_true p194; replace q194 := eq_true q194) | ((with_reducible refine gate_dst (N := 7) rfl ?_); (try (refine gate_guard (by rfl) ?_; dsimp only)); refine box_event ?hg (N := 7) ?hd (cs := #[.int .i64 0, .int .i64 0, .int .i64 0, .slice none 0 0]) (t := 30) ?hr ?_; (case hd => rfl); (case hg => rfl); (case hr => first | (go_simp; done) | (go_simp; rfl)); intro gb195 hg w11 hbox hb; have n0_ := Aside0.mk (blk_below (g := gb193) (o := .cells #[.int .i64 ((rd_T28 l0 x16_1).f0.f0), .int .i64 ((rd_T28 l0 x16_1).f0.f1), .int .i64 ((rd_T28 l0 x16_1).f0.f2), .slice A192_3 ((rd_T28 l0 x16_1).f1).length c192_3] 28 (0, 0)) (by (with_reducible repeat (first | refine blk_drewN ?_ _ | refine blk_drew ?_ | refine blk_alloc ?_ _)); refine blk_put (cs := #[.int .i64 ((rd_T28 l0 x16_1).f0.f0), .int .i64 ((rd_T28 l0 x16_1).f0.f1), .int .i64 ((rd_T28 l0 x16_1).f0.f2), .slice none 0 0]) ?_ 3 _ rfl; (with_reducible repeat (first | refine blk_drewN ?_ _ | refine blk_drew ?_ | refine blk_alloc ?_ _)); refine blk_put (cs := #[.int .i64 ((rd_T28 l0 x16_1).f0.f0), .int .i64 ((rd_T28 l0 x16_1).f0.f1), .int .i64 0, .slice none 0 0]) ?_ 2 _ rfl; (with_reducible repeat (first | refine blk_drewN ?_ _ | refine blk_drew ?_ | refine blk_alloc ?_ _)); refine blk_put (cs := #[.int .i64 ((rd_T28 l0 x16_1).f0.f0), .int .i64 0, .int .i64 0, .slice none 0 0]) ?_ 1 _ rfl; (with_reducible repeat (first | refine blk_drewN ?_ _ | refine blk_drew ?_ | refine blk_alloc ?_ _)); refine blk_put (cs := #[.int .i64 0, .int .i64 0, .int .i64 0, .slice none 0 0]) ?_ 0 _ rfl; (with_reducible repeat (first | refine blk_drewN ?_ _ | refine blk_drew ?_ | refine blk_alloc ?_ _)); exact BK193.out) hb); have n1_ := Aside0.mk (below_step (by repeat (first | (with_reducible first | exact HB.out | apply below_alloc | apply pw_below_drewN | apply below_drew1 | refine below_set ?_ GE193.out) | exact HB.out)) hb); have n2_ := Aside0.mk (hbox); have n3_ := Aside0.mk ((by rw [hg]; exact (below_size (by repeat (first | (with_reducible first | exact HB.out | apply below_alloc | apply pw_below_drewN | apply below_drew1 | refine below_set ?_ GE193.out) | exact HB.out))) : w.heap.size ≤ gb195)); have n4_ := Aside0.mk ((by rw [hg]; exact (below_size (by repeat (first | (with_reducible first | exact HB.out | apply below_alloc | apply pw_below_drewN | apply below_drew1 | refine below_set ?_ GE193.out) | exact HB.out))) : w.heap.size ≤ gb195)); have n5_ := Aside0.mk ((by rw [hg]; exact Nat.ne_of_lt (blk_lt (g := gb193) (o := .cells #[.int .i64 ((rd_T28 l0 x16_1).f0.f0), .int .i64 ((rd_T28 l0 x16_1).f0.f1), .int .i64 ((rd_T28 l0 x16_1).f0.f2), .slice A192_3 ((rd_T28 l0 x16_1).f1).length c192_3] 28 (0, 0)) (by (with_reducible repeat (first | refine blk_drewN ?_ _ | refine blk_drew ?_ | refine blk_alloc ?_ _)); refine blk_put (cs := #[.int .i64 ((rd_T28 l0 x16_1).f0.f0), .int .i64 ((rd_T28 l0 x16_1).f0.f1), .int .i64 ((rd_T28 l0 x16_1).f0.f2), .slice none 0 0]) ?_ 3 _ rfl; (with_reducible repeat (first | refine blk_drewN ?_ _ | refine blk_drew ?_ | refine blk_alloc ?_ _)); refine blk_put (cs := #[.int .i64 ((rd_T28 l0 x16_1).f0.f0), .int .i64 ((rd_T28 l0 x16_1).f0.f1), .int .i64 0, .slice none 0 0]) ?_ 2 _ rfl; (with_reducible repeat (first | refine blk_drewN ?_ _ | refine blk_drew ?_ | refine blk_alloc ?_ _)); refine blk_put (cs := #[.int .i64 ((rd_T28 l0 x16_1).f0.f0), .int .i64 0, .int .i64 0, .slice none 0 0]) ?_ 1 _ rfl; (with_reducible repeat (first | refine blk_drewN ?_ _ | refine blk_drew ?_ | refine blk_alloc ?_ _)); refine blk_put (cs := #[.int .i64 0, .int .i64 0, .int .i64 0, .slice none 0 0]) ?_ 0 _ rfl; (with_reducible repeat (first | refine blk_drewN ?_ _ | refine blk_drew ?_ | refine blk_alloc ?_ _)); exact BK193.out)) : gb193 ≠ gb195)); have n6_ := Aside0.mk ((by rw [hg]; exact Nat.ne_of_gt (blk_lt (g := gb193) (o := .cells #[.int .i64 ((rd_T28 l0 x16_1).f0.f0), .int .i64 ((rd_T28 l0 x16_1).f0.f1), .int .i64 ((rd_T28 l0 x16_1).f0.f2), .slice A192_3 ((rd_T28 l0 x16_1).f1).length c192_3] 28 (0, 0)) (by (with_reducible repeat (first | refine blk_drewN ?_ _ | refine blk_drew ?_ | refine blk_alloc ?_ _)); refine blk_put (cs := #[.int .i64 ((rd_T28 l0 x16_1).f0.f0), .int .i64 ((rd_T28 l0 x16_1).f0.f1), .int .i64 ((rd_T28 l0 x16_1).f0.f2), .slice none 0 0]) ?_ 3 _ rfl; (with_reducible repeat (first | refine blk_drewN ?_ _ | refine blk_drew ?_ | refine blk_alloc ?_ _)); refine blk_put (cs := #[.int .i64 ((rd_T28 l0 x16_1).f0.f0), .int .i64 ((rd_T28 l0 x16_1).f0.f1), .int .i64 0, .slice none 0 0]) ?_ 2 _ rfl; (with_reducible repeat (first | refine blk_drewN ?_ _ | refine blk_drew ?_ | refine blk_alloc ?_ _)); refine blk_put (cs := #[.int .i64 ((rd_T28 l0 x16_1).f0.f0), .int .i64 0, .int .i64 0, .slice none 0 0]) ?_ 1 _ rfl; (with_reducible repeat (first | refine blk_drewN ?_ _ | refine blk_drew ?_ | refine blk_alloc ?_ _)); refine blk_put (cs := #[.int .i64 0, .int .i64 0, .int .i64 0, .slice none 0 0]) ?_ 0 _ rfl; (with_reducible repeat (first | refine blk_drewN ?_ _ | refine blk_drew ?_ | refine blk_alloc ?_ _)); exact BK193.out)) : gb195 ≠ gb193)); clear BK193; clear HB; have BK193 := n0_; have HB := n1_; have BK195 := n2_; have GW195 := n3_; have GE195 := n4_; have NB193_195 := n5_; have NB195_193 := n6_; clear n0_ n1_ n2_ n3_ n4_ n5_ n6_; clear hb hbox hg; have hnb12 := NB195_193.out; have hnc12 := NB193_195.out; have hcz13_0 : w11.cell? ⟨gb195, 0, none⟩ = some (.int .i64 0) := (blk_cell BK195.out 0).trans rfl; have hcz13_1 : w11.cell? ⟨gb195, 1, none⟩ = some (.int .i64 0) := (blk_cell BK195.out 1).trans rfl; have hcz13_2 : w11.cell? ⟨gb195, 2, none⟩ = some (.int .i64 0) := (blk_cell BK195.out 2).trans rfl; have hcz13_3 : w11.cell? ⟨gb195, 3, none⟩ = some (.slice none 0 0) := (blk_cell BK195.out 3).trans rfl; have hfz13_0 := blk_frozen BK195.out 0; have hfz13_1 := blk_frozen BK195.out 1; have hfz13_2 := blk_frozen BK195.out 2; have hfz13_3 := blk_frozen BK195.out 3)); go_upto_region 7 with (first | ((with_reducible refine gate_dst (N := 6) rfl ?_); (try (refine gate_guard (by rfl) ?_; dsimp only)); refine box_event ?hg (N := 6) ?hd (cs := #[.int .i64 0, .int .i64 0, .int .i64 0, .slice none 0 0]) (t := 28) ?hr ?_; (case hd => rfl); (case hg => rfl); (case hr => first | (go_simp; done) | (go_simp; rfl)); intro gb193 hg w9 hbox hb; have n0_ := Aside0.mk (below_step (by repeat (first | (with_reducible first | exact HB.out | apply below_alloc | apply pw_below_drewN | apply below_drew1) | exact HB.out)) hb); have n1_ := Aside0.mk (hbox); have n2_ := Aside0.mk ((by rw [hg]; exact (below_size (by repeat (first | (with_reducible first | exact HB.out | apply below_alloc | apply pw_below_drewN | apply below_drew1) | exact HB.out))) : w.heap.size ≤ gb193)); have n3_ := Aside0.mk ((by rw [hg]; exact (below_size (by repeat (first | (with_reducible first | exact HB.out | apply below_alloc | apply pw_below_drewN | apply below_drew1) | exact HB.out))) : w.heap.size ≤ gb193)); clear HB; have HB := n0_; have BK193 := n1_; have GW193 := n2_; have GE193 := n3_; clear n0_ n1_ n2_ n3_; clear hb hbox hg; have hcz10_0 : w9.cell? ⟨gb193, 0, none⟩ = some (.int .i64 0) := (blk_cell BK193.out 0).trans rfl; have hcz10_1 : w9.cell? ⟨gb193, 1, none⟩ = some (.int .i64 0) := (blk_cell BK193.out 1).trans rfl; have hcz10_2 : w9.cell? ⟨gb193, 2, none⟩ = some (.int .i64 0) := (blk_cell BK193.out 2).trans rfl; have hcz10_3 : w9.cell? ⟨gb193, 3, none⟩ = some (.slice none 0 0) := (blk_cell BK193.out 3).trans rfl; have hfz10_0 := blk_frozen BK193.out 0; have hfz10_1 := blk_frozen BK193.out 1; have hfz10_2 := blk_frozen BK193.out 2; have hfz10_3 := blk_frozen BK193.out 3; have p194 : 0 ≤ (x16_1 : Int) := of_decide_eq_true (by first | (with_reducible assumption) | assumption); have q194 : x16_1 < (l1.length : Int) := of_decide_eq_true (by first | (with_reducible assumption) | assumption); obtain ⟨ad194, A194_3, c194_3, e194, hx194_0, hx194_1, hx194_2, hx194_3, hl194_3, hi194_3⟩ := at_T30 HR1.out x16_1 p194 q194; cases e194; have hn194_0 : ad194.block ≠ gb193 := Nat.ne_of_lt (Nat.lt_of_lt_of_le (by have := World.block_lt_of_cell? _ _ hx194_0; first | rwa [add_block] at this | exact this) GW193.out); have hn194_1 : ad194.block ≠ gb193 := Nat.ne_of_lt (Nat.lt_of_lt_of_le (by have := World.block_lt_of_cell? _ _ hx194_0; first | rwa [add_block] at this | exact this) GW193.out); have hn194_2 : ad194.block ≠ gb193 := Nat.ne_of_lt (Nat.lt_of_lt_of_le (by have := World.block_lt_of_cell? _ _ hx194_0; first | rwa [add_block] at this | exact this) GW193.out); have hn194_3 : ad194.block ≠ gb193 := Nat.ne_of_lt (Nat.lt_of_lt_of_le (by have := World.block_lt_of_cell? _ _ hx194_0; first | rwa [add_block] at this | exact this) GW193.out); replace hx194_0 := (HB.out.cell (World.block_lt_of_cell? w _ hx194_0)).trans hx194_0; replace hx194_1 := (HB.out.cell (World.block_lt_of_cell? w _ hx194_1)).trans hx194_1; replace hx194_2 := (HB.out.cell (World.block_lt_of_cell? w _ hx194_2)).trans hx194_2; replace hx194_3 := (HB.out.cell (World.block_lt_of_cell? w _ hx194_3)).trans hx194_3; have HR194_3 := Aside0.mk hi194_3; have HC194_3 := Aside0.mk hl194_3; clear hi194_3 hl194_3; replace hx194_0 := (cell_far (p := ⟨gb193, 0, none⟩) (by first | (rw [add_block]; exact hn194_0) | (show (Addr.add _ _).block ≠ _; rw [add_block]; exact hn194_0) | exact hn194_0) (.int .i64 ((rd_T28 l0 x16_1).f0.f0))).trans hx194_0; replace hx194_1 := (cell_far (p := ⟨gb193, 0, none⟩) (by first | (rw [add_block]; exact hn194_0) | (show (Addr.add _ _).block ≠ _; rw [add_block]; exact hn194_0) | exact hn194_0) (.int .i64 ((rd_T28 l0 x16_1).f0.f0))).trans hx194_1; replace hx194_2 := (cell_far (p := ⟨gb193, 0, none⟩) (by first | (rw [add_block]; exact hn194_0) | (show (Addr.add _ _).block ≠ _; rw [add_block]; exact hn194_0) | exact hn194_0) (.int .i64 ((rd_T28 l0 x16_1).f0.f0))).trans hx194_2; replace hx194_3 := (cell_far (p := ⟨gb193, 0, none⟩) (by first | (rw [add_block]; exact hn194_0) | (show (Addr.add _ _).block ≠ _; rw [add_block]; exact hn194_0) | exact hn194_0) (.int .i64 ((rd_T28 l0 x16_1).f0.f0))).trans hx194_3; replace hx194_0 := (cell_far (p := ⟨gb193, 1, none⟩) (by first | (rw [add_block]; exact hn194_1) | (show (Addr.add _ _).block ≠ _; rw [add_block]; exact hn194_1) | exact hn194_1) (.int .i64 ((rd_T28 l0 x16_1).f0.f1))).trans hx194_0; replace hx194_1 := (cell_far (p := ⟨gb193, 1, none⟩) (by first | (rw [add_block]; exact hn194_1) | (show (Addr.add _ _).block ≠ _; rw [add_block]; exact hn194_1) | exact hn194_1) (.int .i64 ((rd_T28 l0 x16_1).f0.f1))).trans hx194_1; replace hx194_2 := (cell_far (p := ⟨gb193, 1, none⟩) (by first | (rw [add_block]; exact hn194_1) | (show (Addr.add _ _).block ≠ _; rw [add_block]; exact hn194_1) | exact hn194_1) (.int .i64 ((rd_T28 l0 x16_1).f0.f1))).trans hx194_2; replace hx194_3 := (cell_far (p := ⟨gb193, 1, none⟩) (by first | (rw [add_block]; exact hn194_1) | (show (Addr.add _ _).block ≠ _; rw [add_block]; exact hn194_1) | exact hn194_1) (.int .i64 ((rd_T28 l0 x16_1).f0.f1))).trans hx194_3; replace hx194_0 := (cell_far (p := ⟨gb193, 2, none⟩) (by first | (rw [add_block]; exact hn194_2) | (show (Addr.add _ _).block ≠ _; rw [add_block]; exact hn194_2) | exact hn194_2) (.int .i64 ((rd_T28 l0 x16_1).f0.f2))).trans hx194_0; replace hx194_1 := (cell_far (p := ⟨gb193, 2, none⟩) (by first | (rw [add_block]; exact hn194_2) | (show (Addr.add _ _).block ≠ _; rw [add_block]; exact hn194_2) | exact hn194_2) (.int .i64 ((rd_T28 l0 x16_1).f0.f2))).trans hx194_1; replace hx194_2 := (cell_far (p := ⟨gb193, 2, none⟩) (by first | (rw [add_block]; exact hn194_2) | (show (Addr.add _ _).block ≠ _; rw [add_block]; exact hn194_2) | exact hn194_2) (.int .i64 ((rd_T28 l0 x16_1).f0.f2))).trans hx194_2; replace hx194_3 := (cell_far (p := ⟨gb193, 2, none⟩) (by first | (rw [add_block]; exact hn194_2) | (show (Addr.add _ _).block ≠ _; rw [add_block]; exact hn194_2) | exact hn194_2) (.int .i64 ((rd_T28 l0 x16_1).f0.f2))).trans hx194_3; replace hx194_0 := (cell_far (p := ⟨gb193, 3, none⟩) (by first | (rw [add_block]; exact hn194_3) | (show (Addr.add _ _).block ≠ _; rw [add_block]; exact hn194_3) | exact hn194_3) (.slice A192_3 ((rd_T28 l0 x16_1).f1).length c192_3)).trans hx194_0; replace hx194_1 := (cell_far (p := ⟨gb193, 3, none⟩) (by first | (rw [add_block]; exact hn194_3) | (show (Addr.add _ _).block ≠ _; rw [add_block]; exact hn194_3) | exact hn194_3) (.slice A192_3 ((rd_T28 l0 x16_1).f1).length c192_3)).trans hx194_1; replace hx194_2 := (cell_far (p := ⟨gb193, 3, none⟩) (by first | (rw [add_block]; exact hn194_3) | (show (Addr.add _ _).block ≠ _; rw [add_block]; exact hn194_3) | exact hn194_3) (.slice A192_3 ((rd_T28 l0 x16_1).f1).length c192_3)).trans hx194_2; replace hx194_3 := (cell_far (p := ⟨gb193, 3, none⟩) (by first | (rw [add_block]; exact hn194_3) | (show (Addr.add _ _).block ≠ _; rw [add_block]; exact hn194_3) | exact hn194_3) (.slice A192_3 ((rd_T28 l0 x16_1).f1).length c192_3)).trans hx194_3; (try have hy194_0 := fun (n_ : Nat) => (show ((((((w9.drewN n_).setCell ⟨gb193, 0, none⟩ (.int .i64 ((rd_T28 l0 x16_1).f0.f0))).setCell ⟨gb193, 1, none⟩ (.int .i64 ((rd_T28 l0 x16_1).f0.f1))).setCell ⟨gb193, 2, none⟩ (.int .i64 ((rd_T28 l0 x16_1).f0.f2))).setCell ⟨gb193, 3, none⟩ (.slice A192_3 ((rd_T28 l0 x16_1).f1).length c192_3))).cell? _ = some _ from hx194_0)); (try have hy194_1 := fun (n_ : Nat) => (show ((((((w9.drewN n_).setCell ⟨gb193, 0, none⟩ (.int .i64 ((rd_T28 l0 x16_1).f0.f0))).setCell ⟨gb193, 1, none⟩ (.int .i64 ((rd_T28 l0 x16_1).f0.f1))).setCell ⟨gb193, 2, none⟩ (.int .i64 ((rd_T28 l0 x16_1).f0.f2))).setCell ⟨gb193, 3, none⟩ (.slice A192_3 ((rd_T28 l0 x16_1).f1).length c192_3))).cell? _ = some _ from hx194_1)); (try have hy194_2 := fun (n_ : Nat) => (show ((((((w9.drewN n_).setCell ⟨gb193, 0, none⟩ (.int .i64 ((rd_T28 l0 x16_1).f0.f0))).setCell ⟨gb193, 1, none⟩ (.int .i64 ((rd_T28 l0 x16_1).f0.f1))).setCell ⟨gb193, 2, none⟩ (.int .i64 ((rd_T28 l0 x16_1).f0.f2))).setCell ⟨gb193, 3, none⟩ (.slice A192_3 ((rd_T28 l0 x16_1).f1).length c192_3))).cell? _ = some _ from hx194_2)); (try have hy194_3 := fun (n_ : Nat) => (show ((((((w9.drewN n_).setCell ⟨gb193, 0, none⟩ (.int .i64 ((rd_T28 l0 x16_1).f0.f0))).setCell ⟨gb193, 1, none⟩ (.int .i64 ((rd_T28 l0 x16_1).f0.f1))).setCell ⟨gb193, 2, none⟩ (.int .i64 ((rd_T28 l0 x16_1).f0.f2))).setCell ⟨gb193, 3, none⟩ (.slice A192_3 ((rd_T28 l0 x16_1).f1).length c192_3))).cell? _ = some _ from hx194_3)); clear hn194_0; clear hn194_1; clear hn194_2; clear hn194_3; replace p194 := eq_true p194; replace q194 := eq_true q194) | ((with_reducible refine gate_dst (N := 7) rfl ?_); (try (refine gate_guard (by rfl) ?_; dsimp only)); refine box_event ?hg (N := 7) ?hd (cs := #[.int .i64 0, .int .i64 0, .int .i64 0, .slice none 0 0]) (t := 30) ?hr ?_; (case hd => rfl); (case hg => rfl); (case hr => first | (go_simp; done) | (go_simp; rfl)); intro gb195 hg w11 hbox hb; have n0_ := Aside0.mk (blk_below (g := gb193) (o := .cells #[.int .i64 ((rd_T28 l0 x16_1).f0.f0), .int .i64 ((rd_T28 l0 x16_1).f0.f1), .int .i64 ((rd_T28 l0 x16_1).f0.f2), .slice A192_3 ((rd_T28 l0 x16_1).f1).length c192_3] 28 (0, 0)) (by (with_reducible repeat (first | refine blk_drewN ?_ _ | refine blk_drew ?_ | refine blk_alloc ?_ _)); refine blk_put (cs := #[.int .i64 ((rd_T28 l0 x16_1).f0.f0), .int .i64 ((rd_T28 l0 x16_1).f0.f1), .int .i64 ((rd_T28 l0 x16_1).f0.f2), .slice none 0 0]) ?_ 3 _ rfl; (with_reducible repeat (first | refine blk_drewN ?_ _ | refine blk_drew ?_ | refine blk_alloc ?_ _)); refine blk_put (cs := #[.int .i64 ((rd_T28 l0 x16_1).f0.f0), .int .i64 ((rd_T28 l0 x16_1).f0.f1), .int .i64 0, .slice none 0 0]) ?_ 2 _ rfl; (with_reducible repeat (first | refine blk_drewN ?_ _ | refine blk_drew ?_ | refine blk_alloc ?_ _)); refine blk_put (cs := #[.int .i64 ((rd_T28 l0 x16_1).f0.f0), .int .i64 0, .int .i64 0, .slice none 0 0]) ?_ 1 _ rfl; (with_reducible repeat (first | refine blk_drewN ?_ _ | refine blk_drew ?_ | refine blk_alloc ?_ _)); refine blk_put (cs := #[.int .i64 0, .int .i64 0, .int .i64 0, .slice none 0 0]) ?_ 0 _ rfl; (with_reducible repeat (first | refine blk_drewN ?_ _ | refine blk_drew ?_ | refine blk_alloc ?_ _)); exact BK193.out) hb); have n1_ := Aside0.mk (below_step (by repeat (first | (with_reducible first | exact HB.out | apply below_alloc | apply pw_below_drewN | apply below_drew1 | refine below_set ?_ GE193.out) | exact HB.out)) hb); have n2_ := Aside0.mk (hbox); have n3_ := Aside0.mk ((by rw [hg]; exact (below_size (by repeat (first | (with_reducible first | exact HB.out | apply below_alloc | apply pw_below_drewN | apply below_drew1 | refine below_set ?_ GE193.out) | exact HB.out))) : w.heap.size ≤ gb195)); have n4_ := Aside0.mk ((by rw [hg]; exact (below_size (by repeat (first | (with_reducible first | exact HB.out | apply below_alloc | apply pw_below_drewN | apply below_drew1 | refine below_set ?_ GE193.out) | exact HB.out))) : w.heap.size ≤ gb195)); have n5_ := Aside0.mk ((by rw [hg]; exact Nat.ne_of_lt (blk_lt (g := gb193) (o := .cells #[.int .i64 ((rd_T28 l0 x16_1).f0.f0), .int .i64 ((rd_T28 l0 x16_1).f0.f1), .int .i64 ((rd_T28 l0 x16_1).f0.f2), .slice A192_3 ((rd_T28 l0 x16_1).f1).length c192_3] 28 (0, 0)) (by (with_reducible repeat (first | refine blk_drewN ?_ _ | refine blk_drew ?_ | refine blk_alloc ?_ _)); refine blk_put (cs := #[.int .i64 ((rd_T28 l0 x16_1).f0.f0), .int .i64 ((rd_T28 l0 x16_1).f0.f1), .int .i64 ((rd_T28 l0 x16_1).f0.f2), .slice none 0 0]) ?_ 3 _ rfl; (with_reducible repeat (first | refine blk_drewN ?_ _ | refine blk_drew ?_ | refine blk_alloc ?_ _)); refine blk_put (cs := #[.int .i64 ((rd_T28 l0 x16_1).f0.f0), .int .i64 ((rd_T28 l0 x16_1).f0.f1), .int .i64 0, .slice none 0 0]) ?_ 2 _ rfl; (with_reducible repeat (first | refine blk_drewN ?_ _ | refine blk_drew ?_ | refine blk_alloc ?_ _)); refine blk_put (cs := #[.int .i64 ((rd_T28 l0 x16_1).f0.f0), .int .i64 0, .int .i64 0, .slice none 0 0]) ?_ 1 _ rfl; (with_reducible repeat (first | refine blk_drewN ?_ _ | refine blk_drew ?_ | refine blk_alloc ?_ _)); refine blk_put (cs := #[.int .i64 0, .int .i64 0, .int .i64 0, .slice none 0 0]) ?_ 0 _ rfl; (with_reducible repeat (first | refine blk_drewN ?_ _ | refine blk_drew ?_ | refine blk_alloc ?_ _)); exact BK193.out)) : gb193 ≠ gb195)); have n6_ := Aside0.mk ((by rw [hg]; exact Nat.ne_of_gt (blk_lt (g := gb193) (o := .cells #[.int .i64 ((rd_T28 l0 x16_1).f0.f0), .int .i64 ((rd_T28 l0 x16_1).f0.f1), .int .i64 ((rd_T28 l0 x16_1).f0.f2), .slice A192_3 ((rd_T28 l0 x16_1).f1).length c192_3] 28 (0, 0)) (by (with_reducible repeat (first | refine blk_drewN ?_ _ | refine blk_drew ?_ | refine blk_alloc ?_ _)); refine blk_put (cs := #[.int .i64 ((rd_T28 l0 x16_1).f0.f0), .int .i64 ((rd_T28 l0 x16_1).f0.f1), .int .i64 ((rd_T28 l0 x16_1).f0.f2), .slice none 0 0]) ?_ 3 _ rfl; (with_reducible repeat (first | refine blk_drewN ?_ _ | refine blk_drew ?_ | refine blk_alloc ?_ _)); refine blk_put (cs := #[.int .i64 ((rd_T28 l0 x16_1).f0.f0), .int .i64 ((rd_T28 l0 x16_1).f0.f1), .int .i64 0, .slice none 0 0]) ?_ 2 _ rfl; (with_reducible repeat (first | refine blk_drewN ?_ _ | refine blk_drew ?_ | refine blk_alloc ?_ _)); refine blk_put (cs := #[.int .i64 ((rd_T28 l0 x16_1).f0.f0), .int .i64 0, .int .i64 0, .slice none 0 0]) ?_ 1 _ rfl; (with_reducible repeat (first | refine blk_drewN ?_ _ | refine blk_drew ?_ | refine blk_alloc ?_ _)); refine blk_put (cs := #[.int .i64 0, .int .i64 0, .int .i64 0, .slice none 0 0]) ?_ 0 _ rfl; (with_reducible repeat (first | refine blk_drewN ?_ _ | refine blk_drew ?_ | refine blk_alloc ?_ _)); exact BK193.out)) : gb195 ≠ gb193)); clear BK193; clear HB; have BK193 := n0_; have HB := n1_; have BK195 := n2_; have GW195 := n3_; have GE195 := n4_; have NB193_195 := n5_; have NB195_193 := n6_; clear n0_ n1_ n2_ n3_ n4_ n5_ n6_; clear hb hbox hg; have hnb12 := NB195_193.out; have hnc12 := NB193_195.out; have hcz13_0 : w11.cell? ⟨gb195, 0, none⟩ = some (.int .i64 0) := (blk_cell BK195.out 0).trans rfl; have hcz13_1 : w11.cell? ⟨gb195, 1, none⟩ = some (.int .i64 0) := (blk_cell BK195.out 1).trans rfl; have hcz13_2 : w11.cell? ⟨gb195, 2, none⟩ = some (.int .i64 0) := (blk_cell BK195.out 2).trans rfl; have hcz13_3 : w11.cell? ⟨gb195, 3, none⟩ = some (.slice none 0 0) := (blk_cell BK195.out 3).trans rfl; have hfz13_0 := blk_frozen BK195.out 0; have hfz13_1 := blk_frozen BK195.out 1; have hfz13_2 := blk_frozen BK195.out 2; have hfz13_3 := blk_frozen BK195.out 3)))
                (try simp only [Act.put, List.setIfInBounds_toArray, List.set_cons_zero, List.set_cons_succ])
                go_cut [43] (fun v43 wc => ∃ (kq : Nat) (x43_7 : Bool), v43 = .bool x43_7 ∧ Aside0 (secateurlaw21_same.j1 kq l1 l0 (l0.length : Int) x16_1 x43_7 ((rd_T28 l0 x16_1).f0.f0) ((rd_T28 l0 x16_1).f0.f1) ((rd_T28 l0 x16_1).f0.f2) ((rd_T28 l0 x16_1).f1) ((rd_T30 l1 x16_1).f0) ((rd_T30 l1 x16_1).f1) ((rd_T30 l1 x16_1).f2) ((rd_T30 l1 x16_1).f3) = some r) ∧ Aside0 (kq ≤ k1) ∧ Aside0 (wc.heap[gb193]? = some (.cells #[.int .i64 ((rd_T28 l0 x16_1).f0.f0), .int .i64 ((rd_T28 l0 x16_1).f0.f1), .int .i64 ((rd_T28 l0 x16_1).f0.f2), (.slice A192_3 ((rd_T28 l0 x16_1).f1).length c192_3)] 28 (0, 0))) ∧ Aside0 (wc.heap[gb195]? = some (.cells #[.int .i64 ((rd_T30 l1 x16_1).f0), .int .i64 ((rd_T30 l1 x16_1).f1), .int .i64 ((rd_T30 l1 x16_1).f2), (.slice A194_3 ((rd_T30 l1 x16_1).f3).length c194_3)] 30 (0, 0))) ∧ Aside0 (Below w.heap.size w wc))
                case first =>
                  have H := HC8.out
                  clear HC8
                  by_cases c14 : (!(((rd_T28 l0 x16_1).f0.f0) == ((rd_T30 l1 x16_1).f0)) || (!(((rd_T28 l0 x16_1).f0.f1) == ((rd_T30 l1 x16_1).f1)) || (!(((rd_T28 l0 x16_1).f0.f2) == ((rd_T30 l1 x16_1).f2))))) = true
                  · rw [if_pos c14] at H
                    have c14b0 : (!(((rd_T28 l0 x16_1).f0.f0) == ((rd_T30 l1 x16_1).f0)) || (!(((rd_T28 l0 x16_1).f0.f1) == ((rd_T30 l1 x16_1).f1)) || (!(((rd_T28 l0 x16_1).f0.f2) == ((rd_T30 l1 x16_1).f2))))) = true := c14
                    clear c14
                    (first | rw [c14b0] | (simp only [i64_w, i32_w]; rw [c14b0]) | skip)
                    have H' := Aside0.mk H
                    clear H
                    have hnb15 := NB193_195.out
                    have hnc15 := NB195_193.out
                    have hcz16_0 : w11.cell? ⟨gb193, 0, none⟩ = some (.int .i64 ((rd_T28 l0 x16_1).f0.f0)) := (blk_cell BK193.out 0).trans rfl
                    have hcz16_1 : w11.cell? ⟨gb193, 1, none⟩ = some (.int .i64 ((rd_T28 l0 x16_1).f0.f1)) := (blk_cell BK193.out 1).trans rfl
                    have hcz16_2 : w11.cell? ⟨gb193, 2, none⟩ = some (.int .i64 ((rd_T28 l0 x16_1).f0.f2)) := (blk_cell BK193.out 2).trans rfl
                    have hcz16_3 : w11.cell? ⟨gb193, 3, none⟩ = some (.slice A192_3 ((rd_T28 l0 x16_1).f1).length c192_3) := (blk_cell BK193.out 3).trans rfl
                    have hfz16_0 := blk_frozen BK193.out 0
                    have hfz16_1 := blk_frozen BK193.out 1
                    have hfz16_2 := blk_frozen BK193.out 2
                    have hfz16_3 := blk_frozen BK193.out 3
                    have hcz17_0 : w11.cell? ⟨gb195, 0, none⟩ = some (.int .i64 0) := (blk_cell BK195.out 0).trans rfl
                    have hcz17_1 : w11.cell? ⟨gb195, 1, none⟩ = some (.int .i64 0) := (blk_cell BK195.out 1).trans rfl
                    have hcz17_2 : w11.cell? ⟨gb195, 2, none⟩ = some (.int .i64 0) := (blk_cell BK195.out 2).trans rfl
                    have hcz17_3 : w11.cell? ⟨gb195, 3, none⟩ = some (.slice none 0 0) := (blk_cell BK195.out 3).trans rfl
                    have hfz17_0 := blk_frozen BK195.out 0
                    have hfz17_1 := blk_frozen BK195.out 1
                    have hfz17_2 := blk_frozen BK195.out 2
                    have hfz17_3 := blk_frozen BK195.out 3
                    go_wp2
                    repeat (go_quiet (fail); try go_wp2)
                    go_meet
                    case rel => exact ⟨_, (true), (by first | rfl | (simp; done) | (simp [*]; done)), H', ⟨by have := HK1.out; first | omega | exact Nat.le_refl _⟩, ⟨by (with_reducible repeat (first | refine blk_drewN ?_ _ | refine blk_drew ?_ | refine blk_alloc ?_ _)); refine blk_far ?_ NB193_195.out _; (with_reducible repeat (first | refine blk_drewN ?_ _ | refine blk_drew ?_ | refine blk_alloc ?_ _)); refine blk_far ?_ NB193_195.out _; (with_reducible repeat (first | refine blk_drewN ?_ _ | refine blk_drew ?_ | refine blk_alloc ?_ _)); refine blk_far ?_ NB193_195.out _; (with_reducible repeat (first | refine blk_drewN ?_ _ | refine blk_drew ?_ | refine blk_alloc ?_ _)); refine blk_far ?_ NB193_195.out _; (with_reducible repeat (first | refine blk_drewN ?_ _ | refine blk_drew ?_ | refine blk_alloc ?_ _)); exact BK193.out⟩, ⟨by (with_reducible repeat (first | refine blk_drewN ?_ _ | refine blk_drew ?_ | refine blk_alloc ?_ _)); refine blk_put (cs := #[.int .i64 ((rd_T30 l1 x16_1).f0), .int .i64 ((rd_T30 l1 x16_1).f1), .int .i64 ((rd_T30 l1 x16_1).f2), .slice none 0 0]) ?_ 3 _ rfl; (with_reducible repeat (first | refine blk_drewN ?_ _ | refine blk_drew ?_ | refine blk_alloc ?_ _)); refine blk_put (cs := #[.int .i64 ((rd_T30 l1 x16_1).f0), .int .i64 ((rd_T30 l1 x16_1).f1), .int .i64 0, .slice none 0 0]) ?_ 2 _ rfl; (with_reducible repeat (first | refine blk_drewN ?_ _ | refine blk_drew ?_ | refine blk_alloc ?_ _)); refine blk_put (cs := #[.int .i64 ((rd_T30 l1 x16_1).f0), .int .i64 0, .int .i64 0, .slice none 0 0]) ?_ 1 _ rfl; (with_reducible repeat (first | refine blk_drewN ?_ _ | refine blk_drew ?_ | refine blk_alloc ?_ _)); refine blk_put (cs := #[.int .i64 0, .int .i64 0, .int .i64 0, .slice none 0 0]) ?_ 0 _ rfl; (with_reducible repeat (first | refine blk_drewN ?_ _ | refine blk_drew ?_ | refine blk_alloc ?_ _)); exact BK195.out⟩, ⟨by repeat (first | (with_reducible first | exact HB.out | apply below_alloc | apply pw_below_drewN | apply below_drew1 | refine below_set ?_ GE193.out | refine below_set ?_ GE195.out) | exact HB.out)⟩⟩
                  · rw [if_neg c14] at H
                    have c14b0 : (!(((rd_T28 l0 x16_1).f0.f0) == ((rd_T30 l1 x16_1).f0)) || (!(((rd_T28 l0 x16_1).f0.f1) == ((rd_T30 l1 x16_1).f1)) || (!(((rd_T28 l0 x16_1).f0.f2) == ((rd_T30 l1 x16_1).f2))))) = false := by simpa using c14
                    clear c14
                    (first | rw [c14b0] | (simp only [i64_w, i32_w]; rw [c14b0]) | skip)
                    have H' := Aside0.mk H
                    clear H
                    have hnb18 := NB193_195.out
                    have hnc18 := NB195_193.out
                    have hcz19_0 : w11.cell? ⟨gb193, 0, none⟩ = some (.int .i64 ((rd_T28 l0 x16_1).f0.f0)) := (blk_cell BK193.out 0).trans rfl
                    have hcz19_1 : w11.cell? ⟨gb193, 1, none⟩ = some (.int .i64 ((rd_T28 l0 x16_1).f0.f1)) := (blk_cell BK193.out 1).trans rfl
                    have hcz19_2 : w11.cell? ⟨gb193, 2, none⟩ = some (.int .i64 ((rd_T28 l0 x16_1).f0.f2)) := (blk_cell BK193.out 2).trans rfl
                    have hcz19_3 : w11.cell? ⟨gb193, 3, none⟩ = some (.slice A192_3 ((rd_T28 l0 x16_1).f1).length c192_3) := (blk_cell BK193.out 3).trans rfl
                    have hfz19_0 := blk_frozen BK193.out 0
                    have hfz19_1 := blk_frozen BK193.out 1
                    have hfz19_2 := blk_frozen BK193.out 2
                    have hfz19_3 := blk_frozen BK193.out 3
                    have hcz20_0 : w11.cell? ⟨gb195, 0, none⟩ = some (.int .i64 0) := (blk_cell BK195.out 0).trans rfl
                    have hcz20_1 : w11.cell? ⟨gb195, 1, none⟩ = some (.int .i64 0) := (blk_cell BK195.out 1).trans rfl
                    have hcz20_2 : w11.cell? ⟨gb195, 2, none⟩ = some (.int .i64 0) := (blk_cell BK195.out 2).trans rfl
                    have hcz20_3 : w11.cell? ⟨gb195, 3, none⟩ = some (.slice none 0 0) := (blk_cell BK195.out 3).trans rfl
                    have hfz20_0 := blk_frozen BK195.out 0
                    have hfz20_1 := blk_frozen BK195.out 1
                    have hfz20_2 := blk_frozen BK195.out 2
                    have hfz20_3 := blk_frozen BK195.out 3
                    go_wp2
                    repeat (go_quiet (fail); try go_wp2)
                    go_meet
                    case rel => exact ⟨_, (((((rd_T28 l0 x16_1).f1).length : Int) != (((rd_T30 l1 x16_1).f3).length : Int))), (by first | rfl | (simp; done) | (simp [*]; done)), H', ⟨by have := HK1.out; first | omega | exact Nat.le_refl _⟩, ⟨by (with_reducible repeat (first | refine blk_drewN ?_ _ | refine blk_drew ?_ | refine blk_alloc ?_ _)); refine blk_far ?_ NB193_195.out _; (with_reducible repeat (first | refine blk_drewN ?_ _ | refine blk_drew ?_ | refine blk_alloc ?_ _)); refine blk_far ?_ NB193_195.out _; (with_reducible repeat (first | refine blk_drewN ?_ _ | refine blk_drew ?_ | refine blk_alloc ?_ _)); refine blk_far ?_ NB193_195.out _; (with_reducible repeat (first | refine blk_drewN ?_ _ | refine blk_drew ?_ | refine blk_alloc ?_ _)); refine blk_far ?_ NB193_195.out _; (with_reducible repeat (first | refine blk_drewN ?_ _ | refine blk_drew ?_ | refine blk_alloc ?_ _)); exact BK193.out⟩, ⟨by (with_reducible repeat (first | refine blk_drewN ?_ _ | refine blk_drew ?_ | refine blk_alloc ?_ _)); refine blk_put (cs := #[.int .i64 ((rd_T30 l1 x16_1).f0), .int .i64 ((rd_T30 l1 x16_1).f1), .int .i64 ((rd_T30 l1 x16_1).f2), .slice none 0 0]) ?_ 3 _ rfl; (with_reducible repeat (first | refine blk_drewN ?_ _ | refine blk_drew ?_ | refine blk_alloc ?_ _)); refine blk_put (cs := #[.int .i64 ((rd_T30 l1 x16_1).f0), .int .i64 ((rd_T30 l1 x16_1).f1), .int .i64 0, .slice none 0 0]) ?_ 2 _ rfl; (with_reducible repeat (first | refine blk_drewN ?_ _ | refine blk_drew ?_ | refine blk_alloc ?_ _)); refine blk_put (cs := #[.int .i64 ((rd_T30 l1 x16_1).f0), .int .i64 0, .int .i64 0, .slice none 0 0]) ?_ 1 _ rfl; (with_reducible repeat (first | refine blk_drewN ?_ _ | refine blk_drew ?_ | refine blk_alloc ?_ _)); refine blk_put (cs := #[.int .i64 0, .int .i64 0, .int .i64 0, .slice none 0 0]) ?_ 0 _ rfl; (with_reducible repeat (first | refine blk_drewN ?_ _ | refine blk_drew ?_ | refine blk_alloc ?_ _)); exact BK195.out⟩, ⟨by repeat (first | (with_reducible first | exact HB.out | apply below_alloc | apply pw_below_drewN | apply below_drew1 | refine below_set ?_ GE193.out | refine below_set ?_ GE195.out) | exact HB.out)⟩⟩
                case rest =>
                  clear HC8
                  try clear c1
                  try clear p1
                  try clear q1
                  try clear hx1
                  try clear p2
                  try clear c3
                  try clear c3b0
                  try clear c3b1
                  try clear c3b2
                  try clear c4
                  try clear c4b0
                  try clear c5
                  try clear c5b0
                  try clear c6
                  try clear c6b0
                  try clear c7
                  try clear c7b0
                  try clear c12
                  try clear c14
                  try clear c14b0
                  try clear c15
                  try clear c18
                  try clear c19
                  try clear p19
                  try clear q19
                  try clear hx19
                  try clear hcz10_0
                  try clear hcz10_1
                  try clear hcz10_2
                  try clear hcz10_3
                  try clear hcz13_0
                  try clear hcz13_1
                  try clear hcz13_2
                  try clear hcz13_3
                  try clear hcz16_0
                  try clear hcz16_1
                  try clear hcz16_2
                  try clear hcz16_3
                  try clear hcz17_0
                  try clear hcz17_1
                  try clear hcz17_2
                  try clear hcz17_3
                  try clear hcz19_0
                  try clear hcz19_1
                  try clear hcz19_2
                  try clear hcz19_3
                  try clear hcz20_0
                  try clear hcz20_1
                  try clear hcz20_2
                  try clear hcz20_3
                  try clear hfz10_0
                  try clear hfz10_1
                  try clear hfz10_2
                  try clear hfz10_3
                  try clear hfz13_0
                  try clear hfz13_1
                  try clear hfz13_2
                  try clear hfz13_3
                  try clear hfz16_0
                  try clear hfz16_1
                  try clear hfz16_2
                  try clear hfz16_3
                  try clear hfz17_0
                  try clear hfz17_1
                  try clear hfz17_2
                  try clear hfz17_3
                  try clear hfz19_0
                  try clear hfz19_1
                  try clear hfz19_2
                  try clear hfz19_3
                  try clear hfz20_0
                  try clear hfz20_1
                  try clear hfz20_2
                  try clear hfz20_3
                  try clear hx192_0
                  try clear hx192_1
                  try clear hx192_2
                  try clear hx192_3
                  try clear hx194_0
                  try clear hx194_1
                  try clear hx194_2
                  try clear hx194_3
                  try clear p192
                  try clear p194
                  try clear p2
                  try clear q192
                  try clear q194
                  obtain ⟨kq, x43_7, rfl, HA, HJ7, BK193, BK195, HB⟩ := hcut
                  cases kq with
                  | zero => exact absurd HA.out (by simp [secateurlaw21_same.j1])
                  | succ kj7 =>
                    have H := HA.out
                    clear HA
                    simp only [secateurlaw21_same.j1] at H
                    by_cases c21 : x43_7 = true
                    · subst c21
                      have H1 : (some false) = some r := by rw [if_pos rfl] at H; exact H
                      clear H
                      have H := H1
                      clear H1
                      obtain rfl := Option.some.inj H
                      go_wp2
                      repeat (go_quiet (fail); try go_wp2)
                      go_ret
                      exact ⟨by first | rfl | (simp [errW_none, errW_some] <;> rfl) | (simp [*, errW_none, errW_some] <;> rfl), by repeat (first | (with_reducible first | exact HB.out | apply below_alloc | apply pw_below_drewN | apply below_drew1 | refine below_set ?_ GE193.out | refine below_set ?_ GE195.out) | exact HB.out)⟩
                    · replace c21 := Bool.eq_false_iff.mpr c21
                      subst c21
                      have H1 : (secateurlaw21_same.l1 kj7 l1 l0 (l0.length : Int) x16_1 (((rd_T28 l0 x16_1).f1).length : Int) 0 ((rd_T28 l0 x16_1).f0.f0) ((rd_T28 l0 x16_1).f0.f1) ((rd_T28 l0 x16_1).f0.f2) ((rd_T28 l0 x16_1).f1) ((rd_T30 l1 x16_1).f0) ((rd_T30 l1 x16_1).f1) ((rd_T30 l1 x16_1).f2) ((rd_T30 l1 x16_1).f3)) = some r := by rw [if_neg (show ¬ (false = true) by decide)] at H; exact H
                      clear H
                      have H := H1
                      clear H1
                      have H' := Aside0.mk H
                      clear H
                      have hnb22 := NB193_195.out
                      have hnc22 := NB195_193.out
                      have hcz23_0 : wc.cell? ⟨gb193, 0, none⟩ = some (.int .i64 ((rd_T28 l0 x16_1).f0.f0)) := (blk_cell BK193.out 0).trans rfl
                      have hcz23_1 : wc.cell? ⟨gb193, 1, none⟩ = some (.int .i64 ((rd_T28 l0 x16_1).f0.f1)) := (blk_cell BK193.out 1).trans rfl
                      have hcz23_2 : wc.cell? ⟨gb193, 2, none⟩ = some (.int .i64 ((rd_T28 l0 x16_1).f0.f2)) := (blk_cell BK193.out 2).trans rfl
                      have hcz23_3 : wc.cell? ⟨gb193, 3, none⟩ = some (.slice A192_3 ((rd_T28 l0 x16_1).f1).length c192_3) := (blk_cell BK193.out 3).trans rfl
                      have hfz23_0 := blk_frozen BK193.out 0
                      have hfz23_1 := blk_frozen BK193.out 1
                      have hfz23_2 := blk_frozen BK193.out 2
                      have hfz23_3 := blk_frozen BK193.out 3
                      go_wp2
                      repeat (go_quiet (fail); try go_wp2)
                      go_loopg [47] kj7 (fun kq v47 w' => ∃ (x47_3 : Int), v47 = .int .i64 x47_3 ∧ Aside0 (secateurlaw21_same.l1 kq l1 l0 (l0.length : Int) x16_1 (((rd_T28 l0 x16_1).f1).length : Int) x47_3 ((rd_T28 l0 x16_1).f0.f0) ((rd_T28 l0 x16_1).f0.f1) ((rd_T28 l0 x16_1).f0.f2) ((rd_T28 l0 x16_1).f1) ((rd_T30 l1 x16_1).f0) ((rd_T30 l1 x16_1).f1) ((rd_T30 l1 x16_1).f2) ((rd_T30 l1 x16_1).f3) = some r) ∧ Aside0 (kq ≤ kj7) ∧ Aside0 (w'.heap[gb193]? = some (.cells #[.int .i64 ((rd_T28 l0 x16_1).f0.f0), .int .i64 ((rd_T28 l0 x16_1).f0.f1), .int .i64 ((rd_T28 l0 x16_1).f0.f2), (.slice A192_3 ((rd_T28 l0 x16_1).f1).length c192_3)] 28 (0, 0))) ∧ Aside0 (w'.heap[gb195]? = some (.cells #[.int .i64 ((rd_T30 l1 x16_1).f0), .int .i64 ((rd_T30 l1 x16_1).f1), .int .i64 ((rd_T30 l1 x16_1).f2), (.slice A194_3 ((rd_T30 l1 x16_1).f3).length c194_3)] 30 (0, 0))) ∧ Aside0 (Below w.heap.size w w'))
                      case atStart => exact ⟨(0), (by first | rfl | (simp; done) | (simp [*]; done)), H', ⟨Nat.le_refl _⟩, ⟨by (with_reducible repeat (first | refine blk_drewN ?_ _ | refine blk_drew ?_ | refine blk_alloc ?_ _)); exact BK193.out⟩, ⟨by (with_reducible repeat (first | refine blk_drewN ?_ _ | refine blk_drew ?_ | refine blk_alloc ?_ _)); exact BK195.out⟩, ⟨by repeat (first | (with_reducible first | exact HB.out | apply below_alloc | apply pw_below_drewN | apply below_drew1 | refine below_set ?_ GE193.out | refine below_set ?_ GE195.out) | exact HB.out)⟩⟩
                      case round =>
                        clear H'
                        try clear c1
                        try clear p1
                        try clear q1
                        try clear hx1
                        try clear c2
                        try clear p2
                        try clear c3
                        try clear c3b0
                        try clear c3b1
                        try clear c3b2
                        try clear c4
                        try clear c4b0
                        try clear c5
                        try clear c5b0
                        try clear c6
                        try clear c6b0
                        try clear c7
                        try clear c7b0
                        try clear c12
                        try clear c14
                        try clear c14b0
                        try clear c15
                        try clear c18
                        try clear c19
                        try clear p19
                        try clear q19
                        try clear hx19
                        try clear c21
                        try clear c22
                        try clear hcz10_0
                        try clear hcz10_1
                        try clear hcz10_2
                        try clear hcz10_3
                        try clear hcz13_0
                        try clear hcz13_1
                        try clear hcz13_2
                        try clear hcz13_3
                        try clear hcz16_0
                        try clear hcz16_1
                        try clear hcz16_2
                        try clear hcz16_3
                        try clear hcz17_0
                        try clear hcz17_1
                        try clear hcz17_2
                        try clear hcz17_3
                        try clear hcz19_0
                        try clear hcz19_1
                        try clear hcz19_2
                        try clear hcz19_3
                        try clear hcz20_0
                        try clear hcz20_1
                        try clear hcz20_2
                        try clear hcz20_3
                        try clear hcz23_0
                        try clear hcz23_1
                        try clear hcz23_2
                        try clear hcz23_3
                        try clear hfz10_0
                        try clear hfz10_1
                        try clear hfz10_2
                        try clear hfz10_3
                        try clear hfz13_0
                        try clear hfz13_1
                        try clear hfz13_2
                        try clear hfz13_3
                        try clear hfz16_0
                        try clear hfz16_1
                        try clear hfz16_2
                        try clear hfz16_3
                        try clear hfz17_0
                        try clear hfz17_1
                        try clear hfz17_2
                        try clear hfz17_3
                        try clear hfz19_0
                        try clear hfz19_1
                        try clear hfz19_2
                        try clear hfz19_3
                        try clear hfz20_0
                        try clear hfz20_1
                        try clear hfz20_2
                        try clear hfz20_3
                        try clear hfz23_0
                        try clear hfz23_1
                        try clear hfz23_2
                        try clear hfz23_3
                        try clear hx192_0
                        try clear hx192_1
                        try clear hx192_2
                        try clear hx192_3
                        try clear hx194_0
                        try clear hx194_1
                        try clear hx194_2
                        try clear hx194_3
                        try clear p1
                        try clear p19
                        try clear p192
                        try clear p194
                        try clear p2
                        try clear q1
                        try clear q19
                        try clear q192
                        try clear q194
                        obtain ⟨x47_3, rfl, HA, HK3, BK193, BK195, HB⟩ := hrel
                        cases gk with
                        | zero => exact absurd HA.out (by simp [secateurlaw21_same.l1])
                        | succ k3 =>
                          have H := HA.out
                          clear HA
                          simp only [secateurlaw21_same.l1] at H
                          by_cases c24 : x47_3 < (((rd_T28 l0 x16_1).f1).length : Int)
                          · rw [if_pos c24] at H
                            have c24b0 : decide (x47_3 < (((rd_T28 l0 x16_1).f1).length : Int)) = true := decide_eq_true c24
                            clear c24
                            by_cases c25 : 0 ≤ x47_3
                            · rw [if_pos c25] at H
                              have c25b0 : decide (0 ≤ x47_3) = true := decide_eq_true c25
                              clear c25
                              by_cases c26 : x47_3 < (((rd_T28 l0 x16_1).f1).length : Int)
                              · rw [if_pos c26] at H
                                have c26b0 : decide (x47_3 < (((rd_T28 l0 x16_1).f1).length : Int)) = true := decide_eq_true c26
                                clear c26
                                by_cases c27 : x47_3 < (((rd_T30 l1 x16_1).f3).length : Int)
                                · rw [if_pos c27] at H
                                  have c27b0 : decide (x47_3 < (((rd_T30 l1 x16_1).f3).length : Int)) = true := decide_eq_true c27
                                  clear c27
                                  by_cases c28 : (rd ((rd_T28 l0 x16_1).f1) x47_3) = (rd ((rd_T30 l1 x16_1).f3) x47_3)
                                  · rw [if_pos c28] at H
                                    have c28b0 : ((rd ((rd_T28 l0 x16_1).f1) x47_3) == (rd ((rd_T30 l1 x16_1).f3) x47_3)) = true := beq_iff_eq.mpr c28
                                    have c28b1 : ((rd ((rd_T28 l0 x16_1).f1) x47_3) != (rd ((rd_T30 l1 x16_1).f3) x47_3)) = false := bne_eq_false_iff_eq.mpr c28
                                    clear c28
                                    have H' := Aside0.mk H
                                    clear H
                                    have hnb29 := NB193_195.out
                                    have hnc29 := NB195_193.out
                                    have hcz30_0 : wr.cell? ⟨gb193, 0, none⟩ = some (.int .i64 ((rd_T28 l0 x16_1).f0.f0)) := (blk_cell BK193.out 0).trans rfl
                                    have hcz30_1 : wr.cell? ⟨gb193, 1, none⟩ = some (.int .i64 ((rd_T28 l0 x16_1).f0.f1)) := (blk_cell BK193.out 1).trans rfl
                                    have hcz30_2 : wr.cell? ⟨gb193, 2, none⟩ = some (.int .i64 ((rd_T28 l0 x16_1).f0.f2)) := (blk_cell BK193.out 2).trans rfl
                                    have hcz30_3 : wr.cell? ⟨gb193, 3, none⟩ = some (.slice A192_3 ((rd_T28 l0 x16_1).f1).length c192_3) := (blk_cell BK193.out 3).trans rfl
                                    have hfz30_0 := blk_frozen BK193.out 0
                                    have hfz30_1 := blk_frozen BK193.out 1
                                    have hfz30_2 := blk_frozen BK193.out 2
                                    have hfz30_3 := blk_frozen BK193.out 3
                                    have p196 : 0 ≤ (x47_3 : Int) := of_decide_eq_true (by first | (with_reducible assumption) | assumption)
                                    have q196 : x47_3 < (((rd_T28 l0 x16_1).f1).length : Int) := of_decide_eq_true (by first | (with_reducible assumption) | assumption)
                                    obtain ⟨ad196, e196, hx196_0⟩ := Kd.at_int HR192_3.out x47_3 p196 q196
                                    cases e196
                                    replace hx196_0 := (HB.out.cell (World.block_lt_of_cell? w _ hx196_0)).trans hx196_0
                                    replace p196 := eq_true p196
                                    replace q196 := eq_true q196
                                    have hcz31_0 : wr.cell? ⟨gb195, 0, none⟩ = some (.int .i64 ((rd_T30 l1 x16_1).f0)) := (blk_cell BK195.out 0).trans rfl
                                    have hcz31_1 : wr.cell? ⟨gb195, 1, none⟩ = some (.int .i64 ((rd_T30 l1 x16_1).f1)) := (blk_cell BK195.out 1).trans rfl
                                    have hcz31_2 : wr.cell? ⟨gb195, 2, none⟩ = some (.int .i64 ((rd_T30 l1 x16_1).f2)) := (blk_cell BK195.out 2).trans rfl
                                    have hcz31_3 : wr.cell? ⟨gb195, 3, none⟩ = some (.slice A194_3 ((rd_T30 l1 x16_1).f3).length c194_3) := (blk_cell BK195.out 3).trans rfl
                                    have hfz31_0 := blk_frozen BK195.out 0
                                    have hfz31_1 := blk_frozen BK195.out 1
                                    have hfz31_2 := blk_frozen BK195.out 2
                                    have hfz31_3 := blk_frozen BK195.out 3
                                    have p197 : 0 ≤ (x47_3 : Int) := of_decide_eq_true (by first | (with_reducible assumption) | assumption)
                                    have q197 : x47_3 < (((rd_T30 l1 x16_1).f3).length : Int) := of_decide_eq_true (by first | (with_reducible assumption) | assumption)
                                    obtain ⟨ad197, e197, hx197_0⟩ := Kd.at_int HR194_3.out x47_3 p197 q197
                                    cases e197
                                    replace hx197_0 := (HB.out.cell (World.block_lt_of_cell? w _ hx197_0)).trans hx197_0
                                    replace p197 := eq_true p197
                                    replace q197 := eq_true q197
                                    go_wp2
                                    repeat (go_quiet (fail); try go_wp2)
                                    go_roundg k3
                                    case measure => have := HK1.out; have := HJ7.out; have := HK3.out; omega
                                    case rel => exact ⟨(wrap64 (x47_3 + 1)), (by first | rfl | (simp; done) | (simp [*]; done)), H', ⟨by have := HK1.out; have := HJ7.out; have := HK3.out; omega⟩, ⟨by (with_reducible repeat (first | refine blk_drewN ?_ _ | refine blk_drew ?_ | refine blk_alloc ?_ _)); exact BK193.out⟩, ⟨by (with_reducible repeat (first | refine blk_drewN ?_ _ | refine blk_drew ?_ | refine blk_alloc ?_ _)); exact BK195.out⟩, ⟨by repeat (first | (with_reducible first | exact HB.out | apply below_alloc | apply pw_below_drewN | apply below_drew1 | refine below_set ?_ GE193.out | refine below_set ?_ GE195.out) | exact HB.out)⟩⟩
                                  · rw [if_neg c28] at H
                                    have c28b0 : ((rd ((rd_T28 l0 x16_1).f1) x47_3) == (rd ((rd_T30 l1 x16_1).f3) x47_3)) = false := beq_eq_false_iff_ne.mpr c28
                                    have c28b1 : ((rd ((rd_T28 l0 x16_1).f1) x47_3) != (rd ((rd_T30 l1 x16_1).f3) x47_3)) = true := bne_iff_ne.mpr c28
                                    obtain rfl := Option.some.inj H
                                    have hnb32 := NB193_195.out
                                    have hnc32 := NB195_193.out
                                    have hcz33_0 : wr.cell? ⟨gb193, 0, none⟩ = some (.int .i64 ((rd_T28 l0 x16_1).f0.f0)) := (blk_cell BK193.out 0).trans rfl
                                    have hcz33_1 : wr.cell? ⟨gb193, 1, none⟩ = some (.int .i64 ((rd_T28 l0 x16_1).f0.f1)) := (blk_cell BK193.out 1).trans rfl
                                    have hcz33_2 : wr.cell? ⟨gb193, 2, none⟩ = some (.int .i64 ((rd_T28 l0 x16_1).f0.f2)) := (blk_cell BK193.out 2).trans rfl
                                    have hcz33_3 : wr.cell? ⟨gb193, 3, none⟩ = some (.slice A192_3 ((rd_T28 l0 x16_1).f1).length c192_3) := (blk_cell BK193.out 3).trans rfl
                                    have hfz33_0 := blk_frozen BK193.out 0
                                    have hfz33_1 := blk_frozen BK193.out 1
                                    have hfz33_2 := blk_frozen BK193.out 2
                                    have hfz33_3 := blk_frozen BK193.out 3
                                    have p196 : 0 ≤ (x47_3 : Int) := of_decide_eq_true (by first | (with_reducible assumption) | assumption)
                                    have q196 : x47_3 < (((rd_T28 l0 x16_1).f1).length : Int) := of_decide_eq_true (by first | (with_reducible assumption) | assumption)
                                    obtain ⟨ad196, e196, hx196_0⟩ := Kd.at_int HR192_3.out x47_3 p196 q196
                                    cases e196
                                    replace hx196_0 := (HB.out.cell (World.block_lt_of_cell? w _ hx196_0)).trans hx196_0
                                    replace p196 := eq_true p196
                                    replace q196 := eq_true q196
                                    have hcz34_0 : wr.cell? ⟨gb195, 0, none⟩ = some (.int .i64 ((rd_T30 l1 x16_1).f0)) := (blk_cell BK195.out 0).trans rfl
                                    have hcz34_1 : wr.cell? ⟨gb195, 1, none⟩ = some (.int .i64 ((rd_T30 l1 x16_1).f1)) := (blk_cell BK195.out 1).trans rfl
                                    have hcz34_2 : wr.cell? ⟨gb195, 2, none⟩ = some (.int .i64 ((rd_T30 l1 x16_1).f2)) := (blk_cell BK195.out 2).trans rfl
                                    have hcz34_3 : wr.cell? ⟨gb195, 3, none⟩ = some (.slice A194_3 ((rd_T30 l1 x16_1).f3).length c194_3) := (blk_cell BK195.out 3).trans rfl
                                    have hfz34_0 := blk_frozen BK195.out 0
                                    have hfz34_1 := blk_frozen BK195.out 1
                                    have hfz34_2 := blk_frozen BK195.out 2
                                    have hfz34_3 := blk_frozen BK195.out 3
                                    have p197 : 0 ≤ (x47_3 : Int) := of_decide_eq_true (by first | (with_reducible assumption) | assumption)
                                    have q197 : x47_3 < (((rd_T30 l1 x16_1).f3).length : Int) := of_decide_eq_true (by first | (with_reducible assumption) | assumption)
                                    obtain ⟨ad197, e197, hx197_0⟩ := Kd.at_int HR194_3.out x47_3 p197 q197
                                    cases e197
                                    replace hx197_0 := (HB.out.cell (World.block_lt_of_cell? w _ hx197_0)).trans hx197_0
                                    replace p197 := eq_true p197
                                    replace q197 := eq_true q197
                                    go_wp2
                                    repeat (go_quiet (fail); try go_wp2)
                                    go_ret
                                    exact ⟨by first | rfl | (simp [errW_none, errW_some] <;> rfl) | (simp [*, errW_none, errW_some] <;> rfl), by repeat (first | (with_reducible first | exact HB.out | apply below_alloc | apply pw_below_drewN | apply below_drew1 | refine below_set ?_ GE193.out | refine below_set ?_ GE195.out) | exact HB.out)⟩
                                · rw [if_neg c27] at H
                                  exact absurd H (by simp)
                              · rw [if_neg c26] at H
                                exact absurd H (by simp)
                            · rw [if_neg c25] at H
                              exact absurd H (by simp)
                          · rw [if_neg c24] at H
                            have c24b0 : decide (x47_3 < (((rd_T28 l0 x16_1).f1).length : Int)) = false := decide_eq_false c24
                            clear c24
                            have H' := Aside0.mk H
                            clear H
                            go_wp2
                            repeat (go_quiet (fail); try go_wp2)
                            go_roundg k3
                            case measure => have := HK1.out; have := HJ7.out; have := HK3.out; omega
                            case rel => exact ⟨(wrap64 (x16_1 + 1)), (by first | rfl | (simp; done) | (simp [*]; done)), H', ⟨by have := HK1.out; have := HJ7.out; have := HK3.out; omega⟩, ⟨by repeat (first | (with_reducible first | exact HB.out | apply below_alloc | apply pw_below_drewN | apply below_drew1 | refine below_set ?_ GE193.out | refine below_set ?_ GE195.out) | exact HB.out)⟩⟩
              · rw [if_neg c7] at H
                exact absurd H (by simp)
            · rw [if_neg c6] at H
              exact absurd H (by simp)
          · rw [if_neg c5] at H
            exact absurd H (by simp)
        · rw [if_neg c4] at H
          have c4b0 : decide (x16_1 < (l0.length : Int)) = false := decide_eq_false c4
          clear c4
          obtain rfl := Option.some.inj H
          go_wp2
          repeat (go_quiet (fail); try go_wp2)
          go_ret
          exact ⟨by first | rfl | (simp [errW_none, errW_some] <;> rfl) | (simp [*, errW_none, errW_some] <;> rfl), by repeat (first | (with_reducible first | exact HB.out | apply below_alloc | apply pw_below_drewN | apply below_drew1) | exact HB.out)⟩
  · rw [if_neg c3] at H
    have c3b0 : ((l0.length : Int) == (l1.length : Int)) = false := beq_eq_false_iff_ne.mpr c3
    have c3b1 : ((l0.length : Int) != (l1.length : Int)) = true := bne_iff_ne.mpr c3
    have c3b2 : (l0.length == l1.length) = false := by first | simpa using c3 | (simp at c3 ⊢; omega)
    obtain rfl := Option.some.inj H
    go_enter Try.func15, Try.ntmps15
    go_wp2
    repeat (go_quiet (fail); try go_wp2)
    go_ret
    exact ⟨by first | rfl | (simp [errW_none, errW_some] <;> rfl) | (simp [*, errW_none, errW_some] <;> rfl), by repeat (first | (with_reducible first | exact HB.out | apply below_alloc | apply pw_below_drewN | apply below_drew1) | exact HB.out)⟩

-- NOT PRINTED: function 3 (secateurlaw21_SpillBytes)

end Go.Proofs.Ytebbikihhkjaaaa.PSpillBytes
