/- The law's signs of life: walked. -/
import Derived.Test.YtelabmhhnpfegaaDu
namespace Go.Proofs.Ytelabmhhnpfegaa.Hand
open Go.RowKit Go.Proofs.YtelabmhhnpfegaaW.PrintWords Go.Proofs.YtelabmhhnpfegaaW.PrintLast Go.Proofs.YtelabmhhnpfegaaW.PrintMore Go.Proofs.Ytelabmhhnpfegaa.PDynCells
def wkP : PI := ⟨0, 5, [⟨6, 3⟩, ⟨5, 4⟩], [], 0, []⟩
theorem wk_ok : PIok wkP := ⟨by decide, by decide, by decide, fun r hr => absurd hr List.not_mem_nil, fun s hs => absurd hs List.not_mem_nil⟩
theorem wk_iok : IOk wkP := by
  refine ⟨by decide, fun h => absurd rfl h, fun _ => rfl, fun _ => ⟨rfl, rfl⟩, fun h => ?_, by decide, by decide, by decide, fun r hr => absurd hr List.not_mem_nil, fun s hs => absurd hs List.not_mem_nil, by decide, ?_, fun r hr => absurd hr List.not_mem_nil, fun s hs => absurd hs List.not_mem_nil, fun h => ?_⟩
  · rcases h with h | h <;> cases h
  · intro s hs
    simp only [wkP, List.mem_cons, List.not_mem_nil, or_false] at hs
    rcases hs with rfl | rfl <;> decide
  · cases h
theorem wk_room : roomP wkP = 5 := by decide
theorem wk_cells : cellsP wkP = (18, 0) := by
  unfold cellsP
  rw [if_pos (iok.2 wk_iok)]
  decide
theorem wk_row : rowK 6 wkP.items 2 = [0, 0, 0, 6, 6, 6] := by decide
theorem wk_tb : (tbk 6 wkP.items 2 5).reverse = [0] := by decide
set_option maxHeartbeats 1000000 in
set_option maxRecDepth 100000 in
theorem wakes_any (w : World) : Calls Try.prog 24 #[] w fun e w' => e = .returned (.bool true) ∧ Below w.heap.size w w' := by
  have hu54 := Try.underlying54
  have hu101 := Try.underlying101
  go_enter Try.func24, Try.ntmps24
  go_upto_region 2 with fail
  obtain ⟨W0, hW0⟩ : ∃ W, W = w.alloc (.cells #[.int .i64 6, .int .i64 3, .int .i64 5, .int .i64 4] 101) := ⟨_, rfl⟩
  have RI : Aside0 (k101.R 101 W0 w.heap.size (fun _ => True) (.slice (some ⟨w.heap.size, 0, none⟩) 2 2) wkP.items) := ⟨by
    rw [hW0]
    exact R_litw k101 w w.heap.size 101 (xs := wkP.items) (inner := [.int .i64 6, .int .i64 3, .int .i64 5, .int .i64 4]) (ok := fun _ => True) (okp := fun _ => True) (Reps.front (k101_mkM _ _ _ ⟨6, 3⟩) rfl (Reps.front (k101_mkM _ _ _ ⟨5, 4⟩) rfl (Reps.none _ _) rfl) rfl) (fun _ h => h) trivial (Nat.le_refl _) (by decide)⟩
  rw [← hW0]
  obtain ⟨W1, hW1⟩ : ∃ W, W = W0.alloc (.cells #[.int .i64 0, .int .i64 5, .slice (some ⟨w.heap.size, 0, none⟩) 2 2, .slice none 0 0, .int .i64 0, .slice none 0 0] 54) := ⟨_, rfl⟩
  rw [← hW1]
  have B1 : Aside0 (Below w.heap.size w W1) := ⟨by rw [hW1, hW0]; exact below_alloc (below_alloc (Below.refl _ _) _) _⟩
  have Q1 : Aside0 (W1.heap[w.heap.size + 1]? = some (.cells #[.int .i64 0, .int .i64 5, .slice (some ⟨w.heap.size, 0, none⟩) 2 2, .slice none 0 0, .int .i64 0, .slice none 0 0] 54 (0, 0))) := ⟨by
    rw [hW1, hW0]
    simp only [al_get, al_size]
    rw [if_pos trivial]⟩
  have IC : Aside0 (InstC W1 wkP (.agg #[.int .i64 0, .int .i64 5, .slice (some ⟨w.heap.size, 0, none⟩) 2 2, .slice none 0 0, .int .i64 0, .slice none 0 0])) := ⟨by
    have hr := (R_C RI.out).1
    refine ⟨_, 2, none, 0, none, 0, rfl, ?_, by decide, Kd.C_nil _ _, Nat.le_refl _, Kd.C_nil _ _, Nat.le_refl _⟩
    rw [hW1]
    exact Kd.C_alloc hr _⟩
  obtain ⟨p1, hp1⟩ : ∃ p, p = w.heap.size + 1 := ⟨_, rfl⟩
  obtain ⟨p0, hp0⟩ : ∃ p, p = w.heap.size := ⟨_, rfl⟩
  rw [← hp0] at IC Q1 ⊢
  rw [show p0 + 1 = p1 by omega] at Q1 ⊢
  clear hW0 hW1 hp0 hp1 RI
  have q0 : W1.cell? ⟨p1, 0, none⟩ = some (.int .i64 0) := (blk_cell Q1.out 0).trans rfl
  have q1 : W1.cell? ⟨p1, 1, none⟩ = some (.int .i64 5) := (blk_cell Q1.out 1).trans rfl
  have q2 : W1.cell? ⟨p1, 2, none⟩ = some (.slice (some ⟨p0, 0, none⟩) 2 2) := (blk_cell Q1.out 2).trans rfl
  have q3 : W1.cell? ⟨p1, 3, none⟩ = some (.slice none 0 0) := (blk_cell Q1.out 3).trans rfl
  have q4 : W1.cell? ⟨p1, 4, none⟩ = some (.int .i64 0) := (blk_cell Q1.out 4).trans rfl
  have q5 : W1.cell? ⟨p1, 5, none⟩ = some (.slice none 0 0) := (blk_cell Q1.out 5).trans rfl
  go_wp2_with fail
  clear q0 q1 q2 q3 q4 q5
  refine (cells_any W1 wkP _ IC.out wk_ok).mono ?_
  rintro _ W2 ⟨rfl, B2'⟩
  have B2 := Aside0.mk B2'
  clear B2'
  rw [wk_cells]
  have Q2 : Aside0 (W2.heap[p1]? = some (.cells #[.int .i64 0, .int .i64 5, .slice (some ⟨p0, 0, none⟩) 2 2, .slice none 0 0, .int .i64 0, .slice none 0 0] 54 (0, 0))) := ⟨blk_below Q1.out B2.out⟩
  have q0 : W2.cell? ⟨p1, 0, none⟩ = some (.int .i64 0) := (blk_cell Q2.out 0).trans rfl
  have q1 : W2.cell? ⟨p1, 1, none⟩ = some (.int .i64 5) := (blk_cell Q2.out 1).trans rfl
  have q2 : W2.cell? ⟨p1, 2, none⟩ = some (.slice (some ⟨p0, 0, none⟩) 2 2) := (blk_cell Q2.out 2).trans rfl
  have q3 : W2.cell? ⟨p1, 3, none⟩ = some (.slice none 0 0) := (blk_cell Q2.out 3).trans rfl
  have q4 : W2.cell? ⟨p1, 4, none⟩ = some (.int .i64 0) := (blk_cell Q2.out 4).trans rfl
  have q5 : W2.cell? ⟨p1, 5, none⟩ = some (.slice none 0 0) := (blk_cell Q2.out 5).trans rfl
  go_wp2_with fail
  clear q0 q1 q2 q3 q4 q5
  have hb := best_0 W2 wkP _ (IC.out.below B2.out) wk_ok (by rw [wk_cells]) rfl
  rw [wk_room, show ((5 : Int) + 1).toNat = 6 from rfl, show (5 : Int).toNat = 5 from rfl, show wkP.items.length = 2 from rfl, wk_row, wk_tb] at hb
  refine hb.mono ?_
  clear hb
  rintro _ W3 ⟨v3, rfl, ⟨⟨A3, n3, c3, e3, C3⟩, B3'⟩⟩
  subst e3
  have hl3 : 1 = n3 := C3.1
  subst hl3
  have B3 := Aside0.mk B3'
  obtain ⟨a3, e, x3⟩ := at_Int C3 0 (by omega)
  subst e
  have X3 : Aside0 (W3.cell? a3 = some (.int .i64 0)) := ⟨x3⟩
  clear x3 B3' C3
  have Q3 : Aside0 (W3.heap[p1]? = some (.cells #[.int .i64 0, .int .i64 5, .slice (some ⟨p0, 0, none⟩) 2 2, .slice none 0 0, .int .i64 0, .slice none 0 0] 54 (0, 0))) := ⟨blk_below Q2.out B3.out⟩
  have q0 : W3.cell? ⟨p1, 0, none⟩ = some (.int .i64 0) := (blk_cell Q3.out 0).trans rfl
  have q1 : W3.cell? ⟨p1, 1, none⟩ = some (.int .i64 5) := (blk_cell Q3.out 1).trans rfl
  have q2 : W3.cell? ⟨p1, 2, none⟩ = some (.slice (some ⟨p0, 0, none⟩) 2 2) := (blk_cell Q3.out 2).trans rfl
  have q3 : W3.cell? ⟨p1, 3, none⟩ = some (.slice none 0 0) := (blk_cell Q3.out 3).trans rfl
  have q4 : W3.cell? ⟨p1, 4, none⟩ = some (.int .i64 0) := (blk_cell Q3.out 4).trans rfl
  have q5 : W3.cell? ⟨p1, 5, none⟩ = some (.slice none 0 0) := (blk_cell Q3.out 5).trans rfl
  go_wp2_with fail
  clear q0 q1 q2 q3 q4 q5
  have hf := front_ok W3 wkP _ ((IC.out.below B2.out).below B3.out) wk_ok (by rw [wk_cells]) rfl
  rw [wk_room, show ((5 : Int) + 1).toNat = 6 from rfl, show wkP.items.length = 2 from rfl, wk_row] at hf
  refine hf.mono ?_
  clear hf
  rintro _ W4 ⟨a4, c4, rfl, ⟨C4, B4'⟩⟩
  have B4 := Aside0.mk B4'
  obtain ⟨ae, e, x2⟩ := at_Int C4 2 (by omega)
  injection e with e
  subst e
  obtain ⟨ae, e, x3⟩ := at_Int C4 3 (by omega)
  injection e with e
  subst e
  have y2 : W4.cell? ⟨a4.block, a4.off + 2, none⟩ = some (.int .i64 0) := x2
  have y3 : W4.cell? ⟨a4.block, a4.off + 3, none⟩ = some (.int .i64 6) := x3
  have y0 := pw_cell_below B4.out X3.out
  clear x2 x3 C4 B4'
  go_wp2_with fail
  go_ret
  exact ⟨rfl, B1.out.trans ((B2.out.trans ((B3.out.trans (B4.out.mono B3.out.size)).mono B2.out.size)).mono B1.out.size)⟩
end Go.Proofs.Ytelabmhhnpfegaa.Hand
