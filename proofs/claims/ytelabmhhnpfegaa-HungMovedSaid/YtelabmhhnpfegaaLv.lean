/- The law's signs of life: walked. Without conditions. -/
import Derived.Test.YtelabmhhnpfegaaLw
namespace Go.Proofs.Ytelabmhhnpfegaa.Hand
open Go.RowKit Go.Proofs.YtelabmhhnpfegaaW.PrintWords Go.Proofs.YtelabmhhnpfegaaW.PrintLast Go.Proofs.YtelabmhhnpfegaaW.PrintMore
def wt : Tb := ⟨2, fun i k => if i = 0 then (if k = 0 then 4 else 1) else (if k = 0 then 2 else 0), fun _ _ => false⟩
theorem two_cases {i : Nat} (h : i < 2) : i = 0 ∨ i = 1 := by omega
theorem blk_at {w : World} {g : Nat} {cs : Array Value} {t : TypeId} (h : w.heap[g]? = some (.cells cs t (0, 0))) {i : Nat} {v : Value} (hi : cs[i]? = some v) : w.cell? ((⟨g, 0, none⟩ : Addr).add i) = some v := by
  have hadd : (⟨g, 0, none⟩ : Addr).add i = ⟨g, i, none⟩ := by unfold Addr.add; split <;> simp_all
  rw [hadd, blk_cell h, hi]
theorem wt_tab {W : World} {s : Nat} {s1 s2 s3 s4 s5 : Nat} (h0 : W.heap[s]? = some (.cells #[.int .i64 4, .int .i64 1] 2 (0, 0))) (h1 : W.heap[s1]? = some (.cells #[.int .i64 2, .int .i64 0] 2 (0, 0)))
    (h2 : W.heap[s2]? = some (.cells #[.slice (some ⟨s, 0, none⟩) 2 2, .slice (some ⟨s1, 0, none⟩) 2 2] 30 (0, 0))) (h3 : W.heap[s3]? = some (.cells #[.bool false, .bool false] 4 (0, 0))) (h4 : W.heap[s4]? = some (.cells #[.bool false, .bool false] 4 (0, 0)))
    (h5 : W.heap[s5]? = some (.cells #[.slice (some ⟨s3, 0, none⟩) 2 2, .slice (some ⟨s4, 0, none⟩) 2 2] 35 (0, 0))) : TabR W (some ⟨s2, 0, none⟩) (some ⟨s5, 0, none⟩) wt := by
  constructor
  · intro i hi
    rcases two_cases hi with rfl | rfl
    · refine ⟨_, ⟨s, 0, none⟩, 2, rfl, blk_at h2 rfl, fun k hk => ?_⟩
      rcases two_cases hk with rfl | rfl
      · exact blk_at h0 rfl
      · exact blk_at h0 rfl
    · refine ⟨_, ⟨s1, 0, none⟩, 2, rfl, blk_at h2 rfl, fun k hk => ?_⟩
      rcases two_cases hk with rfl | rfl
      · exact blk_at h1 rfl
      · exact blk_at h1 rfl
  · intro i hi
    rcases two_cases hi with rfl | rfl
    · refine ⟨_, ⟨s3, 0, none⟩, 2, rfl, blk_at h5 rfl, fun k hk => ?_⟩
      rcases two_cases hk with rfl | rfl
      · exact blk_at h3 rfl
      · exact blk_at h3 rfl
    · refine ⟨_, ⟨s4, 0, none⟩, 2, rfl, blk_at h5 rfl, fun k hk => ?_⟩
      rcases two_cases hk with rfl | rfl
      · exact blk_at h4 rfl
      · exact blk_at h4 rfl
theorem wt_ok : TbOk wt := ⟨by decide, fun i k hi hk => by
  rcases two_cases hi with rfl | rfl <;> rcases two_cases hk with rfl | rfl <;> simp [wt]⟩
theorem wt_swap : PM wt.n wt.no (fun i => 1 - i) := ⟨⟨fun i hi => by show 1 - i < 2; omega, fun i j hi hj e => by
  have hi' : i < 2 := hi
  have hj' : j < 2 := hj
  have e' : 1 - i = 1 - j := e
  omega⟩, fun _ _ => rfl⟩
theorem wt_told {σ : Nat → Nat} (h : PM wt.n wt.no σ) (hl : ∀ τ, PM wt.n wt.no τ → cost wt.n wt.c σ ≤ cost wt.n wt.c τ) : cost wt.n wt.c σ = 3 ∧ σ 0 = 1 ∧ σ 1 = 0 := by
  have h3 := hl _ wt_swap
  have e3 : cost wt.n wt.c (fun i => 1 - i) = 3 := by decide
  rw [e3] at h3
  have a0 : σ 0 < 2 := h.inj.lt 0 (by decide)
  have a1 : σ 1 < 2 := h.inj.lt 1 (by decide)
  have ne : σ 0 ≠ σ 1 := fun e => by
    have := h.inj.inj 0 1 (by decide) (by decide) e
    omega
  have ec : cost wt.n wt.c σ = wt.c 0 (σ 0) + wt.c 1 (σ 1) := by simp [cost, sumTo, wt, List.range_succ]
  rcases two_cases a0 with e0 | e0
  · rw [ec, e0, show σ 1 = 1 by omega] at h3
    simp [wt] at h3
  · rw [ec, e0, show σ 1 = 0 by omega]
    simp [wt]
set_option maxHeartbeats 1000000 in
set_option maxRecDepth 100000 in
theorem wakes_any (w : World) : Calls Try.prog 14 #[] w fun e w' => e = .returned (.bool true) ∧ Below w.heap.size w w' := by
  have hu := Try.underlying27
  have hu2 := Try.underlying32
  go_enter Try.func14, Try.ntmps14
  go_wp2_with fail
  refine (solve_any _ _ _ 2 2 wt (wt_tab (s := w.heap.size) (s1 := w.heap.size + 1) (s3 := w.heap.size + 1 + 1 + 1) (s4 := w.heap.size + 1 + 1 + 1 + 1) ?_ ?_ ?_ ?_ ?_ ?_) wt_ok).mono ?_
  case refine_7 =>
    rintro _ w1 ⟨m, okv, rfl, T⟩
    have B0 : Aside0 (Below w.heap.size w w1) := ⟨by
      obtain ⟨ok, _, T⟩ := T.out
      exact (below_alloc (below_alloc (below_alloc (below_alloc (below_alloc (below_alloc (Below.refl _ _) _) _) _) _) _) _).trans (T.below.mono (by simp; omega))⟩
    obtain ⟨⟨ok, rfl, T⟩⟩ := T
    cases ok with
    | false => exact absurd wt_swap ((T.no rfl).2 _)
    | true =>
      obtain ⟨σ, u, v, of, C, r, c, rfl, D, i1, _, _⟩ := T.yes rfl
      obtain ⟨e3, e1, e0⟩ := wt_told D.pm (by
        exact D.least.2)
      rw [e3]
      have I1 := Aside0.mk i1
      have c0 : w1.cell? ⟨C, 0, none⟩ = some (.int .i64 1) := by rw [i1.c (i := 0) (by decide), e1]; rfl
      have c1 : w1.cell? ⟨C, 1, none⟩ = some (.int .i64 0) := by rw [i1.c (i := 1) (by decide), e0]; rfl
      have hn : wt.n = 2 := rfl
      have hC : C ≠ w1.heap.size := Nat.ne_of_lt (blk_lt i1)
      have hC2 : C < w1.heap.size := blk_lt i1
      rw [hn]
      clear T D i1 e3 e1 e0 hn
      go_wp2_with fail
      go_ret
      exact ⟨rfl, below_alloc B0.out _⟩
  all_goals
    simp only [al_get, al_size]
    repeat (first | rw [if_pos trivial] | rw [if_neg (by omega)])
end Go.Proofs.Ytelabmhhnpfegaa.Hand
