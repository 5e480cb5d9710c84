/- The work begins: walked. -/
import Derived.Test.YtelabmhhnpfegaaHk
namespace Go.Proofs.Ytelabmhhnpfegaa.Hand
open Go.RowKit Go.Proofs.YtelabmhhnpfegaaW.PrintWords Go.Proofs.YtelabmhhnpfegaaW.PrintMore
theorem Wk.setO {W : World} {G : Geo} {u v of : Nat → Int} (h : Wk W G u v of) (i : Nat) (x : Int) : Wk (W.setCell ⟨G.o, i, none⟩ (.int .i64 x)) G u v (upd of i x) := by
  obtain ⟨a1, a2, a3, a4, a5⟩ := h
  have A4 := a4
  unfold IB at a2 a3 a4
  exact ⟨blk_far a1 (ty_ne a1 a4 (by decide)) _, blk_far a2 (ty_ne a2 a4 (by decide)) _, blk_far a3 (ty_ne a3 a4 (by decide)) _, A4.set i x, a5⟩
theorem wk_made {W : World} (s r c o n cC cN : Nat) (AC AN : Option Addr) (hs : s = W.heap.size) (hr : IB W r 2 n fun _ => 0) (hc : IB W c 2 n fun _ => 0) (ho : IB W o 3 n fun _ => 0) (ne : r ≠ c) :
    Wk (W.alloc (.cells #[.slice AC n cC, .slice AN n cN, .slice (some ⟨r, 0, none⟩) n n, .slice (some ⟨c, 0, none⟩) n n, .slice (some ⟨o, 0, none⟩) n n] 132)) ⟨n, AC, cC, AN, cN, s, r, c, o⟩ (fun _ => 0) (fun _ => 0) (fun _ => 0) := by
  subst hs
  have hb : Below W.heap.size W (W.alloc (.cells #[.slice AC n cC, .slice AN n cN, .slice (some ⟨r, 0, none⟩) n n, .slice (some ⟨c, 0, none⟩) n n, .slice (some ⟨o, 0, none⟩) n n] 132)) := below_alloc (Below.refl _ _) _
  have mv : ∀ {g : Nat} {o' : Obj}, W.heap[g]? = some o' → (W.alloc (.cells #[.slice AC n cC, .slice AN n cN, .slice (some ⟨r, 0, none⟩) n n, .slice (some ⟨c, 0, none⟩) n n, .slice (some ⟨o, 0, none⟩) n n] 132)).heap[g]? = some o' := fun hg => (hb.block _ (blk_lt hg)).trans hg
  exact ⟨blk_new W _, mv hr, mv hc, mv ho, ne⟩
theorem Wk.drew {W : World} {G : Geo} {u v of : Nat → Int} (h : Wk W G u v of) : Wk W.drew G u v of := h.below (below_drew (Below.refl _ _))
def ofK (k : Nat) : Nat → Int := fun j => if j < k then -1 else 0
theorem ofK_zero : ofK 0 = fun _ => 0 := by
  funext j
  exact if_neg (Nat.not_lt_zero _)
theorem ofK_succ {k : Nat} : ofK (k + 1) = upd (ofK k) k (-1) := by
  funext j
  unfold ofK upd
  by_cases hj : j = k
  · rw [if_pos hj, if_pos (by omega)]
  · rw [if_neg hj]
    by_cases hk : j < k
    · simp only [if_pos hk]
      exact if_pos (by omega)
    · simp only [if_neg hk]
      exact if_neg (by omega)
set_option maxHeartbeats 2000000 in
set_option maxRecDepth 100000 in
theorem start_any (w : World) (AC AN : Option Addr) (n cC cN : Nat) (hn64 : n ≤ 64) :
    Calls Try.prog 36 #[.agg #[.slice AC n cC, .slice AN n cN]] w fun e w' => ∃ G : Geo, G.n = n ∧ G.AC = AC ∧ G.AN = AN ∧ e = .returned (.pointer (some ⟨G.w, 0, none⟩)) ∧ Wk w' G (fun _ => 0) (fun _ => 0) (fun _ => -1) ∧ Below w.heap.size w w' ∧ Hi0 w.heap.size G := by
  have hu := Try.underlying27
  have m1 := mk30 n hn64
  have m2 := mk29 n hn64
  go_enter Try.func36, Try.ntmps36
  go_upto_region 2 with fail
  go_cut [4] from 9 to 17 (fun s4 wx => ∃ G : Geo, s4 = .pointer (some ⟨G.w, 0, none⟩) ∧ Aside0 (G.n = n ∧ G.AC = AC ∧ G.AN = AN ∧ Wk wx G (fun _ => 0) (fun _ => 0) (ofK 0) ∧ Below w.heap.size w wx ∧ Hi0 w.heap.size G))
  case first =>
    go_region
    all_goals
      go_wp2_with fail
      go_meet
      rw [ofK_zero]
      refine ⟨⟨n, AC, cC, AN, cN, _, _, _, _⟩, rfl, ⟨rfl, rfl, rfl, Wk.drew (wk_made _ _ _ _ n cC cN AC AN ?_ ?_ ?_ ?_ ?_), below_drew (below_alloc (below_alloc (below_alloc (below_alloc (below_alloc (Below.refl _ _) _) _) _) _) _), ⟨?_, ?_, ?_, ?_⟩⟩⟩
      · simp
      iterate 3
        · simp only [IB, al_get, al_size]
          repeat (first | rw [if_pos trivial] | rw [if_pos (by omega)] | rw [if_neg (by omega)])
      · omega
      all_goals (dsimp only; omega)
  case rest =>
    clear m1 m2
    obtain ⟨G, rfl, A⟩ := hcut
    have HN : Aside0 (n = G.n) := ⟨A.out.1.symm⟩
    have K0 : Aside0 (Wk wc G (fun _ => 0) (fun _ => 0) (ofK 0)) := ⟨A.out.2.2.2.1⟩
    have B0 : Aside0 (Below w.heap.size w wc) := ⟨A.out.2.2.2.2.1⟩
    have f4 := K0.out.w4
    rw [← HN.out] at f4
    go_wp2_with fail
    clear f4
    go_loopw [23] (fun v23 wr => ∃ k : Nat, k ≤ n ∧ v23 = .int .i64 k ∧ Aside0 (Wk wr G (fun _ => 0) (fun _ => 0) (ofK k)) ∧ Aside0 (Below w.heap.size w wr)) (fun v _ => n - (intOf v).toNat)
    case atStart => exact ⟨0, Nat.zero_le _, rfl, K0, B0⟩
    case round =>
      clear K0 B0
      obtain ⟨k, hk, rfl, K, BW⟩ := hrel
      by_cases hlt : k < n
      · have hkn : k < G.n := by rw [← HN.out]; exact hlt
        have f4 := K.out.w4
        rw [← HN.out] at f4
        have eo := K.out.of.c hkn
        have zo := K.out.of.z k
        have NX := Aside0.mk (ofK_succ (k := k))
        go_wp2_with fail
        go_roundw
        case measure => simp [intOf]; omega
        case rel =>
          refine ⟨k + 1, by omega, by go_num, ⟨?_⟩, ⟨?_⟩⟩
          · rw [NX.out]
            exact K.out.setO k (-1)
          · exact BW.out.setCell A.out.2.2.2.2.2.o _
      · obtain rfl : k = n := by omega
        go_wp2_with fail
        go_ret
        obtain ⟨a1, a2, a3, _, _, a6⟩ := A.out
        refine ⟨G, a1, a2, a3, rfl, ?_, BW.out, a6⟩
        have hN := HN.out
        obtain ⟨b1, b2, b3, b4, b5⟩ := K.out
        refine ⟨b1, b2, b3, ?_, b5⟩
        unfold IB at b4 ⊢
        rw [b4, tabI_congr (g := fun _ => -1) (fun i hi => by simp only [ofK]; exact if_pos (by omega))]
end Go.Proofs.Ytelabmhhnpfegaa.Hand
