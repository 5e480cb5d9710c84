/- The work begins: walked. -/
import Derived.Test.YtelabmhhnpfegaaJk
namespace Go.Proofs.Ytelabmhhnpfegaa.Hand
open Go.RowKit Go.Proofs.YtelabmhhnpfegaaW.PrintWords Go.Proofs.YtelabmhhnpfegaaW.PrintMore
theorem Wk.setO {W : World} {G : Geo} {u v of : Nat → Int} (h : Wk W G u v of) (i : Nat) (x : Int) : Wk (W.setCell ⟨G.o, i, none⟩ (.int .i64 x)) G u v (upd of i x) := by
  obtain ⟨a1, a2, a3, a4, a5⟩ := h
  have A4 := a4
  unfold IB at a2 a3 a4
  exact ⟨blk_far a1 (ty_ne a1 a4 (by decide)) _, blk_far a2 (ty_ne a2 a4 (by decide)) _, blk_far a3 (ty_ne a3 a4 (by decide)) _, A4.set i x, a5⟩
theorem wk_made {W : World} (s r c o n cC cN : Nat) (AC AN : Option Addr) (hs : s = W.heap.size) (hr : IB W r 2 n fun _ => 0) (hc : IB W c 2 n fun _ => 0) (ho : IB W o 3 n fun _ => 0) (ne : r ≠ c) :
    Wk (W.alloc (.cells #[.slice AC n cC, .slice AN n cN, .slice (some ⟨r, 0, none⟩) n n, .slice (some ⟨c, 0, none⟩) n n, .slice (some ⟨o, 0, none⟩) n n] 132)) ⟨n, AC, cC, AN, cN, s, r, c, o⟩ (fun _ => 0) (fun _ => 0) (fun _ => 0) := by
  subst hs
  have hb : Below W.heap.size W (W.alloc (.cells #[.slice AC n cC, .slice AN n cN, .slice (some ⟨r, 0, none⟩) n n, .slice (some ⟨c, 0, none⟩) n n, .slice (some ⟨o, 0, none⟩) n n] 132)) := below_alloc (Below.refl _ _) _
  have mv : ∀ {g : Nat} {o' : Obj}, W.heap[g]? = some o' → (W.alloc (.cells #[.slice AC n cC, .slice AN n cN, .slice (some ⟨r, 0, none⟩) n n, .slice (some ⟨c, 0, none⟩) n n, .slice (some ⟨o, 0, none⟩) n n] 132)).heap[g]? = some o' := fun hg => (hb.block _ (blk_lt hg)).trans hg
  exact ⟨blk_new W _, mv hr, mv hc, mv ho, ne⟩
theorem Wk.drew {W : World} {G : Geo} {u v of : Nat → Int} (h : Wk W G u v of) : Wk W.drew G u v of := h.below (below_drew (Below.refl _ _))
def ofK (k : Nat) : Nat → Int := fun j => if j < k then -1 else 0
theorem ofK_zero : ofK 0 = fun _ => 0 := by
  funext j
  exact if_neg (Nat.not_lt_zero _)
theorem ofK_succ {k : Nat} : ofK (k + 1) = upd (ofK k) k (-1) := by
  funext j
  unfold ofK upd
  by_cases hj : j = k
  · rw [if_pos hj, if_pos (by omega)]
  · rw [if_neg hj]
    by_cases hk : j < k
    · simp only [if_pos hk]
      exact if_pos (by omega)
    · simp only [if_neg hk]
      exact if_neg (by omega)
set_option maxHeartbeats 2000000 in
set_option maxRecDepth 100000 in
theorem start_any (w : World) (AC AN : Option Addr) (n cC cN : Nat) (hn64 : n ≤ 64) :
    Calls Try.prog 36 #[.agg #[.slice AC n cC, .slice AN n cN]] w fun e w' => ∃ G : Geo, G.n = n ∧ G.AC = AC ∧ G.AN = AN ∧ e = .returned (.pointer (some ⟨G.w, 0, none⟩)) ∧ Wk w' G (fun _ => 0) (fun _ => 0) (fun _ => -1) ∧ Below w.heap.size w w' ∧ Hi0 w.heap.size G := by
  have hu := Try.underlying27
  have m1 := mk30 n hn64
  have m2 := mk29 n hn64
  go_enter Try.func36, Try.ntmps36
  go_upto_region 2 with fail
  go_cut [4] from 9 to 17 (fun s4 wx => ∃ G : Geo, s4 = .pointer (some ⟨G.w, 0, none⟩) ∧ Aside0 (G.n = n ∧ G.AC = AC ∧ G.AN = AN ∧ Wk wx G (fun _ => 0) (fun _ => 0) (ofK 0) ∧ Below w.heap.size w wx ∧ Hi0 w.heap.size G))
  case first =>
    go_region
    all_goals
      go_wp2_with fail
      go_meet
      rw [ofK_zero]
      refine ⟨⟨n, AC, cC, AN, cN, _, _, _, _⟩, rfl, ⟨rfl, rfl, rfl, Wk.drew (wk_made _ _ _ _ n cC cN AC AN ?_ ?_ ?_ ?_ ?_), below_drew (below_alloc (below_alloc (below_alloc (below_alloc (below_alloc (Below.refl _ _) _) _) _) _) _), ⟨?_, ?_, ?_, ?_⟩⟩⟩
      · simp
      iterate 3
        · simp only [IB, al_get, al_size]
          repeat (first | rw [if_pos trivial] | rw [if_pos (by omega)] | rw [if_neg (by omega)])
      · omega
      all_goals (dsimp only; omega)
  case rest =>
    clear m1 m2
    obtain ⟨G, rfl, A⟩ := hcut
    have HN : Aside0 (n = G.n) := ⟨A.out.1.symm⟩
    have K0 : Aside0 (Wk wc G (fun _ => 0) (fun _ => 0) (ofK 0)) := ⟨A.out.2.2.2.1⟩
    have B0 : Aside0 (Below w.heap.size w wc) := ⟨A.out.2.2.2.2.1⟩
    have f4 := K0.out.w4
    rw [← HN.out] at f4
    go_wp2_with fail
    clear f4
    go_loopw [23] (fun v23 wr => ∃ k : Nat, k ≤ n ∧ v23 = .int .i64 k ∧ Aside0 (Wk wr G (fun _ => 0) (fun _ => 0) (ofK k)) ∧ Aside0 (Below w.heap.size w wr)) (fun v _ => n - (intOf v).toNat)
    case atStart => exact ⟨0, Nat.zero_le _, rfl, K0, B0⟩
    case round =>
      clear K0 B0
      obtain ⟨k, hk, rfl, K, BW⟩ := hrel
      by_cases hlt : k < n
      · have hkn : k < G.n := by rw [← HN.out]; exact hlt
        have f4 := K.out.w4
        rw [← HN.out] at f4
        have eo := K.out.of.c hkn
        have zo := K.out.of.z k
        have NX := Aside0.mk (ofK_succ (k := k))
        go_wp2_with fail
        go_roundw
        case measure => simp [intOf]; omega
        case rel =>
          refine ⟨k + 1, by omega, by go_num, ⟨?_⟩, ⟨?_⟩⟩
          · rw [NX.out]
            exact K.out.setO k (-1)
          · exact BW.out.setCell A.out.2.2.2.2.2.o _
      · obtain rfl : k = n := by omega
        go_wp2_with fail
        go_ret
        obtain ⟨a1, a2, a3, _, _, a6⟩ := A.out
        refine ⟨G, a1, a2, a3, rfl, ?_, BW.out, a6⟩
        have hN := HN.out
        obtain ⟨b1, b2, b3, b4, b5⟩ := K.out
        refine ⟨b1, b2, b3, ?_, b5⟩
        unfold IB at b4 ⊢
        rw [b4, tabI_congr (g := fun _ => -1) (fun i hi => by simp only [ofK]; exact if_pos (by omega))]
end Go.Proofs.Ytelabmhhnpfegaa.Hand
/- The match is told: walked. -/
namespace Go.Proofs.Ytelabmhhnpfegaa.Hand
open Go.RowKit Go.Proofs.YtelabmhhnpfegaaW.PrintWords Go.Proofs.YtelabmhhnpfegaaW.PrintMore
/-- The block of a match. -/
def MB (w : World) (m C n : Nat) (x : Int) (r c : Nat) : Prop := w.heap[m]? = some (.cells #[.slice (some ⟨C, 0, none⟩) n n, .int .i64 x, .slice (some ⟨r, 0, none⟩) n n, .slice (some ⟨c, 0, none⟩) n n] 32 (0, 0))
def colK (σ : Nat → Nat) (k : Nat) : Nat → Int := fun i => if σ i < k then (σ i : Int) else 0
theorem colK_zero (σ : Nat → Nat) : colK σ 0 = fun _ => 0 := by
  funext i
  exact if_neg (Nat.not_lt_zero _)
theorem colK_step {w : World} {C n i k : Nat} {σ : Nat → Nat} (hσ : Inj n σ) (hi : i < n) (e : σ i = k) (h : IB w C 3 n (upd (colK σ k) i (k : Int))) : IB w C 3 n (colK σ (k + 1)) := by
  unfold IB at *
  rw [h, tabI_congr (fun j hj => ?_)]
  unfold upd colK
  by_cases hji : j = i
  · subst hji
    rw [if_pos rfl, if_pos (by omega), e]
  · rw [if_neg hji]
    have : σ j ≠ k := fun h => hji (hσ.inj j i hj hi (h.trans e.symm))
    by_cases hk : σ j < k
    · rw [if_pos hk, if_pos (by omega)]
    · rw [if_neg hk, if_neg (by omega)]
theorem colK_end {w : World} {C n : Nat} {σ : Nat → Nat} (hσ : Inj n σ) (h : IB w C 3 n (colK σ n)) : IB w C 3 n (fun i => (σ i : Int)) := by
  unfold IB at *
  rw [h, tabI_congr (fun j hj => ?_)]
  exact if_pos (hσ.lt j hj)
/-- What the columns up to k come to. -/
def costK (t : Tb) (of : Nat → Int) (k : Nat) : Int := sumTo k (fun j => t.c (of j).toNat j)
theorem costK_bd {t : Tb} (ht : TbOk t) {of : Nat → Int} {k : Nat} (hk : k ≤ t.n) (ho : ∀ j, j < t.n → ∃ i : Nat, of j = (i : Int) ∧ i < t.n) : -(k * 2147483648 : Int) ≤ costK t of k ∧ costK t of k ≤ k * 2147483648 :=
  sumTo_abs (fun j hj => by
    obtain ⟨i, e, hi⟩ := ho j (by omega)
    rw [e, Int.toNat_natCast]
    exact ht.mag i j hi (by omega))
theorem costK_end {t : Tb} {u v of : Nat → Int} {σ : Nat → Nat} (h : Done t u v of σ) : costK t of t.n = cost t.n t.c σ := by
  unfold costK cost
  rw [← h.pm.inj.sum]
  refine sumTo_congr (fun i hi => ?_)
  show t.c (of (σ i)).toNat (σ i) = _
  rw [h.col i hi, Int.toNat_natCast]
set_option maxHeartbeats 2000000 in
set_option maxRecDepth 100000 in
theorem match_any (w0 w : World) (G : Geo) (t : Tb) (T : Tab w0 G t) (ht : TbOk t) (u v of : Nat → Int) (h : Wk w G u v of) (σ : Nat → Nat) (hd : Done t u v of σ) (hb : Below w0.heap.size w0 w) (hi : Hi0 w0.heap.size G) :
    Calls Try.prog 38 #[.pointer (some ⟨G.w, 0, none⟩)] w fun e w' => ∃ C : Nat, e = .returned (.agg #[.slice (some ⟨C, 0, none⟩) G.n G.n, .int .i64 (cost t.n t.c σ), .slice (some ⟨G.r, 0, none⟩) G.n G.n, .slice (some ⟨G.c, 0, none⟩) G.n G.n]) ∧ Aside0 (Wk w' G u v of ∧ IB w' C 3 G.n (fun i => (σ i : Int)) ∧ Below w0.heap.size w0 w' ∧ w0.heap.size ≤ C) := by
  have HT := Aside0.mk T
  have TO := Aside0.mk ht
  have HD := Aside0.mk hd
  have H := Aside0.mk h
  have HB := Aside0.mk hb
  have HI := Aside0.mk hi
  have hn64 : G.n ≤ 64 := by rw [← T.n]; exact ht.n64
  obtain ⟨n, hn1⟩ : ∃ n, n = G.n := ⟨_, rfl⟩
  have HN := Aside0.mk hn1
  have f1 := h.w2
  have f2 := h.w3
  have f4 := h.w4
  rw [← hn1] at f1 f2 f4 hn64 ⊢
  clear T ht hd h hb hi hn1
  have m2 := mk29 n hn64
  have hu := Try.underlying32
  go_enter Try.func38, Try.ntmps38
  go_upto_region 1 with fail
  have FA : ∀ X : World, Below w.heap.size w X → X.cell? ⟨G.w, 2, none⟩ = some (.slice (some ⟨G.r, 0, none⟩) n n) ∧ X.cell? ⟨G.w, 3, none⟩ = some (.slice (some ⟨G.c, 0, none⟩) n n) ∧ X.cell? ⟨G.w, 4, none⟩ = some (.slice (some ⟨G.o, 0, none⟩) n n) := fun X hX => by
    have := H.out.below hX
    exact ⟨by rw [HN.out]; exact this.w2, by rw [HN.out]; exact this.w3, by rw [HN.out]; exact this.w4⟩
  have X1 := FA _ (below_alloc (Below.refl _ _) (.cells #[.slice none 0 0, .int .i64 0, .slice none 0 0, .slice none 0 0] 32))
  have X2 := FA _ (below_alloc (below_alloc (Below.refl _ _) (.cells #[.slice none 0 0, .int .i64 0, .slice none 0 0, .slice none 0 0] 32)) (.cells #[.slice none 0 0, .int .i64 0, .slice none 0 0, .slice none 0 0] 32))
  have X3 := FA _ (below_alloc (below_alloc (Below.refl _ _) (.cells #[.slice none 0 0, .int .i64 0, .slice none 0 0, .slice none 0 0] 32)) (.cells (tabI n fun _ => 0) 3))
  have X4 := FA _ (below_alloc (below_alloc (below_alloc (Below.refl _ _) (.cells #[.slice none 0 0, .int .i64 0, .slice none 0 0, .slice none 0 0] 32)) (.cells (tabI n fun _ => 0) 3)) (.cells #[.slice none 0 0, .int .i64 0, .slice none 0 0, .slice none 0 0] 32))
  have X5 := FA _ (below_alloc (below_alloc (below_alloc (Below.refl _ _) (.cells #[.slice none 0 0, .int .i64 0, .slice none 0 0, .slice none 0 0] 32)) (.cells #[.slice none 0 0, .int .i64 0, .slice none 0 0, .slice none 0 0] 32)) (.cells (tabI n fun _ => 0) 3))
  obtain ⟨a1, a2, a3⟩ := X1
  obtain ⟨b1, b2, b3⟩ := X2
  obtain ⟨c1, c2, c3⟩ := X3
  obtain ⟨d1, d2, d3⟩ := X4
  obtain ⟨e1, e2, e3⟩ := X5
  clear FA
  go_cut [3] from 6 to 20 (fun s3 wx => ∃ m C : Nat, s3 = .pointer (some ⟨m, 0, none⟩) ∧ Aside0 (MB wx m C n 0 G.r G.c ∧ wx.heap[w.heap.size]? = some (.cells #[.slice none 0 0, .int .i64 0, .slice none 0 0, .slice none 0 0] 32 (0, 0)) ∧ IB wx C 3 n (colK σ 0) ∧ Below w.heap.size w wx ∧ w.heap.size < m ∧ w.heap.size ≤ C))
  case first =>
    go_region
    all_goals
      go_wp2_with fail
      go_meet
      clear a1 a2 a3 b1 b2 b3 c1 c2 c3 d1 d2 d3 e1 e2 e3 m2
      rw [colK_zero]
      first
        | refine ⟨_, w.heap.size + 1, rfl, ⟨?_, ?_, ?_, below_drew (below_alloc (below_alloc (below_alloc (Below.refl _ _) _) _) _), by omega, by omega⟩⟩ <;> (simp only [MB, IB, dr_heap, al_get, al_size]; (repeat (first | rw [if_pos trivial] | rw [if_pos (by omega)] | rw [if_neg (by omega)])); done)
        | refine ⟨_, w.heap.size + 1 + 1, rfl, ⟨?_, ?_, ?_, below_drew (below_alloc (below_alloc (below_alloc (Below.refl _ _) _) _) _), by omega, by omega⟩⟩ <;> (simp only [MB, IB, dr_heap, al_get, al_size]; (repeat (first | rw [if_pos trivial] | rw [if_pos (by omega)] | rw [if_neg (by omega)])); done)
        | trace_state
  case rest =>
    clear a1 a2 a3 b1 b2 b3 c1 c2 c3 d1 d2 d3 e1 e2 e3 m2 f1 f2 f4
    obtain ⟨m, C, rfl, A⟩ := hcut
    have HO : Aside0 (∀ j, j < n → ∃ i : Nat, of j = (i : Int) ∧ i < n ∧ σ i = j) := ⟨fun j hj => by
      have hN : t.n = n := by rw [HT.out.n, HN.out]
      obtain ⟨i, hi, e⟩ := HD.out.pm.inj.onto (k := j) (by rw [hN]; exact hj)
      exact ⟨i, by rw [← e]; exact HD.out.col i hi, by rw [← hN]; exact hi, e⟩⟩
    have M0 : Aside0 (MB wc m C n (costK t of 0) G.r G.c) := ⟨A.out.1⟩
    have R0 : Aside0 (wc.heap[w.heap.size]? = some (.cells #[.slice none 0 0, .int .i64 0, .slice none 0 0, .slice none 0 0] 32 (0, 0))) := ⟨A.out.2.1⟩
    have C0 : Aside0 (IB wc C 3 n (colK σ 0)) := ⟨A.out.2.2.1⟩
    have B0 : Aside0 (Below w.heap.size w wc) := ⟨A.out.2.2.2.1⟩
    have S0 : Aside0 (w.heap.size < m ∧ w.heap.size ≤ C) := ⟨A.out.2.2.2.2⟩
    clear A
    have f4 := (H.out.below B0.out).w4
    rw [← HN.out] at f4
    go_wp2_with fail
    clear f4
    go_loopw [26] (fun v26 wr => ∃ k : Nat, k ≤ n ∧ v26 = .int .i64 k ∧ Aside0 (MB wr m C n (costK t of k) G.r G.c) ∧ Aside0 (wr.heap[w.heap.size]? = some (.cells #[.slice none 0 0, .int .i64 0, .slice none 0 0, .slice none 0 0] 32 (0, 0))) ∧ Aside0 (IB wr C 3 n (colK σ k)) ∧ Aside0 (Below w.heap.size w wr)) (fun v _ => n - (intOf v).toNat)
    case atStart => exact ⟨0, Nat.zero_le _, rfl, M0, R0, C0, B0⟩
    case round =>
      clear M0 R0 C0 B0
      obtain ⟨k, hk, rfl, MK, RK, CK, BK⟩ := hrel
      have WK := Aside0.mk (H.out.below BK.out)
      by_cases hlt : k < n
      · obtain ⟨i, hoi, hin, hsi⟩ := HO.out k hlt
        have eo := WK.out.of.c (i := k) (by rw [← HN.out]; exact hlt)
        rw [hoi] at eo
        have OI := Aside0.mk (And.intro hoi hsi)
        clear hoi hsi
        have m0 : wr.cell? ⟨m, 0, none⟩ = some (.slice (some ⟨C, 0, none⟩) n n) := (blk_cell MK.out 0).trans rfl
        have ec := CK.out.c hin
        have zc := CK.out.z i
        go_wp2_with fail
        clear m0 ec zc eo
        obtain ⟨W1, hW1⟩ : ∃ W1, W1 = wr.setCell ⟨C, i, none⟩ (.int .i64 (k : Int)) := ⟨_, rfl⟩
        rw [← hW1]
        have M1 : Aside0 (MB W1 m C n (costK t of k) G.r G.c) := ⟨by
          rw [hW1]
          have a := MK.out
          have b := CK.out
          unfold MB at a ⊢
          unfold IB at b
          exact blk_far a (ty_ne a b (by decide)) _⟩
        have R1 : Aside0 (W1.heap[w.heap.size]? = some (.cells #[.slice none 0 0, .int .i64 0, .slice none 0 0, .slice none 0 0] 32 (0, 0))) := ⟨by
          rw [hW1]
          have a := RK.out
          have b := CK.out
          unfold IB at b
          exact blk_far a (ty_ne a b (by decide)) _⟩
        have hN : t.n = n := by rw [HT.out.n, HN.out]
        have C1 : Aside0 (IB W1 C 3 n (colK σ (k + 1))) := ⟨by
          rw [hW1]
          exact colK_step (by rw [← hN]; exact HD.out.pm.inj) hin OI.out.2 (CK.out.set i k)⟩
        have B1 : Aside0 (Below w.heap.size w W1) := ⟨by rw [hW1]; exact BK.out.setCell S0.out.2 _⟩
        have B2 : Aside0 (Below w0.heap.size w0 W1) := ⟨HB.out.trans (B1.out.mono (Nat.le_trans HI.out.w (Nat.le_of_lt (blk_lt H.out.blk))))⟩
        clear hW1 MK RK CK BK WK
        have f0 := (H.out.below B1.out).w0
        have m1 : W1.cell? ⟨m, 1, none⟩ = some (.int .i64 (costK t of k)) := (blk_cell M1.out 1).trans rfl
        have z1 : W1.frozen? ⟨m, 1, none⟩ = false := blk_frozen M1.out 1
        obtain ⟨ad, AR, cR, hAC, hrc, hcc⟩ := HT.out.cost i (by rw [← HN.out]; exact hin)
        have g1 := pw_cell_below B2.out hrc
        have g2 := pw_cell_below B2.out (hcc k (by rw [← HN.out]; exact hlt))
        rw [hAC] at f0
        rw [← HN.out] at f0 g1
        have bc := TO.out.mag i k (by rw [hN]; exact hin) (by rw [hN]; exact hlt)
        have bk := costK_bd TO.out (of := of) (k := k) (by rw [hN]; exact hk) (fun j hj => by
          obtain ⟨i, a, b, _⟩ := HO.out j (by rw [← hN]; exact hj)
          exact ⟨i, a, by rw [hN]; exact b⟩)
        have NX : Aside0 (costK t of (k + 1) = costK t of k + t.c i k) := ⟨by
          unfold costK
          rw [sumTo_succ]
          show _ + t.c (of k).toNat k = _
          rw [OI.out.1, Int.toNat_natCast]⟩
        obtain ⟨x, hx⟩ : ∃ x, x = costK t of k := ⟨_, rfl⟩
        obtain ⟨y, hy⟩ : ∃ y, y = t.c i k := ⟨_, rfl⟩
        rw [← hx] at m1 bk NX M1
        rw [← hy] at g2 bc NX
        have w1 : IntKind.i64.wrap (x + y) = x + y := IntWalk.i64_in _ (by omega)
        clear hAC hrc hcc hx hy hN bk bc
        go_region
        go_wp2_with fail
        go_roundw
        case measure => simp [intOf]; omega
        case rel =>
          have ne1 : w.heap.size ≠ m := by have := S0.out.1; omega
          refine ⟨k + 1, by omega, by go_num, ⟨?_⟩, ⟨?_⟩, ⟨?_⟩, ⟨?_⟩⟩
          · rw [NX.out]
            exact blk_put M1.out 1 _ rfl
          · exact blk_far R1.out ne1 _
          · have a := C1.out
            have b := M1.out
            unfold IB at a ⊢
            unfold MB at b
            exact blk_far a (ty_ne a b (by decide)) _
          · exact below_drew (B1.out.setCell (Nat.le_of_lt S0.out.1) _)
      · obtain rfl : k = n := by omega
        have m0 : wr.cell? ⟨m, 0, none⟩ = some (.slice (some ⟨C, 0, none⟩) k k) := (blk_cell MK.out 0).trans rfl
        have m1 : wr.cell? ⟨m, 1, none⟩ = some (.int .i64 (costK t of k)) := (blk_cell MK.out 1).trans rfl
        have m2 : wr.cell? ⟨m, 2, none⟩ = some (.slice (some ⟨G.r, 0, none⟩) k k) := (blk_cell MK.out 2).trans rfl
        have m3 : wr.cell? ⟨m, 3, none⟩ = some (.slice (some ⟨G.c, 0, none⟩) k k) := (blk_cell MK.out 3).trans rfl
        have r0 : wr.cell? ⟨w.heap.size, 0, none⟩ = some (.slice none 0 0) := (blk_cell RK.out 0).trans rfl
        have r1 : wr.cell? ⟨w.heap.size, 1, none⟩ = some (.int .i64 0) := (blk_cell RK.out 1).trans rfl
        have r2 : wr.cell? ⟨w.heap.size, 2, none⟩ = some (.slice none 0 0) := (blk_cell RK.out 2).trans rfl
        have r3 : wr.cell? ⟨w.heap.size, 3, none⟩ = some (.slice none 0 0) := (blk_cell RK.out 3).trans rfl
        have y0 := fun j => blk_frozen RK.out j
        go_wp2_with fail
        have hN : t.n = k := by rw [HT.out.n, HN.out]
        have BF : Below w.heap.size w ((((wr.setCell ⟨w.heap.size, 0, none⟩ (.slice (some ⟨C, 0, none⟩) k k)).setCell ⟨w.heap.size, 1, none⟩ (.int .i64 (costK t of k))).setCell ⟨w.heap.size, 2, none⟩ (.slice (some ⟨G.r, 0, none⟩) k k)).setCell ⟨w.heap.size, 3, none⟩ (.slice (some ⟨G.c, 0, none⟩) k k)) := (((BK.out.setCell (Nat.le_refl _) _).setCell (Nat.le_refl _) _).setCell (Nat.le_refl _) _).setCell (Nat.le_refl _) _
        refine bodyPost_ret (v := .agg #[.slice (some ⟨C, 0, none⟩) k k, .int .i64 (costK t of k), .slice (some ⟨G.r, 0, none⟩) k k, .slice (some ⟨G.c, 0, none⟩) k k]) (by simp [results, Try.results38, go_sem, r0, r1, r2, r3]) rfl ?_
        refine ⟨C, by rw [← costK_end HD.out, hN], ⟨H.out.below BF, ?_, HB.out.trans (BF.mono (Nat.le_trans HI.out.w (Nat.le_of_lt (blk_lt H.out.blk)))), Nat.le_trans (Nat.le_trans HI.out.w (Nat.le_of_lt (blk_lt H.out.blk))) S0.out.2⟩⟩
        have a := colK_end (by rw [← hN]; exact HD.out.pm.inj) CK.out
        have b := RK.out
        unfold IB at a ⊢
        have ne : C ≠ w.heap.size := ty_ne a b (by decide)
        exact blk_far (blk_far (blk_far (blk_far a ne _) ne _) ne _) ne _
end Go.Proofs.Ytelabmhhnpfegaa.Hand
