/- The search begins; the work begins: walked. -/
import Derived.Test.YtelabmhhnpfegaaJh
import Derived.Deep.CutRange
namespace Go.Proofs.Ytelabmhhnpfegaa.Hand
open Go.RowKit Go.Proofs.YtelabmhhnpfegaaW.PrintWords Go.Proofs.YtelabmhhnpfegaaW.PrintMore
def clean (u v of : Nat → Int) (k : Nat) : St := ⟨u, v, of, fun _ => 0, fun j => decide (j < k), fun j => if j < k then -1 else 0, fun _ => false⟩
theorem clean_zero {u v of : Nat → Int} : clean u v of 0 = ⟨u, v, of, fun _ => 0, fun _ => false, fun _ => 0, fun _ => false⟩ := by
  unfold clean
  simp
theorem clean_succ {u v of : Nat → Int} {k : Nat} : clean u v of (k + 1) = { clean u v of k with far := upd (clean u v of k).far k true, from_ := upd (clean u v of k).from_ k (-1) } := by
  have h1 : (fun j => decide (j < k + 1)) = upd (fun j => decide (j < k)) k true := by
    funext j
    unfold upd
    by_cases hj : j = k
    · rw [if_pos hj]; exact decide_eq_true (by omega)
    · rw [if_neg hj]; congr 1; exact propext ⟨fun h => by omega, fun h => by omega⟩
  have h2 : (fun j => if j < k + 1 then (-1 : Int) else 0) = upd (fun j => if j < k then (-1 : Int) else 0) k (-1) := by
    funext j
    unfold upd
    by_cases hj : j = k
    · rw [if_pos hj, if_pos (by omega)]
    · rw [if_neg hj]
      by_cases hk : j < k
      · simp only [if_pos hk]
        exact if_pos (by omega)
      · simp only [if_neg hk]
        exact if_neg (by omega)
  unfold clean
  rw [h1, h2]
theorem _root_.Go.Proofs.Ytelabmhhnpfegaa.Hand.Wk.alloc {W : World} {G : Geo} {u v of : Nat → Int} (h : Wk W G u v of) {o : Obj} : Wk (W.alloc o) G u v of := h.below (below_alloc (Below.refl _ _) o)
theorem sk_made {W : World} {G : Geo} {u v of : Nat → Int} (h : Wk W G u v of) (s l f m e n : Nat) (hs : s = W.heap.size) (hn : n = G.n) (hl : IB W l 2 n fun _ => 0) (hf : BB W f n fun _ => false) (hm : IB W m 3 n fun _ => 0) (he : BB W e n fun _ => false) (n1 : l ≠ G.r ∧ l ≠ G.c) (n2 : m ≠ G.o) (n3 : f ≠ e) :
    Sk (W.alloc (.cells #[.pointer (some ⟨G.w, 0, none⟩), .slice (some ⟨l, 0, none⟩) n n, .slice (some ⟨f, 0, none⟩) n n, .slice (some ⟨m, 0, none⟩) n n, .slice (some ⟨e, 0, none⟩) n n] 138)) ⟨G, s, l, f, m, e⟩ (clean u v of 0) := by
  subst hn
  subst hs
  rw [clean_zero]
  have hb : Below W.heap.size W (W.alloc (.cells #[.pointer (some ⟨G.w, 0, none⟩), .slice (some ⟨l, 0, none⟩) G.n G.n, .slice (some ⟨f, 0, none⟩) G.n G.n, .slice (some ⟨m, 0, none⟩) G.n G.n, .slice (some ⟨e, 0, none⟩) G.n G.n] 138)) := below_alloc (Below.refl _ _) _
  have mv : ∀ {g : Nat} {o : Obj}, W.heap[g]? = some o → (W.alloc (.cells #[.pointer (some ⟨G.w, 0, none⟩), .slice (some ⟨l, 0, none⟩) G.n G.n, .slice (some ⟨f, 0, none⟩) G.n G.n, .slice (some ⟨m, 0, none⟩) G.n G.n, .slice (some ⟨e, 0, none⟩) G.n G.n] 138)).heap[g]? = some o := fun hg => (hb.block _ (blk_lt hg)).trans hg
  exact ⟨h.below hb, blk_new W _, mv hl, mv hf, mv hm, mv he, n1, n2, n3⟩
set_option maxHeartbeats 2000000 in
set_option maxRecDepth 100000 in
theorem look_any (w : World) (G : Geo) (u v of : Nat → Int) (h : Wk w G u v of) (hn64 : G.n ≤ 64) :
    Calls Try.prog 70 #[.pointer (some ⟨G.w, 0, none⟩)] w fun e w' => ∃ G2 : Geo2, G2.toGeo = G ∧ e = .returned (.pointer (some ⟨G2.s, 0, none⟩)) ∧ Sk w' G2 (noneSeen u v of) ∧ Below w.heap.size w w' ∧ w.heap.size ≤ G2.s ∧ w.heap.size ≤ G2.l ∧ w.heap.size ≤ G2.f ∧ w.heap.size ≤ G2.m ∧ w.heap.size ≤ G2.e := by
  have H := Aside0.mk h
  obtain ⟨n, hn1⟩ : ∃ n, n = G.n := ⟨_, rfl⟩
  have HN := Aside0.mk hn1
  have f4 := h.w4
  rw [← hn1] at f4 hn64
  clear h hn1
  have m1 := mk30 n hn64
  have m2 := mk29 n hn64
  have m3 := mk35 n hn64
  go_enter Try.func70, Try.ntmps70
  go_upto_region 2 with fail
  go_cut [4] from 11 to 21 (fun s4 wx => ∃ G2 : Geo2, s4 = .pointer (some ⟨G2.s, 0, none⟩) ∧ Aside0 (G2.toGeo = G ∧ Sk wx G2 (clean u v of 0) ∧ Below w.heap.size w wx ∧ w.heap.size ≤ G2.s ∧ w.heap.size ≤ G2.l ∧ w.heap.size ≤ G2.f ∧ w.heap.size ≤ G2.m ∧ w.heap.size ≤ G2.e))
  case first =>
    have r1 : G.r < w.heap.size := blk_lt H.out.rows
    have r2 : G.c < w.heap.size := blk_lt H.out.cols
    have r3 : G.o < w.heap.size := blk_lt H.out.of
    have S1 := Aside0.mk (And.intro r1 (And.intro r2 r3))
    clear r1 r2 r3
    go_region
    all_goals
      go_wp2_with fail
      go_meet
      obtain ⟨⟨r1, r2, r3⟩⟩ := S1
      refine ⟨⟨G, _, _, _, _, _⟩, rfl, ⟨rfl, Sk.drew (sk_made H.out.alloc.alloc.alloc.alloc _ _ _ _ _ n ?_ HN.out ?_ ?_ ?_ ?_ ?_ ?_ ?_), below_drew (below_alloc (below_alloc (below_alloc (below_alloc (below_alloc (Below.refl _ _) _) _) _) _) _), ?_, ?_, ?_, ?_, ?_⟩⟩
      · simp
      iterate 4
        · simp only [IB, BB, al_get, al_size]
          repeat (first | rw [if_pos trivial] | rw [if_pos (by omega)] | rw [if_neg (by omega)])
      · constructor <;> omega
      · omega
      · omega
      all_goals (dsimp only; omega)
  case rest =>
    clear m1 m2 m3 f4
    obtain ⟨G2, rfl, A⟩ := hcut
    have HN2 : Aside0 (n = G2.n) := ⟨by rw [HN.out, ← A.out.1]⟩
    have K0 : Aside0 (Sk wc G2 (clean u v of 0)) := ⟨A.out.2.1⟩
    have B0 : Aside0 (Below w.heap.size w wc) := ⟨A.out.2.2.1⟩
    clear H HN
    go_wp2_with fail
    go_loopw [23] (fun v23 wr => ∃ k : Nat, k ≤ n ∧ v23 = .int .i64 k ∧ Aside0 (Sk wr G2 (clean u v of k)) ∧ Aside0 (Below w.heap.size w wr)) (fun v _ => n - (intOf v).toNat)
    case atStart => exact ⟨0, Nat.zero_le _, rfl, K0, B0⟩
    case round =>
      clear K0 B0
      obtain ⟨k, hk, rfl, K, BW⟩ := hrel
      by_cases hlt : k < n
      · have hkn : k < G2.n := by rw [← HN2.out]; exact hlt
        have s2 := K.out.s2
        have s3 := K.out.s3
        rw [← HN2.out] at s2 s3
        have ef := K.out.far.c hkn
        have em := K.out.from_.c hkn
        have zf := K.out.far.z k
        have zm := K.out.from_.z k
        have NEfm : G2.f ≠ G2.m := by have a := K.out.far; have b := K.out.from_; unfold BB at a; unfold IB at b; exact ty_ne a b (by decide)
        have NEmf := NEfm.symm
        have qfm : ∀ (W : World) (x : Value), (W.setCell ⟨G2.f, k, none⟩ x).cell? ⟨G2.m, k, none⟩ = W.cell? ⟨G2.m, k, none⟩ := fun W x => cell_far (p := ⟨G2.f, k, none⟩) (a := ⟨G2.m, k, none⟩) (NEmf) x
        have qmf : ∀ (W : World) (x : Value), (W.setCell ⟨G2.m, k, none⟩ x).cell? ⟨G2.f, k, none⟩ = W.cell? ⟨G2.f, k, none⟩ := fun W x => cell_far (p := ⟨G2.m, k, none⟩) (a := ⟨G2.f, k, none⟩) (NEfm) x
        have NX := Aside0.mk (clean_succ (u := u) (v := v) (of := of) (k := k))
        go_wp2_with fail
        go_region
        go_wp2_with fail
        go_roundw
        case measure => simp [intOf]; omega
        case rel =>
          refine ⟨k + 1, by omega, by go_num, ⟨?_⟩, ⟨?_⟩⟩
          · rw [NX.out]
            exact ((K.out.setF k true).setM k (-1)).drew
          · exact below_drew ((BW.out.setCell A.out.2.2.2.2.2.1 _).setCell A.out.2.2.2.2.2.2.1 _)
      · obtain rfl : k = n := by omega
        go_wp2_with fail
        go_ret
        obtain ⟨a1, a2, a3, a4, a5, a6, a7, a8⟩ := A.out
        refine ⟨G2, a1, rfl, ?_, BW.out, a4, a5, a6, a7, a8⟩
        have hN := HN2.out
        obtain ⟨⟨b1, b2, b3, b4, b5⟩, b6, b7, b8, b9, b10, b11, b12, b13⟩ := K.out
        refine ⟨⟨b1, b2, b3, b4, b5⟩, b6, b7, ?_, ?_, b10, b11, b12, b13⟩
        · unfold BB at b8 ⊢
          rw [b8, tabB_congr (g := fun _ => true) (fun i hi => by simp only [clean]; exact decide_eq_true (by omega))]
          rfl
        · unfold IB at b9 ⊢
          rw [b9, tabI_congr (g := fun _ => -1) (fun i hi => by simp only [clean]; exact if_pos (by omega))]
          rfl
end Go.Proofs.Ytelabmhhnpfegaa.Hand
