/- The walk of SpillPlays. -/
import Derived.Test.YtebbikihhkjaaaaDrop
import Derived.Test.YtebbikihhkjaaaaActs
import Derived.RegionTactic
namespace Go.Proofs.Ytebbikihhkjaaaa.Hand
open Go.RowKit Go.Proofs.YtebbikihhkjaaaaW.PrintWords Go.Proofs.YtebbikihhkjaaaaW.PrintMore Go.Proofs.Ytebbikihhkjaaaa.PSpillBytes
attribute [local go_sem] max2_int min2_int max_two min_two
theorem gEp : ∀ q ∈ 37 :: gK.E, ¬ LogTy q := by
  intro q hq
  simp [k30, Kd.iso, Kd.pair, Kd.slice, Kd.int, Kd.scalar] at hq
  rcases hq with rfl | rfl | rfl <;> (unfold LogTy; decide)
theorem ty30p : ¬ LogTy 30 := by unfold LogTy; decide
theorem ty66 : ¬ LogTy 66 := by unfold LogTy; decide
theorem Q_log {α : Type} {d : Kd α} {e base : Nat} {w w1 : World} {ok okL : Nat → Prop} {v : Value} {xs : List α} (h : d.Q e w base ok v xs) (hE : ∀ q ∈ e :: d.E, ¬ LogTy q) (hc : Chg (Typed w okL) w w1) : d.Q e w1 base ok v xs :=
  Kd.Q_mono (Kd.Q_move (Kd.Q_bound h) (fun k hk => by
    obtain ⟨_, _, hlt, q, hq, cells, hcell⟩ := hk
    refine hc.block k hlt (fun ht => ?_)
    obtain ⟨_, c, q', m, h1, h2⟩ := ht
    rw [hcell] at h1
    injection h1 with h1
    injection h1 with _ h1 _
    rw [← h1] at h2
    exact hE q hq h2)) (fun _ hk => hk.1)
theorem gq_reads {w : World} {b0 n c : Nat} {ok : Nat → Prop} {A : Option Addr} {gs : List (List Nt)} (h : gK.Q 37 w b0 ok (.slice A n c) (gr gs)) : n = gs.length ∧ gs.length ≤ c ∧ Kd.C gK w A gs.length (gr gs) := by
  obtain ⟨h1, h2, h3⟩ := Kd.Q_reads' h
  rw [gr_len] at h1 h3
  exact ⟨h1, h1 ▸ h2, h3⟩
theorem gq_tail {w : World} {b0 n c : Nat} {ok : Nat → Prop} {A : Option Addr} {g : List Nt} {rest : List (List Nt)} (h : gK.Q 37 w b0 ok (.slice A n c) (gr (g :: rest))) : gK.Q 37 w b0 ok (.slice (if c = 1 then A else A.map (·.add 1)) (n - 1) (c - 1)) (gr rest) := by
  have := Kd.Q_drop (k := 1) h (by simp [gr])
  simpa [gr, show gK.sz = 1 from rfl] using this
theorem noteP_le' (n t : Nat) (rt : Bool) (l : List Int) : (noteP (min n 40) t rt l).length ≤ 1600 := noteP_le n t rt l
theorem rmay_any {w : World} {A : Option Addr} {c : Nat} {b d s : Int} {p : List Int} (h : Kd.C (Kd.int .i64) w A p.length p) (hc : p.length ≤ c) (hp : p.length ≤ 1600) (W : World) (hb : Below w.heap.size w W) :
    Calls Try.prog 26 #[.agg #[.int .i64 b, .int .i64 d, .int .i64 s, .slice A p.length c]] W fun e w' => e = .returned (.bool (mayB d p)) ∧ Below W.heap.size W w' :=
  secateurref21_May.calls (p.length + 3) b d s A c p _ W (Kd.C_below h hb) hc (may_f (by omega) _ (by omega))
theorem rsame_any {w : World} {A B : Option Addr} {c1 c2 : Nat} {g : List Nt} (h1 : Kd.C k28 w A g.length (g.map toS)) (hc1 : g.length ≤ c1) (h2 : Kd.C k30 w B g.length (g.map toR)) (hc2 : g.length ≤ c2) (hn : g.length ≤ 1000000) (hok : ∀ n ∈ g, OkNt n) :
    Calls Try.prog 15 #[.slice A g.length c1, .slice B g.length c2] w fun e w' => e = .returned (.bool true) ∧ Below w.heap.size w w' := by
  obtain ⟨k, hk⟩ := same_f g hn (fun n hn => Nat.le_trans (hok n hn).len (by omega))
  have := secateurlaw21_same.calls k A c1 (g.map toS) B c2 (g.map toR) _ w (by rw [List.length_map]; exact h1) (by rw [List.length_map]; exact hc1) (by rw [List.length_map]; exact h2) (by rw [List.length_map]; exact hc2) hk
  rwa [List.length_map, List.length_map] at this
theorem mem_left {b : Int} {l : List Nt} {x : Nt} (h : x ∈ leftL b l) : x ∈ l := (List.mem_filter.1 h).1
theorem mem_gone {b : Int} {l : List Nt} {x : Nt} (h : x ∈ goneL b l) : x ∈ l := (List.mem_filter.1 h).1

set_option maxHeartbeats 8000000 in
set_option maxRecDepth 100000 in
theorem plays_law (A : Option Addr) (c : Nat) (l : List AI) (w : World) (h : Kd.C kAI w A l.length l) (hc : l.length ≤ c) (hok : ∀ x ∈ l, NIok x.2 ∧ I64 x.1) (hl : l.length ≤ 17592186044416) :
    Calls Try.prog 6 #[.slice A l.length c] w fun e w' => e = .returned (.bool true) ∧ Below w.heap.size w w' := by
  have H := Aside0.mk h
  have HO := Aside0.mk hok
  clear h hok
  have hu := Try.underlying24
  have hu2 := Try.underlying28
  have hu3 := Try.underlying30
  have hu6 := Try.underlying66
  obtain ⟨n, hn⟩ : ∃ n, n = l.length := ⟨_, rfl⟩
  have HN := Aside0.mk hn
  rw [← hn] at hc hl H ⊢
  clear hn
  obtain ⟨m, hm⟩ : ∃ m : Nat, m = min n 25 := ⟨_, rfl⟩
  have hm1 : m ≤ 25 := by omega
  have hm2 : m ≤ n := by omega
  have hmn : (if (25 : Int) < (n : Int) then (25 : Int) else (n : Int)) = (m : Int) := by split <;> omega
  clear hm
  go_enter Try.func6, Try.ntmps6
  go_wp2_with fail
  refine (new_any w).mono ?_
  rintro e w0 ⟨lg, rfl, hL0, hB0⟩
  have HL0 : Aside0 (Holds false w w0 lg [] []) := ⟨⟨⟨_, _, hL0, rfl⟩, rfl, by simp, by simp⟩⟩
  have B0 := Aside0.mk hB0
  clear hL0 hB0
  unfold ptr
  go_wp2_with fail
  refine (wakes_any _).mono ?_
  rintro e w1 ⟨rfl, hb1⟩
  have L1 := Aside0.mk (HL0.out.move hb1)
  have B1 := Aside0.mk (bthen B0.out hb1)
  clear hb1 HL0 B0
  go_wp2_with fail
  clear hmn
  go_loopw [2, 4, 34] (fun v2 v4 i wr => ∃ (k : Nat) (A4 : Option Addr) (n4 c4 : Nat) (ns : List Nt) (gs : List (List Nt)), k ≤ m ∧ v2 = .bool false ∧ v4 = .slice A4 n4 c4 ∧ i = .int .i64 k ∧ Aside0 (Holds false w wr lg ns gs) ∧ Aside0 (gK.Q 37 wr w.heap.size (fun _ => True) (.slice A4 n4 c4) (gr gs)) ∧ Aside0 (Below w.heap.size w wr) ∧ Aside0 ((∀ x ∈ ns, OkNt x) ∧ ns.length ≤ k)) (fun _ _ i _ => m - (intOf i).toNat)
  case atStart => exact ⟨0, none, 0, 0, [], [], Nat.zero_le _, rfl, rfl, rfl, L1, ⟨Kd.Q_nil _ _ _ _ _⟩, B1, ⟨by simp, Nat.le_refl _⟩⟩
  case round =>
    clear L1 B1
    obtain ⟨k, A4, n4, c4, ns, gs, hk, rfl, rfl, rfl, HL, OR, B4, NS⟩ := hrel
    by_cases hlt : k < m
    · have hkn : k < n := by omega
      have hk25 : k < 25 := by omega
      obtain ⟨y, hy⟩ : ∃ y, l[k]? = some y := ⟨l[k]'(by rw [← HN.out]; exact hkn), List.getElem?_eq_getElem _⟩
      obtain ⟨ad, A3, c3, rfl, x0, x1, x2, x3, x4, x5, x6, hl3, hi3⟩ := act_at H.out k y hy
      have HX := Aside0.mk (HO.out y (List.mem_of_getElem? hy))
      have g0 := pw_cell_below B4.out x0
      have g1 := pw_cell_below B4.out x1
      have g2 := pw_cell_below B4.out x2
      have g3 := pw_cell_below B4.out x3
      have g4 := pw_cell_below B4.out x4
      have g5 := pw_cell_below B4.out x5
      have g6 := pw_cell_below B4.out x6
      clear x0 x1 x2 x3 x4 x5 x6 hy
      have HL3 := Aside0.mk hl3
      have HI3 := Aside0.mk hi3
      clear hl3 hi3
      obtain ⟨do_, yb, yd, ys, yp, yt, yr⟩ := y
      go_wp2_with fail
      clear g0 g1 g2 g3 g4 g5 g6
      have K6 : Aside0 ((wr.alloc (.cells #[.int .i64 do_, .int .i64 yb, .int .i64 yd, .int .i64 ys, .slice A3 yp.length c3, .int .u8 yt, .bool yr] 66)).heap[wr.heap.size]? = some (.cells #[.int .i64 do_, .int .i64 yb, .int .i64 yd, .int .i64 ys, .slice A3 yp.length c3, .int .u8 yt, .bool yr] 66 (0, 0))) := ⟨heap_alloc_new _ _⟩
      refine (note_any yb yd ys yt yr A3 c3 yp _ (Kd.C_below HI3.out (below_alloc B4.out _)) HL3.out HX.out.1.t0 HX.out.1.t1 HX.out.1.len).mono ?_
      rintro e w1 ⟨A1, n1, c1, p, d1, rfl, hp, hd, ho1, hb1⟩
      have B1 := Aside0.mk (below_box (by simpa using hb1))
      have K61 := Aside0.mk ((hb1.block _ (blk_lt K6.out)).trans K6.out)
      have O1 := Aside0.mk (Kd.R_lower ho1 (base' := w.heap.size) (by rw [World.size_alloc]; exact Nat.le_succ_of_le B4.out.size))
      have HP : Aside0 (p.length ≤ 1600) := ⟨by rw [hp]; exact noteP_le' _ _ _ _⟩
      clear ho1 hb1 hp hd K6
      go_upto_region 9 with (fail)
      obtain ⟨rfl, hc1, _⟩ := Kd.R_reads' O1.out
      have HC1 := Aside0.mk hc1
      clear hc1
      obtain ⟨wB, hwB⟩ : ∃ x, x = (w1.alloc (.cells #[.int .i64 yb, .int .i64 d1, .int .i64 ys, .slice A1 p.length c1] 28)).alloc (.cells #[.int .i64 yb, .int .i64 d1, .int .i64 ys, .slice A1 p.length c1] 30) := ⟨_, rfl⟩
      rw [← hwB]
      have hW : wB = W2830 w1 yb d1 ys (.slice A1 p.length c1) := hwB
      clear hwB
      have B2 : Aside0 (Below w1.heap.size w1 wB) := ⟨by rw [hW]; exact W2830_below (Below.refl _ _)⟩
      have KA : Aside0 (wB.heap[w1.heap.size]? = some (.cells #[.int .i64 yb, .int .i64 d1, .int .i64 ys, .slice A1 p.length c1] 28 (0, 0))) := ⟨by rw [hW]; exact W2830_a (Below.refl _ _)⟩
      have KR : Aside0 (wB.heap[w1.heap.size + 1]? = some (.cells #[.int .i64 yb, .int .i64 d1, .int .i64 ys, .slice A1 p.length c1] 30 (0, 0))) := ⟨by rw [hW]; exact W2830_b (Below.refl _ _)⟩
      have K62 := Aside0.mk ((B2.out.block _ (blk_lt K61.out)).trans K61.out)
      clear hW
      have BB : Aside0 (Below w.heap.size w wB) := ⟨bthen (bthen B4.out B1.out) B2.out⟩
      have PB : Aside0 (Kd.R (Kd.int .i64) 3 wB w.heap.size (fun _ => True) (.slice A1 p.length c1) p) := ⟨Kd.R_below O1.out B2.out⟩
      have OB := Aside0.mk (Kd.Q_below (Kd.Q_below OR.out B1.out) B2.out)
      have LB := Aside0.mk ((HL.out.move B1.out).move B2.out)
      clear B1 O1 B2 HL B4 OR K61
      obtain ⟨pb, hpb⟩ : ∃ pb, pb = wr.heap.size := ⟨_, rfl⟩
      obtain ⟨p1, hp1⟩ : ∃ p1, p1 = w1.heap.size := ⟨_, rfl⟩
      rw [← hpb] at K62 ⊢
      rw [← hp1] at KA KR ⊢
      clear hpb hp1
      obtain ⟨mz, hmz⟩ : ∃ mz : Nat, mz = do_.toNat := ⟨_, rfl⟩
      have hmx : (if (0 : Int) < do_ then do_ else 0) = (mz : Int) := by split <;> omega
      clear hmz
      obtain ⟨q4, hq4⟩ : ∃ q4 : Nat, q4 = mz % 4 := ⟨_, rfl⟩
      have hq : (mz : Int) % 4 = (q4 : Int) := by omega
      have hq3 : q4 = 0 ∨ q4 = 1 ∨ q4 = 2 ∨ q4 = 3 := by omega
      have f60 : wB.cell? ⟨pb, 0, none⟩ = some (.int .i64 do_) := (blk_c K62.out 0).trans rfl
      have fa0 : wB.cell? ⟨p1, 0, none⟩ = some (.int .i64 yb) := (blk_c KA.out 0).trans rfl
      have fa1 : wB.cell? ⟨p1, 1, none⟩ = some (.int .i64 d1) := (blk_c KA.out 1).trans rfl
      have fa2 : wB.cell? ⟨p1, 2, none⟩ = some (.int .i64 ys) := (blk_c KA.out 2).trans rfl
      have fa3 : wB.cell? ⟨p1, 3, none⟩ = some (.slice A1 p.length c1) := (blk_c KA.out 3).trans rfl
      clear hq4
      rcases hq3 with rfl | rfl | rfl | rfl
      · have HF := Aside0.mk LB.out.flat
        have HNE := Aside0.mk LB.out.ne
        by_cases hmay : mayB d1 p = true
        · obtain ⟨h1, h2, h3⟩ := mayB_iff.1 hmay
          subst h2
          have OKY : Aside0 (OkNt ⟨yb, ys, p⟩) := ⟨⟨HX.out.1.b, HX.out.1.s, h1, h3⟩⟩
          have RM := Aside0.mk (fun W hb => rmay_any (w := wB) (b := yb) (d := (p.length : Int)) (s := ys) (Kd.R_reads' PB.out).2.2 HC1.out HP.out W hb)
          rw [hmay] at RM
          have PT := Aside0.mk (holds_put LB.out (by have := NS.out.2; omega) BB.out.size A1 c1 ⟨yb, ys, p⟩ (Kd.R_reads' PB.out).2.2 OKY.out)
          unfold ptr at PT
          clear hmay h1 h3
          go_wp2_with fail
          clear f60 fa0 fa1 fa2 fa3
          refine PT.out.mono ?_
          rintro e w3 ⟨rfl, hl3, hg3⟩
          have L3 := Aside0.mk hl3
          have B3 := Aside0.mk (below_log BB.out (Nat.le_refl _) hg3)
          have O3 := Aside0.mk (Q_log OB.out gEp hg3)
          have P3 := Aside0.mk (R_log PB.out (by intro q hq; simp [Kd.int, Kd.scalar] at hq; rw [hq]; exact ty3) hg3)
          have K3 := Aside0.mk (blk_log KR.out ty30p hg3)
          have RM3 := Aside0.mk (fun W hb => rmay_any (w := w3) (b := yb) (d := (p.length : Int)) (s := ys) (Kd.R_reads' P3.out).2.2 HC1.out HP.out W hb)
          rw [show mayB (p.length : Int) p = true from mayB_iff.2 ⟨OKY.out.len, rfl, OKY.out.ds⟩] at RM3
          have f0 : w3.cell? ⟨p1 + 1, 0, none⟩ = some (.int .i64 yb) := (blk_c K3.out 0).trans rfl
          have f1 : w3.cell? ⟨p1 + 1, 1, none⟩ = some (.int .i64 p.length) := (blk_c K3.out 1).trans rfl
          have f2 : w3.cell? ⟨p1 + 1, 2, none⟩ = some (.int .i64 ys) := (blk_c K3.out 2).trans rfl
          have f3 : w3.cell? ⟨p1 + 1, 3, none⟩ = some (.slice A1 p.length c1) := (blk_c K3.out 3).trans rfl
          clear hl3 hg3 LB BB OB PB KR PT RM
          go_wp2_with fail
          clear f0 f1 f2 f3
          refine (RM3.out _ (Below.refl _ _)).mono ?_
          rintro e w4 ⟨rfl, hb4⟩
          have L4 := Aside0.mk (L3.out.move hb4)
          have B4 := Aside0.mk (bthen B3.out hb4)
          have O4 := Aside0.mk (Kd.Q_below O3.out hb4)
          have P4 := Aside0.mk (Kd.R_below P3.out hb4)
          have K4 := Aside0.mk ((hb4.block _ (blk_lt K3.out)).trans K3.out)
          have f0 : w4.cell? ⟨p1 + 1, 0, none⟩ = some (.int .i64 yb) := (blk_c K4.out 0).trans rfl
          have f1 : w4.cell? ⟨p1 + 1, 1, none⟩ = some (.int .i64 p.length) := (blk_c K4.out 1).trans rfl
          have f2 : w4.cell? ⟨p1 + 1, 2, none⟩ = some (.int .i64 ys) := (blk_c K4.out 2).trans rfl
          have f3 : w4.cell? ⟨p1 + 1, 3, none⟩ = some (.slice A1 p.length c1) := (blk_c K4.out 3).trans rfl
          clear hb4 L3 B3 O3 P3 K3 RM3
          go_wp2_with fail
          clear f0 f1 f2 f3
          refine (oput_any _ (ok := fun _ => True) (fun _ _ => trivial) w.heap.size A4 n4 c4 gs ⟨yb, ys, p⟩ A1 c1 O4.out P4.out OKY.out (flat_ok (by rw [HF.out]; exact NS.out.1)) HNE.out (by rw [HF.out]; have := NS.out.2; omega) B4.out.size).mono ?_
          rintro e w5 ⟨A9, c9, rfl, ho9, hb9⟩
          obtain ⟨n9, hn9⟩ : ∃ n9, n9 = (putG gs ⟨yb, ys, p⟩).length := ⟨_, rfl⟩
          rw [← hn9] at ho9 ⊢
          clear hn9
          have L9 := Aside0.mk (L4.out.move hb9)
          have B9 := Aside0.mk (bthen B4.out hb9)
          have M9 := Aside0.mk (Kd.Q_of_R ho9)
          have NS9 : Aside0 ((∀ x ∈ ns ++ [(⟨yb, ys, p⟩ : Nt)], OkNt x) ∧ (ns ++ [(⟨yb, ys, p⟩ : Nt)]).length ≤ k + 1) := ⟨fun x hx => by
            rcases List.mem_append.1 hx with h | h
            · exact NS.out.1 x h
            · rw [List.mem_singleton.1 h]; exact OKY.out, by have := NS.out.2; rw [List.length_append]; simpa using this⟩
          clear ho9 hb9 L4 B4 O4 P4 K4
          generalize ns ++ [(⟨yb, ys, p⟩ : Nt)] = ns9 at *
          generalize putG gs ⟨yb, ys, p⟩ = gs9 at *
          obtain ⟨rfl, hc9, hC9⟩ := gq_reads M9.out
          have hu9 := len_flat L9.out.ne
          rw [L9.out.flat] at hu9
          have hu25 : gs9.length ≤ 25 := by have := NS9.out.2; omega
          have SG := Aside0.mk (rsegs_any _ A9 c9 gs9 hC9 hc9 (flat_ok (by rw [L9.out.flat]; exact NS9.out.1)) L9.out.ne (by rw [L9.out.flat]; have := NS9.out.2; omega))
          rw [L9.out.flat] at SG
          have SZ : Aside0 ((slen gs9).length = gs9.length) := ⟨by simp [slen]⟩
          have LLEN : Aside0 (∀ W, Holds false w W lg ns9 gs9 → Calls Try.prog 24 #[ptr lg] W fun e w' => e = .returned (.int .i64 (ns9.length : Int)) ∧ W = w') := ⟨fun W h => holds_len h⟩
          have LSEG : Aside0 (∀ W, Holds false w W lg ns9 gs9 → Calls Try.prog 25 #[ptr lg] W fun e w' => ∃ A n c, e = .returned (.slice A n c) ∧ Kd.R (Kd.int .i64) 3 w' W.heap.size (fun _ => True) (.slice A n c) (slen gs9) ∧ Below W.heap.size W w') := ⟨fun W h => holds_segs h (by have := NS9.out.2; omega)⟩
          unfold ptr at LLEN LSEG
          clear hC9 hc9 hu9
          obtain ⟨u9, hu9⟩ : ∃ u9, u9 = gs9.length := ⟨_, rfl⟩
          rw [← hu9] at SG SZ hu25 M9 ⊢
          clear hu9
          obtain ⟨z9, hz9⟩ : ∃ z9, z9 = ns9.length := ⟨_, rfl⟩
          rw [← hz9] at SG LLEN
          have NZ : Aside0 (z9 = ns9.length) := ⟨hz9⟩
          clear hz9
          go_wp2_with fail
          refine SG.out.mono ?_
          rintro e w10 ⟨A10, n10, c10, rfl, ho10, hb10⟩
          have R10 := Aside0.mk ho10
          have L10 := Aside0.mk (L9.out.move hb10)
          have M10 := Aside0.mk (Kd.Q_below M9.out hb10)
          have B10 := Aside0.mk (bthen B9.out hb10)
          clear ho10 hb10 L9 M9 B9 SG
          go_wp2_with fail
          refine (LSEG.out _ L10.out).mono ?_
          rintro e w11 ⟨A11, n11, c11, rfl, ho11, hb11⟩
          have R11 := Aside0.mk ho11
          have R10b := Aside0.mk (Kd.R_below R10.out hb11)
          have L11 := Aside0.mk (L10.out.move hb11)
          have M11 := Aside0.mk (Kd.Q_below M10.out hb11)
          have B11 := Aside0.mk (bthen B10.out hb11)
          obtain ⟨rfl, hcz, hCz⟩ := Kd.R_reads' R10b.out
          obtain ⟨rfl, hcy, hCy⟩ := Kd.R_reads' R11.out
          rw [SZ.out] at hcz hCz hcy hCy ⊢
          have CZ := Aside0.mk hCz
          have CY := Aside0.mk hCy
          have BB11 : Aside0 (Below w11.heap.size w11 w11) := ⟨Below.refl _ _⟩
          clear ho11 hb11 hCz hCy R10 R10b R11 L10 M10 B10 LSEG
          go_wp2_with fail
          refine (LLEN.out _ L11.out).mono ?_
          rintro e w' ⟨rfl, rfl⟩
          go_wp2_with fail
          go_loopw [2, 148] (fun v2 v148 wq => ∃ i : Nat, i ≤ u9 ∧ v2 = .bool false ∧ v148 = .int .i64 i ∧ Aside0 (Below w11.heap.size w11 wq)) (fun _ v _ => u9 - (intOf v).toNat)
          case atStart => exact ⟨0, Nat.zero_le _, rfl, rfl, BB11⟩
          case round =>
            clear BB11
            obtain ⟨i, hi, rfl, rfl, BQ⟩ := hrel
            by_cases hlt9 : i < u9
            · obtain ⟨x9, hx9⟩ : ∃ x9, (slen gs9)[i]? = some x9 := ⟨(slen gs9)[i]'(by rw [SZ.out]; exact hlt9), List.getElem?_eq_getElem _⟩
              obtain ⟨az, rfl, hz1⟩ := nat_at CZ.out i x9 hx9
              obtain ⟨ay, rfl, hy1⟩ := nat_at CY.out i x9 hx9
              have f1 := pw_cell_below BQ.out hz1
              have f2 := pw_cell_below BQ.out hy1
              clear hz1 hy1 hx9
              go_wp2_with fail
              go_quiet (fail)
              go_wp2_with fail
              clear f1 f2
              go_roundw
              case measure => simp [intOf]; omega
              case rel => exact ⟨i + 1, by omega, rfl, by go_num, ⟨by first | exact BQ.out | exact pw_below_drewN BQ.out _ | exact below_drew BQ.out⟩⟩
            · obtain rfl : i = u9 := by omega
              have L12 := Aside0.mk (L11.out.move BQ.out)
              have M12 := Aside0.mk (Kd.Q_below M11.out BQ.out)
              have B12 := Aside0.mk (bthen B11.out BQ.out)
              clear L11 M11 B11 BQ CZ CY
              go_wp2_with fail
              go_roundw
              case measure => simp [intOf]; omega
              case rel => exact ⟨k + 1, A9, i, c9, ns9, gs9, by omega, rfl, rfl, by go_num, L12, M12, B12, ⟨NS9.out.1, NS9.out.2⟩⟩
        · have hmay : mayB d1 p = false := by simpa using hmay
          have RM := Aside0.mk (fun W hb => rmay_any (w := wB) (b := yb) (d := d1) (s := ys) (Kd.R_reads' PB.out).2.2 HC1.out HP.out W hb)
          rw [hmay] at RM
          have PT := Aside0.mk (put_bad lg yb d1 ys A1 c1 p wB (Kd.R_reads' PB.out).2.2 (Nat.le_trans HP.out (by omega)) HX.out.1.b HX.out.1.s hmay)
          unfold ptr at PT
          clear hmay
          go_wp2_with fail
          clear f60 fa0 fa1 fa2 fa3
          refine PT.out.mono ?_
          rintro e w3 ⟨rfl, hb3⟩
          have L3 := Aside0.mk (LB.out.move hb3)
          have B3 := Aside0.mk (bthen BB.out hb3)
          have BX3 := Aside0.mk hb3
          have O3 := Aside0.mk (Kd.Q_below OB.out hb3)
          have K3 := Aside0.mk ((hb3.block _ (blk_lt KR.out)).trans KR.out)
          have f0 : w3.cell? ⟨p1 + 1, 0, none⟩ = some (.int .i64 yb) := (blk_c K3.out 0).trans rfl
          have f1 : w3.cell? ⟨p1 + 1, 1, none⟩ = some (.int .i64 d1) := (blk_c K3.out 1).trans rfl
          have f2 : w3.cell? ⟨p1 + 1, 2, none⟩ = some (.int .i64 ys) := (blk_c K3.out 2).trans rfl
          have f3 : w3.cell? ⟨p1 + 1, 3, none⟩ = some (.slice A1 p.length c1) := (blk_c K3.out 3).trans rfl
          clear hb3 LB BB OB PB KR PT
          go_wp2_with fail
          clear f0 f1 f2 f3
          refine (RM.out _ BX3.out).mono ?_
          rintro e w4 ⟨rfl, hb4⟩
          have L9 := Aside0.mk (L3.out.move hb4)
          have B9 := Aside0.mk (bthen B3.out hb4)
          have M9 := Aside0.mk (Kd.Q_below O3.out hb4)
          have NS9 : Aside0 ((∀ x ∈ ns, OkNt x) ∧ ns.length ≤ k + 1) := ⟨NS.out.1, by have := NS.out.2; omega⟩
          clear hb4 L3 B3 O3 K3 RM BX3 HF HNE
          obtain ⟨ns9, rfl⟩ : ∃ ns9, ns9 = ns := ⟨_, rfl⟩
          obtain ⟨gs9, rfl⟩ : ∃ gs9, gs9 = gs := ⟨_, rfl⟩
          obtain ⟨A9, rfl⟩ : ∃ A9, A9 = A4 := ⟨_, rfl⟩
          obtain ⟨c9, rfl⟩ : ∃ c9, c9 = c4 := ⟨_, rfl⟩
          obtain ⟨rfl, hc9, hC9⟩ := gq_reads M9.out
          have hu9 := len_flat L9.out.ne
          rw [L9.out.flat] at hu9
          have hu25 : gs9.length ≤ 25 := by have := NS9.out.2; omega
          have SG := Aside0.mk (rsegs_any _ A9 c9 gs9 hC9 hc9 (flat_ok (by rw [L9.out.flat]; exact NS9.out.1)) L9.out.ne (by rw [L9.out.flat]; have := NS9.out.2; omega))
          rw [L9.out.flat] at SG
          have SZ : Aside0 ((slen gs9).length = gs9.length) := ⟨by simp [slen]⟩
          have LLEN : Aside0 (∀ W, Holds false w W lg ns9 gs9 → Calls Try.prog 24 #[ptr lg] W fun e w' => e = .returned (.int .i64 (ns9.length : Int)) ∧ W = w') := ⟨fun W h => holds_len h⟩
          have LSEG : Aside0 (∀ W, Holds false w W lg ns9 gs9 → Calls Try.prog 25 #[ptr lg] W fun e w' => ∃ A n c, e = .returned (.slice A n c) ∧ Kd.R (Kd.int .i64) 3 w' W.heap.size (fun _ => True) (.slice A n c) (slen gs9) ∧ Below W.heap.size W w') := ⟨fun W h => holds_segs h (by have := NS9.out.2; omega)⟩
          unfold ptr at LLEN LSEG
          clear hC9 hc9 hu9
          obtain ⟨u9, hu9⟩ : ∃ u9, u9 = gs9.length := ⟨_, rfl⟩
          rw [← hu9] at SG SZ hu25 M9 ⊢
          clear hu9
          obtain ⟨z9, hz9⟩ : ∃ z9, z9 = ns9.length := ⟨_, rfl⟩
          rw [← hz9] at SG LLEN
          have NZ : Aside0 (z9 = ns9.length) := ⟨hz9⟩
          clear hz9
          go_wp2_with fail
          refine SG.out.mono ?_
          rintro e w10 ⟨A10, n10, c10, rfl, ho10, hb10⟩
          have R10 := Aside0.mk ho10
          have L10 := Aside0.mk (L9.out.move hb10)
          have M10 := Aside0.mk (Kd.Q_below M9.out hb10)
          have B10 := Aside0.mk (bthen B9.out hb10)
          clear ho10 hb10 L9 M9 B9 SG
          go_wp2_with fail
          refine (LSEG.out _ L10.out).mono ?_
          rintro e w11 ⟨A11, n11, c11, rfl, ho11, hb11⟩
          have R11 := Aside0.mk ho11
          have R10b := Aside0.mk (Kd.R_below R10.out hb11)
          have L11 := Aside0.mk (L10.out.move hb11)
          have M11 := Aside0.mk (Kd.Q_below M10.out hb11)
          have B11 := Aside0.mk (bthen B10.out hb11)
          obtain ⟨rfl, hcz, hCz⟩ := Kd.R_reads' R10b.out
          obtain ⟨rfl, hcy, hCy⟩ := Kd.R_reads' R11.out
          rw [SZ.out] at hcz hCz hcy hCy ⊢
          have CZ := Aside0.mk hCz
          have CY := Aside0.mk hCy
          have BB11 : Aside0 (Below w11.heap.size w11 w11) := ⟨Below.refl _ _⟩
          clear ho11 hb11 hCz hCy R10 R10b R11 L10 M10 B10 LSEG
          go_wp2_with fail
          refine (LLEN.out _ L11.out).mono ?_
          rintro e w' ⟨rfl, rfl⟩
          go_wp2_with fail
          go_loopw [2, 148] (fun v2 v148 wq => ∃ i : Nat, i ≤ u9 ∧ v2 = .bool false ∧ v148 = .int .i64 i ∧ Aside0 (Below w11.heap.size w11 wq)) (fun _ v _ => u9 - (intOf v).toNat)
          case atStart => exact ⟨0, Nat.zero_le _, rfl, rfl, BB11⟩
          case round =>
            clear BB11
            obtain ⟨i, hi, rfl, rfl, BQ⟩ := hrel
            by_cases hlt9 : i < u9
            · obtain ⟨x9, hx9⟩ : ∃ x9, (slen gs9)[i]? = some x9 := ⟨(slen gs9)[i]'(by rw [SZ.out]; exact hlt9), List.getElem?_eq_getElem _⟩
              obtain ⟨az, rfl, hz1⟩ := nat_at CZ.out i x9 hx9
              obtain ⟨ay, rfl, hy1⟩ := nat_at CY.out i x9 hx9
              have f1 := pw_cell_below BQ.out hz1
              have f2 := pw_cell_below BQ.out hy1
              clear hz1 hy1 hx9
              go_wp2_with fail
              go_quiet (fail)
              go_wp2_with fail
              clear f1 f2
              go_roundw
              case measure => simp [intOf]; omega
              case rel => exact ⟨i + 1, by omega, rfl, by go_num, ⟨by first | exact BQ.out | exact pw_below_drewN BQ.out _ | exact below_drew BQ.out⟩⟩
            · obtain rfl : i = u9 := by omega
              have L12 := Aside0.mk (L11.out.move BQ.out)
              have M12 := Aside0.mk (Kd.Q_below M11.out BQ.out)
              have B12 := Aside0.mk (bthen B11.out BQ.out)
              clear L11 M11 B11 BQ CZ CY
              go_wp2_with fail
              go_roundw
              case measure => simp [intOf]; omega
              case rel => exact ⟨k + 1, A9, i, c9, ns9, gs9, by omega, rfl, rfl, by go_num, L12, M12, B12, ⟨NS9.out.1, NS9.out.2⟩⟩
      · have HF := Aside0.mk LB.out.flat
        have HNE := Aside0.mk LB.out.ne
        by_cases hmay : mayB d1 p = true
        · obtain ⟨h1, h2, h3⟩ := mayB_iff.1 hmay
          subst h2
          have OKY : Aside0 (OkNt ⟨yb, ys, p⟩) := ⟨⟨HX.out.1.b, HX.out.1.s, h1, h3⟩⟩
          have RM := Aside0.mk (fun W hb => rmay_any (w := wB) (b := yb) (d := (p.length : Int)) (s := ys) (Kd.R_reads' PB.out).2.2 HC1.out HP.out W hb)
          rw [hmay] at RM
          have PT := Aside0.mk (holds_put LB.out (by have := NS.out.2; omega) BB.out.size A1 c1 ⟨yb, ys, p⟩ (Kd.R_reads' PB.out).2.2 OKY.out)
          unfold ptr at PT
          clear hmay h1 h3
          go_wp2_with fail
          clear f60 fa0 fa1 fa2 fa3
          refine PT.out.mono ?_
          rintro e w3 ⟨rfl, hl3, hg3⟩
          have L3 := Aside0.mk hl3
          have B3 := Aside0.mk (below_log BB.out (Nat.le_refl _) hg3)
          have O3 := Aside0.mk (Q_log OB.out gEp hg3)
          have P3 := Aside0.mk (R_log PB.out (by intro q hq; simp [Kd.int, Kd.scalar] at hq; rw [hq]; exact ty3) hg3)
          have K3 := Aside0.mk (blk_log KR.out ty30p hg3)
          have RM3 := Aside0.mk (fun W hb => rmay_any (w := w3) (b := yb) (d := (p.length : Int)) (s := ys) (Kd.R_reads' P3.out).2.2 HC1.out HP.out W hb)
          rw [show mayB (p.length : Int) p = true from mayB_iff.2 ⟨OKY.out.len, rfl, OKY.out.ds⟩] at RM3
          have f0 : w3.cell? ⟨p1 + 1, 0, none⟩ = some (.int .i64 yb) := (blk_c K3.out 0).trans rfl
          have f1 : w3.cell? ⟨p1 + 1, 1, none⟩ = some (.int .i64 p.length) := (blk_c K3.out 1).trans rfl
          have f2 : w3.cell? ⟨p1 + 1, 2, none⟩ = some (.int .i64 ys) := (blk_c K3.out 2).trans rfl
          have f3 : w3.cell? ⟨p1 + 1, 3, none⟩ = some (.slice A1 p.length c1) := (blk_c K3.out 3).trans rfl
          clear hl3 hg3 LB BB OB PB KR PT RM
          go_wp2_with fail
          clear f0 f1 f2 f3
          refine (RM3.out _ (Below.refl _ _)).mono ?_
          rintro e w4 ⟨rfl, hb4⟩
          have L4 := Aside0.mk (L3.out.move hb4)
          have B4 := Aside0.mk (bthen B3.out hb4)
          have O4 := Aside0.mk (Kd.Q_below O3.out hb4)
          have P4 := Aside0.mk (Kd.R_below P3.out hb4)
          have K4 := Aside0.mk ((hb4.block _ (blk_lt K3.out)).trans K3.out)
          have f0 : w4.cell? ⟨p1 + 1, 0, none⟩ = some (.int .i64 yb) := (blk_c K4.out 0).trans rfl
          have f1 : w4.cell? ⟨p1 + 1, 1, none⟩ = some (.int .i64 p.length) := (blk_c K4.out 1).trans rfl
          have f2 : w4.cell? ⟨p1 + 1, 2, none⟩ = some (.int .i64 ys) := (blk_c K4.out 2).trans rfl
          have f3 : w4.cell? ⟨p1 + 1, 3, none⟩ = some (.slice A1 p.length c1) := (blk_c K4.out 3).trans rfl
          clear hb4 L3 B3 O3 P3 K3 RM3
          go_wp2_with fail
          clear f0 f1 f2 f3
          refine (oput_any _ (ok := fun _ => True) (fun _ _ => trivial) w.heap.size A4 n4 c4 gs ⟨yb, ys, p⟩ A1 c1 O4.out P4.out OKY.out (flat_ok (by rw [HF.out]; exact NS.out.1)) HNE.out (by rw [HF.out]; have := NS.out.2; omega) B4.out.size).mono ?_
          rintro e w5 ⟨A9, c9, rfl, ho9, hb9⟩
          obtain ⟨n9, hn9⟩ : ∃ n9, n9 = (putG gs ⟨yb, ys, p⟩).length := ⟨_, rfl⟩
          rw [← hn9] at ho9 ⊢
          clear hn9
          have L9 := Aside0.mk (L4.out.move hb9)
          have B9 := Aside0.mk (bthen B4.out hb9)
          have M9 := Aside0.mk (Kd.Q_of_R ho9)
          have NS9 : Aside0 ((∀ x ∈ ns ++ [(⟨yb, ys, p⟩ : Nt)], OkNt x) ∧ (ns ++ [(⟨yb, ys, p⟩ : Nt)]).length ≤ k + 1) := ⟨fun x hx => by
            rcases List.mem_append.1 hx with h | h
            · exact NS.out.1 x h
            · rw [List.mem_singleton.1 h]; exact OKY.out, by have := NS.out.2; rw [List.length_append]; simpa using this⟩
          clear ho9 hb9 L4 B4 O4 P4 K4
          generalize ns ++ [(⟨yb, ys, p⟩ : Nt)] = ns9 at *
          generalize putG gs ⟨yb, ys, p⟩ = gs9 at *
          obtain ⟨rfl, hc9, hC9⟩ := gq_reads M9.out
          have hu9 := len_flat L9.out.ne
          rw [L9.out.flat] at hu9
          have hu25 : gs9.length ≤ 25 := by have := NS9.out.2; omega
          have SG := Aside0.mk (rsegs_any _ A9 c9 gs9 hC9 hc9 (flat_ok (by rw [L9.out.flat]; exact NS9.out.1)) L9.out.ne (by rw [L9.out.flat]; have := NS9.out.2; omega))
          rw [L9.out.flat] at SG
          have SZ : Aside0 ((slen gs9).length = gs9.length) := ⟨by simp [slen]⟩
          have LLEN : Aside0 (∀ W, Holds false w W lg ns9 gs9 → Calls Try.prog 24 #[ptr lg] W fun e w' => e = .returned (.int .i64 (ns9.length : Int)) ∧ W = w') := ⟨fun W h => holds_len h⟩
          have LSEG : Aside0 (∀ W, Holds false w W lg ns9 gs9 → Calls Try.prog 25 #[ptr lg] W fun e w' => ∃ A n c, e = .returned (.slice A n c) ∧ Kd.R (Kd.int .i64) 3 w' W.heap.size (fun _ => True) (.slice A n c) (slen gs9) ∧ Below W.heap.size W w') := ⟨fun W h => holds_segs h (by have := NS9.out.2; omega)⟩
          unfold ptr at LLEN LSEG
          clear hC9 hc9 hu9
          obtain ⟨u9, hu9⟩ : ∃ u9, u9 = gs9.length := ⟨_, rfl⟩
          rw [← hu9] at SG SZ hu25 M9 ⊢
          clear hu9
          obtain ⟨z9, hz9⟩ : ∃ z9, z9 = ns9.length := ⟨_, rfl⟩
          rw [← hz9] at SG LLEN
          have NZ : Aside0 (z9 = ns9.length) := ⟨hz9⟩
          clear hz9
          go_wp2_with fail
          refine SG.out.mono ?_
          rintro e w10 ⟨A10, n10, c10, rfl, ho10, hb10⟩
          have R10 := Aside0.mk ho10
          have L10 := Aside0.mk (L9.out.move hb10)
          have M10 := Aside0.mk (Kd.Q_below M9.out hb10)
          have B10 := Aside0.mk (bthen B9.out hb10)
          clear ho10 hb10 L9 M9 B9 SG
          go_wp2_with fail
          refine (LSEG.out _ L10.out).mono ?_
          rintro e w11 ⟨A11, n11, c11, rfl, ho11, hb11⟩
          have R11 := Aside0.mk ho11
          have R10b := Aside0.mk (Kd.R_below R10.out hb11)
          have L11 := Aside0.mk (L10.out.move hb11)
          have M11 := Aside0.mk (Kd.Q_below M10.out hb11)
          have B11 := Aside0.mk (bthen B10.out hb11)
          obtain ⟨rfl, hcz, hCz⟩ := Kd.R_reads' R10b.out
          obtain ⟨rfl, hcy, hCy⟩ := Kd.R_reads' R11.out
          rw [SZ.out] at hcz hCz hcy hCy ⊢
          have CZ := Aside0.mk hCz
          have CY := Aside0.mk hCy
          have BB11 : Aside0 (Below w11.heap.size w11 w11) := ⟨Below.refl _ _⟩
          clear ho11 hb11 hCz hCy R10 R10b R11 L10 M10 B10 LSEG
          go_wp2_with fail
          refine (LLEN.out _ L11.out).mono ?_
          rintro e w' ⟨rfl, rfl⟩
          go_wp2_with fail
          go_loopw [2, 148] (fun v2 v148 wq => ∃ i : Nat, i ≤ u9 ∧ v2 = .bool false ∧ v148 = .int .i64 i ∧ Aside0 (Below w11.heap.size w11 wq)) (fun _ v _ => u9 - (intOf v).toNat)
          case atStart => exact ⟨0, Nat.zero_le _, rfl, rfl, BB11⟩
          case round =>
            clear BB11
            obtain ⟨i, hi, rfl, rfl, BQ⟩ := hrel
            by_cases hlt9 : i < u9
            · obtain ⟨x9, hx9⟩ : ∃ x9, (slen gs9)[i]? = some x9 := ⟨(slen gs9)[i]'(by rw [SZ.out]; exact hlt9), List.getElem?_eq_getElem _⟩
              obtain ⟨az, rfl, hz1⟩ := nat_at CZ.out i x9 hx9
              obtain ⟨ay, rfl, hy1⟩ := nat_at CY.out i x9 hx9
              have f1 := pw_cell_below BQ.out hz1
              have f2 := pw_cell_below BQ.out hy1
              clear hz1 hy1 hx9
              go_wp2_with fail
              go_quiet (fail)
              go_wp2_with fail
              clear f1 f2
              go_roundw
              case measure => simp [intOf]; omega
              case rel => exact ⟨i + 1, by omega, rfl, by go_num, ⟨by first | exact BQ.out | exact pw_below_drewN BQ.out _ | exact below_drew BQ.out⟩⟩
            · obtain rfl : i = u9 := by omega
              have L12 := Aside0.mk (L11.out.move BQ.out)
              have M12 := Aside0.mk (Kd.Q_below M11.out BQ.out)
              have B12 := Aside0.mk (bthen B11.out BQ.out)
              clear L11 M11 B11 BQ CZ CY
              go_wp2_with fail
              go_roundw
              case measure => simp [intOf]; omega
              case rel => exact ⟨k + 1, A9, i, c9, ns9, gs9, by omega, rfl, rfl, by go_num, L12, M12, B12, ⟨NS9.out.1, NS9.out.2⟩⟩
        · have hmay : mayB d1 p = false := by simpa using hmay
          have RM := Aside0.mk (fun W hb => rmay_any (w := wB) (b := yb) (d := d1) (s := ys) (Kd.R_reads' PB.out).2.2 HC1.out HP.out W hb)
          rw [hmay] at RM
          have PT := Aside0.mk (put_bad lg yb d1 ys A1 c1 p wB (Kd.R_reads' PB.out).2.2 (Nat.le_trans HP.out (by omega)) HX.out.1.b HX.out.1.s hmay)
          unfold ptr at PT
          clear hmay
          go_wp2_with fail
          clear f60 fa0 fa1 fa2 fa3
          refine PT.out.mono ?_
          rintro e w3 ⟨rfl, hb3⟩
          have L3 := Aside0.mk (LB.out.move hb3)
          have B3 := Aside0.mk (bthen BB.out hb3)
          have BX3 := Aside0.mk hb3
          have O3 := Aside0.mk (Kd.Q_below OB.out hb3)
          have K3 := Aside0.mk ((hb3.block _ (blk_lt KR.out)).trans KR.out)
          have f0 : w3.cell? ⟨p1 + 1, 0, none⟩ = some (.int .i64 yb) := (blk_c K3.out 0).trans rfl
          have f1 : w3.cell? ⟨p1 + 1, 1, none⟩ = some (.int .i64 d1) := (blk_c K3.out 1).trans rfl
          have f2 : w3.cell? ⟨p1 + 1, 2, none⟩ = some (.int .i64 ys) := (blk_c K3.out 2).trans rfl
          have f3 : w3.cell? ⟨p1 + 1, 3, none⟩ = some (.slice A1 p.length c1) := (blk_c K3.out 3).trans rfl
          clear hb3 LB BB OB PB KR PT
          go_wp2_with fail
          clear f0 f1 f2 f3
          refine (RM.out _ BX3.out).mono ?_
          rintro e w4 ⟨rfl, hb4⟩
          have L9 := Aside0.mk (L3.out.move hb4)
          have B9 := Aside0.mk (bthen B3.out hb4)
          have M9 := Aside0.mk (Kd.Q_below O3.out hb4)
          have NS9 : Aside0 ((∀ x ∈ ns, OkNt x) ∧ ns.length ≤ k + 1) := ⟨NS.out.1, by have := NS.out.2; omega⟩
          clear hb4 L3 B3 O3 K3 RM BX3 HF HNE
          obtain ⟨ns9, rfl⟩ : ∃ ns9, ns9 = ns := ⟨_, rfl⟩
          obtain ⟨gs9, rfl⟩ : ∃ gs9, gs9 = gs := ⟨_, rfl⟩
          obtain ⟨A9, rfl⟩ : ∃ A9, A9 = A4 := ⟨_, rfl⟩
          obtain ⟨c9, rfl⟩ : ∃ c9, c9 = c4 := ⟨_, rfl⟩
          obtain ⟨rfl, hc9, hC9⟩ := gq_reads M9.out
          have hu9 := len_flat L9.out.ne
          rw [L9.out.flat] at hu9
          have hu25 : gs9.length ≤ 25 := by have := NS9.out.2; omega
          have SG := Aside0.mk (rsegs_any _ A9 c9 gs9 hC9 hc9 (flat_ok (by rw [L9.out.flat]; exact NS9.out.1)) L9.out.ne (by rw [L9.out.flat]; have := NS9.out.2; omega))
          rw [L9.out.flat] at SG
          have SZ : Aside0 ((slen gs9).length = gs9.length) := ⟨by simp [slen]⟩
          have LLEN : Aside0 (∀ W, Holds false w W lg ns9 gs9 → Calls Try.prog 24 #[ptr lg] W fun e w' => e = .returned (.int .i64 (ns9.length : Int)) ∧ W = w') := ⟨fun W h => holds_len h⟩
          have LSEG : Aside0 (∀ W, Holds false w W lg ns9 gs9 → Calls Try.prog 25 #[ptr lg] W fun e w' => ∃ A n c, e = .returned (.slice A n c) ∧ Kd.R (Kd.int .i64) 3 w' W.heap.size (fun _ => True) (.slice A n c) (slen gs9) ∧ Below W.heap.size W w') := ⟨fun W h => holds_segs h (by have := NS9.out.2; omega)⟩
          unfold ptr at LLEN LSEG
          clear hC9 hc9 hu9
          obtain ⟨u9, hu9⟩ : ∃ u9, u9 = gs9.length := ⟨_, rfl⟩
          rw [← hu9] at SG SZ hu25 M9 ⊢
          clear hu9
          obtain ⟨z9, hz9⟩ : ∃ z9, z9 = ns9.length := ⟨_, rfl⟩
          rw [← hz9] at SG LLEN
          have NZ : Aside0 (z9 = ns9.length) := ⟨hz9⟩
          clear hz9
          go_wp2_with fail
          refine SG.out.mono ?_
          rintro e w10 ⟨A10, n10, c10, rfl, ho10, hb10⟩
          have R10 := Aside0.mk ho10
          have L10 := Aside0.mk (L9.out.move hb10)
          have M10 := Aside0.mk (Kd.Q_below M9.out hb10)
          have B10 := Aside0.mk (bthen B9.out hb10)
          clear ho10 hb10 L9 M9 B9 SG
          go_wp2_with fail
          refine (LSEG.out _ L10.out).mono ?_
          rintro e w11 ⟨A11, n11, c11, rfl, ho11, hb11⟩
          have R11 := Aside0.mk ho11
          have R10b := Aside0.mk (Kd.R_below R10.out hb11)
          have L11 := Aside0.mk (L10.out.move hb11)
          have M11 := Aside0.mk (Kd.Q_below M10.out hb11)
          have B11 := Aside0.mk (bthen B10.out hb11)
          obtain ⟨rfl, hcz, hCz⟩ := Kd.R_reads' R10b.out
          obtain ⟨rfl, hcy, hCy⟩ := Kd.R_reads' R11.out
          rw [SZ.out] at hcz hCz hcy hCy ⊢
          have CZ := Aside0.mk hCz
          have CY := Aside0.mk hCy
          have BB11 : Aside0 (Below w11.heap.size w11 w11) := ⟨Below.refl _ _⟩
          clear ho11 hb11 hCz hCy R10 R10b R11 L10 M10 B10 LSEG
          go_wp2_with fail
          refine (LLEN.out _ L11.out).mono ?_
          rintro e w' ⟨rfl, rfl⟩
          go_wp2_with fail
          go_loopw [2, 148] (fun v2 v148 wq => ∃ i : Nat, i ≤ u9 ∧ v2 = .bool false ∧ v148 = .int .i64 i ∧ Aside0 (Below w11.heap.size w11 wq)) (fun _ v _ => u9 - (intOf v).toNat)
          case atStart => exact ⟨0, Nat.zero_le _, rfl, rfl, BB11⟩
          case round =>
            clear BB11
            obtain ⟨i, hi, rfl, rfl, BQ⟩ := hrel
            by_cases hlt9 : i < u9
            · obtain ⟨x9, hx9⟩ : ∃ x9, (slen gs9)[i]? = some x9 := ⟨(slen gs9)[i]'(by rw [SZ.out]; exact hlt9), List.getElem?_eq_getElem _⟩
              obtain ⟨az, rfl, hz1⟩ := nat_at CZ.out i x9 hx9
              obtain ⟨ay, rfl, hy1⟩ := nat_at CY.out i x9 hx9
              have f1 := pw_cell_below BQ.out hz1
              have f2 := pw_cell_below BQ.out hy1
              clear hz1 hy1 hx9
              go_wp2_with fail
              go_quiet (fail)
              go_wp2_with fail
              clear f1 f2
              go_roundw
              case measure => simp [intOf]; omega
              case rel => exact ⟨i + 1, by omega, rfl, by go_num, ⟨by first | exact BQ.out | exact pw_below_drewN BQ.out _ | exact below_drew BQ.out⟩⟩
            · obtain rfl : i = u9 := by omega
              have L12 := Aside0.mk (L11.out.move BQ.out)
              have M12 := Aside0.mk (Kd.Q_below M11.out BQ.out)
              have B12 := Aside0.mk (bthen B11.out BQ.out)
              clear L11 M11 B11 BQ CZ CY
              go_wp2_with fail
              go_roundw
              case measure => simp [intOf]; omega
              case rel => exact ⟨k + 1, A9, i, c9, ns9, gs9, by omega, rfl, rfl, by go_num, L12, M12, B12, ⟨NS9.out.1, NS9.out.2⟩⟩
      · have HF := Aside0.mk LB.out.flat
        have HNE := Aside0.mk LB.out.ne
        cases gs with
        | nil =>
          obtain rfl : ns = [] := HF.out.symm
          obtain ⟨rfl, hc4, _⟩ := gq_reads OB.out
          have TN := Aside0.mk (holds_none LB.out)
          unfold ptr at TN
          go_wp2_with fail
          clear f60 fa0 fa1 fa2 fa3
          refine TN.out.mono ?_
          rintro e w' ⟨rfl, rfl⟩
          go_wp2_with fail
          go_roundw
          case measure => simp [intOf]; omega
          case rel => exact ⟨k + 1, A4, 0, c4, [], [], by omega, rfl, rfl, by go_num, LB, OB, BB, ⟨by simp, Nat.zero_le _⟩⟩
        | cons g rest =>
          have OKG : Aside0 (∀ x ∈ g, OkNt x) := ⟨fun x hx => NS.out.1 x (by rw [← HF.out]; simp [hx])⟩
          have NS9 : Aside0 ((∀ x ∈ rest.flatten, OkNt x) ∧ rest.flatten.length ≤ k + 1) := ⟨fun x hx => NS.out.1 x (by rw [← HF.out, List.flatten_cons]; exact List.mem_append_right _ hx), by
            have h1 := NS.out.2
            rw [← HF.out, List.flatten_cons, List.length_append] at h1
            omega⟩
          have hgl : g.length ≤ 25 := by
            have h1 := NS.out.2
            rw [← HF.out, List.flatten_cons, List.length_append] at h1
            omega
          have TK := Aside0.mk (holds_take LB.out (by have := NS.out.2; omega) BB.out.size NS.out.1)
          unfold ptr at TK
          have hn4 := (gq_reads OB.out).1
          have hc4 := (gq_reads OB.out).2.1
          rw [List.length_cons] at hn4 hc4
          obtain ⟨z, hz⟩ : ∃ z, z = rest.length := ⟨_, rfl⟩
          rw [← hz] at hn4 hc4
          subst hn4
          have hz25 : z ≤ 25 := by
            have h1 := len_flat (gs := rest) (fun x hx => HNE.out x (by simp [hx]))
            have h2 := NS9.out.2
            omega
          clear hz
          go_wp2_with fail
          clear f60 fa0 fa1 fa2 fa3
          refine TK.out.mono ?_
          rintro e w3 ⟨vo, rfl, hR, hL3, hg3⟩
          have L3 := Aside0.mk hL3
          have B3 := Aside0.mk (below_log BB.out (Nat.le_refl _) hg3)
          have O3 := Aside0.mk (Q_log OB.out gEp hg3)
          obtain ⟨ad2, AG, cG, rfl, fG, hRG⟩ := own_group O3.out 0 g rfl
          obtain ⟨Ao, no, co, rfl, _⟩ := R_open hR
          obtain ⟨rfl, hco, hCo⟩ := Kd.R_reads' hR
          have hRG2 := Kd.R_reads' hRG
          rw [List.length_map] at hco hCo ⊢ hRG2
          have SM := Aside0.mk (rsame_any (c1 := co) (c2 := cG) hCo hco hRG2.2.2 hRG2.2.1 (by omega) OKG.out)
          have M3 := Aside0.mk (gq_tail O3.out)
          obtain ⟨a9, ha9⟩ : ∃ a9, a9 = (if c4 = 1 then some ad2 else some (ad2.add 1)) := ⟨_, rfl⟩
          have M3b : Aside0 (gK.Q 37 w3 w.heap.size (fun _ => True) (.slice a9 z (c4 - 1)) (gr rest)) := ⟨by have := M3.out; rw [ha9]; simpa using this⟩
          have hif : (if c4 = 1 then some ad2 else some (ad2.add 1)) = a9 := ha9.symm
          have hif2 : (if c4 = 1 then some ad2 else some { ad2 with off := ad2.off + 1, spot := none }) = a9 := by rw [← hif, Addr.add_succ']
          obtain ⟨gz, hgz⟩ : ∃ gz, gz = g.length := ⟨_, rfl⟩
          rw [← hgz] at fG SM ⊢
          have fG2 := fG
          rw [Addr.add_zero'] at fG2
          clear hR hL3 hg3 hco hCo hRG hRG2 M3 O3 ha9 LB BB OB TK hgz
          have t1 : ((z : Int) + 1 == 0) = false := by rw [beq_eq_false_iff_ne]; omega
          have t2 : (z + 1 == 0) = false := by simp
          go_wp2_with fail
          clear fG
          refine SM.out.mono ?_
          rintro e w4 ⟨rfl, hb4⟩
          have L9 := Aside0.mk (L3.out.move hb4)
          have B9 := Aside0.mk (bthen B3.out hb4)
          have M9 := Aside0.mk (Kd.Q_below M3b.out hb4)
          clear hb4 L3 B3 M3b SM HF HNE NS OKG
          generalize rest.flatten = ns9 at *
          obtain ⟨gs9, rfl⟩ : ∃ gs9, gs9 = rest := ⟨_, rfl⟩
          obtain ⟨A9, rfl⟩ : ∃ A9, A9 = a9 := ⟨_, rfl⟩
          obtain ⟨n9, rfl⟩ : ∃ n9, n9 = z := ⟨_, rfl⟩
          obtain ⟨c9, hc9⟩ : ∃ c9, c9 = c4 - 1 := ⟨_, rfl⟩
          rw [← hc9] at M9
          have b1 : 1 ≤ c4 := by omega
          have hc9i : (c4 : Int) - 1 = (c9 : Int) := by omega
          go_upto_region 32 with (fail)
          rw [← hc9]
          clear hc9 hc9i b1 hif hif2 t1 t2
          obtain ⟨rfl, hc9, hC9⟩ := gq_reads M9.out
          have hu9 := len_flat L9.out.ne
          rw [L9.out.flat] at hu9
          have hu25 : gs9.length ≤ 25 := by have := NS9.out.2; omega
          have SG := Aside0.mk (rsegs_any _ A9 c9 gs9 hC9 hc9 (flat_ok (by rw [L9.out.flat]; exact NS9.out.1)) L9.out.ne (by rw [L9.out.flat]; have := NS9.out.2; omega))
          rw [L9.out.flat] at SG
          have SZ : Aside0 ((slen gs9).length = gs9.length) := ⟨by simp [slen]⟩
          have LLEN : Aside0 (∀ W, Holds false w W lg ns9 gs9 → Calls Try.prog 24 #[ptr lg] W fun e w' => e = .returned (.int .i64 (ns9.length : Int)) ∧ W = w') := ⟨fun W h => holds_len h⟩
          have LSEG : Aside0 (∀ W, Holds false w W lg ns9 gs9 → Calls Try.prog 25 #[ptr lg] W fun e w' => ∃ A n c, e = .returned (.slice A n c) ∧ Kd.R (Kd.int .i64) 3 w' W.heap.size (fun _ => True) (.slice A n c) (slen gs9) ∧ Below W.heap.size W w') := ⟨fun W h => holds_segs h (by have := NS9.out.2; omega)⟩
          unfold ptr at LLEN LSEG
          clear hC9 hc9 hu9
          obtain ⟨u9, hu9⟩ : ∃ u9, u9 = gs9.length := ⟨_, rfl⟩
          rw [← hu9] at SG SZ hu25 M9 ⊢
          clear hu9
          obtain ⟨z9, hz9⟩ : ∃ z9, z9 = ns9.length := ⟨_, rfl⟩
          rw [← hz9] at SG LLEN
          have NZ : Aside0 (z9 = ns9.length) := ⟨hz9⟩
          clear hz9
          go_wp2_with fail
          refine SG.out.mono ?_
          rintro e w10 ⟨A10, n10, c10, rfl, ho10, hb10⟩
          have R10 := Aside0.mk ho10
          have L10 := Aside0.mk (L9.out.move hb10)
          have M10 := Aside0.mk (Kd.Q_below M9.out hb10)
          have B10 := Aside0.mk (bthen B9.out hb10)
          clear ho10 hb10 L9 M9 B9 SG
          go_wp2_with fail
          refine (LSEG.out _ L10.out).mono ?_
          rintro e w11 ⟨A11, n11, c11, rfl, ho11, hb11⟩
          have R11 := Aside0.mk ho11
          have R10b := Aside0.mk (Kd.R_below R10.out hb11)
          have L11 := Aside0.mk (L10.out.move hb11)
          have M11 := Aside0.mk (Kd.Q_below M10.out hb11)
          have B11 := Aside0.mk (bthen B10.out hb11)
          obtain ⟨rfl, hcz, hCz⟩ := Kd.R_reads' R10b.out
          obtain ⟨rfl, hcy, hCy⟩ := Kd.R_reads' R11.out
          rw [SZ.out] at hcz hCz hcy hCy ⊢
          have CZ := Aside0.mk hCz
          have CY := Aside0.mk hCy
          have BB11 : Aside0 (Below w11.heap.size w11 w11) := ⟨Below.refl _ _⟩
          clear ho11 hb11 hCz hCy R10 R10b R11 L10 M10 B10 LSEG
          go_wp2_with fail
          refine (LLEN.out _ L11.out).mono ?_
          rintro e w' ⟨rfl, rfl⟩
          go_wp2_with fail
          go_loopw [2, 148] (fun v2 v148 wq => ∃ i : Nat, i ≤ u9 ∧ v2 = .bool false ∧ v148 = .int .i64 i ∧ Aside0 (Below w11.heap.size w11 wq)) (fun _ v _ => u9 - (intOf v).toNat)
          case atStart => exact ⟨0, Nat.zero_le _, rfl, rfl, BB11⟩
          case round =>
            clear BB11
            obtain ⟨i, hi, rfl, rfl, BQ⟩ := hrel
            by_cases hlt9 : i < u9
            · obtain ⟨x9, hx9⟩ : ∃ x9, (slen gs9)[i]? = some x9 := ⟨(slen gs9)[i]'(by rw [SZ.out]; exact hlt9), List.getElem?_eq_getElem _⟩
              obtain ⟨az, rfl, hz1⟩ := nat_at CZ.out i x9 hx9
              obtain ⟨ay, rfl, hy1⟩ := nat_at CY.out i x9 hx9
              have f1 := pw_cell_below BQ.out hz1
              have f2 := pw_cell_below BQ.out hy1
              clear hz1 hy1 hx9
              go_wp2_with fail
              go_quiet (fail)
              go_wp2_with fail
              clear f1 f2
              go_roundw
              case measure => simp [intOf]; omega
              case rel => exact ⟨i + 1, by omega, rfl, by go_num, ⟨by first | exact BQ.out | exact pw_below_drewN BQ.out _ | exact below_drew BQ.out⟩⟩
            · obtain rfl : i = u9 := by omega
              have L12 := Aside0.mk (L11.out.move BQ.out)
              have M12 := Aside0.mk (Kd.Q_below M11.out BQ.out)
              have B12 := Aside0.mk (bthen B11.out BQ.out)
              clear L11 M11 B11 BQ CZ CY
              go_wp2_with fail
              go_roundw
              case measure => simp [intOf]; omega
              case rel => exact ⟨k + 1, A9, i, c9, ns9, gs9, by omega, rfl, rfl, by go_num, L12, M12, B12, ⟨NS9.out.1, NS9.out.2⟩⟩
      · have HF := Aside0.mk LB.out.flat
        have HNE := Aside0.mk LB.out.ne
        have f61 : wB.cell? ⟨pb, 1, none⟩ = some (.int .i64 yb) := (blk_c K62.out 1).trans rfl
        have DP := Aside0.mk (drop_any (w0 := w) wB lg yb ns gs LB.out NS.out.1 (by have := NS.out.2; omega) BB.out.size)
        unfold ptr at DP
        go_wp2_with fail
        clear f60 f61 fa0 fa1 fa2 fa3
        refine DP.out.mono ?_
        rintro e w3 ⟨vo, rfl, hR, hL3, hg3⟩
        have L3 := Aside0.mk hL3
        have B3 := Aside0.mk (below_log BB.out (Nat.le_refl _) hg3)
        have O3 := Aside0.mk (Q_log OB.out gEp hg3)
        have K63 := Aside0.mk (blk_log K62.out ty66 hg3)
        obtain ⟨Ao, no, co, rfl, _⟩ := R_open hR
        have R3 := Aside0.mk hR
        have RD := Aside0.mk (rdrop_any w3 w.heap.size A4 n4 c4 yb gs O3.out (by rw [HF.out]; exact NS.out.1) HNE.out (by rw [HF.out]; have := NS.out.2; omega) B3.out.size)
        rw [HF.out] at RD
        have f61 : w3.cell? ⟨pb, 1, none⟩ = some (.int .i64 yb) := (blk_c K63.out 1).trans rfl
        clear hR hL3 hg3 LB BB OB DP K62 O3
        go_wp2_with fail
        clear f61
        refine RD.out.mono ?_
        rintro e w4 ⟨vg, vl, rfl, hRg, hRl, hb4⟩
        have L4 := Aside0.mk (L3.out.move hb4)
        have B4 := Aside0.mk (bthen B3.out hb4)
        have R4 := Aside0.mk (Kd.R_below R3.out hb4)
        obtain ⟨Ag, ng, cg, rfl, _⟩ := R_open hRg
        obtain ⟨A9, n9, c9, rfl, _⟩ := R_open hRl
        have M4 := Aside0.mk (Kd.Q_of_R hRl)
        have gl : (goneL yb ns).length ≤ 25 := by
          have h1 : (goneL yb ns).length ≤ ns.length := List.length_filter_le _ _
          have := NS.out.2
          omega
        obtain ⟨rfl, hco, hCo⟩ := Kd.R_reads' R4.out
        obtain ⟨rfl, hcg, hCg⟩ := Kd.R_reads' hRg
        rw [List.length_map] at hco hCo hcg hCg
        rw [List.length_map, List.length_map]
        have SM := Aside0.mk (rsame_any (c1 := co) (c2 := cg) hCo hco hCg hcg (by omega) (fun x hx => NS.out.1 x (mem_gone hx)))
        have NS9 : Aside0 ((∀ x ∈ leftL yb ns, OkNt x) ∧ (leftL yb ns).length ≤ k + 1) := ⟨fun x hx => NS.out.1 x (mem_left hx), by
          have h1 : (leftL yb ns).length ≤ ns.length := List.length_filter_le _ _
          have := NS.out.2
          omega⟩
        generalize (goneL yb ns).length = gz at *
        clear hRg hRl hb4 L3 B3 R3 R4 hco hCo hcg hCg RD
        go_wp2_with fail
        refine SM.out.mono ?_
        rintro e w5 ⟨rfl, hb5⟩
        have L9 := Aside0.mk (L4.out.move hb5)
        have B9 := Aside0.mk (bthen B4.out hb5)
        have M9 := Aside0.mk (Kd.Q_below M4.out hb5)
        clear hb5 L4 B4 M4 SM HF HNE NS
        generalize segsOf (leftL yb ns) = gs9 at *
        generalize leftL yb ns = ns9 at *
        obtain ⟨rfl, hc9, hC9⟩ := gq_reads M9.out
        have hu9 := len_flat L9.out.ne
        rw [L9.out.flat] at hu9
        have hu25 : gs9.length ≤ 25 := by have := NS9.out.2; omega
        have SG := Aside0.mk (rsegs_any _ A9 c9 gs9 hC9 hc9 (flat_ok (by rw [L9.out.flat]; exact NS9.out.1)) L9.out.ne (by rw [L9.out.flat]; have := NS9.out.2; omega))
        rw [L9.out.flat] at SG
        have SZ : Aside0 ((slen gs9).length = gs9.length) := ⟨by simp [slen]⟩
        have LLEN : Aside0 (∀ W, Holds false w W lg ns9 gs9 → Calls Try.prog 24 #[ptr lg] W fun e w' => e = .returned (.int .i64 (ns9.length : Int)) ∧ W = w') := ⟨fun W h => holds_len h⟩
        have LSEG : Aside0 (∀ W, Holds false w W lg ns9 gs9 → Calls Try.prog 25 #[ptr lg] W fun e w' => ∃ A n c, e = .returned (.slice A n c) ∧ Kd.R (Kd.int .i64) 3 w' W.heap.size (fun _ => True) (.slice A n c) (slen gs9) ∧ Below W.heap.size W w') := ⟨fun W h => holds_segs h (by have := NS9.out.2; omega)⟩
        unfold ptr at LLEN LSEG
        clear hC9 hc9 hu9
        obtain ⟨u9, hu9⟩ : ∃ u9, u9 = gs9.length := ⟨_, rfl⟩
        rw [← hu9] at SG SZ hu25 M9 ⊢
        clear hu9
        obtain ⟨z9, hz9⟩ : ∃ z9, z9 = ns9.length := ⟨_, rfl⟩
        rw [← hz9] at SG LLEN
        have NZ : Aside0 (z9 = ns9.length) := ⟨hz9⟩
        clear hz9
        go_wp2_with fail
        refine SG.out.mono ?_
        rintro e w10 ⟨A10, n10, c10, rfl, ho10, hb10⟩
        have R10 := Aside0.mk ho10
        have L10 := Aside0.mk (L9.out.move hb10)
        have M10 := Aside0.mk (Kd.Q_below M9.out hb10)
        have B10 := Aside0.mk (bthen B9.out hb10)
        clear ho10 hb10 L9 M9 B9 SG
        go_wp2_with fail
        refine (LSEG.out _ L10.out).mono ?_
        rintro e w11 ⟨A11, n11, c11, rfl, ho11, hb11⟩
        have R11 := Aside0.mk ho11
        have R10b := Aside0.mk (Kd.R_below R10.out hb11)
        have L11 := Aside0.mk (L10.out.move hb11)
        have M11 := Aside0.mk (Kd.Q_below M10.out hb11)
        have B11 := Aside0.mk (bthen B10.out hb11)
        obtain ⟨rfl, hcz, hCz⟩ := Kd.R_reads' R10b.out
        obtain ⟨rfl, hcy, hCy⟩ := Kd.R_reads' R11.out
        rw [SZ.out] at hcz hCz hcy hCy ⊢
        have CZ := Aside0.mk hCz
        have CY := Aside0.mk hCy
        have BB11 : Aside0 (Below w11.heap.size w11 w11) := ⟨Below.refl _ _⟩
        clear ho11 hb11 hCz hCy R10 R10b R11 L10 M10 B10 LSEG
        go_wp2_with fail
        refine (LLEN.out _ L11.out).mono ?_
        rintro e w' ⟨rfl, rfl⟩
        go_wp2_with fail
        go_loopw [2, 148] (fun v2 v148 wq => ∃ i : Nat, i ≤ u9 ∧ v2 = .bool false ∧ v148 = .int .i64 i ∧ Aside0 (Below w11.heap.size w11 wq)) (fun _ v _ => u9 - (intOf v).toNat)
        case atStart => exact ⟨0, Nat.zero_le _, rfl, rfl, BB11⟩
        case round =>
          clear BB11
          obtain ⟨i, hi, rfl, rfl, BQ⟩ := hrel
          by_cases hlt9 : i < u9
          · obtain ⟨x9, hx9⟩ : ∃ x9, (slen gs9)[i]? = some x9 := ⟨(slen gs9)[i]'(by rw [SZ.out]; exact hlt9), List.getElem?_eq_getElem _⟩
            obtain ⟨az, rfl, hz1⟩ := nat_at CZ.out i x9 hx9
            obtain ⟨ay, rfl, hy1⟩ := nat_at CY.out i x9 hx9
            have f1 := pw_cell_below BQ.out hz1
            have f2 := pw_cell_below BQ.out hy1
            clear hz1 hy1 hx9
            go_wp2_with fail
            go_quiet (fail)
            go_wp2_with fail
            clear f1 f2
            go_roundw
            case measure => simp [intOf]; omega
            case rel => exact ⟨i + 1, by omega, rfl, by go_num, ⟨by first | exact BQ.out | exact pw_below_drewN BQ.out _ | exact below_drew BQ.out⟩⟩
          · obtain rfl : i = u9 := by omega
            have L12 := Aside0.mk (L11.out.move BQ.out)
            have M12 := Aside0.mk (Kd.Q_below M11.out BQ.out)
            have B12 := Aside0.mk (bthen B11.out BQ.out)
            clear L11 M11 B11 BQ CZ CY
            go_wp2_with fail
            go_roundw
            case measure => simp [intOf]; omega
            case rel => exact ⟨k + 1, A9, i, c9, ns9, gs9, by omega, rfl, rfl, by go_num, L12, M12, B12, ⟨NS9.out.1, NS9.out.2⟩⟩
    · obtain rfl : k = m := by omega
      go_wp2_with fail
      go_ret
      exact ⟨rfl, B4.out⟩
end Go.Proofs.Ytebbikihhkjaaaa.Hand
