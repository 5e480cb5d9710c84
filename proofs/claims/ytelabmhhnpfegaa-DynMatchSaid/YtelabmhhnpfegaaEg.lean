/- hung.Exact of an Assignment: walked. -/
import Derived.Test.YtelabmhhnpfegaaEf
import Derived.Test.YtelabmhhnpfegaaJt
import Derived.BigQuiet
namespace Go.Proofs.Ytelabmhhnpfegaa.Hand
open Go.RowKit Go.Proofs.YtelabmhhnpfegaaW.PrintWords Go.Proofs.YtelabmhhnpfegaaW.PrintLast Go.Proofs.YtelabmhhnpfegaaW.PrintMore Go.Proofs.Ytelabmhhnpfegaa.PDynCells
def tabV (n : Nat) (f : Nat → Value) : Array Value := ((List.range n).map f).toArray
theorem tabV_get {n : Nat} {f : Nat → Value} {i : Nat} (h : i < n) : (tabV n f)[i]? = some (f i) := by simp [tabV, h]
theorem tabV_set (n : Nat) (f : Nat → Value) (i : Nat) (x : Value) : (tabV n f).setIfInBounds i x = tabV n (upd f i x) := by
  apply Array.ext_getElem?
  intro j
  rw [Array.getElem?_setIfInBounds]
  by_cases h : i = j
  · subst h
    rw [if_pos rfl]
    by_cases hl : i < n
    · rw [tabV_get hl, upd_self]
      simp [tabV, hl]
    · simp [tabV, hl]
  · rw [if_neg h]
    by_cases hl : j < n
    · rw [tabV_get hl, tabV_get hl, upd_ne _ _ (fun e => h e.symm)]
    · simp [tabV, hl]
theorem made_V (z : Value) (n : Nat) : madeCells #[z] n = tabV n (fun _ => z) := by
  apply Array.ext_getElem?
  intro j
  by_cases hl : j < n
  · rw [tabV_get hl]; simp [madeCells, hl, Nat.mod_one]
  · simp [madeCells, tabV, hl]
theorem infoR35 : (Try.prog.info? 35).map (fun i => (i.zero, i.size, i.bytes)) = some (some (.slice none 0 0), 1, 24) := by kernel_rfl
theorem mk23 (n : Nat) (hn : n ≤ 64) (W : World) : (Instr.makeSlice 23 (.int .i64 (n : Int)) (.int .i64 (n : Int))).run Try.prog W = .ok (.slice (some ⟨W.heap.size, 0, none⟩) n n) (W.alloc (.cells (tabV n fun _ => .slice none 0 0) 35)) := by
  rw [← made_V]
  exact print_make_of 23 35 (.slice none 0 0) 24 Try.underlying23 infoR35 rfl (by omega) n (by omega) W
/-- So many rows of truths are made. -/
def Rows (w : World) (g n i : Nat) : Prop := ∃ f : Nat → Value, w.heap[g]? = some (.cells (tabV n f) 35 (0, 0)) ∧ ∀ k, k < i → ∃ b, f k = .slice (some ⟨b, 0, none⟩) n n ∧ b ≠ g ∧ BB w b n (fun _ => false)
theorem Rows.below {w w1 : World} {g n i : Nat} (h : Rows w g n i) (hb : Below w.heap.size w w1) : Rows w1 g n i := by
  obtain ⟨f, h1, h2⟩ := h
  refine ⟨f, blk_below h1 hb, fun k hk => ?_⟩
  obtain ⟨b, e, hne, hB⟩ := h2 k hk
  exact ⟨b, e, hne, blk_below hB hb⟩
theorem Rows.next {w : World} {g n i : Nat} (h : Rows w g n i) : Rows ((w.alloc (.cells (tabB n fun _ => false) 4)).setCell ⟨g, i, none⟩ (.slice (some ⟨w.heap.size, 0, none⟩) n n)) g n (i + 1) := by
  have hb : Below w.heap.size w (w.alloc (.cells (tabB n fun _ => false) 4)) := below_alloc (Below.refl _ _) _
  obtain ⟨f, h1, h2⟩ := h
  have hg : g < w.heap.size := by
    by_cases hg : g < w.heap.size
    · exact hg
    · rw [Array.getElem?_eq_none (by omega)] at h1
      cases h1
  refine ⟨upd f i (.slice (some ⟨w.heap.size, 0, none⟩) n n), by rw [← tabV_set]; exact blk_set (blk_below h1 hb) i _, fun k hk => ?_⟩
  by_cases e : k = i
  · refine ⟨w.heap.size, by rw [e, upd_self], by omega, ?_⟩
    exact blk_far (heap_alloc_new _ _) (by show w.heap.size ≠ g; omega) _
  · obtain ⟨b, e1, hne, hB⟩ := h2 k (by omega)
    exact ⟨b, by rw [upd_ne _ _ e]; exact e1, hne, blk_far (blk_below hB hb) hne _⟩
set_option maxHeartbeats 1000000 in
set_option maxRecDepth 100000 in
theorem exact_any (w : World) (x : PI) (v : Value) (h : InstC w x v) (hx : PIok x) (hi : IOk x) (hk : x.kind = 1) (z : Int) (hz : IsLeast x.cost.length (costA x) (fun _ _ => false) (some z)) :
    Calls Try.prog 28 #[v] w fun e w' => ∃ C : Nat, e = .returned (.tuple #[.slice (some ⟨C, 0, none⟩) x.cost.length x.cost.length, .int .i64 z, .bool true]) ∧ Aside0 ((∃ σ, PM x.cost.length (fun _ _ => false) σ ∧ cost x.cost.length (costA x) σ = z ∧ IB w' C 3 x.cost.length (fun i => ((σ i : Nat) : Int))) ∧ Below w.heap.size w w') := by
  have HI := Aside0.mk h
  have HX := Aside0.mk hx
  have IOa := Aside0.mk hi
  obtain ⟨A2, c2, A3, c3, A5, c5, rfl, h2, l2, h3, l3, h5, l5⟩ := h
  have H3 := Aside0.mk h3
  obtain ⟨n, hn1⟩ : ∃ n, n = x.cost.length := ⟨_, rfl⟩
  have n64 : n ≤ 64 := by rw [hn1]; exact (hi.side (.inl hk)).2
  rw [← hn1] at HI H3 hz ⊢
  have HZ := Aside0.mk hz
  have HN := Aside0.mk hn1
  have CK : Aside0 (chk x = 0) := ⟨iok.2 hi⟩
  rw [hk] at HI ⊢
  clear h2 h3 h5 l2 l3 l5 hz hn1 hx hi hk
  have hu54 := Try.underlying54
  have hu27 := Try.underlying27
  have hu32 := Try.underlying32
  go_enter Try.func28, Try.ntmps28
  go_upto_region 1 with fail
  obtain ⟨W1, hW1⟩ : ∃ W, W = w.alloc (.cells #[.int .i64 1, .int .i64 x.cap, .slice A2 x.items.length c2, .slice A3 n c3, .int .i64 x.size, .slice A5 x.sets.length c5] 54) := ⟨_, rfl⟩
  rw [← hW1]
  have B1 : Aside0 (Below w.heap.size w W1) := ⟨by rw [hW1]; exact below_alloc (Below.refl _ _) _⟩
  obtain ⟨p1, hp1⟩ : ∃ p, p = w.heap.size := ⟨_, rfl⟩
  have Q1 : Aside0 (W1.heap[p1]? = some (.cells #[.int .i64 1, .int .i64 x.cap, .slice A2 x.items.length c2, .slice A3 n c3, .int .i64 x.size, .slice A5 x.sets.length c5] 54 (0, 0))) := ⟨by rw [hW1, hp1]; exact heap_alloc_new _ _⟩
  rw [← hp1]
  clear hW1 hp1
  obtain ⟨q0, q1, q2, q3, q4, q5, _⟩ := six Q1.out (Below.refl _ _)
  go_wp2_with fail
  clear q0 q1 q2 q3 q4 q5
  refine (icheck_any W1 x _ (HI.out.below B1.out) HX.out).mono ?_
  rintro _ W2 ⟨rfl, B2'⟩
  have B2 := Aside0.mk B2'
  clear B2'
  rw [CK.out]
  obtain ⟨q0, q1, q2, q3, q4, q5, _⟩ := six Q1.out B2.out
  have mk1 := mk23 n n64
  go_upto_region 4 with fail
  clear q0 q1 q2 q3 q4 q5 mk1
  obtain ⟨W3, hW3⟩ : ∃ W, W = W2.alloc (.cells (tabV n fun _ => .slice none 0 0) 35) := ⟨_, rfl⟩
  rw [← hW3]
  obtain ⟨g, hg⟩ : ∃ p, p = W2.heap.size := ⟨_, rfl⟩
  rw [← hg]
  have B3 : Aside0 (Below W1.heap.size W1 W3) := ⟨by rw [hW3]; exact B2.out.alloc B2.out.size _⟩
  have K0 : Aside0 (Rows W3 g n 0 ∧ Below W1.heap.size W1 W3) := ⟨⟨_, by rw [hW3, hg]; exact heap_alloc_new _ _, fun k hk => absurd hk (Nat.not_lt_zero _)⟩, B3.out⟩
  have HG : Aside0 (W1.heap.size ≤ g) := ⟨by rw [hg]; exact B2.out.size⟩
  clear hW3 hg B3
  go_wp2_with fail
  go_loopw [23] (fun v23 wr => ∃ i : Nat, i ≤ n ∧ v23 = .int .i64 (i : Int) ∧ Aside0 (Rows wr g n i ∧ Below W1.heap.size W1 wr)) (fun v23 _ => n - (intOf v23).toNat)
  case atStart => exact ⟨0, Nat.zero_le _, rfl, K0⟩
  case round =>
    clear K0
    obtain ⟨i, hi, rfl, KK⟩ := hrel
    by_cases hlt : i < n
    · obtain ⟨f, f1, f2⟩ := KK.out.1
      obtain ⟨vi, hvi⟩ : ∃ v, v = f i := ⟨_, rfl⟩
      have hb4 : Below wr.heap.size wr (wr.alloc (.cells (tabB n fun _ => false) 4)) := below_alloc (Below.refl _ _) _
      have ci : (wr.alloc (.cells (tabB n fun _ => false) 4)).cell? ⟨g, i, none⟩ = some vi := by rw [hvi]; exact (blk_cell (blk_below f1 hb4) i).trans (tabV_get hlt)
      have hz : ∀ j, (wr.alloc (.cells (tabB n fun _ => false) 4)).frozen? ⟨g, j, none⟩ = false := blk_frozen (blk_below f1 hb4)
      have q3 : wr.cell? ⟨p1, 3, none⟩ = some (.slice A3 n c3) := (blk_cell (blk_below Q1.out KK.out.2) 3).trans rfl
      have N1 : Aside0 (Rows ((wr.alloc (.cells (tabB n fun _ => false) 4)).setCell ⟨g, i, none⟩ (.slice (some ⟨wr.heap.size, 0, none⟩) n n)) g n (i + 1) ∧ Below W1.heap.size W1 ((wr.alloc (.cells (tabB n fun _ => false) 4)).setCell ⟨g, i, none⟩ (.slice (some ⟨wr.heap.size, 0, none⟩) n n))) := ⟨KK.out.1.next, (KK.out.2.alloc KK.out.2.size _).setCell HG.out _⟩
      have mk2 := mk35 n n64
      clear f1 f2 hvi hb4
      go_wp2_with fail
      exact ⟨⟨i + 1, by omega, by go_num, N1⟩, by simp [intOf]; omega⟩
    · obtain rfl : n = i := by omega
      have BW := Aside0.mk (B1.out.trans (KK.out.2.mono B1.out.size))
      have TT : Aside0 (TabR wr A3 (some ⟨g, 0, none⟩) ⟨n, costA x, fun _ _ => false⟩ ∧ TbOk ⟨n, costA x, fun _ _ => false⟩) := ⟨⟨fun i hi => by
        obtain ⟨ar, AY, cY, e, y0, ly, hy⟩ := at_L2 H3.out (i : Int) (by omega) (by have : i < n := hi; omega)
        have hi' : i < n := hi
        have hlen : (rd_L2 x.cost (i : Int)).length = n := by
          unfold rd_L2
          rw [Int.toNat_natCast, List.getD_eq_getElem?_getD, List.getElem?_eq_getElem (by rw [← HN.out]; exact hi'), Option.getD_some]
          exact (IOa.out.rows _ (List.getElem_mem _)).trans HN.out.symm
        rw [hlen] at y0 ly hy
        rw [Int.toNat_natCast] at y0
        obtain ⟨aY, eY, _⟩ := at_Int hy 0 (by omega)
        refine ⟨ar, aY, cY, e, ?_, fun k hk => ?_⟩
        · rw [← eY]; exact pw_cell_below BW.out y0
        · obtain ⟨aZ, eZ, y1⟩ := at_Int hy k hk
          rw [eY] at eZ
          injection eZ with eZ
          rw [← eZ] at y1
          have := pw_cell_below BW.out y1
          unfold rd_L2 at this
          rwa [Int.toNat_natCast] at this, fun i hi => by
        obtain ⟨f, f1, f2⟩ := KK.out.1
        obtain ⟨b, e, hne, hB⟩ := f2 i hi
        have hadd : ∀ g i : Nat, (⟨g, 0, none⟩ : Addr).add i = ⟨g, i, none⟩ := fun g i => by unfold Addr.add; split <;> simp_all
        refine ⟨⟨g, 0, none⟩, ⟨b, 0, none⟩, n, rfl, ?_, fun k hk => ?_⟩
        · rw [hadd, blk_cell f1 i, tabV_get hi, e]
        · rw [hadd]; exact hB.c hk⟩, ⟨n64, fun i k _ _ => costA_bd IOa.out.cost i k⟩⟩
      have q3 : wr.cell? ⟨p1, 3, none⟩ = some (.slice A3 n c3) := (blk_cell (blk_below Q1.out KK.out.2) 3).trans rfl
      go_wp2_with fail
      clear q3
      refine (solve_any wr A3 (some ⟨g, 0, none⟩) c3 n ⟨n, costA x, fun _ _ => false⟩ TT.out.1 TT.out.2).mono ?_
      rintro _ w5 ⟨m, okv, rfl, ⟨ok, rfl, TL'⟩⟩
      have TL := Aside0.mk TL'
      clear TL'
      have hok : ok = true := by
        cases ok with
        | true => rfl
        | false =>
          obtain ⟨σ, hσ, _⟩ := HZ.out.1
          exact absurd hσ ((TL.out.no rfl).2 σ)
      subst hok
      obtain ⟨σ, u, v, of, C, r, cc, hm, DN, I1, I2, I3⟩ := TL.out.yes rfl
      have hcz : cost n (costA x) σ = z := by
        have h1 := DN.least
        have h2 := IsLeast.uniq h1 HZ.out
        injection h2
      have hm' : m = .agg #[.slice (some ⟨C, 0, none⟩) n n, .int .i64 z, .slice (some ⟨r, 0, none⟩) n n, .slice (some ⟨cc, 0, none⟩) n n] := by rw [hm, ← hcz]
      subst hm'
      have SG : Aside0 (PM n (fun _ _ => false) σ ∧ cost n (costA x) σ = z ∧ IB w5 C 3 n (fun i => ((σ i : Nat) : Int)) ∧ Below w.heap.size w w5) := ⟨DN.pm, hcz, I1, BW.out.trans (TL.out.below.mono BW.out.size)⟩
      clear hm DN I1 I2 I3 hcz TL
      go_upto_region 10 with fail
      obtain ⟨W6, hW6⟩ : ∃ W, W = w5.alloc (.cells #[.slice (some ⟨C, 0, none⟩) n n, .int .i64 z, .slice (some ⟨r, 0, none⟩) n n, .slice (some ⟨cc, 0, none⟩) n n] 32) := ⟨_, rfl⟩
      rw [← hW6]
      obtain ⟨p6, hp6⟩ : ∃ p, p = w5.heap.size := ⟨_, rfl⟩
      rw [← hp6]
      have Q6 : Aside0 (W6.heap[p6]? = some (.cells #[.slice (some ⟨C, 0, none⟩) n n, .int .i64 z, .slice (some ⟨r, 0, none⟩) n n, .slice (some ⟨cc, 0, none⟩) n n] 32 (0, 0))) := ⟨by rw [hW6, hp6]; exact heap_alloc_new _ _⟩
      have B6 : Aside0 (Below w5.heap.size w5 W6) := ⟨by rw [hW6]; exact below_alloc (Below.refl _ _) _⟩
      clear hW6 hp6
      have r0 : W6.cell? ⟨p6, 0, none⟩ = some (.slice (some ⟨C, 0, none⟩) n n) := (blk_cell Q6.out 0).trans rfl
      have r1 : W6.cell? ⟨p6, 1, none⟩ = some (.int .i64 z) := (blk_cell Q6.out 1).trans rfl
      go_quiet (fail)
      go_wp2_with fail
      refine bodyPost_ret (v := .tuple #[.slice (some ⟨C, 0, none⟩) n n, .int .i64 z, .bool true]) (by simp [results, Try.results28, go_sem]) rfl ?_
      have B7 := pw_below_drewN B6.out nq
      exact ⟨C, rfl, ⟨⟨σ, SG.out.1, SG.out.2.1, blk_below SG.out.2.2.1 B7⟩, SG.out.2.2.2.trans (B7.mono SG.out.2.2.2.size)⟩⟩
end Go.Proofs.Ytelabmhhnpfegaa.Hand
