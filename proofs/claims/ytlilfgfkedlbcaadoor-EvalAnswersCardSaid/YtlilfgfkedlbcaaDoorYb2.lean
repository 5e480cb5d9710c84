/- Texts Dj Mb, cut to what is used. -/
import Derived.Deep.QuietTactic
import Derived.BigQuiet
import Derived.Test.YtlilfgfkedlbcaaDoorYa0
import Derived.Test.YtlilfgfkedlbcaaDoorYb1
set_option linter.unusedVariables false
set_option linter.unusedSimpArgs false
section
namespace Go.Proofs.YtlilfgfkedlbcaaDoor.Hand
open Go.RowKit Go.Proofs.YtlilfgfkedlbcaaDoorW.PrintWords Go.Proofs.YtlilfgfkedlbcaaDoorW.PrintLast Go.Proofs.YtlilfgfkedlbcaaDoorW.PrintMore Go.Proofs.YtlilfgfkedlbcaaDoor.PEvalBetter
theorem chk_is {x : PI} (h : ¬ (0 ≤ x.kind ∧ x.kind < 4)) : chk x = 25 := by
 unfold chk
 rw [decide_eq_false h]
 rfl
theorem chk_lean {x : PI} (h : 0 ≤ x.kind ∧ x.kind < 4) (h1 : leanB x = false) : chk x = 4 := by
 unfold chk
 rw [decide_eq_true h, h1]
 rfl
theorem chk_few {x : PI} (h : 0 ≤ x.kind ∧ x.kind < 4) (h1 : leanB x = true) (h2 : fewB x = false) : chk x = 22 := by
 unfold chk
 rw [decide_eq_true h, h1, h2]
 rfl
theorem chk_shape {x : PI} (h : 0 ≤ x.kind ∧ x.kind < 4) (h1 : leanB x = true) (h2 : fewB x = true) (h3 : (rowsB x && setsB x) = false) : chk x = 4 := by
 unfold chk
 rw [decide_eq_true h, h1, h2, h3]
 rfl
theorem chk_small {x : PI} (h : 0 ≤ x.kind ∧ x.kind < 4) (h1 : leanB x = true) (h2 : fewB x = true) (h3 : (rowsB x && setsB x) = true) (h4 : smallB x = false) : chk x = 22 := by
 unfold chk
 rw [decide_eq_true h, h1, h2, h3, h4]
 rfl
theorem chk_bare {x : PI} (h : 0 ≤ x.kind ∧ x.kind < 4) (h1 : leanB x = true) (h2 : fewB x = true) (h3 : (rowsB x && setsB x) = true) (h4 : smallB x = true) : chk x = if bareB x = true then 0 else 4 := by
 unfold chk
 rw [decide_eq_true h, h1, h2, h3, h4]
 rfl
set_option maxHeartbeats 4000000 in
set_option maxRecDepth 100000 in
theorem rcheck_any (w : World) (x : PI) (v : Value) (h : InstC w x v) (hx : PIok x) : Calls Tryd.prog 22 #[v] w fun e w' => e = .returned (.int .i64 (chk x)) ∧ Below w.heap.size w w' := by
 obtain ⟨A2, c2, A3, c3, A5, c5, rfl, h2, l2, h3, l3, h5, l5⟩ := id h
 have HI := Aside0.mk h
 clear h
 obtain ⟨n2, hn2⟩ : ∃ n, n = x.items.length := ⟨_, rfl⟩
 obtain ⟨n3, hn3⟩ : ∃ n, n = x.cost.length := ⟨_, rfl⟩
 obtain ⟨n5, hn5⟩ : ∃ n, n = x.sets.length := ⟨_, rfl⟩
 obtain ⟨kd, hkd⟩ : ∃ n, n = x.kind := ⟨_, rfl⟩
 obtain ⟨cap, hcap⟩ : ∃ n, n = x.cap := ⟨_, rfl⟩
 obtain ⟨sz, hsz⟩ : ∃ n, n = x.size := ⟨_, rfl⟩
 have b2 := hx.items
 have b3 := hx.cost
 have b5 := hx.sets
 rw [← hn2] at HI h2 l2 b2 ⊢
 rw [← hn3] at HI h3 l3 b3 ⊢
 rw [← hn5] at HI h5 l5 b5 ⊢
 rw [← hkd, ← hcap, ← hsz] at HI ⊢
 have HF := Aside0.mk (And.intro hkd (And.intro hcap hsz))
 have HN2 := Aside0.mk hn2
 have HN3 := Aside0.mk hn3
 have HN5 := Aside0.mk hn5
 have H2 := Aside0.mk h2
 have H3 := Aside0.mk h3
 have H5 := Aside0.mk h5
 have HX := Aside0.mk hx
 clear hkd hcap hsz hn2 hn3 hn5 h2 h3 h5 hx
 have hu57 := Tryd.underlying35
 have hu68 := Tryd.underlying53
 have hu103 := Tryd.underlying60
 by_cases his : 0 ≤ kd ∧ kd < 4
 ·have g1 : decide (kd < 0) = false := decide_eq_false (by omega)
  have g2 : decide (kd > 3) = false := decide_eq_false (by omega)
  have IS : Aside0 (0 ≤ x.kind ∧ x.kind < 4) := ⟨by rw [← HF.out.1]; exact his⟩
  go_enter Tryd.func22, Tryd.ntmps22
  go_upto_region 3 with fail
  clear g1 g2
  obtain ⟨W1, hW1⟩ : ∃ W, W = w.alloc (.cells #[.int .i64 kd, .int .i64 cap, .slice A2 n2 c2, .slice A3 n3 c3, .int .i64 sz, .slice A5 n5 c5] 35) := ⟨_, rfl⟩
  rw [← hW1]
  have B1 : Aside0 (Below w.heap.size w W1) := ⟨by rw [hW1]; exact below_alloc (Below.refl _ _) _⟩
  obtain ⟨p1, hp1⟩ : ∃ p, p = w.heap.size := ⟨_, rfl⟩
  have Q1 : Aside0 (W1.heap[p1]? = some (.cells #[.int .i64 kd, .int .i64 cap, .slice A2 n2 c2, .slice A3 n3 c3, .int .i64 sz, .slice A5 n5 c5] 35 (0, 0))) := ⟨by rw [hW1, hp1]; exact heap_alloc_new _ _⟩
  rw [← hp1]
  clear hW1 hp1
  have q0 : W1.cell? ⟨p1, 0, none⟩ = some (.int .i64 kd) := (blk_cell Q1.out 0).trans rfl
  have q1 : W1.cell? ⟨p1, 1, none⟩ = some (.int .i64 cap) := (blk_cell Q1.out 1).trans rfl
  have q2 : W1.cell? ⟨p1, 2, none⟩ = some (.slice A2 n2 c2) := (blk_cell Q1.out 2).trans rfl
  have q3 : W1.cell? ⟨p1, 3, none⟩ = some (.slice A3 n3 c3) := (blk_cell Q1.out 3).trans rfl
  have q4 : W1.cell? ⟨p1, 4, none⟩ = some (.int .i64 sz) := (blk_cell Q1.out 4).trans rfl
  have q5 : W1.cell? ⟨p1, 5, none⟩ = some (.slice A5 n5 c5) := (blk_cell Q1.out 5).trans rfl
  obtain ⟨s1, hs1⟩ : ∃ s, (kd == 1) = s := ⟨_, rfl⟩
  obtain ⟨s2, hs2⟩ : ∃ s, (kd == 2) = s := ⟨_, rfl⟩
  obtain ⟨z0, hz0⟩ : ∃ s, (kd != 0) = s := ⟨_, rfl⟩
  obtain ⟨z3, hz3⟩ : ∃ s, (kd != 3) = s := ⟨_, rfl⟩
  obtain ⟨bc, hbc⟩ : ∃ s, (cap != 0) = s := ⟨_, rfl⟩
  obtain ⟨bs, hbs⟩ : ∃ s, (sz != 0) = s := ⟨_, rfl⟩
  obtain ⟨d2, hd2⟩ : ∃ s, decide (0 < n2) = s := ⟨_, rfl⟩
  obtain ⟨d3, hd3⟩ : ∃ s, decide (0 < n3) = s := ⟨_, rfl⟩
  obtain ⟨d5, hd5⟩ : ∃ s, decide (0 < n5) = s := ⟨_, rfl⟩
  have SQ : Aside0 ((s1 || s2) = decide (x.kind = 1 ∨ x.kind = 2)) := ⟨by rw [← hs1, ← hs2, ← HF.out.1]; by_cases h1 : kd = 1 <;> by_cases h2 : kd = 2 <;> simp [h1, h2]⟩
  have LB : Aside0 (leanB x = ((!z0 || (!bc && !d2)) && ((s1 || s2) || !d3) && (!z3 || (!bs && !d5)))) := ⟨by
   have e2 : (!d2) = decide (x.items.length = 0) := by rw [← hd2, ← HN2.out]; by_cases h : n2 = 0 <;> simp [h]; omega
   have e3 : (!d3) = decide (x.cost.length = 0) := by rw [← hd3, ← HN3.out]; by_cases h : n3 = 0 <;> simp [h]; omega
   have e5 : (!d5) = decide (x.sets.length = 0) := by rw [← hd5, ← HN5.out]; by_cases h : n5 = 0 <;> simp [h]; omega
   have f0 : (!z0) = decide (x.kind = 0) := by rw [← hz0, ← HF.out.1]; by_cases h : kd = 0 <;> simp [h]
   have f3 : (!z3) = decide (x.kind = 3) := by rw [← hz3, ← HF.out.1]; by_cases h : kd = 3 <;> simp [h]
   have fc : (!bc) = decide (x.cap = 0) := by rw [← hbc, ← HF.out.2.1]; by_cases h : cap = 0 <;> simp [h]
   have fs : (!bs) = decide (x.size = 0) := by rw [← hbs, ← HF.out.2.2]; by_cases h : sz = 0 <;> simp [h]
   unfold leanB
   rw [f0, fc, e2, SQ.out, e3, f3, fs, e5]⟩
  obtain ⟨sq, hsq⟩ : ∃ s : Bool, s = (s1 || s2) := ⟨_, rfl⟩
  have SQ2 := Aside0.mk hsq
  go_cut [3] from 18 to 25 (fun s3 wx => s3 = .bool sq ∧ wx = W1)
  case first =>
   clear hsq
   go_wp2_with fail
   all_goals
    go_meet
    refine ⟨?_, rfl⟩
    rw [SQ2.out]
    congr 1
    cases s1 <;> cases s2 <;> first | rfl | contradiction
  case rest =>
  obtain ⟨rfl, hw⟩ := hcut
  rw [hw]
  clear hw
  rw [← hsq] at LB
  clear hsq hs1 hs2
  go_upto_region 4 with fail
  go_cut [3, 65] from 26 to 65 (fun s3 s65 wx => s3 = .bool sq ∧ s65 = .bool (!leanB x) ∧ wx = W1)
  case first =>
   go_wp2_with fail
   all_goals
    go_meet
    refine ⟨?_, ?_, rfl⟩
    ·clear LB hz0 hz3 hbc hbs hd2 hd3 hd5
     cases sq <;> first | rfl | contradiction
    ·rw [LB.out]
     clear LB hz0 hz3 hbc hbs hd2 hd3 hd5
     all_goals (cases z0 <;> try contradiction)
     all_goals (cases bc <;> try contradiction)
     all_goals (cases d2 <;> try contradiction)
     all_goals (cases sq <;> try contradiction)
     all_goals (cases d3 <;> try contradiction)
     all_goals (cases z3 <;> try contradiction)
     all_goals (cases bs <;> try contradiction)
     all_goals first | rfl | (cases d5 <;> rfl)
  case rest =>
  obtain ⟨rfl, rfl, hw⟩ := hcut
  rw [hw]
  clear hw hz0 hz3 hbc hbs hd2 LB
  cases hl : leanB x with
  | false =>
   have HL := Aside0.mk hl
   clear hl
   go_wp2_with fail
   go_ret
   exact ⟨by rw [chk_lean IS.out HL.out]; rfl, B1.out⟩
  | true =>
   have HL := Aside0.mk hl
   clear hl
   go_upto_region 6 with fail
   clear hd3 hd5
   obtain ⟨t2, ht2⟩ : ∃ s, decide (4096 < (n2 : Int)) = s := ⟨_, rfl⟩
   obtain ⟨t5, ht5⟩ : ∃ s, decide (4096 < (n5 : Int)) = s := ⟨_, rfl⟩
   obtain ⟨t3, ht3⟩ : ∃ s, decide (64 < (n3 : Int)) = s := ⟨_, rfl⟩
   obtain ⟨e3, he3⟩ : ∃ s, ((n3 : Int) == 0) = s := ⟨_, rfl⟩
   obtain ⟨m1, hm1⟩ : ∃ s, decide (sz < 0) = s := ⟨_, rfl⟩
   obtain ⟨m2, hm2⟩ : ∃ s, decide (4096 < sz) = s := ⟨_, rfl⟩
   have FB : Aside0 (fewB x = (!t2 && !t5 && !t3 && !(sq && e3) && !m1 && !m2)) := ⟨by
    have g2 : decide (x.items.length ≤ 4096) = !t2 := by rw [← ht2, ← HN2.out]; rw [Bool.eq_iff_iff]; simp only [Bool.not_eq_true', decide_eq_true_eq, decide_eq_false_iff_not]; omega
    have g5 : decide (x.sets.length ≤ 4096) = !t5 := by rw [← ht5, ← HN5.out]; rw [Bool.eq_iff_iff]; simp only [Bool.not_eq_true', decide_eq_true_eq, decide_eq_false_iff_not]; omega
    have g1 : decide (1 ≤ x.cost.length) = !e3 := by rw [← he3, ← HN3.out]; rw [Bool.eq_iff_iff]; simp only [Bool.not_eq_true', decide_eq_true_eq, beq_eq_false_iff_ne, ne_eq]; omega
    have g3 : decide (x.cost.length ≤ 64) = !t3 := by rw [← ht3, ← HN3.out]; rw [Bool.eq_iff_iff]; simp only [Bool.not_eq_true', decide_eq_true_eq, decide_eq_false_iff_not]; omega
    have gz : decide (0 ≤ x.size ∧ x.size ≤ 4096) = (!m1 && !m2) := by rw [← hm1, ← hm2, ← HF.out.2.2]; rw [Bool.eq_iff_iff]; simp only [Bool.and_eq_true, Bool.not_eq_true', decide_eq_true_eq, decide_eq_false_iff_not]; omega
    have gs : decide (x.kind = 1 ∨ x.kind = 2) = sq := by rw [SQ2.out, SQ.out]
    have hn : sq = false → t3 = false := fun h => by
     have h1 := HL.out
     unfold leanB at h1
     rw [gs, h] at h1
     simp only [Bool.and_eq_true, Bool.or_eq_true, decide_eq_true_eq, Bool.false_eq_true, false_or] at h1
     have h2 := h1.1.2
     rw [← ht3]
     exact decide_eq_false (by have := HN3.out; omega)
    unfold fewB
    rw [gs, g1, g3, g2, g5, gz]
    cases sq with
    | true => cases t2 <;> cases t5 <;> cases t3 <;> cases e3 <;> cases m1 <;> cases m2 <;> rfl
    | false =>
     rw [hn rfl]
     cases t2 <;> cases t5 <;> cases e3 <;> cases m1 <;> cases m2 <;> rfl⟩
   go_cut [3, 100] from 66 to 100 (fun s3 s100 wx => s3 = .bool sq ∧ s100 = .bool (!fewB x) ∧ wx = W1)
   case first =>
    go_wp2_with fail
    all_goals
     go_meet
     refine ⟨?_, ?_, rfl⟩
     ·clear FB ht2 ht5 ht3 he3 hm1 hm2
      cases sq <;> first | rfl | contradiction
     ·rw [FB.out]
      clear FB ht2 ht5 ht3 he3 hm1 hm2
      all_goals (cases t2 <;> try contradiction)
      all_goals (cases t5 <;> try contradiction)
      all_goals (cases t3 <;> try contradiction)
      all_goals (cases sq <;> try contradiction)
      all_goals (cases e3 <;> try contradiction)
      all_goals (cases m1 <;> try contradiction)
      all_goals first | rfl | (cases m2 <;> rfl)
   case rest =>
   obtain ⟨rfl, rfl, hw⟩ := hcut
   rw [hw]
   clear hw ht2 ht5 ht3 he3 hm1 hm2 FB
   cases hf : fewB x with
   | false =>
    have HFW := Aside0.mk hf
    clear hf
    go_wp2_with fail
    go_ret
    exact ⟨by rw [chk_few IS.out HL.out HFW.out]; rfl, B1.out⟩
   | true =>
    have HFW := Aside0.mk hf
    clear hf
    go_upto_region 8 with fail
    go_wp2_with fail
    clear q0 q1 q2 q3 q4 q5
    have K0 : Aside0 ((x.cost.take 0).all (fun r => r.length == x.cost.length) = true ∧ Below W1.heap.size W1 W1) := ⟨rfl, Below.refl _ _⟩
    go_loopw [4] (fun v wr => ∃ i : Nat, i ≤ n3 ∧ v = .int .i64 i ∧ Aside0 ((x.cost.take i).all (fun r => r.length == x.cost.length) = true ∧ Below W1.heap.size W1 wr)) (fun v _ => n3 - (intOf v).toNat)
    case atStart => exact ⟨0, Nat.zero_le _, rfl, K0⟩
    case round =>
     clear K0
     obtain ⟨i, hi, rfl, KR⟩ := hrel
     have b3' : wr.cell? ⟨p1, 3, none⟩ = some (.slice A3 n3 c3) := (blk_cell (blk_below Q1.out KR.out.2) 3).trans rfl
     by_cases hlt : i < n3
     ·obtain ⟨ad, AY, cY, rfl, a0', ly, hy⟩ := at_L2 H3.out (i : Int) (by omega) (by omega)
      have a0 := pw_cell_below (B1.out.trans (KR.out.2.mono B1.out.size)) a0'
      rw [Int.toNat_natCast] at a0
      have NX := Aside0.mk (all_take (l := x.cost) (i := i) (by rw [← HN3.out]; exact hlt) [] (fun r => r.length == x.cost.length))
      obtain ⟨y, hy1⟩ : ∃ y, y = rd_L2 x.cost (i : Int) := ⟨_, rfl⟩
      have HS : Aside0 (y = x.cost.getD i []) := ⟨by rw [hy1]; unfold rd_L2; rw [Int.toNat_natCast]⟩
      rw [← hy1] at a0 ly
      obtain ⟨nY, hnY⟩ : ∃ n, n = y.length := ⟨_, rfl⟩
      rw [← hnY] at a0 ly
      have HNY := Aside0.mk hnY
      clear hnY hy1 a0' hy
      by_cases e : nY = n3
      ·have ge : ((nY : Int) != (n3 : Int)) = false := by rw [e]; simp
       have E := Aside0.mk e
       clear e
       go_upto_region 11 with fail
       go_quiet (fail)
       go_wp2_with fail
       go_roundw
       case measure => simp [intOf]; omega
       case rel => exact ⟨i + 1, by omega, by go_num, ⟨by rw [NX.out, KR.out.1, ← HS.out, ← HNY.out, E.out, HN3.out]; simp, pw_below_drewN KR.out.2 nq⟩⟩
      ·have ge : ((nY : Int) != (n3 : Int)) = true := by simp; omega
       have E := Aside0.mk e
       clear e
       have RB : Aside0 (rowsB x = false) := ⟨all_not (i := i) (by rw [← HN3.out]; exact hlt) [] (by rw [← HS.out]; exact beq_eq_false_iff_ne.2 (by rw [← HNY.out, ← HN3.out]; exact E.out))⟩
       go_upto_region 11 with fail
       go_quiet (fail)
       go_wp2_with fail
       go_ret
       exact ⟨by rw [chk_shape IS.out HL.out HFW.out (by rw [RB.out]; rfl)]; rfl, B1.out.trans ((pw_below_drewN KR.out.2 nq).mono B1.out.size)⟩
     ·obtain rfl : n3 = i := by omega
      have RB : Aside0 (rowsB x = true) := ⟨by
       have h1 := KR.out.1
       rw [List.take_of_length_le (by rw [HN3.out]; exact Nat.le_refl _)] at h1
       exact h1⟩
      have BR := Aside0.mk KR.out.2
      clear KR hlt hi
      obtain ⟨W2, hW2⟩ : ∃ W, W = wr := ⟨_, rfl⟩
      rw [← hW2] at BR b3' ⊢
      clear hW2
      go_upto_region 13 with fail
      clear b3'
      go_wp2_with fail
      have K0 : Aside0 ((x.sets.take 0).all (fun s => ascB x.size (-1) s.f1) = true ∧ Below W1.heap.size W1 W2) := ⟨rfl, BR.out⟩
      go_loopw [5] (fun v wr => ∃ i : Nat, i ≤ n5 ∧ v = .int .i64 i ∧ Aside0 ((x.sets.take i).all (fun s => ascB x.size (-1) s.f1) = true ∧ Below W1.heap.size W1 wr)) (fun v _ => n5 - (intOf v).toNat)
      case atStart => exact ⟨0, Nat.zero_le _, rfl, K0⟩
      case round =>
       clear K0
       obtain ⟨i, hi, rfl, KR⟩ := hrel
       have b5' : wr.cell? ⟨p1, 5, none⟩ = some (.slice A5 n5 c5) := (blk_cell (blk_below Q1.out KR.out.2) 5).trans rfl
       by_cases hlt : i < n5
       ·obtain ⟨ad, AE, cE, rfl, a0', a1', lE, hE⟩ := at_T59 H5.out (i : Int) (by omega) (by omega)
        have a1 := pw_cell_below (B1.out.trans (KR.out.2.mono B1.out.size)) a1'
        rw [Int.toNat_natCast] at a1
        have hm : rd_T59 x.sets (i : Int) ∈ x.sets := by
         unfold rd_T59
         rw [Int.toNat_natCast, List.getD_eq_getElem?_getD, List.getElem?_eq_getElem (by rw [← HN5.out]; exact hlt)]
         exact List.getElem_mem _
        have hel := HX.out.els _ hm
        have NX := Aside0.mk (all_take (l := x.sets) (i := i) (by rw [← HN5.out]; exact hlt) z59 (fun s => ascB x.size (-1) s.f1))
        obtain ⟨el, hl0⟩ : ∃ z, z = (rd_T59 x.sets (i : Int)).f1 := ⟨_, rfl⟩
        have HS : Aside0 (el = (x.sets.getD i z59).f1) := ⟨by rw [hl0]; unfold rd_T59; rw [Int.toNat_natCast]⟩
        rw [← hl0] at a1 hel hE lE
        obtain ⟨nE, hnE⟩ : ∃ n, n = el.length := ⟨_, rfl⟩
        rw [← hnE] at a1 hel hE lE
        have HE := Aside0.mk hE
        have HNE := Aside0.mk hnE
        clear a0' a1' hl0 hE hnE hm
        go_wp2_with fail
        have J0 : Aside0 (ascB x.size (-1) (el.take 0) = true ∧ Below W1.heap.size W1 wr) := ⟨rfl, KR.out.2⟩
        have KR1 := Aside0.mk KR.out.1
        clear KR b5' a1
        go_loopw [7] (fun v wr => ∃ j : Nat, j ≤ nE ∧ v = .int .i64 j ∧ Aside0 (ascB x.size (-1) (el.take j) = true ∧ Below W1.heap.size W1 wr)) (fun v _ => nE - (intOf v).toNat)
        case atStart => exact ⟨0, Nat.zero_le _, rfl, J0⟩
        case round =>
         clear J0
         obtain ⟨j, hj, rfl, KJ⟩ := hrel
         by_cases hlt2 : j < nE
         ·obtain ⟨ae, rfl, hx'⟩ := at_Int HE.out j hlt2
          have BW := Aside0.mk (B1.out.trans (KJ.out.2.mono B1.out.size))
          have hx := pw_cell_below BW.out hx'
          have NZ := Aside0.mk (asc_take x.size el j (-1) (by rw [← HNE.out]; exact hlt2))
          obtain ⟨z, hz⟩ : ∃ z, z = el.getD j 0 := ⟨_, rfl⟩
          rw [← hz] at hx
          have HZ := Aside0.mk hz
          clear hx' hz
          have b4 : wr.cell? ⟨p1, 4, none⟩ = some (.int .i64 sz) := (blk_cell (blk_below Q1.out KJ.out.2) 4).trans rfl
          have LW : Aside0 (j ≠ 0 → 0 ≤ el.getD (j - 1) 0) := ⟨fun h0 => by
           have h1 := asc_low _ _ _ KJ.out.1 (el.getD (j - 1) 0) (by
            rw [List.getD_eq_getElem?_getD, List.getElem?_eq_getElem (by rw [← HNE.out]; omega), Option.getD_some]
            rw [List.mem_iff_getElem?]
            exact ⟨j - 1, by rw [List.getElem?_take, if_pos (by omega), List.getElem?_eq_getElem (by rw [← HNE.out]; omega)]⟩)
           omega⟩
          have BAD : Aside0 (z < 0 ∨ z ≥ sz ∨ (j ≠ 0 ∧ z ≤ el.getD (j - 1) 0) → chk x = 4) := ⟨fun hbad => by
           have h1 : ascB x.size (-1) (el.take (j + 1)) = false := by
            rw [NZ.out, KJ.out.1, Bool.true_and, ← HZ.out, ← HF.out.2.2]
            have : decide ((if j = 0 then -1 else el.getD (j - 1) 0) ≥ z) = true ∨ decide (z ≥ sz) = true := by
             by_cases h0 : j = 0
             ·rw [if_pos h0, decide_eq_true_eq, decide_eq_true_eq]
              omega
             ·rw [if_neg h0, decide_eq_true_eq, decide_eq_true_eq]
              have := LW.out h0
              omega
            rcases this with h | h
            ·rw [h]; rfl
            ·rw [h, Bool.or_true]; rfl
           have h2 : setsB x = false := all_not (i := i) (by rw [← HN5.out]; exact hlt) z59 (by
            rw [← HS.out]
            rw [Bool.eq_false_iff]
            intro ha
            have := asc_short x.size el (-1) (j + 1) ha
            rw [h1] at this
            cases this)
           exact chk_shape IS.out HL.out HFW.out (by rw [h2, Bool.and_false])⟩
          cases g1 : decide (z < 0) with
          | true =>
           have BB := Aside0.mk (BAD.out (.inl (of_decide_eq_true g1)))
           go_upto_region 20 with fail
           go_quiet (fail)
           go_wp2_with fail
           go_ret
           exact ⟨by rw [BB.out]; rfl, B1.out.trans ((pw_below_drewN KJ.out.2 nq).mono B1.out.size)⟩
          | false =>
           cases g2 : decide (z ≥ sz) with
           | true =>
            have BB := Aside0.mk (BAD.out (.inr (.inl (of_decide_eq_true g2))))
            go_upto_region 20 with fail
            go_quiet (fail)
            go_wp2_with fail
            go_ret
            exact ⟨by rw [BB.out]; rfl, B1.out.trans ((pw_below_drewN KJ.out.2 nq).mono B1.out.size)⟩
           | false =>
            have NXT : Aside0 (j = 0 ∨ el.getD (j - 1) 0 < z) → Aside0 (ascB x.size (-1) (el.take (j + 1)) = true) := fun h0 => ⟨by
             have h1 := of_decide_eq_false g1
             have h2 := of_decide_eq_false g2
             rw [NZ.out, KJ.out.1, Bool.true_and, ← HZ.out, ← HF.out.2.2, decide_eq_false h2, Bool.or_false]
             rw [Bool.not_eq_true', decide_eq_false_iff_not]
             rcases h0.out with h3 | h3
             ·rw [if_pos h3]
              omega
             ·split <;> omega⟩
            rcases Nat.eq_zero_or_pos j with h0 | h0
            ·have N1 := NXT ⟨.inl h0⟩
             have g3 : decide ((j : Int) > 0) = false := decide_eq_false (by omega)
             have g3' : decide (0 < j) = false := decide_eq_false (by omega)
             clear NXT BAD LW h0
             go_upto_region 20 with fail
             go_quiet (fail)
             go_wp2_with fail
             go_roundw
             case measure => simp [intOf]; omega
             case rel => exact ⟨j + 1, by omega, by go_num, ⟨N1.out, pw_below_drewN KJ.out.2 nq⟩⟩
            ·obtain ⟨m, hm⟩ : ∃ m, j = m + 1 := ⟨j - 1, by omega⟩
             obtain ⟨ae', e, hx2'⟩ := at_Int HE.out m (by omega)
             injection e with e
             subst e
             have hx2 := pw_cell_below BW.out hx2'
             clear hx2'
             obtain ⟨zp, hzp⟩ : ∃ z, z = el.getD m 0 := ⟨_, rfl⟩
             rw [← hzp] at hx2
             have HZP := Aside0.mk hzp
             clear hzp
             have g3 : decide ((j : Int) > 0) = true := decide_eq_true (by omega)
             have g3' : decide (0 < j) = true := decide_eq_true (by omega)
             have hwm : IntKind.i64.wrap ((j : Int) - 1) = (m : Int) := by
              rw [show (j : Int) - 1 = (m : Int) by omega]
              exact IntWalk.i64_in _ (by omega)
             have hmj : j - 1 = m := by omega
             have hmn : m < nE := by omega
             by_cases g4' : z ≤ zp
             ·have g4 : decide (z ≤ zp) = true := decide_eq_true g4'
              have BB := Aside0.mk (BAD.out (.inr (.inr ⟨by omega, by rw [hmj, ← HZP.out]; exact g4'⟩)))
              clear NXT BAD LW g4' hm hmj h0
              go_upto_region 20 with fail
              go_quiet (fail)
              go_wp2_with fail
              go_ret
              exact ⟨by rw [BB.out]; rfl, B1.out.trans ((pw_below_drewN KJ.out.2 nq).mono B1.out.size)⟩
             ·have g4 : decide (z ≤ zp) = false := decide_eq_false g4'
              have N1 := NXT ⟨.inr (by rw [hmj, ← HZP.out]; omega)⟩
              clear NXT BAD LW g4' hm hmj h0
              go_upto_region 20 with fail
              go_quiet (fail)
              clear hwm
              go_wp2_with fail
              go_roundw
              case measure => simp [intOf]; omega
              case rel => exact ⟨j + 1, by omega, by go_num, ⟨N1.out, pw_below_drewN KJ.out.2 nq⟩⟩
         ·obtain rfl : nE = j := by omega
          have N1 : Aside0 ((x.sets.take (i + 1)).all (fun s => ascB x.size (-1) s.f1) = true) := ⟨by
           have h1 := KJ.out.1
           rw [List.take_of_length_le (by rw [HNE.out]; exact Nat.le_refl _)] at h1
           rw [NX.out, KR1.out, Bool.true_and, ← HS.out]
           exact h1⟩
          go_wp2_with fail
          go_roundw
          case measure => simp [intOf]; omega
          case rel => exact ⟨i + 1, by omega, by go_num, ⟨N1.out, KJ.out.2⟩⟩
       ·obtain rfl : n5 = i := by omega
        have SB : Aside0 ((rowsB x && setsB x) = true) := ⟨by
         have h1 := KR.out.1
         rw [List.take_of_length_le (by rw [HN5.out]; exact Nat.le_refl _)] at h1
         rw [RB.out, Bool.true_and]
         exact h1⟩
        have BR3 := Aside0.mk KR.out.2
        clear KR hlt hi
        obtain ⟨W3, hW3⟩ : ∃ W, W = wr := ⟨_, rfl⟩
        rw [← hW3] at BR3 b5' ⊢
        clear hW3
        have q0 : W3.cell? ⟨p1, 0, none⟩ = some (.int .i64 kd) := (blk_cell (blk_below Q1.out BR3.out) 0).trans rfl
        have q1 : W3.cell? ⟨p1, 1, none⟩ = some (.int .i64 cap) := (blk_cell (blk_below Q1.out BR3.out) 1).trans rfl
        have q2 : W3.cell? ⟨p1, 2, none⟩ = some (.slice A2 n2 c2) := (blk_cell (blk_below Q1.out BR3.out) 2).trans rfl
        have q3 : W3.cell? ⟨p1, 3, none⟩ = some (.slice A3 n3 c3) := (blk_cell (blk_below Q1.out BR3.out) 3).trans rfl
        have q4 : W3.cell? ⟨p1, 4, none⟩ = some (.int .i64 sz) := (blk_cell (blk_below Q1.out BR3.out) 4).trans rfl
        go_wp2_with fail
        clear q0 q1 q2 q3 q4 b5'
        have BW3 := Aside0.mk (B1.out.trans (BR3.out.mono B1.out.size))
        refine (numbers_any W3 x _ (InstC.below HI.out BW3.out) HX.out).mono ?_
        rintro _ W4 ⟨rfl, B4'⟩
        have B4 := Aside0.mk (BR3.out.trans (B4'.mono BR3.out.size))
        clear B4'
        cases hsm : smallB x with
        | false =>
         have HSM := Aside0.mk hsm
         clear hsm
         go_wp2_with fail
         go_ret
         exact ⟨by rw [chk_small IS.out HL.out HFW.out SB.out HSM.out]; rfl, B1.out.trans (B4.out.mono B1.out.size)⟩
        | true =>
         have HSM := Aside0.mk hsm
         clear hsm
         have CB := Aside0.mk (chk_bare IS.out HL.out HFW.out SB.out HSM.out)
         have b0 : W4.cell? ⟨p1, 0, none⟩ = some (.int .i64 kd) := (blk_cell (blk_below Q1.out B4.out) 0).trans rfl
         have b3 : W4.cell? ⟨p1, 3, none⟩ = some (.slice A3 n3 c3) := (blk_cell (blk_below Q1.out B4.out) 3).trans rfl
         go_upto_region 25 with fail
         clear b0 b3
         go_wp2_with fail
         have K0 : Aside0 ((List.range 0).all (diagB x) = true ∧ Below W1.heap.size W1 W4) := ⟨rfl, B4.out⟩
         go_loopw [9] (fun v wr => ∃ i : Nat, i ≤ n3 ∧ v = .int .i64 i ∧ Aside0 ((List.range i).all (diagB x) = true ∧ Below W1.heap.size W1 wr)) (fun v _ => n3 - (intOf v).toNat)
         case atStart => exact ⟨0, Nat.zero_le _, rfl, K0⟩
         case round =>
          clear K0
          obtain ⟨i, hi, rfl, KR⟩ := hrel
          have b0 : wr.cell? ⟨p1, 0, none⟩ = some (.int .i64 kd) := (blk_cell (blk_below Q1.out KR.out.2) 0).trans rfl
          have b3 : wr.cell? ⟨p1, 3, none⟩ = some (.slice A3 n3 c3) := (blk_cell (blk_below Q1.out KR.out.2) 3).trans rfl
          by_cases hlt : i < n3
          ·have l1 : decide (i < n3) = true := decide_eq_true hlt
           have l2 : decide ((i : Int) < (n3 : Int)) = true := decide_eq_true (by omega)
           by_cases h2 : kd = 2
           ·have g2 : (kd == 2) = true := by rw [h2]; rfl
            have H2K := Aside0.mk h2
            clear h2
            obtain ⟨ad, AY, cY, rfl, a0', ly, hy⟩ := at_L2 H3.out (i : Int) (by omega) (by omega)
            have BW := Aside0.mk (B1.out.trans (KR.out.2.mono B1.out.size))
            have a0 := pw_cell_below BW.out a0'
            rw [Int.toNat_natCast] at a0
            obtain ⟨y, hy1⟩ : ∃ y, y = rd_L2 x.cost (i : Int) := ⟨_, rfl⟩
            have HS : Aside0 (y = x.cost.getD i []) := ⟨by rw [hy1]; unfold rd_L2; rw [Int.toNat_natCast]⟩
            have hnY : y.length = n3 := by
             have h1 := SB.out
             rw [Bool.and_eq_true] at h1
             have h2 := List.all_eq_true.1 h1.1 y (by
              rw [HS.out, List.getD_eq_getElem?_getD, List.getElem?_eq_getElem (by rw [← HN3.out]; exact hlt), Option.getD_some]
              exact List.getElem_mem _)
             rw [beq_iff_eq] at h2
             rw [h2, HN3.out]
            rw [← hy1, hnY] at a0 ly hy
            obtain ⟨ae, rfl, hx'⟩ := at_Int hy i hlt
            have hx := pw_cell_below BW.out hx'
            obtain ⟨z, hz⟩ : ∃ z, z = y.getD i 0 := ⟨_, rfl⟩
            rw [← hz] at hx
            have DZ : Aside0 (diagB x i = (z == 0)) := ⟨by
             unfold diagB
             rw [← HS.out, ← hz, decide_eq_true (by rw [← HF.out.1]; exact H2K.out)]
             rfl⟩
            clear a0' hx' hz hy1 hnY hy
            cases gz : (z == 0) with
            | true =>
             have gz2 : (z != 0) = false := by rw [bne, gz]; rfl
             have N1 : Aside0 ((List.range (i + 1)).all (diagB x) = true) := ⟨by
              rw [List.range_succ, List.all_append, KR.out.1]
              simp [DZ.out, gz]⟩
             go_wp2_with fail
             go_roundw
             case measure => simp [intOf]; omega
             case rel => exact ⟨i + 1, by omega, by go_num, ⟨N1.out, KR.out.2⟩⟩
            | false =>
             have gz2 : (z != 0) = true := by rw [bne, gz]; rfl
             have N1 : Aside0 (chk x = 4) := ⟨by
              rw [CB.out, if_neg]
              intro h
              have := List.all_eq_true.1 h i (by rw [List.mem_range, ← HN3.out]; exact hlt)
              rw [DZ.out, gz] at this
              cases this⟩
             go_wp2_with fail
             go_ret
             exact ⟨by rw [N1.out]; rfl, B1.out.trans ((KR.out.2).mono B1.out.size)⟩
           ·have g2 : (kd == 2) = false := by simpa using h2
            have N1 : Aside0 (chk x = 0) := ⟨by
             rw [CB.out, if_pos]
             exact List.all_eq_true.2 (fun j _ => by
              unfold diagB
              rw [decide_eq_false (by rw [← HF.out.1]; exact h2)]
              rfl)⟩
            clear h2
            go_wp2_with fail
            go_ret
            exact ⟨by rw [N1.out]; rfl, B1.out.trans ((KR.out.2).mono B1.out.size)⟩
          ·obtain rfl : n3 = i := by omega
           have l1 : decide (n3 < n3) = false := decide_eq_false (by omega)
           have l2 : decide ((n3 : Int) < (n3 : Int)) = false := decide_eq_false (by omega)
           have N1 : Aside0 (chk x = 0) := ⟨by
            rw [CB.out, if_pos]
            have h1 := KR.out.1
            rw [HN3.out] at h1
            exact h1⟩
           go_wp2_with fail
           go_ret
           exact ⟨by rw [N1.out]; rfl, B1.out.trans ((KR.out.2).mono B1.out.size)⟩
 ·have hr : chk x = 25 := chk_is (by rw [← HF.out.1]; exact his)
  rw [hr]
  by_cases h1 : kd < 0
  ·have g1 : decide (kd < 0) = true := decide_eq_true h1
   go_enter Tryd.func22, Tryd.ntmps22
   go_wp2_with fail
   go_ret
   exact ⟨rfl, below_alloc (Below.refl _ _) _⟩
  ·have g1 : decide (kd < 0) = false := decide_eq_false h1
   have g2 : decide (kd > 3) = true := decide_eq_true (by omega)
   go_enter Tryd.func22, Tryd.ntmps22
   go_wp2_with fail
   go_ret
   exact ⟨rfl, below_alloc (Below.refl _ _) _⟩
end Go.Proofs.YtlilfgfkedlbcaaDoor.Hand
end
section
namespace Go.Proofs.YtlilfgfkedlbcaaDoor.Hand
open Go.RowKit Go.Proofs.YtlilfgfkedlbcaaDoorW.PrintWords Go.Proofs.YtlilfgfkedlbcaaDoorW.PrintLast Go.Proofs.YtlilfgfkedlbcaaDoorW.PrintMore Go.Proofs.YtlilfgfkedlbcaaDoor.PEvalBetter
theorem fit_sum (x : PI) (xs : List Int) : sumL (xs.map (wgtC x)) = sumTo xs.length (fun i => wgtC x (xs.getD i 0)) := by
 unfold sumL
 rw [List.length_map]
 exact sumTo_congr (fun i hi => getD_map' hi)
theorem all_range_succ (p : Nat → Bool) (n : Nat) : (List.range (n + 1)).all p = ((List.range n).all p && p n) := by
 rw [List.range_succ, List.all_append]
 simp
theorem all_range_le {p : Nat → Bool} {n k : Nat} (h : (List.range k).all p = false) (hk : k ≤ n) : (List.range n).all p = false := by
 rw [Bool.eq_false_iff] at h ⊢
 intro ha
 apply h
 rw [List.all_eq_true] at ha ⊢
 intro i hi
 exact ha i (List.mem_range.2 (by have := List.mem_range.1 hi; omega))
set_option maxHeartbeats 2000000 in
set_option maxRecDepth 100000 in
theorem rfeas_1 (w : World) (x : PI) (v : Value) (h : InstC w x v) (hx : PIok x) (hc : chk x = 0) (hkk : x.kind = 1) (A : Option Addr) (m c : Nat) (ys : List Int) (hC : (Kd.int .i64).C w A m ys) (hm : m ≤ 17592186044416) (r : Bool) (RR : r = mayP x ys) :
  Calls Tryd.prog 15 #[v, .slice A m c] w fun e w' => e = .returned (.bool r) ∧ Aside0 (Below w.heap.size w w') := by
 have HR := Aside0.mk RR
 have hi := iok.1 hc
 have HCK := Aside0.mk hc
 have HC := Aside0.mk hC
 have HL : Aside0 (ys.length = m) := ⟨hC.1⟩
 have HIN := Aside0.mk h
 have HI := Aside0.mk hi
 have HX := Aside0.mk hx
 obtain ⟨A2, c2, A3, c3, A5, c5, rfl, h2, l2, h3, l3, h5, l5⟩ := h
 obtain ⟨n2, hn2⟩ : ∃ n, n = x.items.length := ⟨_, rfl⟩
 obtain ⟨n3, hn3⟩ : ∃ n, n = x.cost.length := ⟨_, rfl⟩
 obtain ⟨n5, hn5⟩ : ∃ n, n = x.sets.length := ⟨_, rfl⟩
 obtain ⟨kd, hkd⟩ : ∃ n, n = x.kind := ⟨_, rfl⟩
 obtain ⟨cap, hcap⟩ : ∃ n, n = x.cap := ⟨_, rfl⟩
 obtain ⟨sz, hsz⟩ : ∃ n, n = x.size := ⟨_, rfl⟩
 rw [← hn2, ← hn3, ← hn5, ← hkd, ← hcap, ← hsz] at HIN
 rw [← hn2, ← hn3, ← hn5, ← hkd, ← hcap, ← hsz]
 have HN := Aside0.mk (And.intro hn2 (And.intro hn3 hn5))
 have HF := Aside0.mk (And.intro hkd (And.intro hcap hsz))
 have H2 := Aside0.mk h2
 have H5 := Aside0.mk h5
 rw [← hn2] at H2
 rw [← hn5] at H5
 rw [hkk] at hkd
 subst hkd
 clear h2 h3 h5 l2 l3 l5 hn2 hn3 hn5 hcap hsz hi hx hC RR hc hkk
 have hu57 := Tryd.underlying35
 have hu68 := Tryd.underlying53
 have hu103 := Tryd.underlying60
 go_enter Tryd.func15, Tryd.ntmps15
 go_upto_region 1 with fail
 obtain ⟨W1, hW1⟩ : ∃ W, W = w.alloc (.cells #[.int .i64 1, .int .i64 cap, .slice A2 n2 c2, .slice A3 n3 c3, .int .i64 sz, .slice A5 n5 c5] 35) := ⟨_, rfl⟩
 rw [← hW1]
 have B1 : Aside0 (Below w.heap.size w W1) := ⟨by rw [hW1]; exact below_alloc (Below.refl _ _) _⟩
 obtain ⟨p1, hp1⟩ : ∃ p, p = w.heap.size := ⟨_, rfl⟩
 have Q1 : Aside0 (W1.heap[p1]? = some (.cells #[.int .i64 1, .int .i64 cap, .slice A2 n2 c2, .slice A3 n3 c3, .int .i64 sz, .slice A5 n5 c5] 35 (0, 0))) := ⟨by rw [hW1, hp1]; exact heap_alloc_new _ _⟩
 rw [← hp1]
 clear hW1 hp1
 have IW : Aside0 (InstC W1 x (.agg #[.int .i64 1, .int .i64 cap, .slice A2 n2 c2, .slice A3 n3 c3, .int .i64 sz, .slice A5 n5 c5])) := ⟨HIN.out.below B1.out⟩
 obtain ⟨q0, q1, q2, q3, q4, q5, _⟩ := six Q1.out (Below.refl _ _)
 go_wp2_with fail
 refine (rcheck_any W1 x _ IW.out HX.out).mono ?_
 rintro _ w2 ⟨rfl, hb2⟩
 rw [HCK.out]
 have B2 : Aside0 (Below W1.heap.size W1 w2) := ⟨hb2⟩
 have CW : Aside0 ((Kd.int .i64).C w2 A m ys) := ⟨Kd.C_below HC.out (B1.out.trans (B2.out.mono B1.out.size))⟩
 clear hb2 q0 q1 q2 q3 q4 q5
 obtain ⟨q0, q1, q2, q3, q4, q5, _⟩ := six Q1.out B2.out
 have E : Aside0 (r = ordB ys n3) := ⟨by
  rw [HR.out]
  unfold mayP
  rw [if_neg (by rw [← HF.out.1]; decide), if_pos HF.out.1.symm, ← HN.out.2.1]⟩
 have hn : Aside0 (n3 ≤ 4096) := ⟨by rw [HN.out.2.1]; exact Nat.le_trans (HI.out.side (.inl HF.out.1.symm)).2 (by decide)⟩
 go_wp2_with fail
 refine (reach_any w2 A m c ys n3 CW.out hm hn.out r E.out).mono ?_
 rintro _ _ ⟨rfl, rfl⟩
 go_wp2_with fail
 go_ret
 exact ⟨rfl, ⟨B1.out.trans (B2.out.mono B1.out.size)⟩⟩
set_option maxHeartbeats 2000000 in
set_option maxRecDepth 100000 in
theorem rfeas_2 (w : World) (x : PI) (v : Value) (h : InstC w x v) (hx : PIok x) (hc : chk x = 0) (hkk : x.kind = 2) (A : Option Addr) (m c : Nat) (ys : List Int) (hC : (Kd.int .i64).C w A m ys) (hm : m ≤ 17592186044416) (r : Bool) (RR : r = mayP x ys) :
  Calls Tryd.prog 15 #[v, .slice A m c] w fun e w' => e = .returned (.bool r) ∧ Aside0 (Below w.heap.size w w') := by
 have HR := Aside0.mk RR
 have hi := iok.1 hc
 have HCK := Aside0.mk hc
 have HC := Aside0.mk hC
 have HL : Aside0 (ys.length = m) := ⟨hC.1⟩
 have HIN := Aside0.mk h
 have HI := Aside0.mk hi
 have HX := Aside0.mk hx
 obtain ⟨A2, c2, A3, c3, A5, c5, rfl, h2, l2, h3, l3, h5, l5⟩ := h
 obtain ⟨n2, hn2⟩ : ∃ n, n = x.items.length := ⟨_, rfl⟩
 obtain ⟨n3, hn3⟩ : ∃ n, n = x.cost.length := ⟨_, rfl⟩
 obtain ⟨n5, hn5⟩ : ∃ n, n = x.sets.length := ⟨_, rfl⟩
 obtain ⟨kd, hkd⟩ : ∃ n, n = x.kind := ⟨_, rfl⟩
 obtain ⟨cap, hcap⟩ : ∃ n, n = x.cap := ⟨_, rfl⟩
 obtain ⟨sz, hsz⟩ : ∃ n, n = x.size := ⟨_, rfl⟩
 rw [← hn2, ← hn3, ← hn5, ← hkd, ← hcap, ← hsz] at HIN
 rw [← hn2, ← hn3, ← hn5, ← hkd, ← hcap, ← hsz]
 have HN := Aside0.mk (And.intro hn2 (And.intro hn3 hn5))
 have HF := Aside0.mk (And.intro hkd (And.intro hcap hsz))
 have H2 := Aside0.mk h2
 have H5 := Aside0.mk h5
 rw [← hn2] at H2
 rw [← hn5] at H5
 rw [hkk] at hkd
 subst hkd
 clear h2 h3 h5 l2 l3 l5 hn2 hn3 hn5 hcap hsz hi hx hC RR hc hkk
 have hu57 := Tryd.underlying35
 have hu68 := Tryd.underlying53
 have hu103 := Tryd.underlying60
 go_enter Tryd.func15, Tryd.ntmps15
 go_upto_region 1 with fail
 obtain ⟨W1, hW1⟩ : ∃ W, W = w.alloc (.cells #[.int .i64 2, .int .i64 cap, .slice A2 n2 c2, .slice A3 n3 c3, .int .i64 sz, .slice A5 n5 c5] 35) := ⟨_, rfl⟩
 rw [← hW1]
 have B1 : Aside0 (Below w.heap.size w W1) := ⟨by rw [hW1]; exact below_alloc (Below.refl _ _) _⟩
 obtain ⟨p1, hp1⟩ : ∃ p, p = w.heap.size := ⟨_, rfl⟩
 have Q1 : Aside0 (W1.heap[p1]? = some (.cells #[.int .i64 2, .int .i64 cap, .slice A2 n2 c2, .slice A3 n3 c3, .int .i64 sz, .slice A5 n5 c5] 35 (0, 0))) := ⟨by rw [hW1, hp1]; exact heap_alloc_new _ _⟩
 rw [← hp1]
 clear hW1 hp1
 have IW : Aside0 (InstC W1 x (.agg #[.int .i64 2, .int .i64 cap, .slice A2 n2 c2, .slice A3 n3 c3, .int .i64 sz, .slice A5 n5 c5])) := ⟨HIN.out.below B1.out⟩
 obtain ⟨q0, q1, q2, q3, q4, q5, _⟩ := six Q1.out (Below.refl _ _)
 go_wp2_with fail
 refine (rcheck_any W1 x _ IW.out HX.out).mono ?_
 rintro _ w2 ⟨rfl, hb2⟩
 rw [HCK.out]
 have B2 : Aside0 (Below W1.heap.size W1 w2) := ⟨hb2⟩
 have CW : Aside0 ((Kd.int .i64).C w2 A m ys) := ⟨Kd.C_below HC.out (B1.out.trans (B2.out.mono B1.out.size))⟩
 clear hb2 q0 q1 q2 q3 q4 q5
 obtain ⟨q0, q1, q2, q3, q4, q5, _⟩ := six Q1.out B2.out
 obtain ⟨b, hb⟩ : ∃ b, b = ordB ys n3 := ⟨_, rfl⟩
 have HB := Aside0.mk hb
 have ME : Aside0 (r = (b && decide (ys.getD 0 0 = 0))) := ⟨by
  rw [HR.out]
  unfold mayP
  rw [if_neg (by rw [← HF.out.1]; decide), if_neg (by rw [← HF.out.1]; decide), if_pos HF.out.1.symm, ← HN.out.2.1, hb]⟩
 have hn : Aside0 (n3 ≤ 4096 ∧ 1 ≤ n3) := ⟨by rw [HN.out.2.1]; exact Nat.le_trans (HI.out.side (.inr HF.out.1.symm)).2 (by decide), by rw [HN.out.2.1]; exact (HI.out.side (.inr HF.out.1.symm)).1⟩
 clear hb
 go_wp2_with fail
 refine (reach_any w2 A m c ys n3 CW.out hm hn.out.1 b HB.out).mono ?_
 rintro _ _ ⟨rfl, rfl⟩
 clear q0 q1 q2 q3 q4 q5
 cases b with
 | false =>
  have E : Aside0 (r = false) := ⟨by rw [ME.out]; rfl⟩
  go_wp2_with fail
  go_ret
  exact ⟨by rw [E.out]; rfl, ⟨B1.out.trans (B2.out.mono B1.out.size)⟩⟩
 | true =>
  have hm0 : 0 < m := by
   have h1 := (ord_in HB.out.symm).1
   have h2 := hn.out.2
   rw [HL.out] at h1
   omega
  obtain ⟨ae, rfl, hx'⟩ := at_Int CW.out 0 hm0
  have hx : w2.cell? ae = some (.int .i64 (ys.getD 0 0)) := hx'
  obtain ⟨z, hz⟩ : ∃ z, z = ys.getD 0 0 := ⟨_, rfl⟩
  rw [← hz] at hx ME
  clear hx' hz
  by_cases hz0 : z = 0
  ·have E : Aside0 (r = true) := ⟨by rw [ME.out, decide_eq_true hz0]; rfl⟩
   subst hz0
   go_wp2_with fail
   go_ret
   exact ⟨by rw [E.out]; rfl, ⟨B1.out.trans (B2.out.mono B1.out.size)⟩⟩
  ·have E : Aside0 (r = false) := ⟨by rw [ME.out, decide_eq_false hz0]; rfl⟩
   have g : (z == 0) = false := beq_eq_false_iff_ne.2 hz0
   clear hz0
   go_wp2_with fail
   go_ret
   exact ⟨by rw [E.out]; rfl, ⟨B1.out.trans (B2.out.mono B1.out.size)⟩⟩
set_option maxHeartbeats 2000000 in
set_option maxRecDepth 100000 in
theorem rfeas_0 (w : World) (x : PI) (v : Value) (h : InstC w x v) (hx : PIok x) (hc : chk x = 0) (hkk : x.kind = 0) (A : Option Addr) (m c : Nat) (ys : List Int) (hC : (Kd.int .i64).C w A m ys) (hm : m ≤ 17592186044416) (r : Bool) (RR : r = mayP x ys) :
  Calls Tryd.prog 15 #[v, .slice A m c] w fun e w' => e = .returned (.bool r) ∧ Aside0 (Below w.heap.size w w') := by
 have HR := Aside0.mk RR
 have hi := iok.1 hc
 have HCK := Aside0.mk hc
 have HC := Aside0.mk hC
 have HL : Aside0 (ys.length = m) := ⟨hC.1⟩
 have HIN := Aside0.mk h
 have HI := Aside0.mk hi
 have HX := Aside0.mk hx
 obtain ⟨A2, c2, A3, c3, A5, c5, rfl, h2, l2, h3, l3, h5, l5⟩ := h
 obtain ⟨n2, hn2⟩ : ∃ n, n = x.items.length := ⟨_, rfl⟩
 obtain ⟨n3, hn3⟩ : ∃ n, n = x.cost.length := ⟨_, rfl⟩
 obtain ⟨n5, hn5⟩ : ∃ n, n = x.sets.length := ⟨_, rfl⟩
 obtain ⟨kd, hkd⟩ : ∃ n, n = x.kind := ⟨_, rfl⟩
 obtain ⟨cap, hcap⟩ : ∃ n, n = x.cap := ⟨_, rfl⟩
 obtain ⟨sz, hsz⟩ : ∃ n, n = x.size := ⟨_, rfl⟩
 rw [← hn2, ← hn3, ← hn5, ← hkd, ← hcap, ← hsz] at HIN
 rw [← hn2, ← hn3, ← hn5, ← hkd, ← hcap, ← hsz]
 have HN := Aside0.mk (And.intro hn2 (And.intro hn3 hn5))
 have HF := Aside0.mk (And.intro hkd (And.intro hcap hsz))
 have H2 := Aside0.mk h2
 have H5 := Aside0.mk h5
 rw [← hn2] at H2
 rw [← hn5] at H5
 rw [hkk] at hkd
 subst hkd
 clear h2 h3 h5 l2 l3 l5 hn2 hn3 hn5 hcap hsz hi hx hC RR hc hkk
 have hu57 := Tryd.underlying35
 have hu68 := Tryd.underlying53
 have hu103 := Tryd.underlying60
 go_enter Tryd.func15, Tryd.ntmps15
 go_upto_region 1 with fail
 obtain ⟨W1, hW1⟩ : ∃ W, W = w.alloc (.cells #[.int .i64 0, .int .i64 cap, .slice A2 n2 c2, .slice A3 n3 c3, .int .i64 sz, .slice A5 n5 c5] 35) := ⟨_, rfl⟩
 rw [← hW1]
 have B1 : Aside0 (Below w.heap.size w W1) := ⟨by rw [hW1]; exact below_alloc (Below.refl _ _) _⟩
 obtain ⟨p1, hp1⟩ : ∃ p, p = w.heap.size := ⟨_, rfl⟩
 have Q1 : Aside0 (W1.heap[p1]? = some (.cells #[.int .i64 0, .int .i64 cap, .slice A2 n2 c2, .slice A3 n3 c3, .int .i64 sz, .slice A5 n5 c5] 35 (0, 0))) := ⟨by rw [hW1, hp1]; exact heap_alloc_new _ _⟩
 rw [← hp1]
 clear hW1 hp1
 have IW : Aside0 (InstC W1 x (.agg #[.int .i64 0, .int .i64 cap, .slice A2 n2 c2, .slice A3 n3 c3, .int .i64 sz, .slice A5 n5 c5])) := ⟨HIN.out.below B1.out⟩
 obtain ⟨q0, q1, q2, q3, q4, q5, _⟩ := six Q1.out (Below.refl _ _)
 go_wp2_with fail
 refine (rcheck_any W1 x _ IW.out HX.out).mono ?_
 rintro _ w2 ⟨rfl, hb2⟩
 rw [HCK.out]
 have B2 : Aside0 (Below W1.heap.size W1 w2) := ⟨hb2⟩
 have CW : Aside0 ((Kd.int .i64).C w2 A m ys) := ⟨Kd.C_below HC.out (B1.out.trans (B2.out.mono B1.out.size))⟩
 clear hb2 q0 q1 q2 q3 q4 q5
 obtain ⟨q0, q1, q2, q3, q4, q5, _⟩ := six Q1.out B2.out
 obtain ⟨b, hb⟩ : ∃ b, b = ascB (n2 : Int) (-1) ys := ⟨_, rfl⟩
 have HB := Aside0.mk hb
 have ME : Aside0 (r = (b && fitB x ys)) := ⟨by
  rw [HR.out]
  unfold mayP
  rw [if_pos HF.out.1.symm, ← HN.out.1, hb]⟩
 clear hb
 go_wp2_with fail
 refine (rrises_any w2 A m c ys (n2 : Int) CW.out hm b HB.out).mono ?_
 rintro _ w3 ⟨rfl, H3⟩
 have B3 : Aside0 (Below W1.heap.size W1 w3) := ⟨B2.out.trans (H3.out.mono B2.out.size)⟩
 clear q0 q1 q2 q3 q4 q5
 cases b with
 | false =>
  have E : Aside0 (r = false) := ⟨by rw [ME.out]; rfl⟩
  go_wp2_with fail
  refine wp_loop_rounds 1 ?_
  rw [rounds_succ]
  by_cases hm0 : 0 < m
  ·go_wp2_with fail
   go_ret
   exact ⟨by rw [E.out]; rfl, ⟨B1.out.trans (B3.out.mono B1.out.size)⟩⟩
  ·go_wp2_with fail
   go_ret
   exact ⟨by rw [E.out]; rfl, ⟨B1.out.trans (B3.out.mono B1.out.size)⟩⟩
 | true =>
  have AL : Aside0 (ys.length ≤ n2 ∧ ∀ e ∈ ys, 0 ≤ e ∧ e < n2) := ⟨asc_len HB.out.symm⟩
  have hm4 : m ≤ 4096 := by
   have h1 := AL.out.1
   have h2 := HI.out.nitems
   rw [← HN.out.1] at h2
   rw [HL.out] at h1
   omega
  have K0 : Aside0 ((0 : Int) = sumTo 0 (fun i => wgtC x (ys.getD i 0)) ∧ Below W1.heap.size W1 w3) := ⟨rfl, B3.out⟩
  clear B3
  go_wp2_with fail
  go_loopw [7, 8] (fun v7 v8 wr => ∃ (j : Nat) (s : Int), j ≤ m ∧ 0 ≤ s ∧ s ≤ 2147483648 * (j : Int) ∧ v7 = .int .i64 s ∧ v8 = .int .i64 (j : Int) ∧ Aside0 (s = sumTo j (fun i => wgtC x (ys.getD i 0)) ∧ Below W1.heap.size W1 wr)) (fun _ v8 _ => m - (intOf v8).toNat)
  case atStart => exact ⟨0, 0, Nat.zero_le _, Int.le_refl _, Int.le_refl _, rfl, rfl, K0⟩
  case round =>
   clear K0
   obtain ⟨j, s, hj, hs0, hs1, rfl, rfl, KK⟩ := hrel
   by_cases hlt : j < m
   ·have hjl : j < ys.length := by rw [HL.out]; exact hlt
    obtain ⟨ae, rfl, hx'⟩ := at_Int HC.out j hlt
    have BW : Aside0 (Below w.heap.size w wr) := ⟨B1.out.trans (KK.out.2.mono B1.out.size)⟩
    have hx := pw_cell_below BW.out hx'
    have hzr := AL.out.2 (ys.getD j 0) (getD_mem' hjl)
    obtain ⟨q, hq⟩ : ∃ q : Nat, (q : Int) = ys.getD j 0 := ⟨(ys.getD j 0).toNat, by omega⟩
    rw [← hq] at hx hzr
    have hqK : q < n2 := by omega
    obtain ⟨ad, rfl, a0', a1'⟩ := at_T55 H2.out (q : Int) (by omega) (by omega)
    have a1 := pw_cell_below BW.out a1'
    rw [Int.toNat_natCast] at a1
    obtain ⟨z, hz⟩ : ∃ z, z = (rd_T55 x.items (q : Int)).f1 := ⟨_, rfl⟩
    rw [← hz] at a1
    have HZ : Aside0 (z = wgtC x (ys.getD j 0)) := ⟨by
     rw [hz, ← hq]
     unfold wgtC rd_T55
     rfl⟩
    have hzb : 0 ≤ z ∧ z ≤ 2147483648 := by
     have hl : q < x.items.length := by rw [← HN.out.1]; exact hqK
     have := (HI.out.items _ (List.getElem_mem hl)).2
     rw [hz]
     unfold rd_T55
     rw [Int.toNat_natCast, List.getD_eq_getElem?_getD, List.getElem?_eq_getElem hl, Option.getD_some]
     exact this
    obtain ⟨hzb0, hzb1⟩ := hzb
    have q2 : wr.cell? ⟨p1, 2, none⟩ = some (.slice (some ad) n2 c2) := (blk_cell (blk_below Q1.out KK.out.2) 2).trans rfl
    have v1 : wrap64 (s + z) = s + z := by unfold wrap64; omega
    have v2 : IntKind.i64.wrap (s + z) = s + z := by rw [i64_w]; exact v1
    have N1 : Aside0 (s + z = sumTo (j + 1) (fun i => wgtC x (ys.getD i 0))) := ⟨by rw [sumTo_succ, ← KK.out.1, ← HZ.out]⟩
    clear hx' hzr hq a0' a1' hz hjl
    go_upto_region 11 with fail
    go_quiet (fail)
    clear v1 v2
    go_wp2_with fail
    go_roundw
    case measure => simp [intOf]; omega
    case rel => exact ⟨j + 1, s + z, by omega, by omega, by omega, rfl, by go_num, ⟨N1.out, pw_below_drewN KK.out.2 nq⟩⟩
   ·obtain rfl : m = j := by omega
    have E : Aside0 (r = decide (s ≤ cap)) := ⟨by
     rw [ME.out, Bool.true_and]
     unfold fitB
     rw [fit_sum, HL.out, ← KK.out.1, HF.out.2.1]⟩
    have q1 : wr.cell? ⟨p1, 1, none⟩ = some (.int .i64 cap) := (blk_cell (blk_below Q1.out KK.out.2) 1).trans rfl
    go_wp2_with fail
    go_ret
    exact ⟨by rw [E.out]; rfl, ⟨B1.out.trans (KK.out.2.mono B1.out.size)⟩⟩
set_option maxHeartbeats 2000000 in
set_option maxRecDepth 100000 in
theorem rfeas_3 (w : World) (x : PI) (v : Value) (h : InstC w x v) (hx : PIok x) (hc : chk x = 0) (hkk : x.kind = 3) (A : Option Addr) (m c : Nat) (ys : List Int) (hC : (Kd.int .i64).C w A m ys) (hm : m ≤ 17592186044416) (r : Bool) (RR : r = mayP x ys) :
  Calls Tryd.prog 15 #[v, .slice A m c] w fun e w' => e = .returned (.bool r) ∧ Aside0 (Below w.heap.size w w') := by
 have HR := Aside0.mk RR
 have hi := iok.1 hc
 have HCK := Aside0.mk hc
 have HC := Aside0.mk hC
 have HL : Aside0 (ys.length = m) := ⟨hC.1⟩
 have HIN := Aside0.mk h
 have HI := Aside0.mk hi
 have HX := Aside0.mk hx
 obtain ⟨A2, c2, A3, c3, A5, c5, rfl, h2, l2, h3, l3, h5, l5⟩ := h
 obtain ⟨n2, hn2⟩ : ∃ n, n = x.items.length := ⟨_, rfl⟩
 obtain ⟨n3, hn3⟩ : ∃ n, n = x.cost.length := ⟨_, rfl⟩
 obtain ⟨n5, hn5⟩ : ∃ n, n = x.sets.length := ⟨_, rfl⟩
 obtain ⟨kd, hkd⟩ : ∃ n, n = x.kind := ⟨_, rfl⟩
 obtain ⟨cap, hcap⟩ : ∃ n, n = x.cap := ⟨_, rfl⟩
 obtain ⟨sz, hsz⟩ : ∃ n, n = x.size := ⟨_, rfl⟩
 rw [← hn2, ← hn3, ← hn5, ← hkd, ← hcap, ← hsz] at HIN
 rw [← hn2, ← hn3, ← hn5, ← hkd, ← hcap, ← hsz]
 have HN := Aside0.mk (And.intro hn2 (And.intro hn3 hn5))
 have HF := Aside0.mk (And.intro hkd (And.intro hcap hsz))
 have H2 := Aside0.mk h2
 have H5 := Aside0.mk h5
 rw [← hn2] at H2
 rw [← hn5] at H5
 rw [hkk] at hkd
 subst hkd
 clear h2 h3 h5 l2 l3 l5 hn2 hn3 hn5 hcap hsz hi hx hC RR hc hkk
 have hu57 := Tryd.underlying35
 have hu68 := Tryd.underlying53
 have hu103 := Tryd.underlying60
 go_enter Tryd.func15, Tryd.ntmps15
 go_upto_region 1 with fail
 obtain ⟨W1, hW1⟩ : ∃ W, W = w.alloc (.cells #[.int .i64 3, .int .i64 cap, .slice A2 n2 c2, .slice A3 n3 c3, .int .i64 sz, .slice A5 n5 c5] 35) := ⟨_, rfl⟩
 rw [← hW1]
 have B1 : Aside0 (Below w.heap.size w W1) := ⟨by rw [hW1]; exact below_alloc (Below.refl _ _) _⟩
 obtain ⟨p1, hp1⟩ : ∃ p, p = w.heap.size := ⟨_, rfl⟩
 have Q1 : Aside0 (W1.heap[p1]? = some (.cells #[.int .i64 3, .int .i64 cap, .slice A2 n2 c2, .slice A3 n3 c3, .int .i64 sz, .slice A5 n5 c5] 35 (0, 0))) := ⟨by rw [hW1, hp1]; exact heap_alloc_new _ _⟩
 rw [← hp1]
 clear hW1 hp1
 have IW : Aside0 (InstC W1 x (.agg #[.int .i64 3, .int .i64 cap, .slice A2 n2 c2, .slice A3 n3 c3, .int .i64 sz, .slice A5 n5 c5])) := ⟨HIN.out.below B1.out⟩
 obtain ⟨q0, q1, q2, q3, q4, q5, _⟩ := six Q1.out (Below.refl _ _)
 go_wp2_with fail
 refine (rcheck_any W1 x _ IW.out HX.out).mono ?_
 rintro _ w2 ⟨rfl, hb2⟩
 rw [HCK.out]
 have B2 : Aside0 (Below W1.heap.size W1 w2) := ⟨hb2⟩
 have CW : Aside0 ((Kd.int .i64).C w2 A m ys) := ⟨Kd.C_below HC.out (B1.out.trans (B2.out.mono B1.out.size))⟩
 clear hb2 q0 q1 q2 q3 q4 q5
 obtain ⟨q0, q1, q2, q3, q4, q5, _⟩ := six Q1.out B2.out
 obtain ⟨b, hb⟩ : ∃ b, b = ascB (n5 : Int) (-1) ys := ⟨_, rfl⟩
 have HB := Aside0.mk hb
 have ME : Aside0 (r = (b && covB x ys)) := ⟨by
  rw [HR.out]
  unfold mayP
  rw [if_neg (by rw [← HF.out.1]; decide), if_neg (by rw [← HF.out.1]; decide), if_neg (by rw [← HF.out.1]; decide), ← HN.out.2.2, hb]⟩
 clear hb
 go_wp2_with fail
 refine (rrises_any w2 A m c ys (n5 : Int) CW.out hm b HB.out).mono ?_
 rintro _ w3 ⟨rfl, H3⟩
 have B3 : Aside0 (Below W1.heap.size W1 w3) := ⟨B2.out.trans (H3.out.mono B2.out.size)⟩
 clear q0 q1 q2 q3 q4 q5
 obtain ⟨n, hn⟩ : ∃ n : Nat, sz = (n : Int) := ⟨sz.toNat, by have h1 := HI.out.size.1; have h2 := HF.out.2.2; omega⟩
 subst hn
 have hn5 : n ≤ 4096 := by have h1 := HI.out.size.2; have h2 := HF.out.2.2; omega
 have CV : Aside0 (covB x ys = (List.range n).all fun e => decide ((e : Int) ∈ ys.flatMap (elsC x))) := ⟨by
  unfold covB
  rw [← HF.out.2.2, Int.toNat_natCast]⟩
 have K0 : Aside0 (b = (b && (List.range 0).all fun e => decide ((e : Int) ∈ ys.flatMap (elsC x)))) := ⟨by simp⟩
 go_wp2_with fail
 go_loop [10, 11] (fun v10 v11 => ∃ (e : Nat) (f : Bool), e ≤ n ∧ v10 = .bool f ∧ v11 = .int .i64 (e : Int) ∧ Aside0 (f = (b && (List.range e).all fun e => decide ((e : Int) ∈ ys.flatMap (elsC x))))) (fun _ v11 => n - (intOf v11).toNat)
 case atStart => exact ⟨0, b, Nat.zero_le _, rfl, rfl, K0⟩
 case round =>
  clear K0
  obtain ⟨e, f, he, rfl, rfl, KK⟩ := hrel
  have q4 : w3.cell? ⟨p1, 4, none⟩ = some (.int .i64 (n : Int)) := (blk_cell (blk_below Q1.out B3.out) 4).trans rfl
  have q5 : w3.cell? ⟨p1, 5, none⟩ = some (.slice A5 n5 c5) := (blk_cell (blk_below Q1.out B3.out) 5).trans rfl
  by_cases hlt : e < n
  ·cases f with
   | false =>
    have E : Aside0 (r = false) := ⟨by
     rw [ME.out, CV.out]
     have h1 := KK.out
     cases b with
     | false => rfl
     | true =>
      rw [Bool.true_and] at h1 ⊢
      exact all_range_le h1.symm (Nat.le_of_lt hlt)⟩
    go_wp2_with fail
    go_ret
    exact ⟨by rw [E.out]; rfl, ⟨B1.out.trans (B3.out.mono B1.out.size)⟩⟩
   | true =>
    obtain ⟨u, hu⟩ : ∃ u, u = decide ((e : Int) ∈ ys.flatMap (elsC x)) := ⟨_, rfl⟩
    have HU := Aside0.mk hu
    have hbt : b = true := by
     have h1 := KK.out
     cases b with
     | false => cases h1
     | true => rfl
    have AL : Aside0 (∀ e ∈ ys, 0 ≤ e ∧ e < n5) := ⟨(asc_len (by rw [← HB.out]; exact hbt)).2⟩
    have N1 : Aside0 (u = (b && (List.range (e + 1)).all fun e => decide ((e : Int) ∈ ys.flatMap (elsC x)))) := ⟨by
     rw [all_range_succ, ← hu, ← Bool.and_assoc, ← KK.out, Bool.true_and]⟩
    clear hu hbt
    go_wp2_with fail
    refine (rhas_any w3 x HX.out A5 n5 c5 (Kd.C_below H5.out (B1.out.trans (B3.out.mono B1.out.size))) A m c ys (Kd.C_below HC.out (B1.out.trans (B3.out.mono B1.out.size))) hm AL.out (e : Int) u HU.out).mono ?_
    rintro _ _ ⟨rfl, rfl⟩
    go_wp2_with fail
    exact ⟨⟨e + 1, u, by omega, rfl, by go_num, N1⟩, by simp [intOf]; omega⟩
  ·obtain rfl : n = e := by omega
   have E : Aside0 (r = f) := ⟨by rw [ME.out, CV.out, KK.out]⟩
   go_wp2_with fail
   go_ret
   exact ⟨by rw [E.out]; rfl, ⟨B1.out.trans (B3.out.mono B1.out.size)⟩⟩
end Go.Proofs.YtlilfgfkedlbcaaDoor.Hand
end
