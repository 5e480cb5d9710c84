/- Texts Dj Mb Mc Mo Mp Dn Do Dp Dka Dq Dr Md Me, cut to what is used. -/
import Derived.Deep.QuietTactic
import Derived.BigQuiet
import Derived.StillTailTactics
import Derived.Test.YtelabmhhnpfegaaXa0
import Derived.Test.YtelabmhhnpfegaaXa2
import Derived.Test.YtelabmhhnpfegaaXa4
import Derived.Test.YtelabmhhnpfegaaXa9
set_option linter.unusedVariables false
set_option linter.unusedSimpArgs false
section
namespace Go.Proofs.Ytelabmhhnpfegaa.Hand
open Go.RowKit Go.Proofs.YtelabmhhnpfegaaW.PrintWords Go.Proofs.YtelabmhhnpfegaaW.PrintLast Go.Proofs.YtelabmhhnpfegaaW.PrintMore Go.Proofs.Ytelabmhhnpfegaa.PDynCells
theorem chk_is {x : PI} (h : ¬ (0 ≤ x.kind ∧ x.kind < 4)) : chk x = 25 := by
 unfold chk
 rw [decide_eq_false h]
 rfl
theorem chk_lean {x : PI} (h : 0 ≤ x.kind ∧ x.kind < 4) (h1 : leanB x = false) : chk x = 4 := by
 unfold chk
 rw [decide_eq_true h, h1]
 rfl
theorem chk_few {x : PI} (h : 0 ≤ x.kind ∧ x.kind < 4) (h1 : leanB x = true) (h2 : fewB x = false) : chk x = 22 := by
 unfold chk
 rw [decide_eq_true h, h1, h2]
 rfl
theorem chk_shape {x : PI} (h : 0 ≤ x.kind ∧ x.kind < 4) (h1 : leanB x = true) (h2 : fewB x = true) (h3 : (rowsB x && setsB x) = false) : chk x = 4 := by
 unfold chk
 rw [decide_eq_true h, h1, h2, h3]
 rfl
theorem chk_small {x : PI} (h : 0 ≤ x.kind ∧ x.kind < 4) (h1 : leanB x = true) (h2 : fewB x = true) (h3 : (rowsB x && setsB x) = true) (h4 : smallB x = false) : chk x = 22 := by
 unfold chk
 rw [decide_eq_true h, h1, h2, h3, h4]
 rfl
theorem chk_bare {x : PI} (h : 0 ≤ x.kind ∧ x.kind < 4) (h1 : leanB x = true) (h2 : fewB x = true) (h3 : (rowsB x && setsB x) = true) (h4 : smallB x = true) : chk x = if bareB x = true then 0 else 4 := by
 unfold chk
 rw [decide_eq_true h, h1, h2, h3, h4]
 rfl
set_option maxHeartbeats 4000000 in
set_option maxRecDepth 100000 in
theorem rcheck_any (w : World) (x : PI) (v : Value) (h : InstC w x v) (hx : PIok x) : Calls Try.prog 32 #[v] w fun e w' => e = .returned (.int .i64 (chk x)) ∧ Below w.heap.size w w' := by
 obtain ⟨A2, c2, A3, c3, A5, c5, rfl, h2, l2, h3, l3, h5, l5⟩ := id h
 have HI := Aside0.mk h
 clear h
 obtain ⟨n2, hn2⟩ : ∃ n, n = x.items.length := ⟨_, rfl⟩
 obtain ⟨n3, hn3⟩ : ∃ n, n = x.cost.length := ⟨_, rfl⟩
 obtain ⟨n5, hn5⟩ : ∃ n, n = x.sets.length := ⟨_, rfl⟩
 obtain ⟨kd, hkd⟩ : ∃ n, n = x.kind := ⟨_, rfl⟩
 obtain ⟨cap, hcap⟩ : ∃ n, n = x.cap := ⟨_, rfl⟩
 obtain ⟨sz, hsz⟩ : ∃ n, n = x.size := ⟨_, rfl⟩
 have b2 := hx.items
 have b3 := hx.cost
 have b5 := hx.sets
 rw [← hn2] at HI h2 l2 b2 ⊢
 rw [← hn3] at HI h3 l3 b3 ⊢
 rw [← hn5] at HI h5 l5 b5 ⊢
 rw [← hkd, ← hcap, ← hsz] at HI ⊢
 have HF := Aside0.mk (And.intro hkd (And.intro hcap hsz))
 have HN2 := Aside0.mk hn2
 have HN3 := Aside0.mk hn3
 have HN5 := Aside0.mk hn5
 have H2 := Aside0.mk h2
 have H3 := Aside0.mk h3
 have H5 := Aside0.mk h5
 have HX := Aside0.mk hx
 clear hkd hcap hsz hn2 hn3 hn5 h2 h3 h5 hx
 have hu57 := Try.underlying57
 have hu68 := Try.underlying68
 have hu103 := Try.underlying103
 by_cases his : 0 ≤ kd ∧ kd < 4
 ·have g1 : decide (kd < 0) = false := decide_eq_false (by omega)
  have g2 : decide (kd > 3) = false := decide_eq_false (by omega)
  have IS : Aside0 (0 ≤ x.kind ∧ x.kind < 4) := ⟨by rw [← HF.out.1]; exact his⟩
  go_enter Try.func32, Try.ntmps32
  go_upto_region 3 with fail
  clear g1 g2
  obtain ⟨W1, hW1⟩ : ∃ W, W = w.alloc (.cells #[.int .i64 kd, .int .i64 cap, .slice A2 n2 c2, .slice A3 n3 c3, .int .i64 sz, .slice A5 n5 c5] 57) := ⟨_, rfl⟩
  rw [← hW1]
  have B1 : Aside0 (Below w.heap.size w W1) := ⟨by rw [hW1]; exact below_alloc (Below.refl _ _) _⟩
  obtain ⟨p1, hp1⟩ : ∃ p, p = w.heap.size := ⟨_, rfl⟩
  have Q1 : Aside0 (W1.heap[p1]? = some (.cells #[.int .i64 kd, .int .i64 cap, .slice A2 n2 c2, .slice A3 n3 c3, .int .i64 sz, .slice A5 n5 c5] 57 (0, 0))) := ⟨by rw [hW1, hp1]; exact heap_alloc_new _ _⟩
  rw [← hp1]
  clear hW1 hp1
  have q0 : W1.cell? ⟨p1, 0, none⟩ = some (.int .i64 kd) := (blk_cell Q1.out 0).trans rfl
  have q1 : W1.cell? ⟨p1, 1, none⟩ = some (.int .i64 cap) := (blk_cell Q1.out 1).trans rfl
  have q2 : W1.cell? ⟨p1, 2, none⟩ = some (.slice A2 n2 c2) := (blk_cell Q1.out 2).trans rfl
  have q3 : W1.cell? ⟨p1, 3, none⟩ = some (.slice A3 n3 c3) := (blk_cell Q1.out 3).trans rfl
  have q4 : W1.cell? ⟨p1, 4, none⟩ = some (.int .i64 sz) := (blk_cell Q1.out 4).trans rfl
  have q5 : W1.cell? ⟨p1, 5, none⟩ = some (.slice A5 n5 c5) := (blk_cell Q1.out 5).trans rfl
  obtain ⟨s1, hs1⟩ : ∃ s, (kd == 1) = s := ⟨_, rfl⟩
  obtain ⟨s2, hs2⟩ : ∃ s, (kd == 2) = s := ⟨_, rfl⟩
  obtain ⟨z0, hz0⟩ : ∃ s, (kd != 0) = s := ⟨_, rfl⟩
  obtain ⟨z3, hz3⟩ : ∃ s, (kd != 3) = s := ⟨_, rfl⟩
  obtain ⟨bc, hbc⟩ : ∃ s, (cap != 0) = s := ⟨_, rfl⟩
  obtain ⟨bs, hbs⟩ : ∃ s, (sz != 0) = s := ⟨_, rfl⟩
  obtain ⟨d2, hd2⟩ : ∃ s, decide (0 < n2) = s := ⟨_, rfl⟩
  obtain ⟨d3, hd3⟩ : ∃ s, decide (0 < n3) = s := ⟨_, rfl⟩
  obtain ⟨d5, hd5⟩ : ∃ s, decide (0 < n5) = s := ⟨_, rfl⟩
  have SQ : Aside0 ((s1 || s2) = decide (x.kind = 1 ∨ x.kind = 2)) := ⟨by rw [← hs1, ← hs2, ← HF.out.1]; by_cases h1 : kd = 1 <;> by_cases h2 : kd = 2 <;> simp [h1, h2]⟩
  have LB : Aside0 (leanB x = ((!z0 || (!bc && !d2)) && ((s1 || s2) || !d3) && (!z3 || (!bs && !d5)))) := ⟨by
   have e2 : (!d2) = decide (x.items.length = 0) := by rw [← hd2, ← HN2.out]; by_cases h : n2 = 0 <;> simp [h]; omega
   have e3 : (!d3) = decide (x.cost.length = 0) := by rw [← hd3, ← HN3.out]; by_cases h : n3 = 0 <;> simp [h]; omega
   have e5 : (!d5) = decide (x.sets.length = 0) := by rw [← hd5, ← HN5.out]; by_cases h : n5 = 0 <;> simp [h]; omega
   have f0 : (!z0) = decide (x.kind = 0) := by rw [← hz0, ← HF.out.1]; by_cases h : kd = 0 <;> simp [h]
   have f3 : (!z3) = decide (x.kind = 3) := by rw [← hz3, ← HF.out.1]; by_cases h : kd = 3 <;> simp [h]
   have fc : (!bc) = decide (x.cap = 0) := by rw [← hbc, ← HF.out.2.1]; by_cases h : cap = 0 <;> simp [h]
   have fs : (!bs) = decide (x.size = 0) := by rw [← hbs, ← HF.out.2.2]; by_cases h : sz = 0 <;> simp [h]
   unfold leanB
   rw [f0, fc, e2, SQ.out, e3, f3, fs, e5]⟩
  obtain ⟨sq, hsq⟩ : ∃ s : Bool, s = (s1 || s2) := ⟨_, rfl⟩
  have SQ2 := Aside0.mk hsq
  go_cut [3] from 18 to 25 (fun s3 wx => s3 = .bool sq ∧ wx = W1)
  case first =>
   clear hsq
   go_wp2_with fail
   all_goals
    go_meet
    refine ⟨?_, rfl⟩
    rw [SQ2.out]
    congr 1
    cases s1 <;> cases s2 <;> first | rfl | contradiction
  case rest =>
  obtain ⟨rfl, hw⟩ := hcut
  rw [hw]
  clear hw
  rw [← hsq] at LB
  clear hsq hs1 hs2
  go_upto_region 4 with fail
  go_cut [3, 65] from 26 to 65 (fun s3 s65 wx => s3 = .bool sq ∧ s65 = .bool (!leanB x) ∧ wx = W1)
  case first =>
   go_wp2_with fail
   all_goals
    go_meet
    refine ⟨?_, ?_, rfl⟩
    ·clear LB hz0 hz3 hbc hbs hd2 hd3 hd5
     cases sq <;> first | rfl | contradiction
    ·rw [LB.out]
     clear LB hz0 hz3 hbc hbs hd2 hd3 hd5
     all_goals (cases z0 <;> try contradiction)
     all_goals (cases bc <;> try contradiction)
     all_goals (cases d2 <;> try contradiction)
     all_goals (cases sq <;> try contradiction)
     all_goals (cases d3 <;> try contradiction)
     all_goals (cases z3 <;> try contradiction)
     all_goals (cases bs <;> try contradiction)
     all_goals first | rfl | (cases d5 <;> rfl)
  case rest =>
  obtain ⟨rfl, rfl, hw⟩ := hcut
  rw [hw]
  clear hw hz0 hz3 hbc hbs hd2 LB
  cases hl : leanB x with
  | false =>
   have HL := Aside0.mk hl
   clear hl
   go_wp2_with fail
   go_ret
   exact ⟨by rw [chk_lean IS.out HL.out]; rfl, B1.out⟩
  | true =>
   have HL := Aside0.mk hl
   clear hl
   go_upto_region 6 with fail
   clear hd3 hd5
   obtain ⟨t2, ht2⟩ : ∃ s, decide (4096 < (n2 : Int)) = s := ⟨_, rfl⟩
   obtain ⟨t5, ht5⟩ : ∃ s, decide (4096 < (n5 : Int)) = s := ⟨_, rfl⟩
   obtain ⟨t3, ht3⟩ : ∃ s, decide (64 < (n3 : Int)) = s := ⟨_, rfl⟩
   obtain ⟨e3, he3⟩ : ∃ s, ((n3 : Int) == 0) = s := ⟨_, rfl⟩
   obtain ⟨m1, hm1⟩ : ∃ s, decide (sz < 0) = s := ⟨_, rfl⟩
   obtain ⟨m2, hm2⟩ : ∃ s, decide (4096 < sz) = s := ⟨_, rfl⟩
   have FB : Aside0 (fewB x = (!t2 && !t5 && !t3 && !(sq && e3) && !m1 && !m2)) := ⟨by
    have g2 : decide (x.items.length ≤ 4096) = !t2 := by rw [← ht2, ← HN2.out]; rw [Bool.eq_iff_iff]; simp only [Bool.not_eq_true', decide_eq_true_eq, decide_eq_false_iff_not]; omega
    have g5 : decide (x.sets.length ≤ 4096) = !t5 := by rw [← ht5, ← HN5.out]; rw [Bool.eq_iff_iff]; simp only [Bool.not_eq_true', decide_eq_true_eq, decide_eq_false_iff_not]; omega
    have g1 : decide (1 ≤ x.cost.length) = !e3 := by rw [← he3, ← HN3.out]; rw [Bool.eq_iff_iff]; simp only [Bool.not_eq_true', decide_eq_true_eq, beq_eq_false_iff_ne, ne_eq]; omega
    have g3 : decide (x.cost.length ≤ 64) = !t3 := by rw [← ht3, ← HN3.out]; rw [Bool.eq_iff_iff]; simp only [Bool.not_eq_true', decide_eq_true_eq, decide_eq_false_iff_not]; omega
    have gz : decide (0 ≤ x.size ∧ x.size ≤ 4096) = (!m1 && !m2) := by rw [← hm1, ← hm2, ← HF.out.2.2]; rw [Bool.eq_iff_iff]; simp only [Bool.and_eq_true, Bool.not_eq_true', decide_eq_true_eq, decide_eq_false_iff_not]; omega
    have gs : decide (x.kind = 1 ∨ x.kind = 2) = sq := by rw [SQ2.out, SQ.out]
    have hn : sq = false → t3 = false := fun h => by
     have h1 := HL.out
     unfold leanB at h1
     rw [gs, h] at h1
     simp only [Bool.and_eq_true, Bool.or_eq_true, decide_eq_true_eq, Bool.false_eq_true, false_or] at h1
     have h2 := h1.1.2
     rw [← ht3]
     exact decide_eq_false (by have := HN3.out; omega)
    unfold fewB
    rw [gs, g1, g3, g2, g5, gz]
    cases sq with
    | true => cases t2 <;> cases t5 <;> cases t3 <;> cases e3 <;> cases m1 <;> cases m2 <;> rfl
    | false =>
     rw [hn rfl]
     cases t2 <;> cases t5 <;> cases e3 <;> cases m1 <;> cases m2 <;> rfl⟩
   go_cut [3, 100] from 66 to 100 (fun s3 s100 wx => s3 = .bool sq ∧ s100 = .bool (!fewB x) ∧ wx = W1)
   case first =>
    go_wp2_with fail
    all_goals
     go_meet
     refine ⟨?_, ?_, rfl⟩
     ·clear FB ht2 ht5 ht3 he3 hm1 hm2
      cases sq <;> first | rfl | contradiction
     ·rw [FB.out]
      clear FB ht2 ht5 ht3 he3 hm1 hm2
      all_goals (cases t2 <;> try contradiction)
      all_goals (cases t5 <;> try contradiction)
      all_goals (cases t3 <;> try contradiction)
      all_goals (cases sq <;> try contradiction)
      all_goals (cases e3 <;> try contradiction)
      all_goals (cases m1 <;> try contradiction)
      all_goals first | rfl | (cases m2 <;> rfl)
   case rest =>
   obtain ⟨rfl, rfl, hw⟩ := hcut
   rw [hw]
   clear hw ht2 ht5 ht3 he3 hm1 hm2 FB
   cases hf : fewB x with
   | false =>
    have HFW := Aside0.mk hf
    clear hf
    go_wp2_with fail
    go_ret
    exact ⟨by rw [chk_few IS.out HL.out HFW.out]; rfl, B1.out⟩
   | true =>
    have HFW := Aside0.mk hf
    clear hf
    go_upto_region 8 with fail
    go_wp2_with fail
    clear q0 q1 q2 q3 q4 q5
    have K0 : Aside0 ((x.cost.take 0).all (fun r => r.length == x.cost.length) = true ∧ Below W1.heap.size W1 W1) := ⟨rfl, Below.refl _ _⟩
    go_loopw [4] (fun v wr => ∃ i : Nat, i ≤ n3 ∧ v = .int .i64 i ∧ Aside0 ((x.cost.take i).all (fun r => r.length == x.cost.length) = true ∧ Below W1.heap.size W1 wr)) (fun v _ => n3 - (intOf v).toNat)
    case atStart => exact ⟨0, Nat.zero_le _, rfl, K0⟩
    case round =>
     clear K0
     obtain ⟨i, hi, rfl, KR⟩ := hrel
     have b3' : wr.cell? ⟨p1, 3, none⟩ = some (.slice A3 n3 c3) := (blk_cell (blk_below Q1.out KR.out.2) 3).trans rfl
     by_cases hlt : i < n3
     ·obtain ⟨ad, AY, cY, rfl, a0', ly, hy⟩ := at_L2 H3.out (i : Int) (by omega) (by omega)
      have a0 := pw_cell_below (B1.out.trans (KR.out.2.mono B1.out.size)) a0'
      rw [Int.toNat_natCast] at a0
      have NX := Aside0.mk (all_take (l := x.cost) (i := i) (by rw [← HN3.out]; exact hlt) [] (fun r => r.length == x.cost.length))
      obtain ⟨y, hy1⟩ : ∃ y, y = rd_L2 x.cost (i : Int) := ⟨_, rfl⟩
      have HS : Aside0 (y = x.cost.getD i []) := ⟨by rw [hy1]; unfold rd_L2; rw [Int.toNat_natCast]⟩
      rw [← hy1] at a0 ly
      obtain ⟨nY, hnY⟩ : ∃ n, n = y.length := ⟨_, rfl⟩
      rw [← hnY] at a0 ly
      have HNY := Aside0.mk hnY
      clear hnY hy1 a0' hy
      by_cases e : nY = n3
      ·have ge : ((nY : Int) != (n3 : Int)) = false := by rw [e]; simp
       have E := Aside0.mk e
       clear e
       go_upto_region 11 with fail
       go_quiet (fail)
       go_wp2_with fail
       go_roundw
       case measure => simp [intOf]; omega
       case rel => exact ⟨i + 1, by omega, by go_num, ⟨by rw [NX.out, KR.out.1, ← HS.out, ← HNY.out, E.out, HN3.out]; simp, pw_below_drewN KR.out.2 nq⟩⟩
      ·have ge : ((nY : Int) != (n3 : Int)) = true := by simp; omega
       have E := Aside0.mk e
       clear e
       have RB : Aside0 (rowsB x = false) := ⟨all_not (i := i) (by rw [← HN3.out]; exact hlt) [] (by rw [← HS.out]; exact beq_eq_false_iff_ne.2 (by rw [← HNY.out, ← HN3.out]; exact E.out))⟩
       go_upto_region 11 with fail
       go_quiet (fail)
       go_wp2_with fail
       go_ret
       exact ⟨by rw [chk_shape IS.out HL.out HFW.out (by rw [RB.out]; rfl)]; rfl, B1.out.trans ((pw_below_drewN KR.out.2 nq).mono B1.out.size)⟩
     ·obtain rfl : n3 = i := by omega
      have RB : Aside0 (rowsB x = true) := ⟨by
       have h1 := KR.out.1
       rw [List.take_of_length_le (by rw [HN3.out]; exact Nat.le_refl _)] at h1
       exact h1⟩
      have BR := Aside0.mk KR.out.2
      clear KR hlt hi
      obtain ⟨W2, hW2⟩ : ∃ W, W = wr := ⟨_, rfl⟩
      rw [← hW2] at BR b3' ⊢
      clear hW2
      go_upto_region 13 with fail
      clear b3'
      go_wp2_with fail
      have K0 : Aside0 ((x.sets.take 0).all (fun s => ascB x.size (-1) s.f1) = true ∧ Below W1.heap.size W1 W2) := ⟨rfl, BR.out⟩
      go_loopw [5] (fun v wr => ∃ i : Nat, i ≤ n5 ∧ v = .int .i64 i ∧ Aside0 ((x.sets.take i).all (fun s => ascB x.size (-1) s.f1) = true ∧ Below W1.heap.size W1 wr)) (fun v _ => n5 - (intOf v).toNat)
      case atStart => exact ⟨0, Nat.zero_le _, rfl, K0⟩
      case round =>
       clear K0
       obtain ⟨i, hi, rfl, KR⟩ := hrel
       have b5' : wr.cell? ⟨p1, 5, none⟩ = some (.slice A5 n5 c5) := (blk_cell (blk_below Q1.out KR.out.2) 5).trans rfl
       by_cases hlt : i < n5
       ·obtain ⟨ad, AE, cE, rfl, a0', a1', lE, hE⟩ := at_T102 H5.out (i : Int) (by omega) (by omega)
        have a1 := pw_cell_below (B1.out.trans (KR.out.2.mono B1.out.size)) a1'
        rw [Int.toNat_natCast] at a1
        have hm : rd_T102 x.sets (i : Int) ∈ x.sets := by
         unfold rd_T102
         rw [Int.toNat_natCast, List.getD_eq_getElem?_getD, List.getElem?_eq_getElem (by rw [← HN5.out]; exact hlt)]
         exact List.getElem_mem _
        have hel := HX.out.els _ hm
        have NX := Aside0.mk (all_take (l := x.sets) (i := i) (by rw [← HN5.out]; exact hlt) z102 (fun s => ascB x.size (-1) s.f1))
        obtain ⟨el, hl0⟩ : ∃ z, z = (rd_T102 x.sets (i : Int)).f1 := ⟨_, rfl⟩
        have HS : Aside0 (el = (x.sets.getD i z102).f1) := ⟨by rw [hl0]; unfold rd_T102; rw [Int.toNat_natCast]⟩
        rw [← hl0] at a1 hel hE lE
        obtain ⟨nE, hnE⟩ : ∃ n, n = el.length := ⟨_, rfl⟩
        rw [← hnE] at a1 hel hE lE
        have HE := Aside0.mk hE
        have HNE := Aside0.mk hnE
        clear a0' a1' hl0 hE hnE hm
        go_wp2_with fail
        have J0 : Aside0 (ascB x.size (-1) (el.take 0) = true ∧ Below W1.heap.size W1 wr) := ⟨rfl, KR.out.2⟩
        have KR1 := Aside0.mk KR.out.1
        clear KR b5' a1
        go_loopw [7] (fun v wr => ∃ j : Nat, j ≤ nE ∧ v = .int .i64 j ∧ Aside0 (ascB x.size (-1) (el.take j) = true ∧ Below W1.heap.size W1 wr)) (fun v _ => nE - (intOf v).toNat)
        case atStart => exact ⟨0, Nat.zero_le _, rfl, J0⟩
        case round =>
         clear J0
         obtain ⟨j, hj, rfl, KJ⟩ := hrel
         by_cases hlt2 : j < nE
         ·obtain ⟨ae, rfl, hx'⟩ := at_Int HE.out j hlt2
          have BW := Aside0.mk (B1.out.trans (KJ.out.2.mono B1.out.size))
          have hx := pw_cell_below BW.out hx'
          have NZ := Aside0.mk (asc_take x.size el j (-1) (by rw [← HNE.out]; exact hlt2))
          obtain ⟨z, hz⟩ : ∃ z, z = el.getD j 0 := ⟨_, rfl⟩
          rw [← hz] at hx
          have HZ := Aside0.mk hz
          clear hx' hz
          have b4 : wr.cell? ⟨p1, 4, none⟩ = some (.int .i64 sz) := (blk_cell (blk_below Q1.out KJ.out.2) 4).trans rfl
          have LW : Aside0 (j ≠ 0 → 0 ≤ el.getD (j - 1) 0) := ⟨fun h0 => by
           have h1 := asc_low _ _ _ KJ.out.1 (el.getD (j - 1) 0) (by
            rw [List.getD_eq_getElem?_getD, List.getElem?_eq_getElem (by rw [← HNE.out]; omega), Option.getD_some]
            rw [List.mem_iff_getElem?]
            exact ⟨j - 1, by rw [List.getElem?_take, if_pos (by omega), List.getElem?_eq_getElem (by rw [← HNE.out]; omega)]⟩)
           omega⟩
          have BAD : Aside0 (z < 0 ∨ z ≥ sz ∨ (j ≠ 0 ∧ z ≤ el.getD (j - 1) 0) → chk x = 4) := ⟨fun hbad => by
           have h1 : ascB x.size (-1) (el.take (j + 1)) = false := by
            rw [NZ.out, KJ.out.1, Bool.true_and, ← HZ.out, ← HF.out.2.2]
            have : decide ((if j = 0 then -1 else el.getD (j - 1) 0) ≥ z) = true ∨ decide (z ≥ sz) = true := by
             by_cases h0 : j = 0
             ·rw [if_pos h0, decide_eq_true_eq, decide_eq_true_eq]
              omega
             ·rw [if_neg h0, decide_eq_true_eq, decide_eq_true_eq]
              have := LW.out h0
              omega
            rcases this with h | h
            ·rw [h]; rfl
            ·rw [h, Bool.or_true]; rfl
           have h2 : setsB x = false := all_not (i := i) (by rw [← HN5.out]; exact hlt) z102 (by
            rw [← HS.out]
            rw [Bool.eq_false_iff]
            intro ha
            have := asc_short x.size el (-1) (j + 1) ha
            rw [h1] at this
            cases this)
           exact chk_shape IS.out HL.out HFW.out (by rw [h2, Bool.and_false])⟩
          cases g1 : decide (z < 0) with
          | true =>
           have BB := Aside0.mk (BAD.out (.inl (of_decide_eq_true g1)))
           go_upto_region 20 with fail
           go_quiet (fail)
           go_wp2_with fail
           go_ret
           exact ⟨by rw [BB.out]; rfl, B1.out.trans ((pw_below_drewN KJ.out.2 nq).mono B1.out.size)⟩
          | false =>
           cases g2 : decide (z ≥ sz) with
           | true =>
            have BB := Aside0.mk (BAD.out (.inr (.inl (of_decide_eq_true g2))))
            go_upto_region 20 with fail
            go_quiet (fail)
            go_wp2_with fail
            go_ret
            exact ⟨by rw [BB.out]; rfl, B1.out.trans ((pw_below_drewN KJ.out.2 nq).mono B1.out.size)⟩
           | false =>
            have NXT : Aside0 (j = 0 ∨ el.getD (j - 1) 0 < z) → Aside0 (ascB x.size (-1) (el.take (j + 1)) = true) := fun h0 => ⟨by
             have h1 := of_decide_eq_false g1
             have h2 := of_decide_eq_false g2
             rw [NZ.out, KJ.out.1, Bool.true_and, ← HZ.out, ← HF.out.2.2, decide_eq_false h2, Bool.or_false]
             rw [Bool.not_eq_true', decide_eq_false_iff_not]
             rcases h0.out with h3 | h3
             ·rw [if_pos h3]
              omega
             ·split <;> omega⟩
            rcases Nat.eq_zero_or_pos j with h0 | h0
            ·have N1 := NXT ⟨.inl h0⟩
             have g3 : decide ((j : Int) > 0) = false := decide_eq_false (by omega)
             have g3' : decide (0 < j) = false := decide_eq_false (by omega)
             clear NXT BAD LW h0
             go_upto_region 20 with fail
             go_quiet (fail)
             go_wp2_with fail
             go_roundw
             case measure => simp [intOf]; omega
             case rel => exact ⟨j + 1, by omega, by go_num, ⟨N1.out, pw_below_drewN KJ.out.2 nq⟩⟩
            ·obtain ⟨m, hm⟩ : ∃ m, j = m + 1 := ⟨j - 1, by omega⟩
             obtain ⟨ae', e, hx2'⟩ := at_Int HE.out m (by omega)
             injection e with e
             subst e
             have hx2 := pw_cell_below BW.out hx2'
             clear hx2'
             obtain ⟨zp, hzp⟩ : ∃ z, z = el.getD m 0 := ⟨_, rfl⟩
             rw [← hzp] at hx2
             have HZP := Aside0.mk hzp
             clear hzp
             have g3 : decide ((j : Int) > 0) = true := decide_eq_true (by omega)
             have g3' : decide (0 < j) = true := decide_eq_true (by omega)
             have hwm : IntKind.i64.wrap ((j : Int) - 1) = (m : Int) := by
              rw [show (j : Int) - 1 = (m : Int) by omega]
              exact IntWalk.i64_in _ (by omega)
             have hmj : j - 1 = m := by omega
             have hmn : m < nE := by omega
             by_cases g4' : z ≤ zp
             ·have g4 : decide (z ≤ zp) = true := decide_eq_true g4'
              have BB := Aside0.mk (BAD.out (.inr (.inr ⟨by omega, by rw [hmj, ← HZP.out]; exact g4'⟩)))
              clear NXT BAD LW g4' hm hmj h0
              go_upto_region 20 with fail
              go_quiet (fail)
              go_wp2_with fail
              go_ret
              exact ⟨by rw [BB.out]; rfl, B1.out.trans ((pw_below_drewN KJ.out.2 nq).mono B1.out.size)⟩
             ·have g4 : decide (z ≤ zp) = false := decide_eq_false g4'
              have N1 := NXT ⟨.inr (by rw [hmj, ← HZP.out]; omega)⟩
              clear NXT BAD LW g4' hm hmj h0
              go_upto_region 20 with fail
              go_quiet (fail)
              clear hwm
              go_wp2_with fail
              go_roundw
              case measure => simp [intOf]; omega
              case rel => exact ⟨j + 1, by omega, by go_num, ⟨N1.out, pw_below_drewN KJ.out.2 nq⟩⟩
         ·obtain rfl : nE = j := by omega
          have N1 : Aside0 ((x.sets.take (i + 1)).all (fun s => ascB x.size (-1) s.f1) = true) := ⟨by
           have h1 := KJ.out.1
           rw [List.take_of_length_le (by rw [HNE.out]; exact Nat.le_refl _)] at h1
           rw [NX.out, KR1.out, Bool.true_and, ← HS.out]
           exact h1⟩
          go_wp2_with fail
          go_roundw
          case measure => simp [intOf]; omega
          case rel => exact ⟨i + 1, by omega, by go_num, ⟨N1.out, KJ.out.2⟩⟩
       ·obtain rfl : n5 = i := by omega
        have SB : Aside0 ((rowsB x && setsB x) = true) := ⟨by
         have h1 := KR.out.1
         rw [List.take_of_length_le (by rw [HN5.out]; exact Nat.le_refl _)] at h1
         rw [RB.out, Bool.true_and]
         exact h1⟩
        have BR3 := Aside0.mk KR.out.2
        clear KR hlt hi
        obtain ⟨W3, hW3⟩ : ∃ W, W = wr := ⟨_, rfl⟩
        rw [← hW3] at BR3 b5' ⊢
        clear hW3
        have q0 : W3.cell? ⟨p1, 0, none⟩ = some (.int .i64 kd) := (blk_cell (blk_below Q1.out BR3.out) 0).trans rfl
        have q1 : W3.cell? ⟨p1, 1, none⟩ = some (.int .i64 cap) := (blk_cell (blk_below Q1.out BR3.out) 1).trans rfl
        have q2 : W3.cell? ⟨p1, 2, none⟩ = some (.slice A2 n2 c2) := (blk_cell (blk_below Q1.out BR3.out) 2).trans rfl
        have q3 : W3.cell? ⟨p1, 3, none⟩ = some (.slice A3 n3 c3) := (blk_cell (blk_below Q1.out BR3.out) 3).trans rfl
        have q4 : W3.cell? ⟨p1, 4, none⟩ = some (.int .i64 sz) := (blk_cell (blk_below Q1.out BR3.out) 4).trans rfl
        go_wp2_with fail
        clear q0 q1 q2 q3 q4 b5'
        have BW3 := Aside0.mk (B1.out.trans (BR3.out.mono B1.out.size))
        refine (numbers_any W3 x _ (InstC.below HI.out BW3.out) HX.out).mono ?_
        rintro _ W4 ⟨rfl, B4'⟩
        have B4 := Aside0.mk (BR3.out.trans (B4'.mono BR3.out.size))
        clear B4'
        cases hsm : smallB x with
        | false =>
         have HSM := Aside0.mk hsm
         clear hsm
         go_wp2_with fail
         go_ret
         exact ⟨by rw [chk_small IS.out HL.out HFW.out SB.out HSM.out]; rfl, B1.out.trans (B4.out.mono B1.out.size)⟩
        | true =>
         have HSM := Aside0.mk hsm
         clear hsm
         have CB := Aside0.mk (chk_bare IS.out HL.out HFW.out SB.out HSM.out)
         have b0 : W4.cell? ⟨p1, 0, none⟩ = some (.int .i64 kd) := (blk_cell (blk_below Q1.out B4.out) 0).trans rfl
         have b3 : W4.cell? ⟨p1, 3, none⟩ = some (.slice A3 n3 c3) := (blk_cell (blk_below Q1.out B4.out) 3).trans rfl
         go_upto_region 25 with fail
         clear b0 b3
         go_wp2_with fail
         have K0 : Aside0 ((List.range 0).all (diagB x) = true ∧ Below W1.heap.size W1 W4) := ⟨rfl, B4.out⟩
         go_loopw [9] (fun v wr => ∃ i : Nat, i ≤ n3 ∧ v = .int .i64 i ∧ Aside0 ((List.range i).all (diagB x) = true ∧ Below W1.heap.size W1 wr)) (fun v _ => n3 - (intOf v).toNat)
         case atStart => exact ⟨0, Nat.zero_le _, rfl, K0⟩
         case round =>
          clear K0
          obtain ⟨i, hi, rfl, KR⟩ := hrel
          have b0 : wr.cell? ⟨p1, 0, none⟩ = some (.int .i64 kd) := (blk_cell (blk_below Q1.out KR.out.2) 0).trans rfl
          have b3 : wr.cell? ⟨p1, 3, none⟩ = some (.slice A3 n3 c3) := (blk_cell (blk_below Q1.out KR.out.2) 3).trans rfl
          by_cases hlt : i < n3
          ·have l1 : decide (i < n3) = true := decide_eq_true hlt
           have l2 : decide ((i : Int) < (n3 : Int)) = true := decide_eq_true (by omega)
           by_cases h2 : kd = 2
           ·have g2 : (kd == 2) = true := by rw [h2]; rfl
            have H2K := Aside0.mk h2
            clear h2
            obtain ⟨ad, AY, cY, rfl, a0', ly, hy⟩ := at_L2 H3.out (i : Int) (by omega) (by omega)
            have BW := Aside0.mk (B1.out.trans (KR.out.2.mono B1.out.size))
            have a0 := pw_cell_below BW.out a0'
            rw [Int.toNat_natCast] at a0
            obtain ⟨y, hy1⟩ : ∃ y, y = rd_L2 x.cost (i : Int) := ⟨_, rfl⟩
            have HS : Aside0 (y = x.cost.getD i []) := ⟨by rw [hy1]; unfold rd_L2; rw [Int.toNat_natCast]⟩
            have hnY : y.length = n3 := by
             have h1 := SB.out
             rw [Bool.and_eq_true] at h1
             have h2 := List.all_eq_true.1 h1.1 y (by
              rw [HS.out, List.getD_eq_getElem?_getD, List.getElem?_eq_getElem (by rw [← HN3.out]; exact hlt), Option.getD_some]
              exact List.getElem_mem _)
             rw [beq_iff_eq] at h2
             rw [h2, HN3.out]
            rw [← hy1, hnY] at a0 ly hy
            obtain ⟨ae, rfl, hx'⟩ := at_Int hy i hlt
            have hx := pw_cell_below BW.out hx'
            obtain ⟨z, hz⟩ : ∃ z, z = y.getD i 0 := ⟨_, rfl⟩
            rw [← hz] at hx
            have DZ : Aside0 (diagB x i = (z == 0)) := ⟨by
             unfold diagB
             rw [← HS.out, ← hz, decide_eq_true (by rw [← HF.out.1]; exact H2K.out)]
             rfl⟩
            clear a0' hx' hz hy1 hnY hy
            cases gz : (z == 0) with
            | true =>
             have gz2 : (z != 0) = false := by rw [bne, gz]; rfl
             have N1 : Aside0 ((List.range (i + 1)).all (diagB x) = true) := ⟨by
              rw [List.range_succ, List.all_append, KR.out.1]
              simp [DZ.out, gz]⟩
             go_wp2_with fail
             go_roundw
             case measure => simp [intOf]; omega
             case rel => exact ⟨i + 1, by omega, by go_num, ⟨N1.out, KR.out.2⟩⟩
            | false =>
             have gz2 : (z != 0) = true := by rw [bne, gz]; rfl
             have N1 : Aside0 (chk x = 4) := ⟨by
              rw [CB.out, if_neg]
              intro h
              have := List.all_eq_true.1 h i (by rw [List.mem_range, ← HN3.out]; exact hlt)
              rw [DZ.out, gz] at this
              cases this⟩
             go_wp2_with fail
             go_ret
             exact ⟨by rw [N1.out]; rfl, B1.out.trans ((KR.out.2).mono B1.out.size)⟩
           ·have g2 : (kd == 2) = false := by simpa using h2
            have N1 : Aside0 (chk x = 0) := ⟨by
             rw [CB.out, if_pos]
             exact List.all_eq_true.2 (fun j _ => by
              unfold diagB
              rw [decide_eq_false (by rw [← HF.out.1]; exact h2)]
              rfl)⟩
            clear h2
            go_wp2_with fail
            go_ret
            exact ⟨by rw [N1.out]; rfl, B1.out.trans ((KR.out.2).mono B1.out.size)⟩
          ·obtain rfl : n3 = i := by omega
           have l1 : decide (n3 < n3) = false := decide_eq_false (by omega)
           have l2 : decide ((n3 : Int) < (n3 : Int)) = false := decide_eq_false (by omega)
           have N1 : Aside0 (chk x = 0) := ⟨by
            rw [CB.out, if_pos]
            have h1 := KR.out.1
            rw [HN3.out] at h1
            exact h1⟩
           go_wp2_with fail
           go_ret
           exact ⟨by rw [N1.out]; rfl, B1.out.trans ((KR.out.2).mono B1.out.size)⟩
 ·have hr : chk x = 25 := chk_is (by rw [← HF.out.1]; exact his)
  rw [hr]
  by_cases h1 : kd < 0
  ·have g1 : decide (kd < 0) = true := decide_eq_true h1
   go_enter Try.func32, Try.ntmps32
   go_wp2_with fail
   go_ret
   exact ⟨rfl, below_alloc (Below.refl _ _) _⟩
  ·have g1 : decide (kd < 0) = false := decide_eq_false h1
   have g2 : decide (kd > 3) = true := decide_eq_true (by omega)
   go_enter Try.func32, Try.ntmps32
   go_wp2_with fail
   go_ret
   exact ⟨rfl, below_alloc (Below.refl _ _) _⟩
end Go.Proofs.Ytelabmhhnpfegaa.Hand
end
section
namespace Go.Proofs.Ytelabmhhnpfegaa.Hand
open Go.RowKit Go.Proofs.YtelabmhhnpfegaaW.PrintWords Go.Proofs.YtelabmhhnpfegaaW.PrintLast Go.Proofs.YtelabmhhnpfegaaW.PrintMore Go.Proofs.Ytelabmhhnpfegaa.PDynCells
end Go.Proofs.Ytelabmhhnpfegaa.Hand
end
section
namespace Go.Proofs.Ytelabmhhnpfegaa.Hand
open Go.RowKit Go.Proofs.YtelabmhhnpfegaaW.PrintWords Go.Proofs.YtelabmhhnpfegaaW.PrintLast Go.Proofs.YtelabmhhnpfegaaW.PrintMore Go.Proofs.Ytelabmhhnpfegaa.PDynCells
end Go.Proofs.Ytelabmhhnpfegaa.Hand
end
section
namespace Go.Proofs.Ytelabmhhnpfegaa.PDynCells
open Go.RowKit Go.Proofs.YtelabmhhnpfegaaW.PrintWords Go.Proofs.YtelabmhhnpfegaaW.PrintLast Go.Proofs.YtelabmhhnpfegaaW.PrintMore
attribute [local go_sem] max2_int min2_int max_two min_two max_three min_three max_four min_four
mutual
def secateurref13_orders.l0 : Nat → List Int → Int → List (List Int) → Int → Option ((List (List Int)))
 | 0, _, _, _, _ => none
 | k + 1, x0, x1, x5, x6 => if x6 < x1 then (secateurref13_orders.l1 k x0 x1 x5 x6 false 0) else (some x5)
def secateurref13_orders.l1 : Nat → List Int → Int → List (List Int) → Int → Bool → Int → Option ((List (List Int)))
 | 0, _, _, _, _, _, _ => none
 | k + 1, x0, x1, x5, x6, x7, x8 => if x8 < (x0.length : Int) then (if x7 = true then (secateurref13_orders.l1 k x0 x1 x5 x6 true (wrap64 (x8 + 1))) else (if 0 ≤ x8 then (secateurref13_orders.l1 k x0 x1 x5 x6 ((rd x0 x8) == x6) (wrap64 (x8 + 1))) else (none))) else (if x7 = true then (secateurref13_orders.l0 k x0 x1 x5 (wrap64 (x6 + 1))) else (if ([] : List Int).length + x0.length < 17592186044416 then ((some (([] : List Int) ++ x0 : List Int)).bind fun y276 => (if y276.length < 17592186044416 then ((secateurref13_orders.f k (y276 ++ [x6]) x1).bind fun t282 => (if x5.length + t282.length < 5864062014805 then (secateurref13_orders.l0 k x0 x1 (x5 ++ t282) (wrap64 (x6 + 1))) else (none))) else (none))) else (none)))
def secateurref13_orders.f : Nat → List Int → Int → Option ((List (List Int)))
 | 0, _, _ => none
 | k + 1, l0, a1 => if (l0.length : Int) = a1 then (some (([l0] : List (List Int)))) else (secateurref13_orders.l0 k l0 a1 ([] : List (List Int)) 0)
end
theorem secateurref13_orders.mono_l : ∀ k, (∀ y0 y1, LeO (secateurref13_orders.f k y0 y1) (secateurref13_orders.f (k + 1) y0 y1)) ∧ (∀ y0 y1 y2 y3, LeO (secateurref13_orders.l0 k y0 y1 y2 y3) (secateurref13_orders.l0 (k + 1) y0 y1 y2 y3)) ∧ (∀ y0 y1 y2 y3 y4 y5, LeO (secateurref13_orders.l1 k y0 y1 y2 y3 y4 y5) (secateurref13_orders.l1 (k + 1) y0 y1 y2 y3 y4 y5))
 | 0 => ⟨fun _ _ r h => by simp [secateurref13_orders.f] at h, fun _ _ _ _ r h => by simp [secateurref13_orders.l0] at h, fun _ _ _ _ _ _ r h => by simp [secateurref13_orders.l1] at h⟩
 | k + 1 => by
  obtain ⟨ih0, ih1, ih2⟩ := secateurref13_orders.mono_l k
  refine ⟨?_, ?_, ?_⟩
  ·intro y0 y1
   unfold secateurref13_orders.f
   repeat' first
   | (with_reducible exact ih0 _ _)
   | (with_reducible exact ih1 _ _ _ _)
   | (with_reducible exact ih2 _ _ _ _ _ _)
   | (with_reducible exact LeO.refl _)
   | (with_reducible exact LeO.none _)
   | (with_reducible refine LeO.ite ?_ ?_)
   | (with_reducible refine LeO.bind ?_ (fun _ => ?_))
   | exact ih0 _ _
   | exact ih1 _ _ _ _
   | exact ih2 _ _ _ _ _ _
   | exact LeO.none _
   | refine LeO.ite ?_ ?_
   | refine LeO.bind ?_ (fun _ => ?_)
  ·intro y0 y1 y2 y3
   unfold secateurref13_orders.l0
   repeat' first
   | (with_reducible exact ih0 _ _)
   | (with_reducible exact ih1 _ _ _ _)
   | (with_reducible exact ih2 _ _ _ _ _ _)
   | (with_reducible exact LeO.refl _)
   | (with_reducible exact LeO.none _)
   | (with_reducible refine LeO.ite ?_ ?_)
   | (with_reducible refine LeO.bind ?_ (fun _ => ?_))
   | exact ih0 _ _
   | exact ih1 _ _ _ _
   | exact ih2 _ _ _ _ _ _
   | exact LeO.none _
   | refine LeO.ite ?_ ?_
   | refine LeO.bind ?_ (fun _ => ?_)
  ·intro y0 y1 y2 y3 y4 y5
   unfold secateurref13_orders.l1
   repeat' first
   | (with_reducible exact ih0 _ _)
   | (with_reducible exact ih1 _ _ _ _)
   | (with_reducible exact ih2 _ _ _ _ _ _)
   | (with_reducible exact LeO.refl _)
   | (with_reducible exact LeO.none _)
   | (with_reducible refine LeO.ite ?_ ?_)
   | (with_reducible refine LeO.bind ?_ (fun _ => ?_))
   | exact ih0 _ _
   | exact ih1 _ _ _ _
   | exact ih2 _ _ _ _ _ _
   | exact LeO.none _
   | refine LeO.ite ?_ ?_
   | refine LeO.bind ?_ (fun _ => ?_)
theorem secateurref13_orders.mono : ∀ a0 a1 k, LeO (secateurref13_orders.f k a0 a1) (secateurref13_orders.f (k + 1) a0 a1) := by
 intro a0 a1 k
 obtain ⟨ih0, ih1, ih2⟩ := secateurref13_orders.mono_l k
 exact ih0 a0 a1
end Go.Proofs.Ytelabmhhnpfegaa.PDynCells
end
section
namespace Go.Proofs.Ytelabmhhnpfegaa.Hand
open Go.RowKit Go.Proofs.YtelabmhhnpfegaaW.PrintWords Go.Proofs.YtelabmhhnpfegaaW.PrintLast Go.Proofs.YtelabmhhnpfegaaW.PrintMore Go.Proofs.Ytelabmhhnpfegaa.PDynCells
end Go.Proofs.Ytelabmhhnpfegaa.Hand
end
section
namespace Go.Proofs.Ytelabmhhnpfegaa.Hand
open Go.RowKit Go.Proofs.YtelabmhhnpfegaaW.PrintWords Go.Proofs.YtelabmhhnpfegaaW.PrintLast Go.Proofs.YtelabmhhnpfegaaW.PrintMore Go.Proofs.Ytelabmhhnpfegaa.PDynCells
def bval : List Int → Int
 | [] => 0
 | d :: t => d + 65536 * bval t
theorem bval_snoc : ∀ (l : List Int) (d : Int), bval (l ++ [d]) = bval l + d * 65536 ^ l.length
 | [], d => by simp [bval]
 | e :: t, d => by
  rw [List.cons_append, bval, bval_snoc t d, bval, List.length_cons, Int.pow_succ, Int.mul_add, Int.add_assoc]
  congr 2
  rw [← Int.mul_assoc, ← Int.mul_assoc, Int.mul_comm 65536 d, Int.mul_assoc, Int.mul_assoc, Int.mul_comm 65536]
structure TrimS (D : List Int) (n : Nat) : Prop where
 le : n ≤ D.length
 val : bval (D.take n) = bval D
 top : n = 0 ∨ D.getD (n - 1) 0 ≠ 0
end Go.Proofs.Ytelabmhhnpfegaa.Hand
end
section
namespace Go.Proofs.Ytelabmhhnpfegaa.Hand
open Go.RowKit Go.Proofs.YtelabmhhnpfegaaW.PrintWords Go.Proofs.YtelabmhhnpfegaaW.PrintLast Go.Proofs.YtelabmhhnpfegaaW.PrintMore Go.Proofs.Ytelabmhhnpfegaa.PDynCells
structure Dg (D : List Int) (m : Int) : Prop where
 dig : ∀ d ∈ D, 0 ≤ d ∧ d < 65536
 val : bval D = m
 top : D.length = 0 ∨ D.getD (D.length - 1) 0 ≠ 0
def BigV (w : World) (neg : Bool) (m : Int) (v : Value) : Prop := ∃ (ad : Addr) (n c : Nat) (D : List Int), v = .agg #[.bool neg, .slice (some ad) n c] ∧ n ≤ c ∧ n ≤ 1000 ∧ D.length = n ∧ (Kd.int .u64).C w (some ad) n D ∧ Dg D m ∧ ∃ cs, w.heap[ad.block]? = some (.cells cs 145 (0, 0))
theorem BigV.below {w w1 : World} {neg : Bool} {m : Int} {v : Value} (h : BigV w neg m v) (hb : Below w.heap.size w w1) : BigV w1 neg m v := by
 obtain ⟨ad, n, c, D, h1, h2, h3, h4, h5, h6, cs, h7⟩ := h
 exact ⟨ad, n, c, D, h1, h2, h3, h4, Kd.C_below h5 hb, h6, cs, blk_below h7 hb⟩
theorem BigV.set {w : World} {neg : Bool} {m : Int} {v : Value} (h : BigV w neg m v) {g : Nat} {cs : Array Value} {t : TypeId} (hb : w.heap[g]? = some (.cells cs t (0, 0))) (ht : t ≠ 145) (j : Nat) (u : Value) : BigV (w.setCell ⟨g, j, none⟩ u) neg m v := by
 obtain ⟨ad, n, c, D, h1, h2, h3, h4, h5, h6, cs, h7⟩ := h
 have hne : ad.block ≠ g := ty_ne h7 hb ht.symm
 exact ⟨ad, n, c, D, h1, h2, h3, h4, Kd.C_keep (0 : Int) h5 ((KeepBut.refl w g none).set_ j u) (fun a e _ => by injection e with e; rw [← e]; exact hne), h6, cs, blk_far h7 hne u⟩
end Go.Proofs.Ytelabmhhnpfegaa.Hand
end
section
namespace Go.Proofs.Ytelabmhhnpfegaa.Hand
open Go.RowKit Go.Proofs.YtelabmhhnpfegaaW.PrintWords Go.Proofs.YtelabmhhnpfegaaW.PrintLast Go.Proofs.YtelabmhhnpfegaaW.PrintMore Go.Proofs.Ytelabmhhnpfegaa.PDynCells
def tabU (n : Nat) (f : Nat → Int) : Array Value := ((List.range n).map fun i => Value.int .u64 (f i)).toArray
theorem tabU_get {n : Nat} {f : Nat → Int} {i : Nat} (h : i < n) : (tabU n f)[i]? = some (.int .u64 (f i)) := by simp [tabU, h]
theorem tabU_set (n : Nat) (f : Nat → Int) (i : Nat) (x : Int) : (tabU n f).setIfInBounds i (.int .u64 x) = tabU n (upd f i x) := by
 apply Array.ext_getElem?
 intro j
 rw [Array.getElem?_setIfInBounds]
 by_cases h : i = j
 ·subst h
  rw [if_pos rfl]
  by_cases hl : i < n
  ·rw [tabU_get hl, upd_self]
   simp [tabU, hl]
  ·simp [tabU, hl]
 ·rw [if_neg h]
  by_cases hl : j < n
  ·rw [tabU_get hl, tabU_get hl, upd_ne _ _ (fun e => h e.symm)]
  ·simp [tabU, hl]
def UB (w : World) (g n : Nat) (f : Nat → Int) : Prop := w.heap[g]? = some (.cells (tabU n f) 145 (0, 0))
theorem UB.c {w : World} {g n : Nat} {f : Nat → Int} (h : UB w g n f) {i : Nat} (hi : i < n) : w.cell? ⟨g, i, none⟩ = some (.int .u64 (f i)) := (blk_cell h i).trans (tabU_get hi)
theorem UB.z {w : World} {g n : Nat} {f : Nat → Int} (h : UB w g n f) (i : Nat) : w.frozen? ⟨g, i, none⟩ = false := blk_frozen h i
theorem UB.set {w : World} {g n : Nat} {f : Nat → Int} (h : UB w g n f) (i : Nat) (x : Int) : UB (w.setCell ⟨g, i, none⟩ (.int .u64 x)) g n (upd f i x) := by
 unfold UB
 rw [blk_set h, tabU_set]
def lst (n : Nat) (f : Nat → Int) : List Int := (List.range n).map f
theorem lst_len (n : Nat) (f : Nat → Int) : (lst n f).length = n := by simp [lst]
theorem UB.C {w : World} {g n : Nat} {f : Nat → Int} (h : UB w g n f) (hn : n ≤ 1002) : (Kd.int .u64).C w (some ⟨g, 0, none⟩) n (lst n f) := by
 refine Kd.C_of_reads (d := (0 : Int)) ⟨lst_len n f, by omega, fun h0 => ⟨_, rfl, fun j hj => ?_⟩⟩
 have e : (lst n f).getD j 0 = f j := by
  unfold lst
  rw [List.getD_eq_getElem?_getD, List.getElem?_map, List.getElem?_range hj]
  rfl
 rw [e]
 have := h.c hj
 rw [show (⟨g, 0, none⟩ : Addr).add j = ⟨g, j, none⟩ by unfold Addr.add; split <;> simp_all]
 exact this
theorem lst_snoc (n : Nat) (f : Nat → Int) : lst (n + 1) f = lst n f ++ [f n] := by
 unfold lst
 rw [List.range_succ, List.map_append]
 rfl
theorem lst_upd (f : Nat → Int) (i : Nat) (x : Int) : ∀ n, bval (lst n (upd f i x)) = bval (lst n f) + if i < n then (x - f i) * 65536 ^ i else 0
 | 0 => by simp [lst, bval]
 | n + 1 => by
  rw [lst_snoc, lst_snoc, bval_snoc, bval_snoc, lst_upd f i x n, lst_len, lst_len]
  by_cases h : i = n
  ·subst h
   rw [upd_self, if_neg (by omega), if_pos (by omega), Int.sub_mul]
   omega
  ·rw [upd_ne _ _ (fun e => h e.symm)]
   by_cases h2 : i < n
   ·rw [if_pos h2, if_pos (by omega)]
    omega
   ·rw [if_neg h2, if_neg (by omega), Int.add_zero, Int.add_zero]
structure MI (D : List Int) (i : Nat) (f : Nat → Int) : Prop where
 dig : ∀ j, 0 ≤ f j ∧ f j < 65536
 far : ∀ j, i < j → f j = 0
 lo : f i ≤ 1
 val : bval (lst (D.length + 2) f) = 2 * bval (D.take i)
theorem lst_zero : ∀ n, bval (lst n fun _ => 0) = 0
 | 0 => rfl
 | n + 1 => by rw [lst_snoc, bval_snoc, lst_zero n]; simp
theorem MI.start (D : List Int) : MI D 0 fun _ => 0 :=
 ⟨fun _ => by omega, fun _ _ => rfl, by omega, by rw [lst_zero]; simp [bval]⟩
theorem MI.step {D : List Int} {i : Nat} {f : Nat → Int} {x : Int} (h : MI D i f) (hi : i < D.length) (hx : D.getD i 0 = x) (h0 : 0 ≤ x) (h1 : x < 65536) :
  MI D (i + 1) (upd (upd f i ((f i + x * 2) % 65536)) (i + 1) ((f i + x * 2) / 65536)) := by
 have hd := h.dig i
 have hl := h.lo
 obtain ⟨c, hc⟩ : ∃ c, c = f i + x * 2 := ⟨_, rfl⟩
 have hf := h.far (i + 1) (by omega)
 rw [← hc]
 refine ⟨fun j => ?_, fun j hj => ?_, ?_, ?_⟩
 ·by_cases e : j = i + 1
  ·rw [e, upd_self]; omega
  ·rw [upd_ne _ _ e]
   by_cases e2 : j = i
   ·rw [e2, upd_self]; omega
   ·rw [upd_ne _ _ e2]; exact h.dig j
 ·rw [upd_ne _ _ (by omega), upd_ne _ _ (by omega)]
  exact h.far j (by omega)
 ·rw [upd_self]; omega
 ·rw [lst_upd, if_pos (by omega), lst_upd, if_pos (by omega), h.val, upd_ne _ _ (by omega), hf, take_snoc hi 0, bval_snoc, hx]
  rw [List.length_take, Nat.min_eq_left (by omega), Int.pow_succ, Int.mul_add, Int.sub_zero]
  have e : (c / 65536) * (65536 ^ i * 65536) = (c / 65536 * 65536) * 65536 ^ i := by
   rw [Int.mul_assoc, Int.mul_comm (65536 ^ i)]
  have e2 : c / 65536 * 65536 = c - c % 65536 := by omega
  rw [e, e2, Int.add_assoc, ← Int.add_mul, ← Int.mul_assoc]
  congr 2
  omega
structure MS (w wr : World) (p g n c c2 : Nat) (ad at2 : Addr) (F : Nat → Int) : Prop where
 b : Below w.heap.size w wr
 q0 : wr.heap[p]? = some (.cells #[.bool false, .slice (some ad) n c] 111 (0, 0))
 q1 : wr.heap[p + 1]? = some (.cells #[.bool false, .slice (some at2) 1 c2] 111 (0, 0))
 q2 : wr.heap[p + 2]? = some (.cells #[.bool false, .slice none 0 0] 111 (0, 0))
 f : UB wr g (n + 2) F
 hp : w.heap.size ≤ p
 hg : w.heap.size ≤ g
namespace MS
variable {w wr : World} {p g n c c2 : Nat} {ad at2 : Addr} {F : Nat → Int}
theorem set (h : MS w wr p g n c c2 ad at2 F) (i : Nat) (x : Int) : MS w (wr.setCell ⟨g, i, none⟩ (.int .u64 x)) p g n c c2 ad at2 (upd F i x) :=
 have hf : wr.heap[g]? = some (.cells (tabU (n + 2) F) 145 (0, 0)) := h.f
 ⟨h.b.setCell h.hg _, blk_far h.q0 (ty_ne h.q0 hf (by decide)) _, blk_far h.q1 (ty_ne h.q1 hf (by decide)) _, blk_far h.q2 (ty_ne h.q2 hf (by decide)) _, h.f.set i x, h.hp, h.hg⟩
theorem drewN (h : MS w wr p g n c c2 ad at2 F) (m : Nat) : MS w (wr.drewN m) p g n c c2 ad at2 F :=
 ⟨pw_below_drewN h.b m, h.q0, h.q1, h.q2, h.f, h.hp, h.hg⟩
theorem same (h : MS w wr p g n c c2 ad at2 F) {F' : Nat → Int} (e : F' = F) : MS w wr p g n c c2 ad at2 F' := by
 subst e; exact h
end MS
end Go.Proofs.Ytelabmhhnpfegaa.Hand
end
section
namespace Go.Proofs.Ytelabmhhnpfegaa.PDynCells
open Go.RowKit Go.Proofs.YtelabmhhnpfegaaW.PrintWords Go.Proofs.YtelabmhhnpfegaaW.PrintLast Go.Proofs.YtelabmhhnpfegaaW.PrintMore
attribute [local go_sem] max2_int min2_int max_two min_two max_three min_three max_four min_four
def secateurref01_far.l0 : Nat → Int → Bool → List Int → Bool → List Int → Option (Int)
 | 0, _, _, _, _, _ => none
 | k + 1, x5, x180000, x180001, x181000, x181001 => if x5 ≥ 0 then (if 0 ≤ x5 then (if x5 < (x180001.length : Int) then (if x5 < (x181001.length : Int) then (if (rd x180001 x5) < (rd x181001 x5) then (some (-1)) else (if (rd x180001 x5) > (rd x181001 x5) then (some 1) else (secateurref01_far.l0 k (wrap64 (x5 - 1)) x180000 x180001 x181000 x181001))) else (none)) else (none)) else (none)) else (some 0)
def secateurref01_far.f (k : Nat) (a0_0 : Bool) (l0_1 : List Int) (a1_0 : Bool) (l1_1 : List Int) : Option (Int) := if (l0_1.length : Int) = (l1_1.length : Int) then (secateurref01_far.l0 k (wrap64 ((l0_1.length : Int) - 1)) a0_0 l0_1 a1_0 l1_1) else (if (l0_1.length : Int) < (l1_1.length : Int) then (some (-1)) else (some 1))
theorem secateurref01_far.mono_l : ∀ k, (∀ y0 y1 y2 y3 y4, LeO (secateurref01_far.l0 k y0 y1 y2 y3 y4) (secateurref01_far.l0 (k + 1) y0 y1 y2 y3 y4))
 | 0 => fun _ _ _ _ _ r h => by simp [secateurref01_far.l0] at h
 | k + 1 => by
  have ih0 := secateurref01_far.mono_l k
  ·intro y0 y1 y2 y3 y4
   unfold secateurref01_far.l0
   repeat' first
   | (with_reducible exact ih0 _ _ _ _ _)
   | (with_reducible exact LeO.refl _)
   | (with_reducible exact LeO.none _)
   | (with_reducible refine LeO.ite ?_ ?_)
   | (with_reducible refine LeO.bind ?_ (fun _ => ?_))
   | exact ih0 _ _ _ _ _
   | exact LeO.none _
   | refine LeO.ite ?_ ?_
   | refine LeO.bind ?_ (fun _ => ?_)
theorem secateurref01_far.mono : ∀ a0 a1 a2 a3 k, LeO (secateurref01_far.f k a0 a1 a2 a3) (secateurref01_far.f (k + 1) a0 a1 a2 a3) := by
 intro a0 a1 a2 a3 k
 have ih0 := secateurref01_far.mono_l k
 unfold secateurref01_far.f
 repeat' first
   | (with_reducible exact ih0 _ _ _ _ _)
   | (with_reducible exact LeO.refl _)
   | (with_reducible exact LeO.none _)
   | (with_reducible refine LeO.ite ?_ ?_)
   | (with_reducible refine LeO.bind ?_ (fun _ => ?_))
   | exact ih0 _ _ _ _ _
   | exact LeO.none _
   | refine LeO.ite ?_ ?_
   | refine LeO.bind ?_ (fun _ => ?_)
def secateurref01_Cmp.f (k : Nat) (a0_0 : Bool) (l0_1 : List Int) (a1_0 : Bool) (l1_1 : List Int) : Option (Int) := if (a0_0 != a1_0) = true then (if a0_0 = true then (some (-1)) else (some 1)) else ((secateurref01_far.f k a0_0 l0_1 a1_0 l1_1).bind fun t187 => (if a0_0 = true then (some (wrap64 (-t187))) else (some t187)))
theorem secateurref01_Cmp.mono : ∀ a0 a1 a2 a3 k, LeO (secateurref01_Cmp.f k a0 a1 a2 a3) (secateurref01_Cmp.f (k + 1) a0 a1 a2 a3) := by
 intro a0 a1 a2 a3 k
 unfold secateurref01_Cmp.f
 repeat' first
   | (with_reducible exact secateurref01_far.mono _ _ _ _ _)
   | (with_reducible exact LeO.refl _)
   | (with_reducible exact LeO.none _)
   | (with_reducible refine LeO.ite ?_ ?_)
   | (with_reducible refine LeO.bind ?_ (fun _ => ?_))
   | exact secateurref01_far.mono _ _ _ _ _
   | exact LeO.none _
   | refine LeO.ite ?_ ?_
   | refine LeO.bind ?_ (fun _ => ?_)
end Go.Proofs.Ytelabmhhnpfegaa.PDynCells
end
section
namespace Go.Proofs.Ytelabmhhnpfegaa.Hand
open Go.RowKit Go.Proofs.YtelabmhhnpfegaaW.PrintWords Go.Proofs.YtelabmhhnpfegaaW.PrintLast Go.Proofs.YtelabmhhnpfegaaW.PrintMore Go.Proofs.Ytelabmhhnpfegaa.PDynCells
theorem bval_append : ∀ (a b : List Int), bval (a ++ b) = bval a + 65536 ^ a.length * bval b
 | [], b => by simp [bval]
 | d :: t, b => by
  rw [List.cons_append, bval, bval, bval_append t b, List.length_cons, Int.pow_succ, Int.mul_add, Int.add_assoc]
  congr 2
  rw [← Int.mul_assoc, Int.mul_comm 65536]
theorem bval_bd : ∀ (l : List Int), (∀ d ∈ l, 0 ≤ d ∧ d < 65536) → 0 ≤ bval l ∧ bval l < 65536 ^ l.length
 | [], _ => by simp [bval]
 | d :: t, h => by
  have ih := bval_bd t (fun d hd => h d (List.mem_cons_of_mem _ hd))
  have h0 := h d List.mem_cons_self
  rw [bval, List.length_cons, Int.pow_succ]
  generalize (65536 : Int) ^ t.length = P at ih ⊢
  omega
theorem split_at {l : List Int} {i : Nat} (hi : i < l.length) : bval l = bval (l.take i) + 65536 ^ i * (l.getD i 0 + 65536 * bval (l.drop (i + 1))) := by
 conv => lhs; rw [← List.take_append_drop i l]
 rw [bval_append, List.length_take, Nat.min_eq_left (by omega), drop_cons hi 0, bval]
theorem getD_mem {l : List Int} {i : Nat} (hi : i < l.length) : l.getD i 0 ∈ l := by
 rw [List.getD_eq_getElem?_getD, List.getElem?_eq_getElem hi, Option.getD_some]
 exact List.getElem_mem _
theorem Dg.low {D : List Int} {m : Int} (h : Dg D m) (hn : D.length ≠ 0) : 65536 ^ (D.length - 1) ≤ m := by
 have hi : D.length - 1 < D.length := by omega
 have h1 := split_at hi
 have h2 := bval_bd (D.take (D.length - 1)) (fun d hd => h.dig d (List.mem_of_mem_take hd))
 have h3 := (h.dig _ (getD_mem hi)).1
 have h4 : D.getD (D.length - 1) 0 ≠ 0 := by
  rcases h.top with e | e
  ·exact absurd e hn
  ·exact e
 rw [List.drop_of_length_le (by omega), bval, Int.mul_zero, Int.add_zero, h.val] at h1
 have h5 : (65536 : Int) ^ (D.length - 1) * 1 ≤ 65536 ^ (D.length - 1) * D.getD (D.length - 1) 0 := Int.mul_le_mul_of_nonneg_left (by omega) (Int.le_of_lt (Int.pow_pos (by omega)))
 rw [Int.mul_one] at h5
 omega
end Go.Proofs.Ytelabmhhnpfegaa.Hand
end
section
namespace Go.Proofs.Ytelabmhhnpfegaa.Hand
open Go.RowKit Go.Proofs.YtelabmhhnpfegaaW.PrintWords Go.Proofs.YtelabmhhnpfegaaW.PrintLast Go.Proofs.YtelabmhhnpfegaaW.PrintMore Go.Proofs.Ytelabmhhnpfegaa.PDynCells
end Go.Proofs.Ytelabmhhnpfegaa.Hand
end
section
namespace Go.Proofs.Ytelabmhhnpfegaa.Hand
open Go.RowKit Go.Proofs.YtelabmhhnpfegaaW.PrintWords Go.Proofs.YtelabmhhnpfegaaW.PrintLast Go.Proofs.YtelabmhhnpfegaaW.PrintMore Go.Proofs.Ytelabmhhnpfegaa.PDynCells
end Go.Proofs.Ytelabmhhnpfegaa.Hand
end
section
namespace Go.Proofs.Ytelabmhhnpfegaa.Hand
open Go.RowKit Go.Proofs.YtelabmhhnpfegaaW.PrintWords Go.Proofs.YtelabmhhnpfegaaW.PrintLast Go.Proofs.YtelabmhhnpfegaaW.PrintMore Go.Proofs.Ytelabmhhnpfegaa.PDynCells
def BstP (x : PI) (L : List (List Int)) (f : Bool) (z : Int) : Prop :=
 (f = false → z = 0 ∧ ∀ y ∈ L, (cosP x y).2 ≠ 0) ∧ (f = true → (∃ y ∈ L, cosP x y = (z, 0)) ∧ ∀ y ∈ L, (cosP x y).2 = 0 → z ≤ (cosP x y).1)
theorem BstP.nil (x : PI) : BstP x [] false 0 := ⟨fun _ => ⟨rfl, fun y hy => absurd hy List.not_mem_nil⟩, fun h => by cases h⟩
theorem BstP.skip {x : PI} {L : List (List Int)} {f : Bool} {z : Int} (h : BstP x L f z) {y : List Int} (hy : (cosP x y).2 ≠ 0 ∨ (f = true ∧ z ≤ (cosP x y).1)) : BstP x (L ++ [y]) f z := by
 refine ⟨fun hf => ⟨(h.1 hf).1, fun y' hy' => ?_⟩, fun hf => ⟨?_, fun y' hy' he => ?_⟩⟩
 ·rcases List.mem_append.1 hy' with h1 | h1
  ·exact (h.1 hf).2 y' h1
  ·rw [List.mem_singleton.1 h1]
   rcases hy with h2 | h2
   ·exact h2
   ·rw [hf] at h2
    cases h2.1
 ·obtain ⟨y0, h0, h1⟩ := (h.2 hf).1
  exact ⟨y0, List.mem_append.2 (.inl h0), h1⟩
 ·rcases List.mem_append.1 hy' with h1 | h1
  ·exact (h.2 hf).2 y' h1 he
  ·rw [List.mem_singleton.1 h1] at he ⊢
   rcases hy with h2 | h2
   ·exact absurd he h2
   ·exact h2.2
theorem BstP.take {x : PI} {L : List (List Int)} {f : Bool} {z c : Int} (h : BstP x L f z) {y : List Int} (hy : cosP x y = (c, 0)) (hc : f = false ∨ c < z) : BstP x (L ++ [y]) true c := by
 refine ⟨(fun hf => by cases hf), fun _ => ⟨⟨y, List.mem_append.2 (.inr (List.mem_singleton.2 rfl)), hy⟩, fun y' hy' he => ?_⟩⟩
 rcases List.mem_append.1 hy' with h1 | h1
 ·cases f with
  | false => exact absurd he ((h.1 rfl).2 y' h1)
  | true =>
   have := (h.2 rfl).2 y' h1 he
   rcases hc with h2 | h2
   ·cases h2
   ·omega
 ·rw [List.mem_singleton.1 h1, hy]
  exact Int.le_refl _
end Go.Proofs.Ytelabmhhnpfegaa.Hand
end
