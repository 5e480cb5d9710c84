/- Texts Rl Dx Vx, cut to what is used. -/
import Derived.WalkKit
import Derived.ProofKit
import Derived.OpenShut
import Derived.ShutString
import Derived.ChangeOld
import Derived.Below
import Derived.SizedLaws
import Derived.Lib.SmallJoins
import Derived.ChangeSame
import Derived.Deep.Slices
import Derived.Deep.Fields
import Derived.Test.YtelabmhhnpfegaaXa0
import Derived.Test.YtelabmhhnpfegaaXa2
import Derived.Test.YtelabmhhnpfegaaXb0
import Derived.Test.YtelabmhhnpfegaaXb1
import Derived.Test.YtelabmhhnpfegaaXb3
import Derived.Test.YtelabmhhnpfegaaXb4
import Derived.Test.YtelabmhhnpfegaaXb5
set_option linter.unusedVariables false
set_option linter.unusedSimpArgs false
section
namespace Go.Proofs.Ytelabmhhnpfegaa.Hand
open Go.RowKit Go.Proofs.YtelabmhhnpfegaaW.PrintWords Go.Proofs.YtelabmhhnpfegaaW.PrintLast Go.Proofs.YtelabmhhnpfegaaW.PrintMore Go.Proofs.Ytelabmhhnpfegaa.PDynCells
set_option maxHeartbeats 1000000 in
set_option maxRecDepth 100000 in
theorem exact_not (w : World) (x : PI) (v : Value) (h : InstC w x v) (hx : PIok x) (hbad : chk x = 0 → x.kind ≠ 1) :
  Calls Try.prog 28 #[v] w fun e w' => e = .returned (.tuple #[.slice none 0 0, .int .i64 0, .bool false]) ∧ Aside0 (Below w.heap.size w w') := by
 have HIN := Aside0.mk h
 have HX := Aside0.mk hx
 have HB := Aside0.mk hbad
 obtain ⟨A2, c2, A3, c3, A5, c5, rfl, h2, l2, h3, l3, h5, l5⟩ := h
 clear h2 h3 h5 l2 l3 l5 hx hbad
 obtain ⟨kd, hkd⟩ : ∃ n, n = x.kind := ⟨_, rfl⟩
 rw [← hkd] at HIN HB
 rw [← hkd]
 clear hkd
 have hu54 := Try.underlying54
 go_enter Try.func28, Try.ntmps28
 go_upto_region 1 with fail
 obtain ⟨W1, hW1⟩ : ∃ W, W = w.alloc (.cells #[.int .i64 kd, .int .i64 x.cap, .slice A2 x.items.length c2, .slice A3 x.cost.length c3, .int .i64 x.size, .slice A5 x.sets.length c5] 54) := ⟨_, rfl⟩
 rw [← hW1]
 have B1 : Aside0 (Below w.heap.size w W1) := ⟨by rw [hW1]; exact below_alloc (Below.refl _ _) _⟩
 obtain ⟨p1, hp1⟩ : ∃ p, p = w.heap.size := ⟨_, rfl⟩
 have Q1 : Aside0 (W1.heap[p1]? = some (.cells #[.int .i64 kd, .int .i64 x.cap, .slice A2 x.items.length c2, .slice A3 x.cost.length c3, .int .i64 x.size, .slice A5 x.sets.length c5] 54 (0, 0))) := ⟨by rw [hW1, hp1]; exact heap_alloc_new _ _⟩
 rw [← hp1]
 clear hW1 hp1
 obtain ⟨q0, q1, q2, q3, q4, q5, _⟩ := six Q1.out (Below.refl _ _)
 go_wp2_with fail
 clear q0 q1 q2 q3 q4 q5
 refine (icheck_any W1 x _ (HIN.out.below B1.out) HX.out).mono ?_
 rintro _ W2 ⟨rfl, B2'⟩
 have B2 := Aside0.mk B2'
 have BE := Aside0.mk (B1.out.trans (B2'.mono B1.out.size))
 clear B2'
 obtain ⟨q0, q1, q2, q3, q4, q5, _⟩ := six Q1.out B2.out
 obtain ⟨r, hr⟩ : ∃ r, r = chk x := ⟨_, rfl⟩
 rw [← hr] at HB ⊢
 clear hr
 by_cases hr0 : r = 0
 ·have hk1 : kd ≠ 1 := HB.out hr0
  subst hr0
  have g1 : (kd != 1) = true := by simp [hk1]
  go_wp2_with fail
  refine bodyPost_ret (v := .tuple #[.slice none 0 0, .int .i64 0, .bool false]) (by simp [results, Try.results28, go_sem]) rfl ?_
  exact ⟨rfl, BE⟩
 ·have g1 : (r != 0) = true := by simp [hr0]
  go_wp2_with fail
  refine bodyPost_ret (v := .tuple #[.slice none 0 0, .int .i64 0, .bool false]) (by simp [results, Try.results28, go_sem]) rfl ?_
  exact ⟨rfl, BE⟩
theorem ib_map {w : World} {g N : Nat} {σ : Nat → Nat} (h : IB w g 3 N (fun i => ((σ i : Nat) : Int))) (hN : N ≤ 64) : (Kd.int .i64).C w (some ⟨g, 0, none⟩) N (mapP N σ) :=
 Kd.C_of_reads ⟨by rw [mapP_len], by omega, fun _ => ⟨_, rfl, fun j hj => by
  have h1 := h.c hj
  rw [mapP_get hj]
  have ea : (⟨g, 0, none⟩ : Addr).add j = ⟨g, j, none⟩ := by
   cases j with
   | zero => rfl
   | succ j => simp [Addr.add]
  show w.cell? ((⟨g, 0, none⟩ : Addr).add j) = _
  rw [ea]
  exact h1⟩⟩
def ExP (w : World) (y : PI) (vr : Value) (w' : World) : Prop :=
 (y.kind ≠ 1 ∧ vr = .tuple #[.slice none 0 0, .int .i64 0, .bool false] ∧ Below w.heap.size w w') ∨
 (y.kind = 1 ∧ ∃ (C : Nat) (z : Int) (σ : Nat → Nat), vr = .tuple #[.slice (some ⟨C, 0, none⟩) y.cost.length y.cost.length, .int .i64 z, .bool true] ∧ (Kd.int .i64).C w' (some ⟨C, 0, none⟩) y.cost.length (mapP y.cost.length σ) ∧
  Answ y true z (mapP y.cost.length σ) ∧ Below w.heap.size w w')
theorem exact_tame (w : World) (y : PI) (v : Value) (h : InstC w y v) (hx : PIok y) (hi : IOk y) (h9 : y.cost.length ≤ 9) :
  Calls Try.prog 28 #[v] w fun e w' => ∃ vr, e = .returned vr ∧ Aside0 (ExP w y vr w') := by
 by_cases hk : y.kind = 1
 ·obtain ⟨z, hz⟩ := least_is y h9
  refine (exact_any w y v h hx hi hk z hz).mono ?_
  rintro _ w' ⟨C, rfl, H⟩
  obtain ⟨⟨σ, s1, s2, s3⟩, s4⟩ := H.out
  exact ⟨_, rfl, ⟨.inr ⟨hk, C, z, σ, rfl, ib_map s3 (by omega), answ_1 (iok.2 hi) hk hz s1 s2, s4⟩⟩⟩
 ·refine (exact_not w y v h hx (fun _ => hk)).mono ?_
  rintro _ w' ⟨rfl, H⟩
  exact ⟨_, rfl, ⟨.inl ⟨hk, rfl, H.out⟩⟩⟩
theorem cut_ok {x : PI} (h : PIok x) : PIok (cutI x) := by
 refine ⟨?_, ?_, ?_, fun r hr => ?_, fun s hs => ?_⟩
 ·show (x.items.take 40).length ≤ _
  rw [List.length_take]; omega
 ·show ((x.cost.take 70).map _).length ≤ _
  rw [List.length_map, List.length_take]; omega
 ·show ((x.sets.take 40).map _).length ≤ _
  rw [List.length_map, List.length_take]; omega
 ·obtain ⟨a, _, rfl⟩ := List.mem_map.1 hr
  rw [List.length_take]; omega
 ·obtain ⟨a, _, rfl⟩ := List.mem_map.1 hs
  show (a.f1.take 40).length ≤ _
  rw [List.length_take]; omega
set_option maxHeartbeats 2000000 in
set_option maxRecDepth 100000 in
theorem hungexact_law (w : World) (x : PI) (v : Value) (h : InstC w x v) (hx : PIok x) : Calls Try.prog 10 #[v] w fun e w' => e = .returned (.bool true) ∧ Below w.heap.size w w' := by
 have HI := Aside0.mk h
 have HX := Aside0.mk hx
 obtain ⟨A2x, c2x, A3x, c3x, A5x, c5x, rfl, h2, l2, h3, l3, h5, l5⟩ := h
 clear h2 h3 h5 l2 l3 l5 hx
 have hu80 := Try.underlying80
 have hu54 := Try.underlying54
 have hu57 := Try.underlying57
 go_enter Try.func10, Try.ntmps10
 go_upto_region 1 with fail
 obtain ⟨W1, hW1⟩ : ∃ W, W = w.alloc (.cells #[.int .i64 x.kind, .int .i64 x.cap, .slice A2x x.items.length c2x, .slice A3x x.cost.length c3x, .int .i64 x.size, .slice A5x x.sets.length c5x] 80) := ⟨_, rfl⟩
 rw [← hW1]
 have B1 : Aside0 (Below w.heap.size w W1) := ⟨by rw [hW1]; exact below_alloc (Below.refl _ _) _⟩
 obtain ⟨p1, hp1⟩ : ∃ p, p = w.heap.size := ⟨_, rfl⟩
 rw [← hp1]
 have Q1 : Aside0 (W1.heap[p1]? = some (.cells #[.int .i64 x.kind, .int .i64 x.cap, .slice A2x x.items.length c2x, .slice A3x x.cost.length c3x, .int .i64 x.size, .slice A5x x.sets.length c5x] 80 (0, 0))) := ⟨by rw [hW1, hp1]; exact heap_alloc_new _ _⟩
 clear hW1 hp1
 obtain ⟨e0, e1, e2, e3, e4, e5, _⟩ := six Q1.out (Below.refl _ _)
 go_wp2_with fail
 clear e0 e1 e2 e3 e4 e5
 refine (insts_any9 W1 x _ (HI.out.below B1.out) HX.out).mono ?_
 rintro _ W4 ⟨vc, vd, rfl, ⟨ic, id_, B4'⟩⟩
 have B4 := Aside0.mk B4'
 have CX := Aside0.mk (cut_ok HX.out)
 have IC := Aside0.mk ic
 have ID := Aside0.mk id_
 clear B4'
 obtain ⟨y, hy⟩ : ∃ y, y = cutI x := ⟨_, rfl⟩
 rw [← hy] at CX IC ID ic id_
 clear hy
 obtain ⟨A2c, c2c, A3c, c3c, A5c, c5c, rfl, _⟩ := ic
 obtain ⟨A2d, c2d, A3d, c3d, A5d, c5d, rfl, _⟩ := id_
 go_upto_region 2 with fail
 obtain ⟨W5, hW5⟩ : ∃ W, W = (W4.alloc (.cells #[.int .i64 y.kind, .int .i64 y.cap, .slice A2c y.items.length c2c, .slice A3c y.cost.length c3c, .int .i64 y.size, .slice A5c y.sets.length c5c] 54)).alloc (.cells #[.int .i64 y.kind, .int .i64 y.cap, .slice A2d y.items.length c2d, .slice A3d y.cost.length c3d, .int .i64 y.size, .slice A5d y.sets.length c5d] 57) := ⟨_, rfl⟩
 rw [← hW5]
 have B5 : Aside0 (Below W4.heap.size W4 W5) := ⟨by rw [hW5]; exact below_alloc (below_alloc (Below.refl _ _) _) _⟩
 obtain ⟨p5, hp5⟩ : ∃ p, p = W4.heap.size := ⟨_, rfl⟩
 rw [← hp5]
 have Q5 : Aside0 (W5.heap[p5]? = some (.cells #[.int .i64 y.kind, .int .i64 y.cap, .slice A2c y.items.length c2c, .slice A3c y.cost.length c3c, .int .i64 y.size, .slice A5c y.sets.length c5c] 54 (0, 0)) ∧ W5.heap[p5 + 1]? = some (.cells #[.int .i64 y.kind, .int .i64 y.cap, .slice A2d y.items.length c2d, .slice A3d y.cost.length c3d, .int .i64 y.size, .slice A5d y.sets.length c5d] 57 (0, 0))) := ⟨by
  rw [hW5, hp5]
  constructor
  all_goals
   simp only [al_get, al_size]
   repeat (first | rw [if_pos trivial] | rw [if_neg (by omega)])⟩
 have B45 := Aside0.mk (B4.out.trans (B5.out.mono B4.out.size))
 have IC5 := Aside0.mk (IC.out.below B5.out)
 have ID5 := Aside0.mk (ID.out.below B5.out)
 clear hW5 hp5 B5
 obtain ⟨e0, e1, e2, e3, e4, e5, _⟩ := six Q5.out.2 (Below.refl _ _)
 go_wp2_with fail
 clear e0 e1 e2 e3 e4 e5
 refine (rcheck_any W5 y _ ID5.out CX.out).mono ?_
 rintro _ W6 ⟨rfl, B6'⟩
 have B6 := Aside0.mk B6'
 have BW : Aside0 (Below W1.heap.size W1 W6) := ⟨B45.out.trans (B6'.mono B45.out.size)⟩
 clear B6'
 obtain ⟨r, hr⟩ : ∃ r, r = chk y := ⟨_, rfl⟩
 have HR := Aside0.mk hr
 rw [← hr]
 clear hr
 by_cases hr0 : r = 0
 ·subst hr0
  obtain ⟨e0, e1, e2, e3, e4, e5, _⟩ := six Q1.out BW.out
  go_wp2_with fail
  clear e0 e1 e2 e3 e4 e5 HR
  refine (tame_any9 W6 x _ 7 (HI.out.below (B1.out.trans (BW.out.mono B1.out.size))) HX.out (by decide) (by decide)).mono ?_
  rintro _ W8 ⟨va, rfl, ⟨u, iy, TP', B8'⟩⟩
  have B8 := Aside0.mk (BW.out.trans (B8'.mono BW.out.size))
  have IY := Aside0.mk iy.c
  have UI := Aside0.mk (tame_iok TP' (by omega))
  have UO := Aside0.mk (tame_pok TP' (by omega))
  have CUT := Aside0.mk (cut_tame TP' (by omega))
  have UN : Aside0 (u.cost.length ≤ 6) := ⟨by have h1 := TP'.cost.1; omega⟩
  clear B8' TP' iy
  go_wp2_with fail
  refine (insts_any9 W8 u _ IY.out UO.out).mono ?_
  rintro _ W9 ⟨vg, vh, rfl, ⟨ig, ih, B9'⟩⟩
  have B9 := Aside0.mk (B8.out.trans (B9'.mono B8.out.size))
  rw [CUT.out] at ig ih
  have IG := Aside0.mk ig
  have IH := Aside0.mk ih
  clear B9'
  obtain ⟨A2g, c2g, A3g, c3g, A5g, c5g, rfl, _⟩ := ig
  obtain ⟨A2h, c2h, A3h, c3h, A5h, c5h, rfl, _⟩ := ih
  go_upto_region 7 with fail
  obtain ⟨Wa, hWa⟩ : ∃ W, W = (W9.alloc (.cells #[.int .i64 u.kind, .int .i64 u.cap, .slice A2g u.items.length c2g, .slice A3g u.cost.length c3g, .int .i64 u.size, .slice A5g u.sets.length c5g] 54)).alloc (.cells #[.int .i64 u.kind, .int .i64 u.cap, .slice A2h u.items.length c2h, .slice A3h u.cost.length c3h, .int .i64 u.size, .slice A5h u.sets.length c5h] 57) := ⟨_, rfl⟩
  rw [← hWa]
  have B5 : Aside0 (Below W9.heap.size W9 Wa) := ⟨by rw [hWa]; exact below_alloc (below_alloc (Below.refl _ _) _) _⟩
  obtain ⟨pa, hpa⟩ : ∃ p, p = W9.heap.size := ⟨_, rfl⟩
  rw [← hpa]
  have Qa : Aside0 (Wa.heap[pa]? = some (.cells #[.int .i64 u.kind, .int .i64 u.cap, .slice A2g u.items.length c2g, .slice A3g u.cost.length c3g, .int .i64 u.size, .slice A5g u.sets.length c5g] 54 (0, 0)) ∧ Wa.heap[pa + 1]? = some (.cells #[.int .i64 u.kind, .int .i64 u.cap, .slice A2h u.items.length c2h, .slice A3h u.cost.length c3h, .int .i64 u.size, .slice A5h u.sets.length c5h] 57 (0, 0))) := ⟨by
   rw [hWa, hpa]
   constructor
   all_goals
    simp only [al_get, al_size]
    repeat (first | rw [if_pos trivial] | rw [if_neg (by omega)])⟩
  have Ba := Aside0.mk (B9.out.trans (B5.out.mono B9.out.size))
  have IG5 := Aside0.mk (IG.out.below B5.out)
  have IH5 := Aside0.mk (IH.out.below B5.out)
  clear hWa hpa B5
  obtain ⟨e0, e1, e2, e3, e4, e5, _⟩ := six Qa.out.1 (Below.refl _ _)
  go_wp2_with fail
  clear e0 e1 e2 e3 e4 e5
  refine (exact_tame Wa u _ IG5.out UO.out UI.out (Nat.le_trans UN.out (by decide))).mono ?_
  rintro _ Wb ⟨vr, rfl, EX⟩
  rcases EX.out with ⟨k1, rfl, bb⟩ | ⟨k1, C, z, σ, rfl, hC, hA, bb⟩
  ·clear EX
   have Bb := Aside0.mk bb
   clear bb
   go_wp2_with fail
   refine (wakes_any Wb).mono ?_
   rintro _ Wc ⟨rfl, bc⟩
   have Bc : Aside0 (Below Wa.heap.size Wa Wc) := ⟨Bb.out.trans (bc.mono Bb.out.size)⟩
   have BE : Aside0 (Below w.heap.size w Wc) := ⟨B1.out.trans ((Ba.out.trans (Bc.out.mono Ba.out.size)).mono B1.out.size)⟩
   clear bc
   obtain ⟨e0, e1, e2, e3, e4, e5, _⟩ := six Qa.out.1 Bc.out
   have g2 : (u.kind == 1) = false := by simp [k1]
   go_wp2_with fail
   go_ret
   exact ⟨rfl, BE.out⟩
  ·clear EX
   have Bb := Aside0.mk bb
   have LC := Aside0.mk hC
   have AN := Aside0.mk hA
   have K1 := Aside0.mk k1
   clear bb hC hA
   go_wp2_with fail
   refine (wakes_any Wb).mono ?_
   rintro _ Wc ⟨rfl, bc⟩
   have Bc : Aside0 (Below Wa.heap.size Wa Wc) := ⟨Bb.out.trans (bc.mono Bb.out.size)⟩
   have LCc := Aside0.mk (Kd.C_below LC.out bc)
   clear bc LC
   obtain ⟨e0, e1, e2, e3, e4, e5, _⟩ := six Qa.out.1 Bc.out
   have g2 : (u.kind == 1) = true := by simp [k1]
   clear k1
   go_wp2_with fail
   clear e0 e1 e2 e3 e4 e5
   refine (best1_any Wc u _ (IG5.out.below Bc.out) UI.out UO.out K1.out u.cost.length rfl (UI.out.side (.inl K1.out)).1 UN.out).mono ?_
   rintro _ Wd ⟨vb, z', f', rfl, HB⟩
   have Bd : Aside0 (Below Wa.heap.size Wa Wd) := ⟨Bc.out.trans (HB.out.2.mono Bc.out.size)⟩
   have LCd := Aside0.mk (Kd.C_below LCc.out HB.out.2)
   obtain ⟨hff, hzz⟩ := AN.out.same (iok.2 UI.out) (fun _ h => vis_mem K1.out rfl UN.out h) HB.out.1
   subst hff
   subst hzz
   clear HB LCc
   obtain ⟨e0, e1, e2, e3, e4, e5, _⟩ := six Qa.out.1 Bd.out
   go_wp2_with fail
   clear e0 e1 e2 e3 e4 e5
   refine (cost_any Wd u _ (IG5.out.below Bd.out) UO.out _ _ u.cost.length _ LCd.out (Nat.le_trans UN.out (by decide)) z 0 (AN.out.yes rfl).2.1.symm).mono ?_
   rintro _ We ⟨rfl, HE⟩
   have BE : Aside0 (Below w.heap.size w We) := ⟨B1.out.trans ((Ba.out.trans ((Bd.out.trans (HE.out.mono Bd.out.size)).mono Ba.out.size)).mono B1.out.size)⟩
   clear HE
   have ge : (z == z) = true := by simp
   go_wp2_with fail
   go_ret
   exact ⟨rfl, BE.out⟩
 ·have g1 : (r != 0) = true := by simp [hr0]
  obtain ⟨e0, e1, e2, e3, e4, e5, _⟩ := six Q5.out.1 B6.out
  go_wp2_with fail
  clear e0 e1 e2 e3 e4 e5
  refine (exact_not W6 y _ (IC5.out.below B6.out) CX.out (fun h => absurd (HR.out.trans h) hr0)).mono ?_
  rintro _ W7 ⟨rfl, H7⟩
  have BV : Aside0 (Below W1.heap.size W1 W7) := ⟨BW.out.trans (H7.out.mono BW.out.size)⟩
  obtain ⟨e0, e1, e2, e3, e4, e5, _⟩ := six Q1.out BV.out
  go_wp2_with fail
  clear e0 e1 e2 e3 e4 e5 HR H7 g1
  refine (tame_any9 W7 x _ 7 (HI.out.below (B1.out.trans (BV.out.mono B1.out.size))) HX.out (by decide) (by decide)).mono ?_
  rintro _ W8 ⟨va, rfl, ⟨u, iy, TP', B8'⟩⟩
  have B8 := Aside0.mk (BV.out.trans (B8'.mono BV.out.size))
  have IY := Aside0.mk iy.c
  have UI := Aside0.mk (tame_iok TP' (by omega))
  have UO := Aside0.mk (tame_pok TP' (by omega))
  have CUT := Aside0.mk (cut_tame TP' (by omega))
  have UN : Aside0 (u.cost.length ≤ 6) := ⟨by have h1 := TP'.cost.1; omega⟩
  clear B8' TP' iy
  go_wp2_with fail
  refine (insts_any9 W8 u _ IY.out UO.out).mono ?_
  rintro _ W9 ⟨vg, vh, rfl, ⟨ig, ih, B9'⟩⟩
  have B9 := Aside0.mk (B8.out.trans (B9'.mono B8.out.size))
  rw [CUT.out] at ig ih
  have IG := Aside0.mk ig
  have IH := Aside0.mk ih
  clear B9'
  obtain ⟨A2g, c2g, A3g, c3g, A5g, c5g, rfl, _⟩ := ig
  obtain ⟨A2h, c2h, A3h, c3h, A5h, c5h, rfl, _⟩ := ih
  go_upto_region 7 with fail
  obtain ⟨Wa, hWa⟩ : ∃ W, W = (W9.alloc (.cells #[.int .i64 u.kind, .int .i64 u.cap, .slice A2g u.items.length c2g, .slice A3g u.cost.length c3g, .int .i64 u.size, .slice A5g u.sets.length c5g] 54)).alloc (.cells #[.int .i64 u.kind, .int .i64 u.cap, .slice A2h u.items.length c2h, .slice A3h u.cost.length c3h, .int .i64 u.size, .slice A5h u.sets.length c5h] 57) := ⟨_, rfl⟩
  rw [← hWa]
  have B5 : Aside0 (Below W9.heap.size W9 Wa) := ⟨by rw [hWa]; exact below_alloc (below_alloc (Below.refl _ _) _) _⟩
  obtain ⟨pa, hpa⟩ : ∃ p, p = W9.heap.size := ⟨_, rfl⟩
  rw [← hpa]
  have Qa : Aside0 (Wa.heap[pa]? = some (.cells #[.int .i64 u.kind, .int .i64 u.cap, .slice A2g u.items.length c2g, .slice A3g u.cost.length c3g, .int .i64 u.size, .slice A5g u.sets.length c5g] 54 (0, 0)) ∧ Wa.heap[pa + 1]? = some (.cells #[.int .i64 u.kind, .int .i64 u.cap, .slice A2h u.items.length c2h, .slice A3h u.cost.length c3h, .int .i64 u.size, .slice A5h u.sets.length c5h] 57 (0, 0))) := ⟨by
   rw [hWa, hpa]
   constructor
   all_goals
    simp only [al_get, al_size]
    repeat (first | rw [if_pos trivial] | rw [if_neg (by omega)])⟩
  have Ba := Aside0.mk (B9.out.trans (B5.out.mono B9.out.size))
  have IG5 := Aside0.mk (IG.out.below B5.out)
  have IH5 := Aside0.mk (IH.out.below B5.out)
  clear hWa hpa B5
  obtain ⟨e0, e1, e2, e3, e4, e5, _⟩ := six Qa.out.1 (Below.refl _ _)
  go_wp2_with fail
  clear e0 e1 e2 e3 e4 e5
  refine (exact_tame Wa u _ IG5.out UO.out UI.out (Nat.le_trans UN.out (by decide))).mono ?_
  rintro _ Wb ⟨vr, rfl, EX⟩
  rcases EX.out with ⟨k1, rfl, bb⟩ | ⟨k1, C, z, σ, rfl, hC, hA, bb⟩
  ·clear EX
   have Bb := Aside0.mk bb
   clear bb
   go_wp2_with fail
   refine (wakes_any Wb).mono ?_
   rintro _ Wc ⟨rfl, bc⟩
   have Bc : Aside0 (Below Wa.heap.size Wa Wc) := ⟨Bb.out.trans (bc.mono Bb.out.size)⟩
   have BE : Aside0 (Below w.heap.size w Wc) := ⟨B1.out.trans ((Ba.out.trans (Bc.out.mono Ba.out.size)).mono B1.out.size)⟩
   clear bc
   obtain ⟨e0, e1, e2, e3, e4, e5, _⟩ := six Qa.out.1 Bc.out
   have g2 : (u.kind == 1) = false := by simp [k1]
   go_wp2_with fail
   go_ret
   exact ⟨rfl, BE.out⟩
  ·clear EX
   have Bb := Aside0.mk bb
   have LC := Aside0.mk hC
   have AN := Aside0.mk hA
   have K1 := Aside0.mk k1
   clear bb hC hA
   go_wp2_with fail
   refine (wakes_any Wb).mono ?_
   rintro _ Wc ⟨rfl, bc⟩
   have Bc : Aside0 (Below Wa.heap.size Wa Wc) := ⟨Bb.out.trans (bc.mono Bb.out.size)⟩
   have LCc := Aside0.mk (Kd.C_below LC.out bc)
   clear bc LC
   obtain ⟨e0, e1, e2, e3, e4, e5, _⟩ := six Qa.out.1 Bc.out
   have g2 : (u.kind == 1) = true := by simp [k1]
   clear k1
   go_wp2_with fail
   clear e0 e1 e2 e3 e4 e5
   refine (best1_any Wc u _ (IG5.out.below Bc.out) UI.out UO.out K1.out u.cost.length rfl (UI.out.side (.inl K1.out)).1 UN.out).mono ?_
   rintro _ Wd ⟨vb, z', f', rfl, HB⟩
   have Bd : Aside0 (Below Wa.heap.size Wa Wd) := ⟨Bc.out.trans (HB.out.2.mono Bc.out.size)⟩
   have LCd := Aside0.mk (Kd.C_below LCc.out HB.out.2)
   obtain ⟨hff, hzz⟩ := AN.out.same (iok.2 UI.out) (fun _ h => vis_mem K1.out rfl UN.out h) HB.out.1
   subst hff
   subst hzz
   clear HB LCc
   obtain ⟨e0, e1, e2, e3, e4, e5, _⟩ := six Qa.out.1 Bd.out
   go_wp2_with fail
   clear e0 e1 e2 e3 e4 e5
   refine (cost_any Wd u _ (IG5.out.below Bd.out) UO.out _ _ u.cost.length _ LCd.out (Nat.le_trans UN.out (by decide)) z 0 (AN.out.yes rfl).2.1.symm).mono ?_
   rintro _ We ⟨rfl, HE⟩
   have BE : Aside0 (Below w.heap.size w We) := ⟨B1.out.trans ((Ba.out.trans ((Bd.out.trans (HE.out.mono Bd.out.size)).mono Ba.out.size)).mono B1.out.size)⟩
   clear HE
   have ge : (z == z) = true := by simp
   go_wp2_with fail
   go_ret
   exact ⟨rfl, BE.out⟩
end Go.Proofs.Ytelabmhhnpfegaa.Hand
end
section
namespace Go.Proofs.Ytelabmhhnpfegaa.Hand
open Go.Joins Go.ChangeShapes Go.WideShapes Go.ChangeAt Go.RowKit Go.Deep Go.Proofs.YtelabmhhnpfegaaW.PrintWords Go.Proofs.Ytelabmhhnpfegaa.PDynCells
section
variable {H : Type} {enc : TypeId × Value → H} {P : Program} {w : World} {base : Nat} {spare : Nat → Bool} {held : Bool}
theorem open_agg6 {r : Reach} {b0 : Nat} {t : TypeId} {f0 f1 f2 f3 f4 f5 : Field} {v : Value} {d : DataW H} {p : List MemPlace} (hs : P.underlying t = some (.struct #[f0, f1, f2, f3, f4, f5])) (hone : oneCellFields P #[f0, f1, f2, f3, f4, f5] = true) (hC : P.cellsOf t = 6)
  (hv : Value.okWide P w r b0 t v) (h : DataW.Trod enc P w base spare held t v d p) :
  ∃ (v0 v1 v2 v3 v4 v5 : Value) (y0 y1 y2 y3 y4 y5 : DataW H × List MemPlace) (n : Nat), v = .agg #[v0, v1, v2, v3, v4, v5] ∧ d = .agg [y0.1, y1.1, y2.1, y3.1, y4.1, y5.1] ∧ p = y0.2 ++ (y1.2 ++ (y2.2 ++ (y3.2 ++ (y4.2 ++ y5.2)))) ∧
   DataW.trod enc P w base spare held n f0.type [v0] = some y0 ∧ DataW.trod enc P w base spare held n f1.type [v1] = some y1 ∧ DataW.trod enc P w base spare held n f2.type [v2] = some y2 ∧ DataW.trod enc P w base spare held n f3.type [v3] = some y3 ∧ DataW.trod enc P w base spare held n f4.type [v4] = some y4 ∧ DataW.trod enc P w base spare held n f5.type [v5] = some y5 := by
 obtain ⟨cs, rfl, hsz⟩ := okWide_struct hs hv
 obtain ⟨l⟩ := cs
 match l, hsz.trans hC with
 | [c0, c1, c2, c3, c4, c5], _ =>
  obtain ⟨fuel, hf⟩ := h
  obtain ⟨xs, n, _, hx, _, hlen, hg⟩ := DataW.trod_struct hs hf
  obtain ⟨o0, k0⟩ := hone_of hone 0 f0 rfl
  obtain ⟨o1, k1⟩ := hone_of hone 1 f1 rfl
  obtain ⟨o2, k2⟩ := hone_of hone 2 f2 rfl
  obtain ⟨o3, k3⟩ := hone_of hone 3 f3 rfl
  obtain ⟨o4, k4⟩ := hone_of hone 4 f4 rfl
  obtain ⟨o5, k5⟩ := hone_of hone 5 f5 rfl
  match xs, hlen with
  | [y0, y1, y2, y3, y4, y5], _ =>
   simp only [Prod.mk.injEq] at hx
   exact ⟨c0, c1, c2, c3, c4, c5, y0, y1, y2, y3, y4, y5, n, rfl, by simpa using hx.1, by simpa using hx.2, by simpa [Value.cells, o0, k0] using hg 0 f0 rfl, by simpa [Value.cells, o1, k1] using hg 1 f1 rfl, by simpa [Value.cells, o2, k2] using hg 2 f2 rfl, by simpa [Value.cells, o3, k3] using hg 3 f3 rfl, by simpa [Value.cells, o4, k4] using hg 4 f4 rfl, by simpa [Value.cells, o5, k5] using hg 5 f5 rfl⟩
end
section
variable {H : Type} {enc : TypeId × Value → H} {w : World} {spare : Nat → Bool} {held : Bool}
theorem int_at {t : TypeId} {k : IntKind} {n : Nat} {v : Value} {y : DataW H × List MemPlace} (ht : Try.prog.underlying t = some (.int k)) (h : DataW.trod enc Try.prog w 0 spare held n t [v] = some y) : ∃ x, v = .int k x ∧ (Lit.int k x).wf = true := by
 obtain ⟨x, hx, _, hw⟩ := DataW.trod_int ht h
 simp at hx
 exact ⟨x, hx, hw⟩
theorem row_at {t e : TypeId} {k : IntKind} {n : Nat} {v : Value} {y : DataW H × List MemPlace} (ht : Try.prog.underlying t = some (.slice e)) (he : Try.prog.underlying e = some (.int k)) (hc : Try.prog.cellsOf e = 1)
  (h : DataW.trod enc Try.prog w 0 spare held n t [v] = some y) : ∃ (A : Option Addr) (c : Nat) (l : List Int), v = .slice A l.length c ∧ l.length ≤ c ∧ Kd.C (Kd.int k) w A l.length l ∧
   (∀ x ∈ l, (Lit.int k x).wf = true) ∧ ∀ B, Try.prog.bytesOf e = B → (∀ m ∈ y.1.weights Try.prog t, m ≤ reachBytes) → l.length * B ≤ reachBytes := by
 rcases open_ints ht he hc h with ⟨hcs, hy⟩ | ⟨a, len, cap, zs, hcs, _, hl, hm, hz, hy, hcell, hwf⟩
 ·simp at hcs
  subst hcs
  refine ⟨none, 0, [], rfl, Nat.le_refl _, Kd.C_nil _ _, by simp, fun B _ _ => by simp⟩
 ·simp at hcs
  subst hcs
  have hlz : len ≤ zs.length := by rw [hz]; split <;> omega
  have hlen : (zs.take len).length = len := by rw [List.length_take]; omega
  refine ⟨some a, cap, zs.take len, by rw [hlen], by rw [hlen]; exact hl, ?_, fun x hx => hwf x (List.mem_of_mem_take hx), ?_⟩
  ·refine Kd.C_of_reads (d := (0 : Int)) (h1 := fun _ => rfl) (show ReadsInt w k _ _ _ from ⟨rfl, by have hmx : maxLen = 9223372036854775807 := rfl; rw [hlen]; omega, fun _ => ⟨_, rfl, fun j hj => ?_⟩⟩)
   rw [hlen] at hj
   rw [hcell j (by omega)]
   have e : zs.getD j 0 = (zs.take len).getD j 0 := by
    rw [List.getD_eq_getElem?_getD, List.getD_eq_getElem?_getD, List.getElem?_take_of_lt hj]
   rw [e]
  ·intro B hB hw
   subst hy
   have h1 : (lits (H := H) k (zs.take len)).length + (lits (H := H) k (zs.drop len)).length = zs.length := by
    simp [lits]
    omega
   have z := hw (zs.length * B) (by
    simp only [DataW.weights, ht, hB]
    rw [h1]
    exact List.mem_cons_self ..)
   rw [hlen]
   exact Nat.le_trans (Nat.mul_le_mul_right _ hlz) z
end
theorem mem_all {H : Type} {P : Program} {e : TypeId} {d : DataW H} {m : Nat} (hm : m ∈ d.weights P e) : ∀ {l : List (DataW H)}, d ∈ l → m ∈ DataW.weightsAll P e l
 | [], h => by cases h
 | x :: l, h => by
  simp only [DataW.weightsAll, List.mem_append]
  rcases List.mem_cons.1 h with rfl | h
  ·exact .inl hm
  ·exact .inr (mem_all hm h)
theorem list_of {α : Type} {Q : Nat → α → Prop} : ∀ (n : Nat), (∀ i, i < n → ∃ x, Q i x) → ∃ l : List α, l.length = n ∧ ∀ i x, l[i]? = some x → Q i x
 | 0, _ => ⟨[], rfl, fun i x h => by simp at h⟩
 | n + 1, h => by
  obtain ⟨l, hl, hq⟩ := list_of n (fun i hi => h i (Nat.lt_succ_of_lt hi))
  obtain ⟨x, hx⟩ := h n (Nat.lt_succ_self n)
  refine ⟨l ++ [x], by simp [hl], fun i y hy => ?_⟩
  rcases Nat.lt_or_ge i l.length with h1 | h1
  ·rw [List.getElem?_append_left h1] at hy
   exact hq i y hy
  ·rw [List.getElem?_append_right h1] at hy
   have h2 : i - l.length = 0 := by
    have := (List.getElem?_eq_some_iff.1 hy).1
    simpa using this
   rw [h2] at hy
   simp at hy
   subst hy
   have : i = n := by omega
   rw [this]
   exact hx
section
variable {H : Type} {enc : TypeId × Value → H} {w : World} {spare : Nat → Bool} {held : Bool}
theorem slice_at {α : Type} (d : Kd α) {Ok : α → Prop} {t e B : TypeId} {n : Nat} {v : Value} {y : DataW H × List MemPlace} (ht : Try.prog.underlying t = some (.slice e)) (hC : Try.prog.cellsOf e = d.sz) (hb : Try.prog.bytesOf e = B)
  (hel : ∀ (n : Nat) (cs : List Value) (z : DataW H × List MemPlace), cs.length = d.sz → DataW.trod enc Try.prog w 0 spare held n e cs = some z → (∀ m ∈ z.1.weights Try.prog e, m ≤ reachBytes) → ∃ x, d.K w x cs ∧ Ok x)
  (h : DataW.trod enc Try.prog w 0 spare held n t [v] = some y) (hw : ∀ m ∈ y.1.weights Try.prog t, m ≤ reachBytes) :
  ∃ (A : Option Addr) (c : Nat) (l : List α), v = .slice A l.length c ∧ l.length ≤ c ∧ d.C w A l.length l ∧ (∀ x ∈ l, Ok x) ∧ l.length * B ≤ reachBytes := by
 rcases open_slice ht h with ⟨hcs, hy⟩ | ⟨a, len, cap, m, n', D, Pl, hcs, _, hl, hm, hmm, hx, hi⟩
 ·simp at hcs
  subst hcs
  exact ⟨none, 0, [], rfl, Nat.le_refl _, Kd.C_nil _ _, by simp, by simp⟩
 ·simp at hcs
  subst hcs
  have hlm : len ≤ m := by rw [hmm]; split <;> omega
  subst hx
  have hwlen : len * B ≤ reachBytes := by
   have z := hw ((((List.range len).map D).length + ((List.range (m - len)).map fun j => D (len + j)).length) * B) (by
    simp only [DataW.weights, ht, hb]
    exact List.mem_cons_self ..)
   refine Nat.le_trans (Nat.mul_le_mul_right _ ?_) z
   simp
  have hwall : ∀ i, i < len → ∀ q ∈ (D i).weights Try.prog e, q ≤ reachBytes := fun i hi q hq => hw q (by
   simp only [DataW.weights, ht]
   refine List.mem_cons_of_mem _ (List.mem_append_left _ (mem_all hq ?_))
   exact List.mem_map.2 ⟨i, List.mem_range.2 hi, rfl⟩)
  obtain ⟨l, hlen, hq⟩ := list_of (α := α) (Q := fun i x => Ok x ∧ ∃ cs : List Value, cs.length = d.sz ∧ d.K w x cs ∧ ∀ j u, cs[j]? = some u → w.cell? (a.add (i * d.sz + j)) = some u) len (fun i hi' => by
   obtain ⟨cs', hc, ht'⟩ := hi i (by omega)
   rw [hC] at hc
   obtain ⟨_, hcl, hat⟩ := World.cells?_some hc
   obtain ⟨x, hK, hok⟩ := hel _ cs' _ hcl ht' (hwall i hi')
   refine ⟨x, hok, cs', hcl, hK, fun j u hu => ?_⟩
   have hj : j < d.sz := by
    have := (List.getElem?_eq_some_iff.1 hu).1
    omega
   rw [← Go.Deep.add_add, hat j hj, hu])
  have hmx : maxLen = 9223372036854775807 := rfl
  refine ⟨some a, cap, l, by rw [hlen], by rw [hlen]; exact hl, ⟨rfl, by omega, fun _ => ⟨a, rfl, fun j p hp => ?_⟩⟩, fun x hx => ?_, by rw [hlen]; exact hwlen⟩
  ·obtain ⟨_, cs, h6, hK, hcell⟩ := hq j p hp
   exact ⟨cs, h6, hK, hcell⟩
  ·obtain ⟨i, hi⟩ := List.getElem?_of_mem hx
   exact (hq i x hi).1
set_option maxRecDepth 100000 in
theorem items_at {n : Nat} {v : Value} {y : DataW H × List MemPlace} (h : DataW.trod enc Try.prog w 0 spare held n 44 [v] = some y) (hw : ∀ m ∈ y.1.weights Try.prog 44, m ≤ reachBytes) :
  ∃ (A : Option Addr) (c : Nat) (l : List S101), v = .slice A l.length c ∧ l.length ≤ c ∧ k101.C w A l.length l ∧ (∀ _x ∈ l, True) ∧ l.length * 16 ≤ reachBytes := by
 refine slice_at k101 (Ok := fun _ => True) Try.underlying44 (by kernel_rfl) (by kernel_rfl) (fun m cs z hcl ht _ => ?_) h hw
 match cs, hcl with
 | [c0, c1], _ =>
  obtain ⟨xs, m', _, hx, _, hlen, hg⟩ := DataW.trod_array Try.underlying68 ht
  match xs, hlen with
  | [y0, y1], _ =>
   have g0 := hg 0 (by omega)
   have g1 := hg 1 (by omega)
   have hc : Try.prog.cellsOf 2 = 1 := by kernel_rfl
   rw [hc] at g0 g1
   have g0' : DataW.trod enc Try.prog w 0 spare held m' 2 [c0] = some y0 := g0
   have g1' : DataW.trod enc Try.prog w 0 spare held m' 2 [c1] = some y1 := g1
   obtain ⟨x0, e0, _, _⟩ := DataW.trod_int Try.underlying2 g0'
   obtain ⟨x1, e1, _, _⟩ := DataW.trod_int Try.underlying2 g1'
   simp at e0 e1
   subst e0 e1
   exact ⟨⟨x0, x1⟩, k101_mk w _, trivial⟩
set_option maxRecDepth 100000 in
theorem cost_at {n : Nat} {v : Value} {y : DataW H × List MemPlace} (h : DataW.trod enc Try.prog w 0 spare held n 22 [v] = some y) (hw : ∀ m ∈ y.1.weights Try.prog 22, m ≤ reachBytes) :
  ∃ (A : Option Addr) (c : Nat) (l : List (List Int)), v = .slice A l.length c ∧ l.length ≤ c ∧ (Kd.slice 2 (Kd.int .i64)).C w A l.length l ∧ (∀ r ∈ l, r.length ≤ 17592186044416) ∧ l.length * 24 ≤ reachBytes := by
 refine slice_at (Kd.slice 2 (Kd.int .i64)) (Ok := fun r => r.length ≤ 17592186044416) Try.underlying22 (by kernel_rfl) (by kernel_rfl) (fun m cs z hcl ht hz => ?_) h hw
 match cs, hcl with
 | [c0], _ =>
  obtain ⟨A, c, l, rfl, hl, hC, _, hB⟩ := row_at Try.underlying30 Try.underlying2 (by kernel_rfl) ht
  have z := hB 8 (by kernel_rfl) hz
  have hr : reachBytes = 140737488355328 - 4096 := rfl
  exact ⟨l, ⟨A, c, rfl, hl, hC⟩, by omega⟩
end
end Go.Proofs.Ytelabmhhnpfegaa.Hand
end
section
namespace Go.Proofs.Ytelabmhhnpfegaa.Hand
open Go.Joins Go.ChangeShapes Go.WideShapes Go.ChangeAt Go.RowKit Go.Deep Go.Proofs.YtelabmhhnpfegaaW.PrintWords Go.Proofs.Ytelabmhhnpfegaa.PDynCells
section
variable {H : Type} {enc : TypeId × Value → H} {w : World} {spare : Nat → Bool} {held : Bool}
set_option maxRecDepth 100000 in
theorem sets_at9 {n : Nat} {v : Value} {y : DataW H × List MemPlace} (h : DataW.trod enc Try.prog w 0 spare held n 78 [v] = some y) (hw : ∀ m ∈ y.1.weights Try.prog 78, m ≤ reachBytes) :
  ∃ (A : Option Addr) (c : Nat) (l : List S102), v = .slice A l.length c ∧ l.length ≤ c ∧ k102.C w A l.length l ∧ (∀ s ∈ l, s.f1.length ≤ 17592186044416) ∧ l.length * 32 ≤ reachBytes := by
 refine slice_at k102 (Ok := fun s => s.f1.length ≤ 17592186044416) Try.underlying78 (by kernel_rfl) (by kernel_rfl) (fun m cs z hcl ht hz => ?_) h hw
 match cs, hcl with
 | [c0, c1], _ =>
  obtain ⟨ys, n', _, hy, _, hyl, hf⟩ := DataW.trod_struct Try.underlying121 ht
  match ys, hyl with
  | [y0, y1], _ =>
   have t0 : DataW.trod enc Try.prog w 0 spare held n' 2 [c0] = some y0 := hf 0 _ rfl
   have t1 : DataW.trod enc Try.prog w 0 spare held n' 29 [c1] = some y1 := hf 1 _ rfl
   obtain ⟨u, rfl, _⟩ := int_at Try.underlying2 t0
   obtain ⟨A, c, l, rfl, hl, hC, _, hB⟩ := row_at Try.underlying29 Try.underlying3 (by kernel_rfl) t1
   have z := hB 8 (by kernel_rfl) (fun m hm => hz m (by
    rw [congrArg Prod.fst hy]
    simp only [DataW.weights, Try.underlying121, DataW.weightsEach, List.map_cons, List.map_nil, List.mem_append]
    exact .inr (.inl hm)))
   have hr : reachBytes = 140737488355328 - 4096 := rfl
   exact ⟨⟨u, l⟩, k102_mk w ⟨u, l⟩ hl hC, by show l.length ≤ _; omega⟩
set_option maxRecDepth 100000 in
theorem inst_at9 {r : Reach} {b0 : Nat} {v : Value} {d : DataW H} {p : List MemPlace} (hv : Value.okWide Try.prog w r b0 80 v) (h : DataW.Trod enc Try.prog w 0 spare held 80 v d p) (hw : ∀ m ∈ d.weights Try.prog 80, m ≤ reachBytes) : ∃ x : PI, InstC w x v ∧ PIok x := by
 obtain ⟨x0, x1, x2, x3, x4, x5, y0, y1, y2, y3, y4, y5, n, rfl, rfl, rfl, g0, g1, g2, g3, g4, g5⟩ := open_agg6 Try.underlying80 (by kernel_rfl) (by kernel_rfl) hv h
 obtain ⟨k, rfl, _⟩ := int_at Try.underlying3 g0
 obtain ⟨cp, rfl, _⟩ := int_at Try.underlying2 g1
 obtain ⟨A2, c2, l2, rfl, b2, C2, _, w2⟩ := items_at g2 (fun m hm => hw m (by
  simp only [DataW.weights, Try.underlying80, DataW.weightsEach, List.map_cons, List.map_nil, List.mem_append]
  exact .inr (.inr (.inl hm))))
 obtain ⟨A3, c3, l3, rfl, b3, C3, r3, w3⟩ := cost_at g3 (fun m hm => hw m (by
  simp only [DataW.weights, Try.underlying80, DataW.weightsEach, List.map_cons, List.map_nil, List.mem_append]
  exact .inr (.inr (.inr (.inl hm)))))
 obtain ⟨sz, rfl, _⟩ := int_at Try.underlying3 g4
 obtain ⟨A5, c5, l5, rfl, b5, C5, r5, w5⟩ := sets_at9 g5 (fun m hm => hw m (by
  simp only [DataW.weights, Try.underlying80, DataW.weightsEach, List.map_cons, List.map_nil, List.mem_append]
  exact .inr (.inr (.inr (.inr (.inr (.inl hm)))))))
 have hr : reachBytes = 140737488355328 - 4096 := rfl
 exact ⟨⟨k, cp, l2, l3, sz, l5⟩, ⟨A2, c2, A3, c3, A5, c5, rfl, C2, b2, C3, b3, C5, b5⟩, by show l2.length ≤ _; omega, by show l3.length ≤ _; omega, by show l5.length ≤ _; omega, r3, r5⟩
end
end Go.Proofs.Ytelabmhhnpfegaa.Hand
end
