/- DynMatch: walked. -/
import Derived.Test.YtelabmhhnpfegaaDv
import Derived.Test.YtelabmhhnpfegaaDf
import Derived.Test.YtelabmhhnpfegaaEg
namespace Go.Proofs.Ytelabmhhnpfegaa.Hand
open Go.RowKit Go.Proofs.YtelabmhhnpfegaaW.PrintWords Go.Proofs.YtelabmhhnpfegaaW.PrintLast Go.Proofs.YtelabmhhnpfegaaW.PrintMore Go.Proofs.Ytelabmhhnpfegaa.PDynCells
theorem cutI_ok (x : PI) : PIok (cutI x) := by
  refine ⟨?_, ?_, ?_, ?_, ?_⟩
  · show (x.items.take 40).length ≤ _
    have := List.length_take_le 40 x.items
    omega
  · show ((x.cost.take 70).map (·.take 70)).length ≤ _
    rw [List.length_map]
    have := List.length_take_le 70 x.cost
    omega
  · show ((x.sets.take 40).map cutS).length ≤ _
    rw [List.length_map]
    have := List.length_take_le 40 x.sets
    omega
  · intro r hr
    obtain ⟨q, _, rfl⟩ := List.mem_map.1 hr
    have := List.length_take_le 70 q
    omega
  · intro s hs
    obtain ⟨q, _, rfl⟩ := List.mem_map.1 hs
    have : ((cutS q).f1).length ≤ 40 := List.length_take_le 40 q.f1
    omega
/-- A tame Assignment has a table. -/
theorem tame_k1 {y : PI} (h : TameP 10 1 y) : (cutI y).kind = 1 ∧ IOk (cutI y) ∧ (cutI y).cost.length ≤ 9 ∧ (cellsP (cutI y)).2 = 0 := by
  have hk : y.kind = 1 := h.kind
  obtain ⟨k1, k2, k3, k4, k5⟩ := h.k1 (by omega) (by omega)
  have hc := h.cost
  have hn : y.cost.length ≤ 9 := hc.1
  have hcost : (y.cost.take 70).map (·.take 70) = y.cost := by
    rw [List.take_of_length_le (by omega)]
    refine (List.map_congr_left (g := id) (fun r hr => ?_)).trans (List.map_id _)
    exact List.take_of_length_le (by have := (hc.2 r hr).1; omega)
  have e : cutI y = ⟨1, 0, [], y.cost, 0, []⟩ := by
    unfold cutI
    simp only [hk, k2, k3, k4, k5, List.take_nil, List.map_nil, hcost]
  rw [e]
  have hi : IOk ⟨1, 0, [], y.cost, 0, []⟩ := by
    refine ⟨⟨by show (0 : Int) ≤ 1; decide, by show (1 : Int) < 4; decide⟩, fun _ => ⟨rfl, rfl⟩, fun hn => absurd (.inl rfl) hn, fun _ => ⟨rfl, rfl⟩, fun _ => ⟨k1, by show y.cost.length ≤ 64; omega⟩, Nat.zero_le _, Nat.zero_le _, ⟨Int.le_refl _, by show (0 : Int) ≤ 4096; decide⟩, fun r hr => (hc.2 r hr).1, fun r hr => absurd hr List.not_mem_nil, ⟨Int.le_refl _, by show (0 : Int) ≤ 2147483648; decide⟩, fun r hr => absurd hr List.not_mem_nil, fun r hr => (hc.2 r hr).2, fun r hr => absurd hr List.not_mem_nil, fun hk => by simp at hk⟩
  refine ⟨rfl, hi, hn, ?_⟩
  unfold cellsP
  rw [if_pos (iok.2 hi)]
  have hq : qP ⟨1, 0, [], y.cost, 0, []⟩ ≤ 1048576 := by
    have h1 : qP ⟨1, 0, [], y.cost, 0, []⟩ = (y.cost.length : Int) * 2 ^ y.cost.length := by
      unfold qP aP tP nP
      simp
    rw [h1]
    have h2 : (2 : Int) ^ y.cost.length = ((2 ^ y.cost.length : Nat) : Int) := by rw [Int.natCast_pow]; rfl
    rw [h2]
    have h3 : 2 ^ y.cost.length ≤ 2 ^ 9 := Nat.pow_le_pow_right (by omega) hn
    obtain ⟨P, hP⟩ : ∃ P : Nat, P = 2 ^ y.cost.length := ⟨_, rfl⟩
    rw [← hP] at h3 ⊢
    have h5 : P ≤ 512 := h3
    have h4 : ((y.cost.length : Nat) : Int) * ((P : Nat) : Int) ≤ 9 * 512 := Int.mul_le_mul (by omega) (by omega) (by omega) (by omega)
    omega
  rw [if_neg (by omega)]
set_option maxHeartbeats 1000000 in
set_option maxRecDepth 100000 in
theorem dynmatch_law (w : World) (x : PI) (v : Value) (h : InstC w x v) (hx : PIok x) : Calls Try.prog 8 #[v] w fun e w' => e = .returned (.bool true) ∧ Below w.heap.size w w' := by
  have HX := Aside0.mk hx
  obtain ⟨A2x, c2x, A3x, c3x, A5x, c5x, rfl, h2, l2, h3, l3, h5, l5⟩ := h
  have HH := Aside0.mk (And.intro h2 (And.intro l2 (And.intro h3 (And.intro l3 (And.intro h5 l5)))))
  clear h2 h3 h5 l2 l3 l5 hx
  have hu47 := Try.underlying47
  have hu54 := Try.underlying54
  have hu57 := Try.underlying57
  go_enter Try.func8, Try.ntmps8
  go_upto_region 1 with fail
  obtain ⟨W1, hW1⟩ : ∃ W, W = w.alloc (.cells #[.int .i64 x.kind, .int .i64 x.cap, .slice A2x x.items.length c2x, .slice A3x x.cost.length c3x, .int .i64 x.size, .slice A5x x.sets.length c5x] 47) := ⟨_, rfl⟩
  rw [← hW1]
  have B1 : Aside0 (Below w.heap.size w W1) := ⟨by rw [hW1]; exact below_alloc (Below.refl _ _) _⟩
  obtain ⟨p1, hp1⟩ : ∃ p, p = w.heap.size := ⟨_, rfl⟩
  rw [← hp1]
  have Q1 : Aside0 (W1.heap[p1]? = some (.cells #[.int .i64 x.kind, .int .i64 x.cap, .slice A2x x.items.length c2x, .slice A3x x.cost.length c3x, .int .i64 x.size, .slice A5x x.sets.length c5x] 47 (0, 0))) := ⟨by rw [hW1, hp1]; exact heap_alloc_new _ _⟩
  have HP : Aside0 (w.heap.size ≤ p1) := ⟨by omega⟩
  clear hW1 hp1
  have e0 : W1.cell? ⟨p1, 0, none⟩ = some (.int .i64 x.kind) := (blk_cell Q1.out 0).trans rfl
  have hz : ∀ j, W1.frozen? ⟨p1, j, none⟩ = false := blk_frozen Q1.out
  go_upto_region 2 with fail
  clear e0 hz
  obtain ⟨W2, hW2⟩ : ∃ W, W = W1.setCell ⟨p1, 0, none⟩ (Value.int .i64 1) := ⟨_, rfl⟩
  rw [← hW2]
  have B2 : Aside0 (Below w.heap.size w W2) := ⟨by rw [hW2]; exact B1.out.setCell HP.out _⟩
  have Q2 : Aside0 (W2.heap[p1]? = some (.cells #[.int .i64 1, .int .i64 x.cap, .slice A2x x.items.length c2x, .slice A3x x.cost.length c3x, .int .i64 x.size, .slice A5x x.sets.length c5x] 47 (0, 0))) := ⟨by rw [hW2]; exact blk_put Q1.out 0 _ rfl⟩
  obtain ⟨x1, hx1⟩ : ∃ z : PI, z = { x with kind := 1 } := ⟨_, rfl⟩
  have I1 : Aside0 (InstC W2 x1 (.agg #[.int .i64 1, .int .i64 x.cap, .slice A2x x.items.length c2x, .slice A3x x.cost.length c3x, .int .i64 x.size, .slice A5x x.sets.length c5x])) := ⟨by
    rw [hx1]
    exact ⟨A2x, c2x, A3x, c3x, A5x, c5x, rfl, Kd.C_below HH.out.1 B2.out, HH.out.2.1, Kd.C_below HH.out.2.2.1 B2.out, HH.out.2.2.2.1, Kd.C_below HH.out.2.2.2.2.1 B2.out, HH.out.2.2.2.2.2⟩⟩
  have O1 : Aside0 (PIok x1) := ⟨by rw [hx1]; exact ⟨HX.out.items, HX.out.cost, HX.out.sets, HX.out.rows, HX.out.els⟩⟩
  have K1 : Aside0 (x1.kind = 1) := ⟨by rw [hx1]⟩
  clear hW2 Q1 B1 hx1
  obtain ⟨e0, e1, e2, e3, e4, e5, _⟩ := six Q2.out (Below.refl _ _)
  go_wp2_with fail
  clear e0 e1 e2 e3 e4 e5
  refine (tame_any W2 x1 _ 10 I1.out O1.out (by decide) (by decide)).mono ?_
  rintro _ W3 ⟨va, rfl, ⟨y, iy, TP', B3'⟩⟩
  have B3 := Aside0.mk (B2.out.trans (B3'.mono B2.out.size))
  rw [K1.out] at TP'
  have TP := Aside0.mk TP'
  have IY := Aside0.mk iy.c
  have YO : Aside0 (PIok y) := ⟨by
    have h1 := TP'.items.1
    have h2 := TP'.cost.1
    have h3 := (TP'.k1 (by rw [TP'.kind]; decide) (by rw [TP'.kind]; decide)).2.2.1
    refine ⟨by omega, by omega, by rw [h3]; decide, fun r hr => ?_, fun s hs => ?_⟩
    · have := (TP'.cost.2 r hr).1
      omega
    · rw [h3] at hs
      cases hs⟩
  clear B3' TP' iy
  go_wp2_with fail
  refine (insts_any W3 y _ IY.out YO.out).mono ?_
  rintro _ W4 ⟨vc, vd, rfl, ⟨ic, id_, B4'⟩⟩
  have B4 := Aside0.mk (B3.out.trans (B4'.mono B3.out.size))
  have IC := Aside0.mk ic
  clear B4'
  obtain ⟨A2c, c2c, A3c, c3c, A5c, c5c, rfl, _⟩ := ic
  obtain ⟨A2d, c2d, A3d, c3d, A5d, c5d, rfl, _⟩ := id_
  have TK := Aside0.mk (tame_k1 TP.out)
  obtain ⟨yc, hyc⟩ : ∃ z, z = cutI y := ⟨_, rfl⟩
  have CO : Aside0 (PIok yc) := ⟨by rw [hyc]; exact cutI_ok _⟩
  rw [← hyc] at IC TK ⊢
  clear hyc
  go_upto_region 3 with fail
  have B5 : Aside0 (Below W4.heap.size W4 ((W4.alloc (.cells #[.int .i64 yc.kind, .int .i64 yc.cap, .slice A2c yc.items.length c2c, .slice A3c yc.cost.length c3c, .int .i64 yc.size, .slice A5c yc.sets.length c5c] 54)).alloc (.cells #[.int .i64 yc.kind, .int .i64 yc.cap, .slice A2d yc.items.length c2d, .slice A3d yc.cost.length c3d, .int .i64 yc.size, .slice A5d yc.sets.length c5d] 57))) := ⟨below_alloc (below_alloc (Below.refl _ _) _) _⟩
  obtain ⟨W5, hW5⟩ : ∃ W, W = (W4.alloc (.cells #[.int .i64 yc.kind, .int .i64 yc.cap, .slice A2c yc.items.length c2c, .slice A3c yc.cost.length c3c, .int .i64 yc.size, .slice A5c yc.sets.length c5c] 54)).alloc (.cells #[.int .i64 yc.kind, .int .i64 yc.cap, .slice A2d yc.items.length c2d, .slice A3d yc.cost.length c3d, .int .i64 yc.size, .slice A5d yc.sets.length c5d] 57) := ⟨_, rfl⟩
  rw [← hW5] at B5 ⊢
  obtain ⟨p5, hp5⟩ : ∃ p, p = W4.heap.size := ⟨_, rfl⟩
  rw [← hp5]
  have Q5 : Aside0 (W5.heap[p5]? = some (.cells #[.int .i64 yc.kind, .int .i64 yc.cap, .slice A2c yc.items.length c2c, .slice A3c yc.cost.length c3c, .int .i64 yc.size, .slice A5c yc.sets.length c5c] 54 (0, 0))) := ⟨by
    rw [hW5, hp5]
    simp only [al_get, al_size]
    repeat (first | rw [if_pos trivial] | rw [if_neg (by omega)])⟩
  have B25 := Aside0.mk (B4.out.trans (B5.out.mono B4.out.size))
  have IC5 := Aside0.mk (IC.out.below B5.out)
  clear hW5 hp5 B5
  obtain ⟨z, HZ'⟩ := least_is yc TK.out.2.2.1
  have HZ := Aside0.mk HZ'
  clear HZ'
  obtain ⟨e0, e1, e2, e3, e4, e5, _⟩ := six Q5.out (Below.refl _ _)
  go_wp2_with fail
  clear e0 e1 e2 e3 e4 e5
  refine (best_call1 W5 yc _ IC5.out CO.out TK.out.2.2.2 TK.out.1 z true (fun _ _ _ => True) (fun W hB => ?_)).mono ?_
  · exact (assignment_any W yc _ (IC5.out.below hB) TK.out.2.2.1 (fun r hr => TK.out.2.1.rows r hr) TK.out.2.1.cost z HZ.out).mono fun _ _ ⟨vr, e, H⟩ => ⟨vr, e, ⟨trivial, H.out.2⟩⟩
  rintro _ W6 ⟨vr, rfl, HB⟩
  have B6 : Aside0 (Below W5.heap.size W5 W6) := ⟨by obtain ⟨_, _, _, _, _, _, h⟩ := HB.out; exact h⟩
  clear HB
  obtain ⟨e0, e1, e2, e3, e4, e5, _⟩ := six Q5.out B6.out
  go_wp2_with fail
  clear e0 e1 e2 e3 e4 e5
  refine (exact_any W6 yc _ (IC5.out.below B6.out) CO.out TK.out.2.1 TK.out.1 z HZ.out).mono ?_
  rintro _ W7 ⟨C, rfl, HC⟩
  have B7 := Aside0.mk (B25.out.trans ((B6.out.trans (HC.out.2.mono B6.out.size)).mono B25.out.size))
  clear HC
  go_wp2_with fail
  refine (wakes_any W7).mono ?_
  rintro _ W8 ⟨rfl, B8'⟩
  have B8 := Aside0.mk (B7.out.trans (B8'.mono B7.out.size))
  clear B8'
  have g4 : (z == z) = true := by simp
  go_wp2_with fail
  go_ret
  exact ⟨rfl, B8.out⟩
end Go.Proofs.Ytelabmhhnpfegaa.Hand
