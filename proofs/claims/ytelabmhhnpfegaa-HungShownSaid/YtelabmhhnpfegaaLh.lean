/- HungLeast: walked. -/
import Derived.Test.YtelabmhhnpfegaaLx
import Derived.Test.YtelabmhhnpfegaaRc
import Derived.Test.YtelabmhhnpfegaaFc
namespace Go.Proofs.Ytelabmhhnpfegaa.Hand
open Go.RowKit Go.Proofs.YtelabmhhnpfegaaW.PrintWords Go.Proofs.YtelabmhhnpfegaaW.PrintLast Go.Proofs.YtelabmhhnpfegaaW.PrintMore
/-- What Solve tells; and that it is shown in any later world. -/
theorem solve_told (w : World) (AC AN : Option Addr) (cC cN : Nat) (t : Tb) (h : TabR w AC AN t) (ht : TbOk t) :
    Calls Try.prog 13 #[.agg #[.slice AC t.n cC, .slice AN t.n cN]] w fun e w' => ∃ a0 l0 c0 x a2 l2 c2 a3 l3 c3 ok, e = .returned (.tuple #[.agg #[.slice a0 l0 c0, .int .i64 x, .slice a2 l2 c2, .slice a3 l3 c3], .bool ok]) ∧ Aside0 (Below w.heap.size w w' ∧ IsLeast t.n t.c t.no (if ok then some x else none) ∧ (ok = false → x = 0) ∧
      (ok = true → ∀ W', Below w'.heap.size w' W' → Calls Try.prog 17 #[.agg #[.slice AC t.n cC, .slice AN t.n cN], .agg #[.slice a0 l0 c0, .int .i64 x, .slice a2 l2 c2, .slice a3 l3 c3]] W' fun e W'' => e = .returned (.bool true) ∧ Below W'.heap.size W' W'')) := by
  refine (solve_any w AC AN cC cN t h ht).mono ?_
  rintro e w' ⟨m, okv, rfl, T⟩
  obtain ⟨⟨ok, rfl, T⟩⟩ := T
  cases ok with
  | false =>
    obtain ⟨rfl, hno⟩ := T.no rfl
    exact ⟨_, _, _, _, _, _, _, _, _, _, false, rfl, ⟨T.below, hno, fun _ => rfl, fun x => by cases x⟩⟩
  | true =>
    obtain ⟨σ, u, v, of, C, r, c, rfl, D, i1, i2, i3⟩ := T.yes rfl
    exact ⟨_, _, _, _, _, _, _, _, _, _, true, rfl, ⟨T.below, D.least, fun x => (by cases x), fun _ W' hb => shown_any W' AC AN cC cN t (h.below (T.below.trans (hb.mono T.below.size))) ht σ u v of D C r c (blk_below i1 hb) (blk_below i2 hb) (blk_below i3 hb)⟩⟩
theorem some_of (o : Option Int) : (if o.isSome then some (o.getD 0) else none) = o := by
  cases o <;> rfl
set_option maxHeartbeats 2000000 in
set_option maxRecDepth 100000 in
theorem least_law (w : World) (A B : Option Addr) (nc nn cA cB : Nat) (len mlen : Nat → Nat) (c : Nat → Nat → Int) (g : Nat → Nat → Bool) (h : RawI w A nc len c) (hg : RawB w B nn mlen g) (h1 : nc ≤ 17592186044416) (h2 : nn ≤ 17592186044416) (hl : ∀ i, i < nc → len i ≤ 17592186044416) (hl2 : ∀ i, i < nn → mlen i ≤ 140737488355328) :
    Calls Try.prog 4 #[.slice A nc cA, .slice B nn cB] w fun e w' => e = .returned (.bool true) ∧ Below w.heap.size w w' := by
  have hu := Try.underlying27
  have hu2 := Try.underlying32
  obtain ⟨t, ht⟩ : ∃ t, t = cutT nc nn 6 len mlen c g := ⟨_, rfl⟩
  obtain ⟨n, hn⟩ : ∃ n, n = t.n := ⟨_, rfl⟩
  have hn6 : n ≤ 6 := by
    rw [hn, ht]
    show min nc 6 ≤ 6
    omega
  have TA := Aside0.mk (table_sqc cA cB h hg 6 (by omega) h1 h2 hl hl2 (Below.refl _ _) ht hn)
  have TO : Aside0 (TbOk ⟨n, t.c, t.no⟩) := ⟨by
    have := cutT_ok (nc := nc) (nn := nn) (most := 6) (len := len) (mlen := mlen) (c := c) (g := g) (by omega)
    rw [← ht] at this
    rw [hn]
    exact this⟩
  clear h hg h1 h2 hl hl2 ht hn
  have m3 := mk35 n (by omega)
  go_enter Try.func4, Try.ntmps4
  go_wp2_with fail
  refine TA.out.mono ?_
  rintro _ w1 ⟨AC, cC, AN, cN, B1, D1, rfl, Q1⟩
  go_wp2_with fail
  obtain ⟨W1, hW1⟩ : ∃ W1, W1 = w1.alloc (.cells #[.slice AC n cC, .slice AN n cN] 27) := ⟨_, rfl⟩
  rw [← hW1]
  have X1 : Aside0 (W1.heap[w1.heap.size]? = some (.cells #[.slice AC n cC, .slice AN n cN] 27 (0, 0))) := ⟨by rw [hW1]; exact heap_alloc_new _ _⟩
  have b1 : Aside0 (Below w.heap.size w W1) := ⟨by rw [hW1]; exact below_alloc Q1.out.2.1 _⟩
  have S1 : Aside0 (Sq W1 w.heap.size w1.heap.size AC AN n t.c t.no B1 D1) := ⟨by rw [hW1]; exact Q1.out.1.alloc (Nat.le_refl _) _⟩
  have CP : Aside0 (n ≤ cC ∧ n ≤ cN) := ⟨Q1.out.2.2⟩
  have z1 : Aside0 (w1.heap.size + 1 = W1.heap.size) := ⟨by rw [hW1, al_size]⟩
  clear Q1 hW1 TA
  obtain ⟨p5, hp5⟩ : ∃ p, p = w1.heap.size := ⟨_, rfl⟩
  rw [← hp5] at X1 S1 z1 ⊢
  clear hp5
  have u0 := (blk_cell X1.out 0).trans rfl
  have u1 := (blk_cell X1.out 1).trans rfl
  go_wp2_with fail
  clear u0 u1
  refine (solve_told W1 AC AN cC cN ⟨n, t.c, t.no⟩ S1.out.tabR TO.out).mono ?_
  rintro _ w2 ⟨a0, l0, c0, x, a2, l2, c2, a3, l3, c3, ok, rfl, R1⟩
  go_upto_region 3 with fail
  obtain ⟨W2, hW2⟩ : ∃ W2, W2 = w2.alloc (.cells #[.slice a0 l0 c0, .int .i64 x, .slice a2 l2 c2, .slice a3 l3 c3] 32) := ⟨_, rfl⟩
  rw [← hW2]
  have bb2 : Aside0 (Below W1.heap.size W1 W2) := ⟨by rw [hW2]; exact below_alloc R1.out.1 _⟩
  have bw2 : Aside0 (Below w2.heap.size w2 W2) := ⟨by rw [hW2]; exact below_alloc (Below.refl _ _) _⟩
  have X6 : Aside0 (W2.heap[w2.heap.size]? = some (.cells #[.slice a0 l0 c0, .int .i64 x, .slice a2 l2 c2, .slice a3 l3 c3] 32 (0, 0))) := ⟨by rw [hW2]; exact heap_alloc_new _ _⟩
  have X5 := Aside0.mk (blk_below X1.out bb2.out)
  have b2 : Aside0 (Below w.heap.size w W2) := ⟨b1.out.trans (bb2.out.mono b1.out.size)⟩
  have RF := Aside0.mk (fun (w' : World) (hb : Below W2.heap.size W2 w') (U : Nat) (hU : W2.heap.size ≤ U) (hu : BB w' U n (fun _ => false)) => ref_any (S1.out.below bb2.out (by have := z1.out; omega)) (by have := bb2.out.size; have := z1.out; omega) hb CP.out.1 CP.out.2 (by omega) TO.out.mag U hU hu)
  have LE := Aside0.mk (lst_least n t.c t.no)
  have LK : Aside0 (IsLeast n t.c t.no (if ok then some x else none) ∧ (ok = false → x = 0)) := ⟨R1.out.2.1, R1.out.2.2.1⟩
  have SH : Aside0 (ok = true → ∀ W', Below W2.heap.size W2 W' → Calls Try.prog 17 #[.agg #[.slice AC n cC, .slice AN n cN], .agg #[.slice a0 l0 c0, .int .i64 x, .slice a2 l2 c2, .slice a3 l3 c3]] W' fun e W'' => e = .returned (.bool true) ∧ Below W'.heap.size W' W'') := ⟨fun h W' hb => R1.out.2.2.2 h W' (bw2.out.trans (hb.mono bw2.out.size))⟩
  obtain ⟨lo, hlo⟩ : ∃ o, o = lst n t.c t.no n 0 (fun _ => false) := ⟨_, rfl⟩
  rw [← hlo] at RF LE
  clear hW2 X1 S1 b1 z1 R1 bb2 bw2 hlo
  have EQ : Aside0 (ok = lo.isSome ∧ x = lo.getD 0) := ⟨by
    have e := LE.out
    rw [← some_of lo] at e
    exact eq_least LK.out.1 e LK.out.2 (fun h => by cases lo with
      | none => rfl
      | some y => cases h)⟩
  obtain ⟨b, hb⟩ : ∃ b, b = lo.isSome := ⟨_, rfl⟩
  obtain ⟨y, hy⟩ : ∃ y, y = lo.getD 0 := ⟨_, rfl⟩
  rw [← hb, ← hy] at EQ RF
  obtain ⟨rfl, rfl⟩ := EQ.out
  clear hb hy LE LK EQ
  have u0 : W2.drew.cell? ⟨p5, 0, none⟩ = some (.slice AC n cC) := (blk_cell X5.out 0).trans rfl
  have u1 : W2.drew.cell? ⟨p5, 1, none⟩ = some (.slice AN n cN) := (blk_cell X5.out 1).trans rfl
  refine start_ (n := 14) (S := fun w' => w'.cell? ⟨p5, 0, none⟩ = some (.slice AC n cC) ∧ w'.cell? ⟨p5, 1, none⟩ = some (.slice AN n cN)) (ds := []) #[false, false, false, false, false, false, false, false, false, false, false, false, false, false] (by kernel_rfl) rfl rfl ⟨u0, u1⟩ (fun hHeld => ?_)
  clear u0 u1
  refine pure_ (i := 0) (N := some 19) (v := ?_) (a' := ?_) #[true, false, false, false, false, false, false, false, false, false, false, false, false, false] rfl rfl (by kernel_rfl) (fun _ _ _ h => h) (Or.inl ⟨by rfl, ?_⟩) ?_ ?_
  rotate_left
  · intro w'
    go_simp
    with_reducible rfl
  rotate_left
  · simp only [Act.put, List.setIfInBounds_toArray, List.set_cons_zero, List.set_cons_succ]
    rfl
  refine take_ (i := 1) (N := some 20) (v := ?_) (a' := ?_) #[true, true, false, false, false, false, false, false, false, false, false, false, false, false] rfl rfl (by kernel_rfl) (fun _ _ _ h => h) (Or.inl ⟨by rfl, ?_⟩) hHeld ?_ ?_
  rotate_left
  · rintro w' ⟨s0, s1⟩
    go_simp
    with_reducible rfl
  rotate_left
  · simp only [Act.put, List.setIfInBounds_toArray, List.set_cons_zero, List.set_cons_succ]
    rfl
  refine pure_ (i := 2) (N := some 21) (v := ?_) (a' := ?_) #[true, true, true, false, false, false, false, false, false, false, false, false, false, false] rfl rfl (by kernel_rfl) (fun _ _ _ h => h) (Or.inl ⟨by rfl, ?_⟩) ?_ ?_
  rotate_left
  · intro w'
    go_simp
    with_reducible rfl
  rotate_left
  · simp only [Act.put, List.setIfInBounds_toArray, List.set_cons_zero, List.set_cons_succ]
    rfl
  refine take_ (i := 3) (N := some 22) (v := ?_) (a' := ?_) #[true, true, true, true, false, false, false, false, false, false, false, false, false, false] rfl rfl (by kernel_rfl) (fun _ _ _ h => h) (Or.inl ⟨by rfl, ?_⟩) hHeld ?_ ?_
  rotate_left
  · rintro w' ⟨s0, s1⟩
    go_simp
    with_reducible rfl
  rotate_left
  · simp only [Act.put, List.setIfInBounds_toArray, List.set_cons_zero, List.set_cons_succ]
    rfl
  refine pure_ (i := 4) (N := some 23) (v := ?_) (a' := ?_) #[true, true, true, true, true, false, false, false, false, false, false, false, false, false] rfl rfl (by kernel_rfl) (fun _ _ _ h => h) (Or.inl ⟨by rfl, ?_⟩) ?_ ?_
  rotate_left
  · intro w'
    go_simp
    with_reducible rfl
  rotate_left
  · simp only [Act.put, List.setIfInBounds_toArray, List.set_cons_zero, List.set_cons_succ]
    rfl
  refine take_ (i := 5) (N := some 24) (v := ?_) (a' := ?_) #[true, true, true, true, true, true, false, false, false, false, false, false, false, false] rfl rfl (by kernel_rfl) (fun _ _ _ h => h) (Or.inl ⟨by rfl, ?_⟩) hHeld ?_ ?_
  rotate_left
  · rintro w' ⟨s0, s1⟩
    go_simp
    with_reducible rfl
  rotate_left
  · simp only [Act.put, List.setIfInBounds_toArray, List.set_cons_zero, List.set_cons_succ]
    rfl
  refine pure_ (i := 6) (N := some 25) (v := ?_) (a' := ?_) #[true, true, true, true, true, true, true, false, false, false, false, false, false, false] rfl rfl (by kernel_rfl) (fun _ _ _ h => h) (Or.inl ⟨by rfl, ?_⟩) ?_ ?_
  rotate_left
  · intro w'
    go_simp
    with_reducible rfl
  rotate_left
  · simp only [Act.put, List.setIfInBounds_toArray, List.set_cons_zero, List.set_cons_succ]
    rfl
  refine one_ (i := 7) (N := some 26) #[true, true, true, true, true, true, true, true, false, false, false, false, false, false] rfl rfl (by kernel_rfl) (by decide) (fun K hK => ?_)
  refine value_ (v := .slice (some ⟨W2.heap.size, 0, none⟩) n n) (w1 := W2.drew.alloc (.cells (tabB n fun _ => false) 4)) (by rfl) rfl ?_ ?_
  · go_simp
  · have XA := Aside0.mk (blk_alloc (w := W2.drew) X5.out (.cells (tabB n fun _ => false) 4))
    refine hK.out _ _ ⟨(blk_cell XA.out 0).trans rfl, (blk_cell XA.out 1).trans rfl⟩ (fun hHeld => ?_)
    clear hK hHeld K
    refine norm_ (a' := ?_) ?_ ?_
    rotate_left
    · show Act.put _ (some 26) _ = _
      simp only [Act.put, List.setIfInBounds_toArray, List.set_cons_zero, List.set_cons_succ]
      rfl
    refine one_ (i := 8) (N := some 27) #[true, true, true, true, true, true, true, true, true, false, false, false, false, false] rfl rfl (by kernel_rfl) (by decide) (fun K hK => ?_)
    refine goes_ Try.func16 (by kernel_rfl) rfl #[.slice AC n cC, .slice AN n cN, .int .i64 0, .slice (some ⟨W2.heap.size, 0, none⟩) n n] (by rfl) rfl rfl (by (try simp only [List.map_toArray, List.map_cons, List.map_nil]); first | done | rfl) ?_
    have CL := Aside0.mk (RF.out (W2.drew.alloc (.cells (tabB n fun _ => false) 4)) (below_alloc (below_drew (Below.refl _ _)) _) W2.heap.size (Nat.le_refl _) (heap_alloc_new W2.drew _))
    refine CL.out.mono ?_
    rintro e w3 ⟨rfl, b3⟩
    have B3 : Aside0 (Below w.heap.size w w3) := ⟨b2.out.trans (b3.mono b2.out.size)⟩
    have B23 := Aside0.mk b3
    have X53 := Aside0.mk (blk_below X5.out b3)
    have X63 := Aside0.mk (blk_below X6.out b3)
    refine ⟨_, rfl, ?_⟩
    refine hK.out _ _ ⟨(blk_cell X53.out 0).trans rfl, (blk_cell X53.out 1).trans rfl⟩ (fun hHeld => ?_)
    clear hK hHeld K CL b3
    refine norm_ (a' := ?_) ?_ ?_
    rotate_left
    · show Act.put _ (some 27) _ = _
      simp only [Act.put, List.setIfInBounds_toArray, List.set_cons_zero, List.set_cons_succ]
      rfl
    refine pure_ (i := 9) (N := some 18) (v := ?_) (a' := ?_) #[true, true, true, true, true, true, true, true, true, true, false, false, false, false] rfl rfl (by kernel_rfl) (fun _ _ _ h => h) (Or.inl ⟨by rfl, ?_⟩) ?_ ?_
    rotate_left
    · intro w'
      go_simp
      with_reducible rfl
    rotate_left
    · simp only [Act.put, List.setIfInBounds_toArray, List.set_cons_zero, List.set_cons_succ]
      rfl
    refine pure_ (i := 10) (N := some 28) (v := ?_) (a' := ?_) #[true, true, true, true, true, true, true, true, true, true, true, false, false, false] rfl rfl (by kernel_rfl) (fun _ _ _ h => h) (Or.inl ⟨by rfl, ?_⟩) ?_ ?_
    rotate_left
    · intro w'
      go_simp
      with_reducible rfl
    rotate_left
    · simp only [Act.put, List.setIfInBounds_toArray, List.set_cons_zero, List.set_cons_succ]
      rfl
    refine pure_ (i := 11) (N := some 29) (v := ?_) (a' := ?_) #[true, true, true, true, true, true, true, true, true, true, true, true, false, false] rfl rfl (by kernel_rfl) (fun _ _ _ h => h) (Or.inl ⟨by rfl, ?_⟩) ?_ ?_
    rotate_left
    · intro w'
      go_simp
      with_reducible rfl
    rotate_left
    · simp only [Act.put, List.setIfInBounds_toArray, List.set_cons_zero, List.set_cons_succ]
      rfl
    refine pure_ (i := 12) (N := some 8) (v := ?_) (a' := ?_) #[true, true, true, true, true, true, true, true, true, true, true, true, true, false] rfl rfl (by kernel_rfl) (fun _ _ _ h => h) (Or.inl ⟨by rfl, ?_⟩) ?_ ?_
    rotate_left
    · intro w'
      go_simp
      with_reducible rfl
    rotate_left
    · simp only [Act.put, List.setIfInBounds_toArray, List.set_cons_zero, List.set_cons_succ]
      rfl
    refine pure_ (i := 13) (N := some 9) (v := ?_) (a' := ?_) #[true, true, true, true, true, true, true, true, true, true, true, true, true, true] rfl rfl (by kernel_rfl) (fun _ _ _ h => h) (Or.inl ⟨by rfl, ?_⟩) ?_ ?_
    rotate_left
    · intro w'
      go_simp
      with_reducible rfl
    rotate_left
    · simp only [Act.put, List.setIfInBounds_toArray, List.set_cons_zero, List.set_cons_succ]
      rfl
    refine done_ (by kernel_rfl) ?_
    clear X5 X6 RF
    go_wp2_with fail
    refine (wakes_any w3).mono ?_
    rintro _ w4 ⟨rfl, b4⟩
    have B4 : Aside0 (Below w.heap.size w w4) := ⟨B3.out.trans (b4.mono B3.out.size)⟩
    have S4 : Aside0 (Below W2.heap.size W2 w4) := ⟨B23.out.trans (b4.mono B23.out.size)⟩
    have X54 := Aside0.mk (blk_below X53.out b4)
    have X64 := Aside0.mk (blk_below X63.out b4)
    clear b4 X53 X63 B3 B23
    have f0 : w4.cell? ⟨p5, 0, none⟩ = some (.slice AC n cC) := (blk_cell X54.out 0).trans rfl
    have f1 : w4.cell? ⟨p5, 1, none⟩ = some (.slice AN n cN) := (blk_cell X54.out 1).trans rfl
    have g0 : w4.cell? ⟨w2.heap.size, 0, none⟩ = some (.slice a0 l0 c0) := (blk_cell X64.out 0).trans rfl
    have g1 : w4.cell? ⟨w2.heap.size, 1, none⟩ = some (.int .i64 x) := (blk_cell X64.out 1).trans rfl
    have g2 : w4.cell? ⟨w2.heap.size, 2, none⟩ = some (.slice a2 l2 c2) := (blk_cell X64.out 2).trans rfl
    have g3 : w4.cell? ⟨w2.heap.size, 3, none⟩ = some (.slice a3 l3 c3) := (blk_cell X64.out 3).trans rfl
    have e1 : (ok == ok) = true := by simp
    have e2 : (x == x) = true := by simp
    cases ok with
    | false =>
      go_wp2_with fail
      go_ret
      exact ⟨rfl, B4.out⟩
    | true =>
      have SC := Aside0.mk (SH.out rfl w4 S4.out)
      clear SH
      go_wp2_with fail
      refine SC.out.mono ?_
      rintro _ w5 ⟨rfl, b5⟩
      have B5 : Aside0 (Below w.heap.size w w5) := ⟨B4.out.trans (b5.mono B4.out.size)⟩
      clear b5 f0 f1 g0 g1 g2 g3
      go_wp2_with fail
      go_ret
      exact ⟨rfl, B5.out⟩
end Go.Proofs.Ytelabmhhnpfegaa.Hand
