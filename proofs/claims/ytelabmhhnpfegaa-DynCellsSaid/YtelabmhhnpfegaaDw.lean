/- DynCells: walked. -/
import Derived.Test.YtelabmhhnpfegaaDv
import Derived.Test.YtelabmhhnpfegaaDg
namespace Go.Proofs.Ytelabmhhnpfegaa.Hand
open Go.RowKit Go.Proofs.YtelabmhhnpfegaaW.PrintWords Go.Proofs.YtelabmhhnpfegaaW.PrintLast Go.Proofs.YtelabmhhnpfegaaW.PrintMore Go.Proofs.Ytelabmhhnpfegaa.PDynCells
/-- What is tame is not too long. -/
theorem TameP.ok {most : Nat} {k : Int} {x : PI} (h : TameP most k x) (hm : most ≤ 64) : PIok x := by
  have h1 := h.items.1
  have h2 := h.cost.1
  have h3 := h.sets.1
  refine ⟨by omega, by omega, by omega, fun r hr => ?_, fun s hs => ?_⟩
  · have := (h.cost.2 r hr).1
    omega
  · have h4 := (h.sets.2 s hs).2
    have h5 := h.size
    have key : ∀ (l : List Int) (a : Int), l.Pairwise (· < ·) → (∀ e ∈ l, a ≤ e ∧ e < x.size) → (l.length : Int) ≤ max 0 (x.size - a) := by
      intro l
      induction l with
      | nil => intro a _ _; simp; omega
      | cons e t ih =>
        intro a hp hb
        have h1 := hb e List.mem_cons_self
        have h2 := ih (e + 1) hp.tail (fun y hy => by
          have := (List.pairwise_cons.1 hp).1 y hy
          exact ⟨by omega, (hb y (List.mem_cons_of_mem _ hy)).2⟩)
        rw [List.length_cons]
        omega
    have := key s.f1 0 h4.1 (fun e he => h4.2 e he)
    omega
theorem cut_ok (x : PI) : PIok (cutI x) := by
  refine ⟨?_, ?_, ?_, ?_, ?_⟩
  · show (x.items.take 40).length ≤ _
    have := List.length_take_le 40 x.items
    omega
  · show ((x.cost.take 70).map (·.take 70)).length ≤ _
    rw [List.length_map]
    have := List.length_take_le 70 x.cost
    omega
  · show ((x.sets.take 40).map cutS).length ≤ _
    rw [List.length_map]
    have := List.length_take_le 40 x.sets
    omega
  · intro r hr
    obtain ⟨q, _, rfl⟩ := List.mem_map.1 hr
    have := List.length_take_le 70 q
    omega
  · intro s hs
    obtain ⟨q, _, rfl⟩ := List.mem_map.1 hs
    have : ((cutS q).f1).length ≤ 40 := List.length_take_le 40 q.f1
    omega
theorem tame_c (w : World) (x : PI) (v : Value) (most : Nat) (h : InstC w x v) (hx : PIok x) (hm : 1 ≤ most) (hm2 : most ≤ 64) : Calls Try.prog 19 #[v, .int .i64 most] w fun e w' => ∃ va, e = .returned va ∧ Aside0 ((∃ x', InstC w' x' va ∧ TameP most x.kind x') ∧ Below w.heap.size w w') :=
  (tame_any w x v most h hx hm hm2).mono fun _ _ ⟨va, e, ⟨x', h1, h2, h3⟩⟩ => ⟨va, e, ⟨⟨x', h1.c, h2⟩, h3⟩⟩
theorem light_c (w : World) (x : PI) (v : Value) (most : Nat) (h : InstC w x v) (hx : PIok x) (hm : 1 ≤ most) (hm2 : most ≤ 64) : Calls Try.prog 20 #[v, .int .i64 most] w fun e w' => ∃ va, e = .returned va ∧ Aside0 ((∃ x', InstC w' x' va ∧ LightP most x.kind x') ∧ Below w.heap.size w w') :=
  (light_any w x v most h hx hm hm2).mono fun _ _ ⟨va, e, ⟨x', h1, h2, h3⟩⟩ => ⟨va, e, ⟨⟨x', h1.c, h2⟩, h3⟩⟩
set_option maxHeartbeats 1000000 in
set_option maxRecDepth 100000 in
theorem dyncells_law (w : World) (x : PI) (v : Value) (h : InstC w x v) (hx : PIok x) : Calls Try.prog 6 #[v] w fun e w' => e = .returned (.bool true) ∧ Below w.heap.size w w' := by
  have HI := Aside0.mk h
  have HX := Aside0.mk hx
  obtain ⟨A2x, c2x, A3x, c3x, A5x, c5x, rfl, h2, l2, h3, l3, h5, l5⟩ := h
  clear h2 h3 h5 l2 l3 l5 hx
  obtain ⟨kx, hkx⟩ : ∃ z, z = x.kind := ⟨_, rfl⟩
  obtain ⟨cpx, hcpx⟩ : ∃ z, z = x.cap := ⟨_, rfl⟩
  obtain ⟨szx, hszx⟩ : ∃ z, z = x.size := ⟨_, rfl⟩
  obtain ⟨n2x, hn2x⟩ : ∃ z, z = x.items.length := ⟨_, rfl⟩
  obtain ⟨n3x, hn3x⟩ : ∃ z, z = x.cost.length := ⟨_, rfl⟩
  obtain ⟨n5x, hn5x⟩ : ∃ z, z = x.sets.length := ⟨_, rfl⟩
  rw [← hkx, ← hcpx, ← hszx, ← hn2x, ← hn3x, ← hn5x] at HI ⊢
  clear hkx hcpx hszx hn2x hn3x hn5x
  have hu47 := Try.underlying47
  have hu49 := Try.underlying49
  have hu54 := Try.underlying54
  have hu57 := Try.underlying57
  go_enter Try.func6, Try.ntmps6
  go_upto_region 1 with fail
  obtain ⟨W1, hW1⟩ : ∃ W, W = w.alloc (.cells #[.int .i64 kx, .int .i64 cpx, .slice A2x n2x c2x, .slice A3x n3x c3x, .int .i64 szx, .slice A5x n5x c5x] 47) := ⟨_, rfl⟩
  rw [← hW1]
  have B1 : Aside0 (Below w.heap.size w W1.drew) := ⟨by rw [hW1]; exact below_drew (below_alloc (Below.refl _ _) _)⟩
  obtain ⟨p1, hp1⟩ : ∃ p, p = w.heap.size := ⟨_, rfl⟩
  have Q1 : Aside0 (W1.drew.heap[p1]? = some (.cells #[.int .i64 kx, .int .i64 cpx, .slice A2x n2x c2x, .slice A3x n3x c3x, .int .i64 szx, .slice A5x n5x c5x] 47 (0, 0))) := ⟨by rw [hW1, hp1]; exact heap_alloc_new _ _⟩
  rw [← hp1]
  clear hW1 hp1
  have S0 := six Q1.out (Below.refl _ _)
  refine start_ (n := 8) (S := fun w' => w'.cell? ⟨p1, 0, none⟩ = some (.int .i64 kx) ∧ w'.cell? ⟨p1, 1, none⟩ = some (.int .i64 cpx) ∧ w'.cell? ⟨p1, 2, none⟩ = some (.slice A2x n2x c2x) ∧ w'.cell? ⟨p1, 3, none⟩ = some (.slice A3x n3x c3x) ∧ w'.cell? ⟨p1, 4, none⟩ = some (.int .i64 szx) ∧ w'.cell? ⟨p1, 5, none⟩ = some (.slice A5x n5x c5x) ∧ Aside0 (Below W1.drew.heap.size W1.drew w')) (ds := []) #[false, false, false, false, false, false, false, false] (by kernel_rfl) rfl rfl S0 (fun hHeld => ?_)
  clear S0
  refine pure_ (i := 7) (N := some 18) (v := ?_) (a' := ?_) #[false, false, false, false, false, false, false, true] rfl rfl (by kernel_rfl) (fun _ _ _ h => h) (Or.inl ⟨by rfl, ?_⟩) ?_ ?_
  rotate_left
  · intro w'
    go_simp
    with_reducible rfl
  rotate_left
  · simp only [Act.put, List.setIfInBounds_toArray, List.set_cons_zero, List.set_cons_succ]
    rfl
  refine take_ (i := 0) (N := some 11) (v := ?_) (a' := ?_) #[true, false, false, false, false, false, false, true] rfl rfl (by kernel_rfl) (fun _ _ _ h => h) (Or.inl ⟨by rfl, ?_⟩) hHeld ?_ ?_
  rotate_left
  · rintro w' ⟨s0, s1, s2, s3, s4, s5, s6⟩
    go_simp
    with_reducible rfl
  rotate_left
  · simp only [Act.put, List.setIfInBounds_toArray, List.set_cons_zero, List.set_cons_succ]
    rfl
  refine take_ (i := 1) (N := some 12) (v := ?_) (a' := ?_) #[true, true, false, false, false, false, false, true] rfl rfl (by kernel_rfl) (fun _ _ _ h => h) (Or.inl ⟨by rfl, ?_⟩) hHeld ?_ ?_
  rotate_left
  · rintro w' ⟨s0, s1, s2, s3, s4, s5, s6⟩
    go_simp
    with_reducible rfl
  rotate_left
  · simp only [Act.put, List.setIfInBounds_toArray, List.set_cons_zero, List.set_cons_succ]
    rfl
  refine take_ (i := 3) (N := some 14) (v := ?_) (a' := ?_) #[true, true, false, true, false, false, false, true] rfl rfl (by kernel_rfl) (fun _ _ _ h => h) (Or.inl ⟨by rfl, ?_⟩) hHeld ?_ ?_
  rotate_left
  · rintro w' ⟨s0, s1, s2, s3, s4, s5, s6⟩
    go_simp
    with_reducible rfl
  rotate_left
  · simp only [Act.put, List.setIfInBounds_toArray, List.set_cons_zero, List.set_cons_succ]
    rfl
  refine one_ (i := 2) (N := some 13) #[true, true, true, true, false, false, false, true] rfl rfl (by kernel_rfl) (by decide) (fun K hK => ?_)
  refine goes_ Try.func19 (by kernel_rfl) rfl #[.agg #[.int .i64 kx, .int .i64 cpx, .slice A2x n2x c2x, .slice A3x n3x c3x, .int .i64 szx, .slice A5x n5x c5x], .int .i64 30] (by rfl) rfl rfl (by (try simp only [List.map_toArray, List.map_cons, List.map_nil]); first | done | rfl) ?_
  refine (tame_c W1.drew x _ 30 (HI.out.below B1.out) HX.out (by decide) (by decide)).mono ?_
  rintro _ w5 ⟨va, rfl, H5⟩
  have BW5 : Aside0 (Below W1.drew.heap.size W1.drew w5) := ⟨H5.out.2⟩
  refine ⟨_, rfl, ?_⟩
  refine hK.out _ _ (six Q1.out BW5.out) (fun _ => ?_)
  clear hK K
  refine norm_ (a' := ?_) ?_ ?_
  rotate_left
  · show Act.put _ (some 13) _ = _
    simp only [Act.put, List.setIfInBounds_toArray, List.set_cons_zero, List.set_cons_succ]
    rfl
  refine one_ (i := 4) (N := some 15) #[true, true, true, true, true, false, false, true] rfl rfl (by kernel_rfl) (by decide) (fun K hK => ?_)
  refine goes_ Try.func20 (by kernel_rfl) rfl #[.agg #[.int .i64 kx, .int .i64 cpx, .slice A2x n2x c2x, .slice A3x n3x c3x, .int .i64 szx, .slice A5x n5x c5x], .int .i64 9] (by rfl) rfl rfl (by (try simp only [List.map_toArray, List.map_cons, List.map_nil]); first | done | rfl) ?_
  refine (light_c w5 x _ 9 (HI.out.below (B1.out.trans (BW5.out.mono B1.out.size))) HX.out (by decide) (by decide)).mono ?_
  rintro _ w6 ⟨vb, rfl, H6⟩
  have BW6 : Aside0 (Below W1.drew.heap.size W1.drew w6) := ⟨BW5.out.trans (H6.out.2.mono BW5.out.size)⟩
  refine ⟨_, rfl, ?_⟩
  refine hK.out _ _ (six Q1.out BW6.out) (fun _ => ?_)
  clear hK K
  refine norm_ (a' := ?_) ?_ ?_
  rotate_left
  · show Act.put _ (some 15) _ = _
    simp only [Act.put, List.setIfInBounds_toArray, List.set_cons_zero, List.set_cons_succ]
    rfl
  have HJF : Aside0 ((∃ x', InstC w6 x' va ∧ PIok x') ∧ (∃ x', InstC w6 x' vb ∧ PIok x') ∧ Below W1.drew.heap.size W1.drew w6) := ⟨(by obtain ⟨x', a, b⟩ := H5.out.1; exact ⟨x', a.below H6.out.2, b.ok (by decide)⟩), (by obtain ⟨x', a, b⟩ := H6.out.1; exact ⟨x', a, b.t.ok (by decide)⟩), BW6.out⟩
  obtain ⟨wj, hwj⟩ : ∃ w, w = w6 := ⟨_, rfl⟩
  rw [← hwj] at HJF ⊢
  clear hwj
  obtain ⟨⟨xa, ia, oa⟩, ⟨xb, ib, ob⟩, BJ'⟩ := HJF.out
  have BJ := Aside0.mk BJ'
  have IA := Aside0.mk ia
  have IB := Aside0.mk ib
  have OA := Aside0.mk oa
  have OB := Aside0.mk ob
  obtain ⟨A2a, c2a, A3a, c3a, A5a, c5a, rfl, _⟩ := ia
  obtain ⟨A2b, c2b, A3b, c3b, A5b, c5b, rfl, _⟩ := ib
  clear HJF BJ' oa ob
  obtain ⟨ka, hka⟩ : ∃ z, z = xa.kind := ⟨_, rfl⟩
  obtain ⟨cpa, hcpa⟩ : ∃ z, z = xa.cap := ⟨_, rfl⟩
  obtain ⟨sza, hsza⟩ : ∃ z, z = xa.size := ⟨_, rfl⟩
  obtain ⟨n2a, hn2a⟩ : ∃ z, z = xa.items.length := ⟨_, rfl⟩
  obtain ⟨n3a, hn3a⟩ : ∃ z, z = xa.cost.length := ⟨_, rfl⟩
  obtain ⟨n5a, hn5a⟩ : ∃ z, z = xa.sets.length := ⟨_, rfl⟩
  rw [← hka, ← hcpa, ← hsza, ← hn2a, ← hn3a, ← hn5a] at IA ⊢
  clear hka hcpa hsza hn2a hn3a hn5a
  obtain ⟨kb, hkb⟩ : ∃ z, z = xb.kind := ⟨_, rfl⟩
  obtain ⟨cpb, hcpb⟩ : ∃ z, z = xb.cap := ⟨_, rfl⟩
  obtain ⟨szb, hszb⟩ : ∃ z, z = xb.size := ⟨_, rfl⟩
  obtain ⟨n2b, hn2b⟩ : ∃ z, z = xb.items.length := ⟨_, rfl⟩
  obtain ⟨n3b, hn3b⟩ : ∃ z, z = xb.cost.length := ⟨_, rfl⟩
  obtain ⟨n5b, hn5b⟩ : ∃ z, z = xb.sets.length := ⟨_, rfl⟩
  rw [← hkb, ← hcpb, ← hszb, ← hn2b, ← hn3b, ← hn5b] at IB ⊢
  clear hkb hcpb hszb hn2b hn3b hn5b
  refine one_ (i := 5) (N := some 16) #[true, true, true, true, true, true, false, true] rfl rfl (by kernel_rfl) (by decide) (fun K hK => ?_)
  refine value_ (v := .slice (some ⟨wj.heap.size, 0, none⟩) 3 3) (w1 := wj.alloc (.cells #[.int .i64 kx, .int .i64 cpx, .slice A2x n2x c2x, .slice A3x n3x c3x, .int .i64 szx, .slice A5x n5x c5x, .int .i64 ka, .int .i64 cpa, .slice A2a n2a c2a, .slice A3a n3a c3a, .int .i64 sza, .slice A5a n5a c5a, .int .i64 kb, .int .i64 cpb, .slice A2b n2b c2b, .slice A3b n3b c3b, .int .i64 szb, .slice A5b n5b c5b] 47)) (by rfl) rfl ?_ ?_
  · go_simp
  refine hK.out _ _ (six Q1.out (below_alloc BJ.out _)) (fun _ => ?_)
  clear hK K
  refine norm_ (a' := ?_) ?_ ?_
  rotate_left
  · show Act.put _ (some 16) _ = _
    simp only [Act.put, List.setIfInBounds_toArray, List.set_cons_zero, List.set_cons_succ]
    rfl
  refine pure_ (i := 6) (N := some 17) (v := ?_) (a' := ?_) #[true, true, true, true, true, true, true, true] rfl rfl (by kernel_rfl) (fun _ _ _ h => h) (Or.inl ⟨by rfl, ?_⟩) ?_ ?_
  rotate_left
  · intro w'
    go_simp
    with_reducible rfl
  rotate_left
  · simp only [Act.put, List.setIfInBounds_toArray, List.set_cons_zero, List.set_cons_succ]
    rfl
  refine done_ (by kernel_rfl) ?_
  clear hHeld
  obtain ⟨W2, hW2⟩ : ∃ W, W = wj.alloc (.cells #[.int .i64 kx, .int .i64 cpx, .slice A2x n2x c2x, .slice A3x n3x c3x, .int .i64 szx, .slice A5x n5x c5x, .int .i64 ka, .int .i64 cpa, .slice A2a n2a c2a, .slice A3a n3a c3a, .int .i64 sza, .slice A5a n5a c5a, .int .i64 kb, .int .i64 cpb, .slice A2b n2b c2b, .slice A3b n3b c3b, .int .i64 szb, .slice A5b n5b c5b] 47) := ⟨_, rfl⟩
  rw [← hW2]
  obtain ⟨g, hg⟩ : ∃ p, p = wj.heap.size := ⟨_, rfl⟩
  rw [← hg]
  have QG : Aside0 (W2.heap[g]? = some (.cells #[.int .i64 kx, .int .i64 cpx, .slice A2x n2x c2x, .slice A3x n3x c3x, .int .i64 szx, .slice A5x n5x c5x, .int .i64 ka, .int .i64 cpa, .slice A2a n2a c2a, .slice A3a n3a c3a, .int .i64 sza, .slice A5a n5a c5a, .int .i64 kb, .int .i64 cpb, .slice A2b n2b c2b, .slice A3b n3b c3b, .int .i64 szb, .slice A5b n5b c5b] 47 (0, 0))) := ⟨by rw [hW2, hg]; exact heap_alloc_new _ _⟩
  have B2 : Aside0 (Below w.heap.size w W2) := ⟨by rw [hW2]; exact B1.out.trans ((below_alloc BJ.out _).mono B1.out.size)⟩
  have BJ2 : Aside0 (Below wj.heap.size wj W2) := ⟨by rw [hW2]; exact below_alloc (Below.refl _ _) _⟩
  have EL : Aside0 (∀ i, i < 3 → ∃ (y : PI) (ky cpy : Int) (A2y : Option Addr) (n2y c2y : Nat) (A3y : Option Addr) (n3y c3y : Nat) (szy : Int) (A5y : Option Addr) (n5y c5y : Nat), InstC W2 y (.agg #[.int .i64 ky, .int .i64 cpy, .slice A2y n2y c2y, .slice A3y n3y c3y, .int .i64 szy, .slice A5y n5y c5y]) ∧ PIok y ∧ W2.cell? ⟨g, i * 6, none⟩ = some (.int .i64 ky) ∧ W2.cell? ⟨g, i * 6 + 1, none⟩ = some (.int .i64 cpy) ∧ W2.cell? ⟨g, i * 6 + 2, none⟩ = some (.slice A2y n2y c2y) ∧ W2.cell? ⟨g, i * 6 + 3, none⟩ = some (.slice A3y n3y c3y) ∧ W2.cell? ⟨g, i * 6 + 4, none⟩ = some (.int .i64 szy) ∧ W2.cell? ⟨g, i * 6 + 5, none⟩ = some (.slice A5y n5y c5y)) := ⟨fun i hi => by
    have hi3 : i = 0 ∨ i = 1 ∨ i = 2 := by omega
    rcases hi3 with rfl | rfl | rfl
    · exact ⟨x, kx, cpx, A2x, n2x, c2x, A3x, n3x, c3x, szx, A5x, n5x, c5x, HI.out.below B2.out, HX.out, (blk_cell QG.out 0).trans rfl, (blk_cell QG.out 1).trans rfl, (blk_cell QG.out 2).trans rfl, (blk_cell QG.out 3).trans rfl, (blk_cell QG.out 4).trans rfl, (blk_cell QG.out 5).trans rfl⟩
    · exact ⟨xa, ka, cpa, A2a, n2a, c2a, A3a, n3a, c3a, sza, A5a, n5a, c5a, IA.out.below BJ2.out, OA.out, (blk_cell QG.out 6).trans rfl, (blk_cell QG.out 7).trans rfl, (blk_cell QG.out 8).trans rfl, (blk_cell QG.out 9).trans rfl, (blk_cell QG.out 10).trans rfl, (blk_cell QG.out 11).trans rfl⟩
    · exact ⟨xb, kb, cpb, A2b, n2b, c2b, A3b, n3b, c3b, szb, A5b, n5b, c5b, IB.out.below BJ2.out, OB.out, (blk_cell QG.out 12).trans rfl, (blk_cell QG.out 13).trans rfl, (blk_cell QG.out 14).trans rfl, (blk_cell QG.out 15).trans rfl, (blk_cell QG.out 16).trans rfl, (blk_cell QG.out 17).trans rfl⟩⟩
  clear hW2 hg QG BJ2 BJ IA IB OA OB
  have K0 : Aside0 (Below W2.heap.size W2 W2) := ⟨Below.refl _ _⟩
  go_wp2_with fail
  go_loopw [18] (fun v18 wr => ∃ i : Nat, i ≤ 3 ∧ v18 = .int .i64 i ∧ Aside0 (Below W2.heap.size W2 wr)) (fun v18 _ => 3 - (intOf v18).toNat)
  case atStart => exact ⟨0, by omega, rfl, K0⟩
  case round =>
    clear K0
    obtain ⟨i, hi, rfl, BR⟩ := hrel
    by_cases hlt : i < 3
    · obtain ⟨y, ky, cpy, A2y, n2y, c2y, A3y, n3y, c3y, szy, A5y, n5y, c5y, iy, oy, e0', e1', e2', e3', e4', e5'⟩ := EL.out i hlt
      have e0 := pw_cell_below BR.out e0'
      have e1 := pw_cell_below BR.out e1'
      have e2 := pw_cell_below BR.out e2'
      have e3 := pw_cell_below BR.out e3'
      have e4 := pw_cell_below BR.out e4'
      have e5 := pw_cell_below BR.out e5'
      have IY := Aside0.mk iy
      have OY := Aside0.mk oy
      clear e0' e1' e2' e3' e4' e5' iy oy
      obtain ⟨wo, hwo⟩ : ∃ wo : World, wo = wr := ⟨_, rfl⟩
      rw [← hwo] at BR e0 e1 e2 e3 e4 e5 ⊢
      clear hwo
      go_wp2_with fail
      clear e0 e1 e2 e3 e4 e5
      obtain ⟨W3, hW3⟩ : ∃ W, W = wo.alloc (.cells #[.int .i64 ky, .int .i64 cpy, .slice A2y n2y c2y, .slice A3y n3y c3y, .int .i64 szy, .slice A5y n5y c5y] 47) := ⟨_, rfl⟩
      rw [← hW3]
      have B3 : Aside0 (Below W2.heap.size W2 W3) := ⟨by rw [hW3]; exact BR.out.alloc BR.out.size _⟩
      clear hW3
      refine (insts_any W3 y _ (IY.out.below B3.out) OY.out).mono ?_
      rintro _ W4 ⟨vc, vd, rfl, ⟨ic, id_, B4'⟩⟩
      have B4 := Aside0.mk (B3.out.trans (B4'.mono B3.out.size))
      have IC := Aside0.mk ic
      have ID := Aside0.mk id_
      clear B4'
      obtain ⟨A2c, c2c, A3c, c3c, A5c, c5c, rfl, _⟩ := ic
      obtain ⟨A2d, c2d, A3d, c3d, A5d, c5d, rfl, _⟩ := id_
      have CO := Aside0.mk (cut_ok y)
      obtain ⟨yc, hyc⟩ : ∃ z, z = cutI y := ⟨_, rfl⟩
      rw [← hyc] at IC ID CO ⊢
      clear hyc
      go_upto_region 5 with fail
      have B5 : Aside0 (Below W4.heap.size W4 ((W4.alloc (.cells #[.int .i64 yc.kind, .int .i64 yc.cap, .slice A2c yc.items.length c2c, .slice A3c yc.cost.length c3c, .int .i64 yc.size, .slice A5c yc.sets.length c5c] 54)).alloc (.cells #[.int .i64 yc.kind, .int .i64 yc.cap, .slice A2d yc.items.length c2d, .slice A3d yc.cost.length c3d, .int .i64 yc.size, .slice A5d yc.sets.length c5d] 57))) := ⟨below_alloc (below_alloc (Below.refl _ _) _) _⟩
      obtain ⟨W5, hW5⟩ : ∃ W, W = (W4.alloc (.cells #[.int .i64 yc.kind, .int .i64 yc.cap, .slice A2c yc.items.length c2c, .slice A3c yc.cost.length c3c, .int .i64 yc.size, .slice A5c yc.sets.length c5c] 54)).alloc (.cells #[.int .i64 yc.kind, .int .i64 yc.cap, .slice A2d yc.items.length c2d, .slice A3d yc.cost.length c3d, .int .i64 yc.size, .slice A5d yc.sets.length c5d] 57) := ⟨_, rfl⟩
      rw [← hW5] at B5 ⊢
      obtain ⟨p5, hp5⟩ : ∃ p, p = W4.heap.size := ⟨_, rfl⟩
      rw [← hp5]
      have Q5 : Aside0 (W5.heap[p5]? = some (.cells #[.int .i64 yc.kind, .int .i64 yc.cap, .slice A2c yc.items.length c2c, .slice A3c yc.cost.length c3c, .int .i64 yc.size, .slice A5c yc.sets.length c5c] 54 (0, 0)) ∧ W5.heap[p5 + 1]? = some (.cells #[.int .i64 yc.kind, .int .i64 yc.cap, .slice A2d yc.items.length c2d, .slice A3d yc.cost.length c3d, .int .i64 yc.size, .slice A5d yc.sets.length c5d] 57 (0, 0))) := ⟨by
        rw [hW5, hp5]
        constructor
        all_goals
          simp only [al_get, al_size]
          repeat (first | rw [if_pos trivial] | rw [if_neg (by omega)])⟩
      have B25 := Aside0.mk (B4.out.trans (B5.out.mono B4.out.size))
      have IC5 := Aside0.mk (IC.out.below B5.out)
      have ID5 := Aside0.mk (ID.out.below B5.out)
      clear hW5 hp5 B5
      obtain ⟨e0, e1, e2, e3, e4, e5, _⟩ := six Q5.out.1 (Below.refl _ _)
      go_wp2_with fail
      clear e0 e1 e2 e3 e4 e5
      refine (cells_any W5 yc _ IC5.out CO.out).mono ?_
      rintro _ W6 ⟨rfl, B6'⟩
      have B6 := Aside0.mk B6'
      clear B6'
      obtain ⟨e0, e1, e2, e3, e4, e5, _⟩ := six Q5.out.2 B6.out
      go_wp2_with fail
      clear e0 e1 e2 e3 e4 e5
      refine (rcells_any W6 yc _ (ID5.out.below B6.out) CO.out).mono ?_
      rintro _ W7 ⟨rfl, B7'⟩
      have B7 := Aside0.mk (B25.out.trans ((B6.out.trans (B7'.mono B6.out.size)).mono B25.out.size))
      clear B7'
      obtain ⟨r1, hr1⟩ : ∃ z, z = (cellsP yc).1 := ⟨_, rfl⟩
      obtain ⟨r2, hr2⟩ : ∃ z, z = (cellsP yc).2 := ⟨_, rfl⟩
      rw [← hr1, ← hr2]
      clear hr1 hr2
      have g1 : (r1 != r1) = false := by simp
      have g2 : (r2 != r2) = false := by simp
      go_wp2_with fail
      exact ⟨⟨i + 1, by omega, by go_num, B7⟩, by simp [intOf]; omega⟩
    · obtain rfl : i = 3 := by omega
      go_wp2_with fail
      refine (wakes_any wr).mono ?_
      rintro _ w9 ⟨rfl, B9⟩
      have BB := Aside0.mk (B2.out.trans ((BR.out.trans (B9.mono BR.out.size)).mono B2.out.size))
      clear B9
      go_wp2_with fail
      go_ret
      exact ⟨rfl, BB.out⟩
end Go.Proofs.Ytelabmhhnpfegaa.Hand
