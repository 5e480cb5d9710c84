/- Frontier; Best of a Knapsack: walked. -/
import Derived.Test.YtelabmhhnpfegaaDt
import Derived.Laws.EntriesVeiled
namespace Go.Proofs.Ytelabmhhnpfegaa.Hand
open Go.RowKit Go.Proofs.YtelabmhhnpfegaaW.PrintWords Go.Proofs.YtelabmhhnpfegaaW.PrintLast Go.Proofs.YtelabmhhnpfegaaW.PrintMore Go.Proofs.Ytelabmhhnpfegaa.PDynCells
theorem cells_ok {x : PI} (h : (cellsP x).2 = 0) : IOk x ∧ qP x ≤ 1048576 := by
  unfold cellsP at h
  split at h
  · rename_i h0
    split at h
    · cases h
    · exact ⟨iok.1 h0, by omega⟩
  · rename_i h0
    exact absurd h h0
theorem room_small {x : PI} (h : (cellsP x).2 = 0) (hk : x.kind = 0) : roomP x ≤ 1048576 := by
  obtain ⟨hi, hq⟩ := cells_ok h
  have hb := room_bd hi
  unfold qP aP tP at hq
  rw [if_pos hk, if_pos hk, Int.pow_zero, Int.mul_one] at hq
  have h1 : (1 : Int) * (roomP x + 1) ≤ ((x.items.length : Int) + 1) * (roomP x + 1) := Int.mul_le_mul_of_nonneg_right (by omega) (by omega)
  omega
set_option maxHeartbeats 400000 in
set_option maxRecDepth 100000 in
/-- Of what has no table: nothing, and the error. -/
theorem front_err (w : World) (x : PI) (v : Value) (h : InstC w x v) (hx : PIok x) (he : (cellsP x).2 ≠ 0) :
    Calls Try.prog 25 #[v] w fun e w' => e = .returned (.tuple #[.slice none 0 0, .int .i64 (cellsP x).2]) ∧ Below w.heap.size w w' := by
  have HI := Aside0.mk h
  obtain ⟨A2, c2, A3, c3, A5, c5, rfl, h2, l2, h3, l3, h5, l5⟩ := h
  clear h2 h3 h5
  obtain ⟨z, hz⟩ : ∃ z, z = (cellsP x).2 := ⟨_, rfl⟩
  obtain ⟨y, hy⟩ : ∃ z, z = (cellsP x).1 := ⟨_, rfl⟩
  rw [← hz] at he ⊢
  have g : (z != 0) = true := by simpa using he
  have HZ := Aside0.mk (And.intro hz hy)
  clear he hz hy
  have hu54 := Try.underlying54
  go_enter Try.func25, Try.ntmps25
  go_wp2_with fail
  obtain ⟨W1, hW1⟩ : ∃ W, W = w.alloc (.cells #[.int .i64 x.kind, .int .i64 x.cap, .slice A2 x.items.length c2, .slice A3 x.cost.length c3, .int .i64 x.size, .slice A5 x.sets.length c5] 54) := ⟨_, rfl⟩
  rw [← hW1]
  have B1 : Aside0 (Below w.heap.size w W1) := ⟨by rw [hW1]; exact below_alloc (Below.refl _ _) _⟩
  obtain ⟨p1, hp1⟩ : ∃ p, p = w.heap.size := ⟨_, rfl⟩
  rw [← hp1]
  clear hW1 hp1
  refine (cells_any W1 x _ (HI.out.below B1.out) hx).mono ?_
  rintro _ W2 ⟨rfl, B2⟩
  rw [← HZ.out.1, ← HZ.out.2]
  go_wp2_with fail
  go_ret2
  exact ⟨rfl, B1.out.trans (B2.mono B1.out.size)⟩
set_option maxHeartbeats 400000 in
set_option maxRecDepth 100000 in
/-- Of other kinds: nothing, and the error. -/
theorem front_kind (w : World) (x : PI) (v : Value) (h : InstC w x v) (hx : PIok x) (he : (cellsP x).2 = 0) (hk : x.kind ≠ 0) :
    Calls Try.prog 25 #[v] w fun e w' => e = .returned (.tuple #[.slice none 0 0, .int .i64 25]) ∧ Below w.heap.size w w' := by
  have HI := Aside0.mk h
  obtain ⟨A2, c2, A3, c3, A5, c5, rfl, h2, l2, h3, l3, h5, l5⟩ := h
  clear h2 h3 h5
  obtain ⟨y, hy⟩ : ∃ z, z = (cellsP x).1 := ⟨_, rfl⟩
  have HZ := Aside0.mk (And.intro he hy)
  have g : (x.kind != 0) = true := by simpa using hk
  clear he hy hk
  have hu54 := Try.underlying54
  go_enter Try.func25, Try.ntmps25
  go_wp2_with fail
  obtain ⟨W1, hW1⟩ : ∃ W, W = w.alloc (.cells #[.int .i64 x.kind, .int .i64 x.cap, .slice A2 x.items.length c2, .slice A3 x.cost.length c3, .int .i64 x.size, .slice A5 x.sets.length c5] 54) := ⟨_, rfl⟩
  rw [← hW1]
  have B1 : Aside0 (Below w.heap.size w W1) := ⟨by rw [hW1]; exact below_alloc (Below.refl _ _) _⟩
  obtain ⟨p1, hp1⟩ : ∃ p, p = w.heap.size := ⟨_, rfl⟩
  have Q1 : Aside0 (W1.heap[p1]? = some (.cells #[.int .i64 x.kind, .int .i64 x.cap, .slice A2 x.items.length c2, .slice A3 x.cost.length c3, .int .i64 x.size, .slice A5 x.sets.length c5] 54 (0, 0))) := ⟨by rw [hW1, hp1]; exact heap_alloc_new _ _⟩
  rw [← hp1]
  clear hW1 hp1
  refine (cells_any W1 x _ (HI.out.below B1.out) hx).mono ?_
  rintro _ W2 ⟨rfl, B2⟩
  have BB := Aside0.mk B2
  have q0 : W2.cell? ⟨p1, 0, none⟩ = some (.int .i64 x.kind) := (blk_cell (blk_below Q1.out B2) 0).trans rfl
  clear B2
  rw [HZ.out.1, ← HZ.out.2]
  go_wp2_with fail
  go_ret2
  exact ⟨rfl, B1.out.trans (BB.out.mono B1.out.size)⟩
set_option maxHeartbeats 400000 in
set_option maxRecDepth 100000 in
/-- Of a Knapsack: the last row of its table. -/
theorem front_ok (w : World) (x : PI) (v : Value) (h : InstC w x v) (hx : PIok x) (he : (cellsP x).2 = 0) (hk : x.kind = 0) :
    Calls Try.prog 25 #[v] w fun e w' => ∃ (a : Addr) (c : Nat), e = .returned (.tuple #[.slice (some a) (roomP x + 1).toNat c, .int .i64 0]) ∧ Aside0 ((Kd.int .i64).C w' (some a) (roomP x + 1).toNat (rowK (roomP x + 1).toNat x.items x.items.length) ∧ Below w.heap.size w w') := by
  have HI := Aside0.mk h
  have IOa := Aside0.mk (cells_ok he).1
  have RS := Aside0.mk (room_small he hk)
  obtain ⟨A2, c2, A3, c3, A5, c5, rfl, h2, l2, h3, l3, h5, l5⟩ := h
  clear h2 h3 h5
  obtain ⟨y, hy⟩ : ∃ z, z = (cellsP x).1 := ⟨_, rfl⟩
  have HZ := Aside0.mk (And.intro he hy)
  have g : (x.kind != 0) = false := by rw [hk]; rfl
  obtain ⟨n2, hn2⟩ : ∃ n, n = x.items.length := ⟨_, rfl⟩
  have b2 : n2 ≤ 4096 := by rw [hn2]; exact IOa.out.nitems
  rw [← hn2] at HI l2 ⊢
  have HN := Aside0.mk hn2
  obtain ⟨m, hm⟩ : ∃ m, m = (roomP x + 1).toNat := ⟨_, rfl⟩
  rw [← hm]
  have m0 : 0 < m := by have := room_bd IOa.out; omega
  have HM := Aside0.mk hm
  clear he hy hk hn2 hm
  have hu54 := Try.underlying54
  go_enter Try.func25, Try.ntmps25
  go_wp2_with fail
  obtain ⟨W1, hW1⟩ : ∃ W, W = w.alloc (.cells #[.int .i64 x.kind, .int .i64 x.cap, .slice A2 n2 c2, .slice A3 x.cost.length c3, .int .i64 x.size, .slice A5 x.sets.length c5] 54) := ⟨_, rfl⟩
  rw [← hW1]
  have B1 : Aside0 (Below w.heap.size w W1) := ⟨by rw [hW1]; exact below_alloc (Below.refl _ _) _⟩
  obtain ⟨p1, hp1⟩ : ∃ p, p = w.heap.size := ⟨_, rfl⟩
  have Q1 : Aside0 (W1.heap[p1]? = some (.cells #[.int .i64 x.kind, .int .i64 x.cap, .slice A2 n2 c2, .slice A3 x.cost.length c3, .int .i64 x.size, .slice A5 x.sets.length c5] 54 (0, 0))) := ⟨by rw [hW1, hp1]; exact heap_alloc_new _ _⟩
  rw [← hp1]
  clear hW1 hp1
  refine (cells_any W1 x _ (HI.out.below B1.out) hx).mono ?_
  rintro _ W2 ⟨rfl, B2'⟩
  have B2 := Aside0.mk (B1.out.trans (B2'.mono B1.out.size))
  have Q2 : Aside0 (W2.heap[p1]? = some (.cells #[.int .i64 x.kind, .int .i64 x.cap, .slice A2 n2 c2, .slice A3 x.cost.length c3, .int .i64 x.size, .slice A5 x.sets.length c5] 54 (0, 0))) := ⟨blk_below Q1.out B2'⟩
  clear B2'
  rw [HZ.out.1, ← HZ.out.2]
  have q0 : W2.cell? ⟨p1, 0, none⟩ = some (.int .i64 x.kind) := (blk_cell Q2.out 0).trans rfl
  have q1 : W2.cell? ⟨p1, 1, none⟩ = some (.int .i64 x.cap) := (blk_cell Q2.out 1).trans rfl
  have q2 : W2.cell? ⟨p1, 2, none⟩ = some (.slice A2 n2 c2) := (blk_cell Q2.out 2).trans rfl
  have q3 : W2.cell? ⟨p1, 3, none⟩ = some (.slice A3 x.cost.length c3) := (blk_cell Q2.out 3).trans rfl
  have q4 : W2.cell? ⟨p1, 4, none⟩ = some (.int .i64 x.size) := (blk_cell Q2.out 4).trans rfl
  have q5 : W2.cell? ⟨p1, 5, none⟩ = some (.slice A5 x.sets.length c5) := (blk_cell Q2.out 5).trans rfl
  go_wp2_with fail
  clear q0 q1 q2 q3 q4 q5
  refine (rows_any W2 x _ (HI.out.below B2.out) IOa.out RS.out).mono ?_
  rintro _ W3 ⟨vt, rfl, HT⟩
  rw [← HM.out, ← HN.out] at HT
  obtain ⟨gt, ct, rfl⟩ : ∃ g c, vt = .slice (some ⟨g, 0, none⟩) (n2 + 1) c := by
    obtain ⟨g, cap, e, _⟩ := Kd.R_form HT.out.1 (by rw [rowsP_len]; omega)
    rw [rowsP_len] at e
    exact ⟨_, cap, e⟩
  obtain ⟨ar, AY, cY, e, y0, ly, hy⟩ := at_L2 (R_C HT.out.1).1 (n2 : Int) (by omega) (by omega)
  injection e with e
  subst e
  have hyE : rd_L2 (rowsP m x.items n2) (n2 : Int) = rowK m x.items n2 := by unfold rd_L2; rw [Int.toNat_natCast]; exact rowsP_get m x.items (Nat.le_refl _)
  rw [hyE, rowK_len] at y0 hy
  rw [Int.toNat_natCast, show (⟨gt, 0, none⟩ : Addr).add n2 = ⟨gt, n2, none⟩ by unfold Addr.add; split <;> simp_all] at y0
  obtain ⟨aY, e⟩ : ∃ a, AY = some a := by
    obtain ⟨_, _, hc⟩ := hy
    obtain ⟨a, e, _⟩ := hc (by omega)
    exact ⟨a, e⟩
  subst e
  have HY := Aside0.mk hy
  clear hyE hy
  have hk1 : wrap64 ((n2 : Int) + 1 - 1) = (n2 : Int) := by unfold wrap64; omega
  have hk2 : (n2 : Int) + 1 - 1 = (n2 : Int) := by omega
  go_wp2_with fail
  go_ret2
  exact ⟨_, _, rfl, ⟨HY.out, B2.out.trans (HT.out.2.mono B2.out.size)⟩⟩
set_option maxHeartbeats 1000000 in
set_option maxRecDepth 100000 in
/-- Best hands on what its kind's table tells: kind 0. -/
theorem best_call0 (w : World) (x : PI) (v : Value) (h : InstC w x v) (hx : PIok x) (he : (cellsP x).2 = 0) (hk : x.kind = 0) (z : Int) (b : Bool) (Q : Value → World → World → Prop)
    (hc : ∀ W, Below w.heap.size w W → Calls Try.prog 54 #[v] W fun e w' => ∃ vr, e = .returned (.tuple #[vr, .int .i64 z, .bool b]) ∧ Aside0 (Q vr W w' ∧ Below W.heap.size W w')) :
    Calls Try.prog 27 #[v] w fun e w' => ∃ vr, e = .returned (.tuple #[vr, .int .i64 z, .bool b, .int .i64 0]) ∧ Aside0 (∃ W wz, Below w.heap.size w W ∧ Q vr W wz ∧ Below w.heap.size w wz ∧ wz.heap = w'.heap ∧ Below w.heap.size w w') := by
  have HI := Aside0.mk h
  have HC := Aside0.mk hc
  obtain ⟨A2, c2, A3, c3, A5, c5, rfl, h2, l2, h3, l3, h5, l5⟩ := h
  clear h2 h3 h5 hc
  obtain ⟨y, hy⟩ : ∃ z, z = (cellsP x).1 := ⟨_, rfl⟩
  have HZ := Aside0.mk (And.intro he hy)
  rw [hk] at HI HC ⊢
  have HK := Aside0.mk hk
  clear he hy hk
  have hu54 := Try.underlying54
  have hu116 := Try.underlying116
  go_enter Try.func27, Try.ntmps27
  go_wp2_with fail
  obtain ⟨W1, hW1⟩ : ∃ W, W = w.alloc (.cells #[.int .i64 0, .int .i64 x.cap, .slice A2 x.items.length c2, .slice A3 x.cost.length c3, .int .i64 x.size, .slice A5 x.sets.length c5] 54) := ⟨_, rfl⟩
  rw [← hW1]
  have B1 : Aside0 (Below w.heap.size w W1) := ⟨by rw [hW1]; exact below_alloc (Below.refl _ _) _⟩
  obtain ⟨p1, hp1⟩ : ∃ p, p = w.heap.size := ⟨_, rfl⟩
  have Q1 : Aside0 (W1.heap[p1]? = some (.cells #[.int .i64 0, .int .i64 x.cap, .slice A2 x.items.length c2, .slice A3 x.cost.length c3, .int .i64 x.size, .slice A5 x.sets.length c5] 54 (0, 0))) := ⟨by rw [hW1, hp1]; exact heap_alloc_new _ _⟩
  rw [← hp1]
  clear hW1 hp1
  refine (cells_any W1 x _ (HI.out.below B1.out) hx).mono ?_
  rintro _ W2 ⟨rfl, B2'⟩
  have B2 := Aside0.mk (B1.out.trans (B2'.mono B1.out.size))
  have Q2 : Aside0 (W2.heap[p1]? = some (.cells #[.int .i64 0, .int .i64 x.cap, .slice A2 x.items.length c2, .slice A3 x.cost.length c3, .int .i64 x.size, .slice A5 x.sets.length c5] 54 (0, 0))) := ⟨blk_below Q1.out B2'⟩
  clear B2'
  rw [HZ.out.1, ← HZ.out.2]
  go_upto_region 5 with fail
  obtain ⟨W3, hW3⟩ : ∃ W, W = W2.alloc (.cells #[.func (.func 54) #[] #[], .func (.func 55) #[] #[], .func (.func 56) #[] #[], .func (.func 57) #[] #[]] 116) := ⟨_, rfl⟩
  rw [← hW3]
  have B3 : Aside0 (Below W2.heap.size W2 W3) := ⟨by rw [hW3]; exact below_alloc (Below.refl _ _) _⟩
  obtain ⟨g3, hg3⟩ : ∃ p, p = W2.heap.size := ⟨_, rfl⟩
  have Q3 : Aside0 (W3.heap[g3]? = some (.cells #[.func (.func 54) #[] #[], .func (.func 55) #[] #[], .func (.func 56) #[] #[], .func (.func 57) #[] #[]] 116 (0, 0))) := ⟨by rw [hW3, hg3]; exact heap_alloc_new _ _⟩
  rw [← hg3]
  clear hW3 hg3
  have R3 : Aside0 (W3.heap[p1]? = some (.cells #[.int .i64 0, .int .i64 x.cap, .slice A2 x.items.length c2, .slice A3 x.cost.length c3, .int .i64 x.size, .slice A5 x.sets.length c5] 54 (0, 0))) := ⟨blk_below Q2.out B3.out⟩
  have B4' : Aside0 (Below w.heap.size w W3.drew) := ⟨below_drew (B2.out.trans (B3.out.mono B2.out.size))⟩
  have q0 : W3.drew.cell? ⟨p1, 0, none⟩ = some (.int .i64 0) := (blk_cell R3.out 0).trans rfl
  have q1 : W3.drew.cell? ⟨p1, 1, none⟩ = some (.int .i64 x.cap) := (blk_cell R3.out 1).trans rfl
  have q2 : W3.drew.cell? ⟨p1, 2, none⟩ = some (.slice A2 x.items.length c2) := (blk_cell R3.out 2).trans rfl
  have q3 : W3.drew.cell? ⟨p1, 3, none⟩ = some (.slice A3 x.cost.length c3) := (blk_cell R3.out 3).trans rfl
  have q4 : W3.drew.cell? ⟨p1, 4, none⟩ = some (.int .i64 x.size) := (blk_cell R3.out 4).trans rfl
  have q5 : W3.drew.cell? ⟨p1, 5, none⟩ = some (.slice A5 x.sets.length c5) := (blk_cell R3.out 5).trans rfl
  have q6 : W3.drew.cell? ⟨g3, 0, none⟩ = some (.func (.func 54) #[] #[]) := (blk_cell Q3.out 0).trans rfl
  refine start_ (n := 13) (S := fun w' => w'.cell? ⟨p1, 0, none⟩ = some (.int .i64 0) ∧ w'.cell? ⟨p1, 1, none⟩ = some (.int .i64 x.cap) ∧ w'.cell? ⟨p1, 2, none⟩ = some (.slice A2 x.items.length c2) ∧ w'.cell? ⟨p1, 3, none⟩ = some (.slice A3 x.cost.length c3) ∧ w'.cell? ⟨p1, 4, none⟩ = some (.int .i64 x.size) ∧ w'.cell? ⟨p1, 5, none⟩ = some (.slice A5 x.sets.length c5) ∧ w'.cell? ⟨g3, 0, none⟩ = some (.func (.func 54) #[] #[])) (ds := [5]) #[false, false, false, false, false, false, false, false, false, false, false, false, false] (by kernel_rfl) rfl rfl ⟨q0, q1, q2, q3, q4, q5, q6⟩ (fun hHeld => ?_)
  clear q0 q1 q2 q3 q4 q5 q6
  refine pure_ (i := 0) (N := some 22) (v := ?_) (a' := ?_) #[true, false, false, false, false, false, false, false, false, false, false, false, false] rfl rfl (by kernel_rfl) (fun _ _ _ h => h) (Or.inl ⟨by rfl, ?_⟩) ?_ ?_
  rotate_left
  · intro w'
    go_simp
    with_reducible rfl
  rotate_left
  · simp only [Act.put, List.setIfInBounds_toArray, List.set_cons_zero, List.set_cons_succ]
    rfl
  refine take_ (i := 1) (N := some 23) (v := ?_) (a' := ?_) #[true, true, false, false, false, false, false, false, false, false, false, false, false] rfl rfl (by kernel_rfl) (fun _ _ _ h => h) (Or.inl ⟨by rfl, ?_⟩) hHeld ?_ ?_
  rotate_left
  · rintro w' ⟨s0, s1, s2, s3, s4, s5, s6⟩
    go_simp
    with_reducible rfl
  rotate_left
  · simp only [Act.put, List.setIfInBounds_toArray, List.set_cons_zero, List.set_cons_succ]
    rfl
  refine pure_ (i := 2) (N := some 24) (v := ?_) (a' := ?_) #[true, true, true, false, false, false, false, false, false, false, false, false, false] rfl rfl (by kernel_rfl) (fun _ _ _ h => h) (Or.inl ⟨by rfl, ?_⟩) ?_ ?_
  rotate_left
  · intro w'
    go_simp
    with_reducible rfl
  rotate_left
  · simp only [Act.put, List.setIfInBounds_toArray, List.set_cons_zero, List.set_cons_succ]
    rfl
  refine take_ (i := 3) (N := some 25) (v := ?_) (a' := ?_) #[true, true, true, true, false, false, false, false, false, false, false, false, false] rfl rfl (by kernel_rfl) (fun _ _ _ h => h) (Or.inl ⟨by rfl, ?_⟩) hHeld ?_ ?_
  rotate_left
  · rintro w' ⟨s0, s1, s2, s3, s4, s5, s6⟩
    go_simp
    with_reducible rfl
  rotate_left
  · simp only [Act.put, List.setIfInBounds_toArray, List.set_cons_zero, List.set_cons_succ]
    rfl
  refine take_ (i := 4) (N := some 26) (v := ?_) (a' := ?_) #[true, true, true, true, true, false, false, false, false, false, false, false, false] rfl rfl (by kernel_rfl) (fun _ _ _ h => h) (Or.inl ⟨by rfl, ?_⟩) hHeld ?_ ?_
  rotate_left
  · rintro w' ⟨s0, s1, s2, s3, s4, s5, s6⟩
    go_simp
    with_reducible rfl
  rotate_left
  · simp only [Act.put, List.setIfInBounds_toArray, List.set_cons_zero, List.set_cons_succ]
    rfl
  refine last_ (i := 5) (N := some 27) #[true, true, true, true, true, true, false, false, false, false, false, false, false] rfl rfl (by kernel_rfl) (by decide) (fun K hK => ?_)
  have he := enters_ Try.func54 (by kernel_rfl) rfl #[.agg #[.int .i64 0, .int .i64 x.cap, .slice A2 x.items.length c2, .slice A3 x.cost.length c3, .int .i64 x.size, .slice A5 x.sets.length c5]] W3.drew
  refine call_ 54 #[.agg #[.int .i64 0, .int .i64 x.cap, .slice A2 x.items.length c2, .slice A3 x.cost.length c3, .int .i64 x.size, .slice A5 x.sets.length c5]] (by rfl) rfl (by unfold execOp; simp [resolve, Deferred.ofValue, invoke, Act.eval, he]) ?_
  refine (HC.out W3.drew B4'.out).mono ?_
  rintro _ w9 ⟨vr, rfl, H9⟩
  refine ⟨_, rfl, ?_⟩
  refine hK.out _ _ ?_
  clear hK K he
  refine norm_ (a' := ?_) ?_ ?_
  rotate_left
  · show Act.put _ (some 27) _ = _
    simp only [Act.put, List.setIfInBounds_toArray, List.set_cons_zero, List.set_cons_succ]
    rfl
  refine pure_ (i := 6) (N := some 21) (v := ?_) (a' := ?_) #[true, true, true, true, true, true, true, false, false, false, false, false, false] rfl rfl (by kernel_rfl) (fun _ _ _ h => h) (Or.inl ⟨by rfl, ?_⟩) ?_ ?_
  rotate_left
  · intro w'
    go_simp
    with_reducible rfl
  rotate_left
  · simp only [Act.put, List.setIfInBounds_toArray, List.set_cons_zero, List.set_cons_succ]
    rfl
  refine pure_ (i := 7) (N := some 28) (v := ?_) (a' := ?_) #[true, true, true, true, true, true, true, true, false, false, false, false, false] rfl rfl (by kernel_rfl) (fun _ _ _ h => h) (Or.inl ⟨by rfl, ?_⟩) ?_ ?_
  rotate_left
  · intro w'
    go_simp
    with_reducible rfl
  rotate_left
  · simp only [Act.put, List.setIfInBounds_toArray, List.set_cons_zero, List.set_cons_succ]
    rfl
  refine pure_ (i := 8) (N := some 29) (v := ?_) (a' := ?_) #[true, true, true, true, true, true, true, true, true, false, false, false, false] rfl rfl (by kernel_rfl) (fun _ _ _ h => h) (Or.inl ⟨by rfl, ?_⟩) ?_ ?_
  rotate_left
  · intro w'
    go_simp
    with_reducible rfl
  rotate_left
  · simp only [Act.put, List.setIfInBounds_toArray, List.set_cons_zero, List.set_cons_succ]
    rfl
  refine pure_ (i := 9) (N := some 30) (v := ?_) (a' := ?_) #[true, true, true, true, true, true, true, true, true, true, false, false, false] rfl rfl (by kernel_rfl) (fun _ _ _ h => h) (Or.inl ⟨by rfl, ?_⟩) ?_ ?_
  rotate_left
  · intro w'
    go_simp
    with_reducible rfl
  rotate_left
  · simp only [Act.put, List.setIfInBounds_toArray, List.set_cons_zero, List.set_cons_succ]
    rfl
  refine pure_ (i := 10) (N := some 9) (v := ?_) (a' := ?_) #[true, true, true, true, true, true, true, true, true, true, true, false, false] rfl rfl (by kernel_rfl) (fun _ _ _ h => h) (Or.inl ⟨by rfl, ?_⟩) ?_ ?_
  rotate_left
  · intro w'
    go_simp
    with_reducible rfl
  rotate_left
  · simp only [Act.put, List.setIfInBounds_toArray, List.set_cons_zero, List.set_cons_succ]
    rfl
  refine pure_ (i := 11) (N := some 10) (v := ?_) (a' := ?_) #[true, true, true, true, true, true, true, true, true, true, true, true, false] rfl rfl (by kernel_rfl) (fun _ _ _ h => h) (Or.inl ⟨by rfl, ?_⟩) ?_ ?_
  rotate_left
  · intro w'
    go_simp
    with_reducible rfl
  rotate_left
  · simp only [Act.put, List.setIfInBounds_toArray, List.set_cons_zero, List.set_cons_succ]
    rfl
  refine pure_ (i := 12) (N := some 11) (v := ?_) (a' := ?_) #[true, true, true, true, true, true, true, true, true, true, true, true, true] rfl rfl (by kernel_rfl) (fun _ _ _ h => h) (Or.inl ⟨by rfl, ?_⟩) ?_ ?_
  rotate_left
  · intro w'
    go_simp
    with_reducible rfl
  rotate_left
  · simp only [Act.put, List.setIfInBounds_toArray, List.set_cons_zero, List.set_cons_succ]
    rfl
  refine done_ (by kernel_rfl) ?_
  have BZ : Aside0 (Below w.heap.size w w9) := ⟨B4'.out.trans (H9.out.2.mono B4'.out.size)⟩
  go_wp2_with fail
  refine bodyPost_ret (v := .tuple #[vr, .int .i64 z, .bool b, .int .i64 0]) (by simp [results, Try.results27, go_sem]) rfl ?_
  exact ⟨_, rfl, ⟨_, _, B4'.out, H9.out.1, BZ.out, rfl, BZ.out⟩⟩
set_option maxHeartbeats 1000000 in
set_option maxRecDepth 100000 in
/-- Best hands on what its kind's table tells: kind 1. -/
theorem best_call1 (w : World) (x : PI) (v : Value) (h : InstC w x v) (hx : PIok x) (he : (cellsP x).2 = 0) (hk : x.kind = 1) (z : Int) (b : Bool) (Q : Value → World → World → Prop)
    (hc : ∀ W, Below w.heap.size w W → Calls Try.prog 55 #[v] W fun e w' => ∃ vr, e = .returned (.tuple #[vr, .int .i64 z, .bool b]) ∧ Aside0 (Q vr W w' ∧ Below W.heap.size W w')) :
    Calls Try.prog 27 #[v] w fun e w' => ∃ vr, e = .returned (.tuple #[vr, .int .i64 z, .bool b, .int .i64 0]) ∧ Aside0 (∃ W wz, Below w.heap.size w W ∧ Q vr W wz ∧ Below w.heap.size w wz ∧ wz.heap = w'.heap ∧ Below w.heap.size w w') := by
  have HI := Aside0.mk h
  have HC := Aside0.mk hc
  obtain ⟨A2, c2, A3, c3, A5, c5, rfl, h2, l2, h3, l3, h5, l5⟩ := h
  clear h2 h3 h5 hc
  obtain ⟨y, hy⟩ : ∃ z, z = (cellsP x).1 := ⟨_, rfl⟩
  have HZ := Aside0.mk (And.intro he hy)
  rw [hk] at HI HC ⊢
  have HK := Aside0.mk hk
  clear he hy hk
  have hu54 := Try.underlying54
  have hu116 := Try.underlying116
  go_enter Try.func27, Try.ntmps27
  go_wp2_with fail
  obtain ⟨W1, hW1⟩ : ∃ W, W = w.alloc (.cells #[.int .i64 1, .int .i64 x.cap, .slice A2 x.items.length c2, .slice A3 x.cost.length c3, .int .i64 x.size, .slice A5 x.sets.length c5] 54) := ⟨_, rfl⟩
  rw [← hW1]
  have B1 : Aside0 (Below w.heap.size w W1) := ⟨by rw [hW1]; exact below_alloc (Below.refl _ _) _⟩
  obtain ⟨p1, hp1⟩ : ∃ p, p = w.heap.size := ⟨_, rfl⟩
  have Q1 : Aside0 (W1.heap[p1]? = some (.cells #[.int .i64 1, .int .i64 x.cap, .slice A2 x.items.length c2, .slice A3 x.cost.length c3, .int .i64 x.size, .slice A5 x.sets.length c5] 54 (0, 0))) := ⟨by rw [hW1, hp1]; exact heap_alloc_new _ _⟩
  rw [← hp1]
  clear hW1 hp1
  refine (cells_any W1 x _ (HI.out.below B1.out) hx).mono ?_
  rintro _ W2 ⟨rfl, B2'⟩
  have B2 := Aside0.mk (B1.out.trans (B2'.mono B1.out.size))
  have Q2 : Aside0 (W2.heap[p1]? = some (.cells #[.int .i64 1, .int .i64 x.cap, .slice A2 x.items.length c2, .slice A3 x.cost.length c3, .int .i64 x.size, .slice A5 x.sets.length c5] 54 (0, 0))) := ⟨blk_below Q1.out B2'⟩
  clear B2'
  rw [HZ.out.1, ← HZ.out.2]
  go_upto_region 5 with fail
  obtain ⟨W3, hW3⟩ : ∃ W, W = W2.alloc (.cells #[.func (.func 54) #[] #[], .func (.func 55) #[] #[], .func (.func 56) #[] #[], .func (.func 57) #[] #[]] 116) := ⟨_, rfl⟩
  rw [← hW3]
  have B3 : Aside0 (Below W2.heap.size W2 W3) := ⟨by rw [hW3]; exact below_alloc (Below.refl _ _) _⟩
  obtain ⟨g3, hg3⟩ : ∃ p, p = W2.heap.size := ⟨_, rfl⟩
  have Q3 : Aside0 (W3.heap[g3]? = some (.cells #[.func (.func 54) #[] #[], .func (.func 55) #[] #[], .func (.func 56) #[] #[], .func (.func 57) #[] #[]] 116 (0, 0))) := ⟨by rw [hW3, hg3]; exact heap_alloc_new _ _⟩
  rw [← hg3]
  clear hW3 hg3
  have R3 : Aside0 (W3.heap[p1]? = some (.cells #[.int .i64 1, .int .i64 x.cap, .slice A2 x.items.length c2, .slice A3 x.cost.length c3, .int .i64 x.size, .slice A5 x.sets.length c5] 54 (0, 0))) := ⟨blk_below Q2.out B3.out⟩
  have B4' : Aside0 (Below w.heap.size w W3.drew) := ⟨below_drew (B2.out.trans (B3.out.mono B2.out.size))⟩
  have q0 : W3.drew.cell? ⟨p1, 0, none⟩ = some (.int .i64 1) := (blk_cell R3.out 0).trans rfl
  have q1 : W3.drew.cell? ⟨p1, 1, none⟩ = some (.int .i64 x.cap) := (blk_cell R3.out 1).trans rfl
  have q2 : W3.drew.cell? ⟨p1, 2, none⟩ = some (.slice A2 x.items.length c2) := (blk_cell R3.out 2).trans rfl
  have q3 : W3.drew.cell? ⟨p1, 3, none⟩ = some (.slice A3 x.cost.length c3) := (blk_cell R3.out 3).trans rfl
  have q4 : W3.drew.cell? ⟨p1, 4, none⟩ = some (.int .i64 x.size) := (blk_cell R3.out 4).trans rfl
  have q5 : W3.drew.cell? ⟨p1, 5, none⟩ = some (.slice A5 x.sets.length c5) := (blk_cell R3.out 5).trans rfl
  have q6 : W3.drew.cell? ⟨g3, 1, none⟩ = some (.func (.func 55) #[] #[]) := (blk_cell Q3.out 1).trans rfl
  refine start_ (n := 13) (S := fun w' => w'.cell? ⟨p1, 0, none⟩ = some (.int .i64 1) ∧ w'.cell? ⟨p1, 1, none⟩ = some (.int .i64 x.cap) ∧ w'.cell? ⟨p1, 2, none⟩ = some (.slice A2 x.items.length c2) ∧ w'.cell? ⟨p1, 3, none⟩ = some (.slice A3 x.cost.length c3) ∧ w'.cell? ⟨p1, 4, none⟩ = some (.int .i64 x.size) ∧ w'.cell? ⟨p1, 5, none⟩ = some (.slice A5 x.sets.length c5) ∧ w'.cell? ⟨g3, 1, none⟩ = some (.func (.func 55) #[] #[])) (ds := [5]) #[false, false, false, false, false, false, false, false, false, false, false, false, false] (by kernel_rfl) rfl rfl ⟨q0, q1, q2, q3, q4, q5, q6⟩ (fun hHeld => ?_)
  clear q0 q1 q2 q3 q4 q5 q6
  refine pure_ (i := 0) (N := some 22) (v := ?_) (a' := ?_) #[true, false, false, false, false, false, false, false, false, false, false, false, false] rfl rfl (by kernel_rfl) (fun _ _ _ h => h) (Or.inl ⟨by rfl, ?_⟩) ?_ ?_
  rotate_left
  · intro w'
    go_simp
    with_reducible rfl
  rotate_left
  · simp only [Act.put, List.setIfInBounds_toArray, List.set_cons_zero, List.set_cons_succ]
    rfl
  refine take_ (i := 1) (N := some 23) (v := ?_) (a' := ?_) #[true, true, false, false, false, false, false, false, false, false, false, false, false] rfl rfl (by kernel_rfl) (fun _ _ _ h => h) (Or.inl ⟨by rfl, ?_⟩) hHeld ?_ ?_
  rotate_left
  · rintro w' ⟨s0, s1, s2, s3, s4, s5, s6⟩
    go_simp
    with_reducible rfl
  rotate_left
  · simp only [Act.put, List.setIfInBounds_toArray, List.set_cons_zero, List.set_cons_succ]
    rfl
  refine pure_ (i := 2) (N := some 24) (v := ?_) (a' := ?_) #[true, true, true, false, false, false, false, false, false, false, false, false, false] rfl rfl (by kernel_rfl) (fun _ _ _ h => h) (Or.inl ⟨by rfl, ?_⟩) ?_ ?_
  rotate_left
  · intro w'
    go_simp
    with_reducible rfl
  rotate_left
  · simp only [Act.put, List.setIfInBounds_toArray, List.set_cons_zero, List.set_cons_succ]
    rfl
  refine take_ (i := 3) (N := some 25) (v := ?_) (a' := ?_) #[true, true, true, true, false, false, false, false, false, false, false, false, false] rfl rfl (by kernel_rfl) (fun _ _ _ h => h) (Or.inl ⟨by rfl, ?_⟩) hHeld ?_ ?_
  rotate_left
  · rintro w' ⟨s0, s1, s2, s3, s4, s5, s6⟩
    go_simp
    with_reducible rfl
  rotate_left
  · simp only [Act.put, List.setIfInBounds_toArray, List.set_cons_zero, List.set_cons_succ]
    rfl
  refine take_ (i := 4) (N := some 26) (v := ?_) (a' := ?_) #[true, true, true, true, true, false, false, false, false, false, false, false, false] rfl rfl (by kernel_rfl) (fun _ _ _ h => h) (Or.inl ⟨by rfl, ?_⟩) hHeld ?_ ?_
  rotate_left
  · rintro w' ⟨s0, s1, s2, s3, s4, s5, s6⟩
    go_simp
    with_reducible rfl
  rotate_left
  · simp only [Act.put, List.setIfInBounds_toArray, List.set_cons_zero, List.set_cons_succ]
    rfl
  refine last_ (i := 5) (N := some 27) #[true, true, true, true, true, true, false, false, false, false, false, false, false] rfl rfl (by kernel_rfl) (by decide) (fun K hK => ?_)
  have he := enters_ Try.func55 (by kernel_rfl) rfl #[.agg #[.int .i64 1, .int .i64 x.cap, .slice A2 x.items.length c2, .slice A3 x.cost.length c3, .int .i64 x.size, .slice A5 x.sets.length c5]] W3.drew
  refine call_ 55 #[.agg #[.int .i64 1, .int .i64 x.cap, .slice A2 x.items.length c2, .slice A3 x.cost.length c3, .int .i64 x.size, .slice A5 x.sets.length c5]] (by rfl) rfl (by unfold execOp; simp [resolve, Deferred.ofValue, invoke, Act.eval, he]) ?_
  refine (HC.out W3.drew B4'.out).mono ?_
  rintro _ w9 ⟨vr, rfl, H9⟩
  refine ⟨_, rfl, ?_⟩
  refine hK.out _ _ ?_
  clear hK K he
  refine norm_ (a' := ?_) ?_ ?_
  rotate_left
  · show Act.put _ (some 27) _ = _
    simp only [Act.put, List.setIfInBounds_toArray, List.set_cons_zero, List.set_cons_succ]
    rfl
  refine pure_ (i := 6) (N := some 21) (v := ?_) (a' := ?_) #[true, true, true, true, true, true, true, false, false, false, false, false, false] rfl rfl (by kernel_rfl) (fun _ _ _ h => h) (Or.inl ⟨by rfl, ?_⟩) ?_ ?_
  rotate_left
  · intro w'
    go_simp
    with_reducible rfl
  rotate_left
  · simp only [Act.put, List.setIfInBounds_toArray, List.set_cons_zero, List.set_cons_succ]
    rfl
  refine pure_ (i := 7) (N := some 28) (v := ?_) (a' := ?_) #[true, true, true, true, true, true, true, true, false, false, false, false, false] rfl rfl (by kernel_rfl) (fun _ _ _ h => h) (Or.inl ⟨by rfl, ?_⟩) ?_ ?_
  rotate_left
  · intro w'
    go_simp
    with_reducible rfl
  rotate_left
  · simp only [Act.put, List.setIfInBounds_toArray, List.set_cons_zero, List.set_cons_succ]
    rfl
  refine pure_ (i := 8) (N := some 29) (v := ?_) (a' := ?_) #[true, true, true, true, true, true, true, true, true, false, false, false, false] rfl rfl (by kernel_rfl) (fun _ _ _ h => h) (Or.inl ⟨by rfl, ?_⟩) ?_ ?_
  rotate_left
  · intro w'
    go_simp
    with_reducible rfl
  rotate_left
  · simp only [Act.put, List.setIfInBounds_toArray, List.set_cons_zero, List.set_cons_succ]
    rfl
  refine pure_ (i := 9) (N := some 30) (v := ?_) (a' := ?_) #[true, true, true, true, true, true, true, true, true, true, false, false, false] rfl rfl (by kernel_rfl) (fun _ _ _ h => h) (Or.inl ⟨by rfl, ?_⟩) ?_ ?_
  rotate_left
  · intro w'
    go_simp
    with_reducible rfl
  rotate_left
  · simp only [Act.put, List.setIfInBounds_toArray, List.set_cons_zero, List.set_cons_succ]
    rfl
  refine pure_ (i := 10) (N := some 9) (v := ?_) (a' := ?_) #[true, true, true, true, true, true, true, true, true, true, true, false, false] rfl rfl (by kernel_rfl) (fun _ _ _ h => h) (Or.inl ⟨by rfl, ?_⟩) ?_ ?_
  rotate_left
  · intro w'
    go_simp
    with_reducible rfl
  rotate_left
  · simp only [Act.put, List.setIfInBounds_toArray, List.set_cons_zero, List.set_cons_succ]
    rfl
  refine pure_ (i := 11) (N := some 10) (v := ?_) (a' := ?_) #[true, true, true, true, true, true, true, true, true, true, true, true, false] rfl rfl (by kernel_rfl) (fun _ _ _ h => h) (Or.inl ⟨by rfl, ?_⟩) ?_ ?_
  rotate_left
  · intro w'
    go_simp
    with_reducible rfl
  rotate_left
  · simp only [Act.put, List.setIfInBounds_toArray, List.set_cons_zero, List.set_cons_succ]
    rfl
  refine pure_ (i := 12) (N := some 11) (v := ?_) (a' := ?_) #[true, true, true, true, true, true, true, true, true, true, true, true, true] rfl rfl (by kernel_rfl) (fun _ _ _ h => h) (Or.inl ⟨by rfl, ?_⟩) ?_ ?_
  rotate_left
  · intro w'
    go_simp
    with_reducible rfl
  rotate_left
  · simp only [Act.put, List.setIfInBounds_toArray, List.set_cons_zero, List.set_cons_succ]
    rfl
  refine done_ (by kernel_rfl) ?_
  have BZ : Aside0 (Below w.heap.size w w9) := ⟨B4'.out.trans (H9.out.2.mono B4'.out.size)⟩
  go_wp2_with fail
  refine bodyPost_ret (v := .tuple #[vr, .int .i64 z, .bool b, .int .i64 0]) (by simp [results, Try.results27, go_sem]) rfl ?_
  exact ⟨_, rfl, ⟨_, _, B4'.out, H9.out.1, BZ.out, rfl, BZ.out⟩⟩
set_option maxHeartbeats 1000000 in
set_option maxRecDepth 100000 in
/-- Best hands on what its kind's table tells: kind 2. -/
theorem best_call2 (w : World) (x : PI) (v : Value) (h : InstC w x v) (hx : PIok x) (he : (cellsP x).2 = 0) (hk : x.kind = 2) (z : Int) (b : Bool) (Q : Value → World → World → Prop)
    (hc : ∀ W, Below w.heap.size w W → Calls Try.prog 56 #[v] W fun e w' => ∃ vr, e = .returned (.tuple #[vr, .int .i64 z, .bool b]) ∧ Aside0 (Q vr W w' ∧ Below W.heap.size W w')) :
    Calls Try.prog 27 #[v] w fun e w' => ∃ vr, e = .returned (.tuple #[vr, .int .i64 z, .bool b, .int .i64 0]) ∧ Aside0 (∃ W wz, Below w.heap.size w W ∧ Q vr W wz ∧ Below w.heap.size w wz ∧ wz.heap = w'.heap ∧ Below w.heap.size w w') := by
  have HI := Aside0.mk h
  have HC := Aside0.mk hc
  obtain ⟨A2, c2, A3, c3, A5, c5, rfl, h2, l2, h3, l3, h5, l5⟩ := h
  clear h2 h3 h5 hc
  obtain ⟨y, hy⟩ : ∃ z, z = (cellsP x).1 := ⟨_, rfl⟩
  have HZ := Aside0.mk (And.intro he hy)
  rw [hk] at HI HC ⊢
  have HK := Aside0.mk hk
  clear he hy hk
  have hu54 := Try.underlying54
  have hu116 := Try.underlying116
  go_enter Try.func27, Try.ntmps27
  go_wp2_with fail
  obtain ⟨W1, hW1⟩ : ∃ W, W = w.alloc (.cells #[.int .i64 2, .int .i64 x.cap, .slice A2 x.items.length c2, .slice A3 x.cost.length c3, .int .i64 x.size, .slice A5 x.sets.length c5] 54) := ⟨_, rfl⟩
  rw [← hW1]
  have B1 : Aside0 (Below w.heap.size w W1) := ⟨by rw [hW1]; exact below_alloc (Below.refl _ _) _⟩
  obtain ⟨p1, hp1⟩ : ∃ p, p = w.heap.size := ⟨_, rfl⟩
  have Q1 : Aside0 (W1.heap[p1]? = some (.cells #[.int .i64 2, .int .i64 x.cap, .slice A2 x.items.length c2, .slice A3 x.cost.length c3, .int .i64 x.size, .slice A5 x.sets.length c5] 54 (0, 0))) := ⟨by rw [hW1, hp1]; exact heap_alloc_new _ _⟩
  rw [← hp1]
  clear hW1 hp1
  refine (cells_any W1 x _ (HI.out.below B1.out) hx).mono ?_
  rintro _ W2 ⟨rfl, B2'⟩
  have B2 := Aside0.mk (B1.out.trans (B2'.mono B1.out.size))
  have Q2 : Aside0 (W2.heap[p1]? = some (.cells #[.int .i64 2, .int .i64 x.cap, .slice A2 x.items.length c2, .slice A3 x.cost.length c3, .int .i64 x.size, .slice A5 x.sets.length c5] 54 (0, 0))) := ⟨blk_below Q1.out B2'⟩
  clear B2'
  rw [HZ.out.1, ← HZ.out.2]
  go_upto_region 5 with fail
  obtain ⟨W3, hW3⟩ : ∃ W, W = W2.alloc (.cells #[.func (.func 54) #[] #[], .func (.func 55) #[] #[], .func (.func 56) #[] #[], .func (.func 57) #[] #[]] 116) := ⟨_, rfl⟩
  rw [← hW3]
  have B3 : Aside0 (Below W2.heap.size W2 W3) := ⟨by rw [hW3]; exact below_alloc (Below.refl _ _) _⟩
  obtain ⟨g3, hg3⟩ : ∃ p, p = W2.heap.size := ⟨_, rfl⟩
  have Q3 : Aside0 (W3.heap[g3]? = some (.cells #[.func (.func 54) #[] #[], .func (.func 55) #[] #[], .func (.func 56) #[] #[], .func (.func 57) #[] #[]] 116 (0, 0))) := ⟨by rw [hW3, hg3]; exact heap_alloc_new _ _⟩
  rw [← hg3]
  clear hW3 hg3
  have R3 : Aside0 (W3.heap[p1]? = some (.cells #[.int .i64 2, .int .i64 x.cap, .slice A2 x.items.length c2, .slice A3 x.cost.length c3, .int .i64 x.size, .slice A5 x.sets.length c5] 54 (0, 0))) := ⟨blk_below Q2.out B3.out⟩
  have B4' : Aside0 (Below w.heap.size w W3.drew) := ⟨below_drew (B2.out.trans (B3.out.mono B2.out.size))⟩
  have q0 : W3.drew.cell? ⟨p1, 0, none⟩ = some (.int .i64 2) := (blk_cell R3.out 0).trans rfl
  have q1 : W3.drew.cell? ⟨p1, 1, none⟩ = some (.int .i64 x.cap) := (blk_cell R3.out 1).trans rfl
  have q2 : W3.drew.cell? ⟨p1, 2, none⟩ = some (.slice A2 x.items.length c2) := (blk_cell R3.out 2).trans rfl
  have q3 : W3.drew.cell? ⟨p1, 3, none⟩ = some (.slice A3 x.cost.length c3) := (blk_cell R3.out 3).trans rfl
  have q4 : W3.drew.cell? ⟨p1, 4, none⟩ = some (.int .i64 x.size) := (blk_cell R3.out 4).trans rfl
  have q5 : W3.drew.cell? ⟨p1, 5, none⟩ = some (.slice A5 x.sets.length c5) := (blk_cell R3.out 5).trans rfl
  have q6 : W3.drew.cell? ⟨g3, 2, none⟩ = some (.func (.func 56) #[] #[]) := (blk_cell Q3.out 2).trans rfl
  refine start_ (n := 13) (S := fun w' => w'.cell? ⟨p1, 0, none⟩ = some (.int .i64 2) ∧ w'.cell? ⟨p1, 1, none⟩ = some (.int .i64 x.cap) ∧ w'.cell? ⟨p1, 2, none⟩ = some (.slice A2 x.items.length c2) ∧ w'.cell? ⟨p1, 3, none⟩ = some (.slice A3 x.cost.length c3) ∧ w'.cell? ⟨p1, 4, none⟩ = some (.int .i64 x.size) ∧ w'.cell? ⟨p1, 5, none⟩ = some (.slice A5 x.sets.length c5) ∧ w'.cell? ⟨g3, 2, none⟩ = some (.func (.func 56) #[] #[])) (ds := [5]) #[false, false, false, false, false, false, false, false, false, false, false, false, false] (by kernel_rfl) rfl rfl ⟨q0, q1, q2, q3, q4, q5, q6⟩ (fun hHeld => ?_)
  clear q0 q1 q2 q3 q4 q5 q6
  refine pure_ (i := 0) (N := some 22) (v := ?_) (a' := ?_) #[true, false, false, false, false, false, false, false, false, false, false, false, false] rfl rfl (by kernel_rfl) (fun _ _ _ h => h) (Or.inl ⟨by rfl, ?_⟩) ?_ ?_
  rotate_left
  · intro w'
    go_simp
    with_reducible rfl
  rotate_left
  · simp only [Act.put, List.setIfInBounds_toArray, List.set_cons_zero, List.set_cons_succ]
    rfl
  refine take_ (i := 1) (N := some 23) (v := ?_) (a' := ?_) #[true, true, false, false, false, false, false, false, false, false, false, false, false] rfl rfl (by kernel_rfl) (fun _ _ _ h => h) (Or.inl ⟨by rfl, ?_⟩) hHeld ?_ ?_
  rotate_left
  · rintro w' ⟨s0, s1, s2, s3, s4, s5, s6⟩
    go_simp
    with_reducible rfl
  rotate_left
  · simp only [Act.put, List.setIfInBounds_toArray, List.set_cons_zero, List.set_cons_succ]
    rfl
  refine pure_ (i := 2) (N := some 24) (v := ?_) (a' := ?_) #[true, true, true, false, false, false, false, false, false, false, false, false, false] rfl rfl (by kernel_rfl) (fun _ _ _ h => h) (Or.inl ⟨by rfl, ?_⟩) ?_ ?_
  rotate_left
  · intro w'
    go_simp
    with_reducible rfl
  rotate_left
  · simp only [Act.put, List.setIfInBounds_toArray, List.set_cons_zero, List.set_cons_succ]
    rfl
  refine take_ (i := 3) (N := some 25) (v := ?_) (a' := ?_) #[true, true, true, true, false, false, false, false, false, false, false, false, false] rfl rfl (by kernel_rfl) (fun _ _ _ h => h) (Or.inl ⟨by rfl, ?_⟩) hHeld ?_ ?_
  rotate_left
  · rintro w' ⟨s0, s1, s2, s3, s4, s5, s6⟩
    go_simp
    with_reducible rfl
  rotate_left
  · simp only [Act.put, List.setIfInBounds_toArray, List.set_cons_zero, List.set_cons_succ]
    rfl
  refine take_ (i := 4) (N := some 26) (v := ?_) (a' := ?_) #[true, true, true, true, true, false, false, false, false, false, false, false, false] rfl rfl (by kernel_rfl) (fun _ _ _ h => h) (Or.inl ⟨by rfl, ?_⟩) hHeld ?_ ?_
  rotate_left
  · rintro w' ⟨s0, s1, s2, s3, s4, s5, s6⟩
    go_simp
    with_reducible rfl
  rotate_left
  · simp only [Act.put, List.setIfInBounds_toArray, List.set_cons_zero, List.set_cons_succ]
    rfl
  refine last_ (i := 5) (N := some 27) #[true, true, true, true, true, true, false, false, false, false, false, false, false] rfl rfl (by kernel_rfl) (by decide) (fun K hK => ?_)
  have he := enters_ Try.func56 (by kernel_rfl) rfl #[.agg #[.int .i64 2, .int .i64 x.cap, .slice A2 x.items.length c2, .slice A3 x.cost.length c3, .int .i64 x.size, .slice A5 x.sets.length c5]] W3.drew
  refine call_ 56 #[.agg #[.int .i64 2, .int .i64 x.cap, .slice A2 x.items.length c2, .slice A3 x.cost.length c3, .int .i64 x.size, .slice A5 x.sets.length c5]] (by rfl) rfl (by unfold execOp; simp [resolve, Deferred.ofValue, invoke, Act.eval, he]) ?_
  refine (HC.out W3.drew B4'.out).mono ?_
  rintro _ w9 ⟨vr, rfl, H9⟩
  refine ⟨_, rfl, ?_⟩
  refine hK.out _ _ ?_
  clear hK K he
  refine norm_ (a' := ?_) ?_ ?_
  rotate_left
  · show Act.put _ (some 27) _ = _
    simp only [Act.put, List.setIfInBounds_toArray, List.set_cons_zero, List.set_cons_succ]
    rfl
  refine pure_ (i := 6) (N := some 21) (v := ?_) (a' := ?_) #[true, true, true, true, true, true, true, false, false, false, false, false, false] rfl rfl (by kernel_rfl) (fun _ _ _ h => h) (Or.inl ⟨by rfl, ?_⟩) ?_ ?_
  rotate_left
  · intro w'
    go_simp
    with_reducible rfl
  rotate_left
  · simp only [Act.put, List.setIfInBounds_toArray, List.set_cons_zero, List.set_cons_succ]
    rfl
  refine pure_ (i := 7) (N := some 28) (v := ?_) (a' := ?_) #[true, true, true, true, true, true, true, true, false, false, false, false, false] rfl rfl (by kernel_rfl) (fun _ _ _ h => h) (Or.inl ⟨by rfl, ?_⟩) ?_ ?_
  rotate_left
  · intro w'
    go_simp
    with_reducible rfl
  rotate_left
  · simp only [Act.put, List.setIfInBounds_toArray, List.set_cons_zero, List.set_cons_succ]
    rfl
  refine pure_ (i := 8) (N := some 29) (v := ?_) (a' := ?_) #[true, true, true, true, true, true, true, true, true, false, false, false, false] rfl rfl (by kernel_rfl) (fun _ _ _ h => h) (Or.inl ⟨by rfl, ?_⟩) ?_ ?_
  rotate_left
  · intro w'
    go_simp
    with_reducible rfl
  rotate_left
  · simp only [Act.put, List.setIfInBounds_toArray, List.set_cons_zero, List.set_cons_succ]
    rfl
  refine pure_ (i := 9) (N := some 30) (v := ?_) (a' := ?_) #[true, true, true, true, true, true, true, true, true, true, false, false, false] rfl rfl (by kernel_rfl) (fun _ _ _ h => h) (Or.inl ⟨by rfl, ?_⟩) ?_ ?_
  rotate_left
  · intro w'
    go_simp
    with_reducible rfl
  rotate_left
  · simp only [Act.put, List.setIfInBounds_toArray, List.set_cons_zero, List.set_cons_succ]
    rfl
  refine pure_ (i := 10) (N := some 9) (v := ?_) (a' := ?_) #[true, true, true, true, true, true, true, true, true, true, true, false, false] rfl rfl (by kernel_rfl) (fun _ _ _ h => h) (Or.inl ⟨by rfl, ?_⟩) ?_ ?_
  rotate_left
  · intro w'
    go_simp
    with_reducible rfl
  rotate_left
  · simp only [Act.put, List.setIfInBounds_toArray, List.set_cons_zero, List.set_cons_succ]
    rfl
  refine pure_ (i := 11) (N := some 10) (v := ?_) (a' := ?_) #[true, true, true, true, true, true, true, true, true, true, true, true, false] rfl rfl (by kernel_rfl) (fun _ _ _ h => h) (Or.inl ⟨by rfl, ?_⟩) ?_ ?_
  rotate_left
  · intro w'
    go_simp
    with_reducible rfl
  rotate_left
  · simp only [Act.put, List.setIfInBounds_toArray, List.set_cons_zero, List.set_cons_succ]
    rfl
  refine pure_ (i := 12) (N := some 11) (v := ?_) (a' := ?_) #[true, true, true, true, true, true, true, true, true, true, true, true, true] rfl rfl (by kernel_rfl) (fun _ _ _ h => h) (Or.inl ⟨by rfl, ?_⟩) ?_ ?_
  rotate_left
  · intro w'
    go_simp
    with_reducible rfl
  rotate_left
  · simp only [Act.put, List.setIfInBounds_toArray, List.set_cons_zero, List.set_cons_succ]
    rfl
  refine done_ (by kernel_rfl) ?_
  have BZ : Aside0 (Below w.heap.size w w9) := ⟨B4'.out.trans (H9.out.2.mono B4'.out.size)⟩
  go_wp2_with fail
  refine bodyPost_ret (v := .tuple #[vr, .int .i64 z, .bool b, .int .i64 0]) (by simp [results, Try.results27, go_sem]) rfl ?_
  exact ⟨_, rfl, ⟨_, _, B4'.out, H9.out.1, BZ.out, rfl, BZ.out⟩⟩
set_option maxHeartbeats 1000000 in
set_option maxRecDepth 100000 in
/-- Best hands on what its kind's table tells: kind 3. -/
theorem best_call3 (w : World) (x : PI) (v : Value) (h : InstC w x v) (hx : PIok x) (he : (cellsP x).2 = 0) (hk : x.kind = 3) (z : Int) (b : Bool) (Q : Value → World → World → Prop)
    (hc : ∀ W, Below w.heap.size w W → Calls Try.prog 57 #[v] W fun e w' => ∃ vr, e = .returned (.tuple #[vr, .int .i64 z, .bool b]) ∧ Aside0 (Q vr W w' ∧ Below W.heap.size W w')) :
    Calls Try.prog 27 #[v] w fun e w' => ∃ vr, e = .returned (.tuple #[vr, .int .i64 z, .bool b, .int .i64 0]) ∧ Aside0 (∃ W wz, Below w.heap.size w W ∧ Q vr W wz ∧ Below w.heap.size w wz ∧ wz.heap = w'.heap ∧ Below w.heap.size w w') := by
  have HI := Aside0.mk h
  have HC := Aside0.mk hc
  obtain ⟨A2, c2, A3, c3, A5, c5, rfl, h2, l2, h3, l3, h5, l5⟩ := h
  clear h2 h3 h5 hc
  obtain ⟨y, hy⟩ : ∃ z, z = (cellsP x).1 := ⟨_, rfl⟩
  have HZ := Aside0.mk (And.intro he hy)
  rw [hk] at HI HC ⊢
  have HK := Aside0.mk hk
  clear he hy hk
  have hu54 := Try.underlying54
  have hu116 := Try.underlying116
  go_enter Try.func27, Try.ntmps27
  go_wp2_with fail
  obtain ⟨W1, hW1⟩ : ∃ W, W = w.alloc (.cells #[.int .i64 3, .int .i64 x.cap, .slice A2 x.items.length c2, .slice A3 x.cost.length c3, .int .i64 x.size, .slice A5 x.sets.length c5] 54) := ⟨_, rfl⟩
  rw [← hW1]
  have B1 : Aside0 (Below w.heap.size w W1) := ⟨by rw [hW1]; exact below_alloc (Below.refl _ _) _⟩
  obtain ⟨p1, hp1⟩ : ∃ p, p = w.heap.size := ⟨_, rfl⟩
  have Q1 : Aside0 (W1.heap[p1]? = some (.cells #[.int .i64 3, .int .i64 x.cap, .slice A2 x.items.length c2, .slice A3 x.cost.length c3, .int .i64 x.size, .slice A5 x.sets.length c5] 54 (0, 0))) := ⟨by rw [hW1, hp1]; exact heap_alloc_new _ _⟩
  rw [← hp1]
  clear hW1 hp1
  refine (cells_any W1 x _ (HI.out.below B1.out) hx).mono ?_
  rintro _ W2 ⟨rfl, B2'⟩
  have B2 := Aside0.mk (B1.out.trans (B2'.mono B1.out.size))
  have Q2 : Aside0 (W2.heap[p1]? = some (.cells #[.int .i64 3, .int .i64 x.cap, .slice A2 x.items.length c2, .slice A3 x.cost.length c3, .int .i64 x.size, .slice A5 x.sets.length c5] 54 (0, 0))) := ⟨blk_below Q1.out B2'⟩
  clear B2'
  rw [HZ.out.1, ← HZ.out.2]
  go_upto_region 5 with fail
  obtain ⟨W3, hW3⟩ : ∃ W, W = W2.alloc (.cells #[.func (.func 54) #[] #[], .func (.func 55) #[] #[], .func (.func 56) #[] #[], .func (.func 57) #[] #[]] 116) := ⟨_, rfl⟩
  rw [← hW3]
  have B3 : Aside0 (Below W2.heap.size W2 W3) := ⟨by rw [hW3]; exact below_alloc (Below.refl _ _) _⟩
  obtain ⟨g3, hg3⟩ : ∃ p, p = W2.heap.size := ⟨_, rfl⟩
  have Q3 : Aside0 (W3.heap[g3]? = some (.cells #[.func (.func 54) #[] #[], .func (.func 55) #[] #[], .func (.func 56) #[] #[], .func (.func 57) #[] #[]] 116 (0, 0))) := ⟨by rw [hW3, hg3]; exact heap_alloc_new _ _⟩
  rw [← hg3]
  clear hW3 hg3
  have R3 : Aside0 (W3.heap[p1]? = some (.cells #[.int .i64 3, .int .i64 x.cap, .slice A2 x.items.length c2, .slice A3 x.cost.length c3, .int .i64 x.size, .slice A5 x.sets.length c5] 54 (0, 0))) := ⟨blk_below Q2.out B3.out⟩
  have B4' : Aside0 (Below w.heap.size w W3.drew) := ⟨below_drew (B2.out.trans (B3.out.mono B2.out.size))⟩
  have q0 : W3.drew.cell? ⟨p1, 0, none⟩ = some (.int .i64 3) := (blk_cell R3.out 0).trans rfl
  have q1 : W3.drew.cell? ⟨p1, 1, none⟩ = some (.int .i64 x.cap) := (blk_cell R3.out 1).trans rfl
  have q2 : W3.drew.cell? ⟨p1, 2, none⟩ = some (.slice A2 x.items.length c2) := (blk_cell R3.out 2).trans rfl
  have q3 : W3.drew.cell? ⟨p1, 3, none⟩ = some (.slice A3 x.cost.length c3) := (blk_cell R3.out 3).trans rfl
  have q4 : W3.drew.cell? ⟨p1, 4, none⟩ = some (.int .i64 x.size) := (blk_cell R3.out 4).trans rfl
  have q5 : W3.drew.cell? ⟨p1, 5, none⟩ = some (.slice A5 x.sets.length c5) := (blk_cell R3.out 5).trans rfl
  have q6 : W3.drew.cell? ⟨g3, 3, none⟩ = some (.func (.func 57) #[] #[]) := (blk_cell Q3.out 3).trans rfl
  refine start_ (n := 13) (S := fun w' => w'.cell? ⟨p1, 0, none⟩ = some (.int .i64 3) ∧ w'.cell? ⟨p1, 1, none⟩ = some (.int .i64 x.cap) ∧ w'.cell? ⟨p1, 2, none⟩ = some (.slice A2 x.items.length c2) ∧ w'.cell? ⟨p1, 3, none⟩ = some (.slice A3 x.cost.length c3) ∧ w'.cell? ⟨p1, 4, none⟩ = some (.int .i64 x.size) ∧ w'.cell? ⟨p1, 5, none⟩ = some (.slice A5 x.sets.length c5) ∧ w'.cell? ⟨g3, 3, none⟩ = some (.func (.func 57) #[] #[])) (ds := [5]) #[false, false, false, false, false, false, false, false, false, false, false, false, false] (by kernel_rfl) rfl rfl ⟨q0, q1, q2, q3, q4, q5, q6⟩ (fun hHeld => ?_)
  clear q0 q1 q2 q3 q4 q5 q6
  refine pure_ (i := 0) (N := some 22) (v := ?_) (a' := ?_) #[true, false, false, false, false, false, false, false, false, false, false, false, false] rfl rfl (by kernel_rfl) (fun _ _ _ h => h) (Or.inl ⟨by rfl, ?_⟩) ?_ ?_
  rotate_left
  · intro w'
    go_simp
    with_reducible rfl
  rotate_left
  · simp only [Act.put, List.setIfInBounds_toArray, List.set_cons_zero, List.set_cons_succ]
    rfl
  refine take_ (i := 1) (N := some 23) (v := ?_) (a' := ?_) #[true, true, false, false, false, false, false, false, false, false, false, false, false] rfl rfl (by kernel_rfl) (fun _ _ _ h => h) (Or.inl ⟨by rfl, ?_⟩) hHeld ?_ ?_
  rotate_left
  · rintro w' ⟨s0, s1, s2, s3, s4, s5, s6⟩
    go_simp
    with_reducible rfl
  rotate_left
  · simp only [Act.put, List.setIfInBounds_toArray, List.set_cons_zero, List.set_cons_succ]
    rfl
  refine pure_ (i := 2) (N := some 24) (v := ?_) (a' := ?_) #[true, true, true, false, false, false, false, false, false, false, false, false, false] rfl rfl (by kernel_rfl) (fun _ _ _ h => h) (Or.inl ⟨by rfl, ?_⟩) ?_ ?_
  rotate_left
  · intro w'
    go_simp
    with_reducible rfl
  rotate_left
  · simp only [Act.put, List.setIfInBounds_toArray, List.set_cons_zero, List.set_cons_succ]
    rfl
  refine take_ (i := 3) (N := some 25) (v := ?_) (a' := ?_) #[true, true, true, true, false, false, false, false, false, false, false, false, false] rfl rfl (by kernel_rfl) (fun _ _ _ h => h) (Or.inl ⟨by rfl, ?_⟩) hHeld ?_ ?_
  rotate_left
  · rintro w' ⟨s0, s1, s2, s3, s4, s5, s6⟩
    go_simp
    with_reducible rfl
  rotate_left
  · simp only [Act.put, List.setIfInBounds_toArray, List.set_cons_zero, List.set_cons_succ]
    rfl
  refine take_ (i := 4) (N := some 26) (v := ?_) (a' := ?_) #[true, true, true, true, true, false, false, false, false, false, false, false, false] rfl rfl (by kernel_rfl) (fun _ _ _ h => h) (Or.inl ⟨by rfl, ?_⟩) hHeld ?_ ?_
  rotate_left
  · rintro w' ⟨s0, s1, s2, s3, s4, s5, s6⟩
    go_simp
    with_reducible rfl
  rotate_left
  · simp only [Act.put, List.setIfInBounds_toArray, List.set_cons_zero, List.set_cons_succ]
    rfl
  refine last_ (i := 5) (N := some 27) #[true, true, true, true, true, true, false, false, false, false, false, false, false] rfl rfl (by kernel_rfl) (by decide) (fun K hK => ?_)
  have he := enters_ Try.func57 (by kernel_rfl) rfl #[.agg #[.int .i64 3, .int .i64 x.cap, .slice A2 x.items.length c2, .slice A3 x.cost.length c3, .int .i64 x.size, .slice A5 x.sets.length c5]] W3.drew
  refine call_ 57 #[.agg #[.int .i64 3, .int .i64 x.cap, .slice A2 x.items.length c2, .slice A3 x.cost.length c3, .int .i64 x.size, .slice A5 x.sets.length c5]] (by rfl) rfl (by unfold execOp; simp [resolve, Deferred.ofValue, invoke, Act.eval, he]) ?_
  refine (HC.out W3.drew B4'.out).mono ?_
  rintro _ w9 ⟨vr, rfl, H9⟩
  refine ⟨_, rfl, ?_⟩
  refine hK.out _ _ ?_
  clear hK K he
  refine norm_ (a' := ?_) ?_ ?_
  rotate_left
  · show Act.put _ (some 27) _ = _
    simp only [Act.put, List.setIfInBounds_toArray, List.set_cons_zero, List.set_cons_succ]
    rfl
  refine pure_ (i := 6) (N := some 21) (v := ?_) (a' := ?_) #[true, true, true, true, true, true, true, false, false, false, false, false, false] rfl rfl (by kernel_rfl) (fun _ _ _ h => h) (Or.inl ⟨by rfl, ?_⟩) ?_ ?_
  rotate_left
  · intro w'
    go_simp
    with_reducible rfl
  rotate_left
  · simp only [Act.put, List.setIfInBounds_toArray, List.set_cons_zero, List.set_cons_succ]
    rfl
  refine pure_ (i := 7) (N := some 28) (v := ?_) (a' := ?_) #[true, true, true, true, true, true, true, true, false, false, false, false, false] rfl rfl (by kernel_rfl) (fun _ _ _ h => h) (Or.inl ⟨by rfl, ?_⟩) ?_ ?_
  rotate_left
  · intro w'
    go_simp
    with_reducible rfl
  rotate_left
  · simp only [Act.put, List.setIfInBounds_toArray, List.set_cons_zero, List.set_cons_succ]
    rfl
  refine pure_ (i := 8) (N := some 29) (v := ?_) (a' := ?_) #[true, true, true, true, true, true, true, true, true, false, false, false, false] rfl rfl (by kernel_rfl) (fun _ _ _ h => h) (Or.inl ⟨by rfl, ?_⟩) ?_ ?_
  rotate_left
  · intro w'
    go_simp
    with_reducible rfl
  rotate_left
  · simp only [Act.put, List.setIfInBounds_toArray, List.set_cons_zero, List.set_cons_succ]
    rfl
  refine pure_ (i := 9) (N := some 30) (v := ?_) (a' := ?_) #[true, true, true, true, true, true, true, true, true, true, false, false, false] rfl rfl (by kernel_rfl) (fun _ _ _ h => h) (Or.inl ⟨by rfl, ?_⟩) ?_ ?_
  rotate_left
  · intro w'
    go_simp
    with_reducible rfl
  rotate_left
  · simp only [Act.put, List.setIfInBounds_toArray, List.set_cons_zero, List.set_cons_succ]
    rfl
  refine pure_ (i := 10) (N := some 9) (v := ?_) (a' := ?_) #[true, true, true, true, true, true, true, true, true, true, true, false, false] rfl rfl (by kernel_rfl) (fun _ _ _ h => h) (Or.inl ⟨by rfl, ?_⟩) ?_ ?_
  rotate_left
  · intro w'
    go_simp
    with_reducible rfl
  rotate_left
  · simp only [Act.put, List.setIfInBounds_toArray, List.set_cons_zero, List.set_cons_succ]
    rfl
  refine pure_ (i := 11) (N := some 10) (v := ?_) (a' := ?_) #[true, true, true, true, true, true, true, true, true, true, true, true, false] rfl rfl (by kernel_rfl) (fun _ _ _ h => h) (Or.inl ⟨by rfl, ?_⟩) ?_ ?_
  rotate_left
  · intro w'
    go_simp
    with_reducible rfl
  rotate_left
  · simp only [Act.put, List.setIfInBounds_toArray, List.set_cons_zero, List.set_cons_succ]
    rfl
  refine pure_ (i := 12) (N := some 11) (v := ?_) (a' := ?_) #[true, true, true, true, true, true, true, true, true, true, true, true, true] rfl rfl (by kernel_rfl) (fun _ _ _ h => h) (Or.inl ⟨by rfl, ?_⟩) ?_ ?_
  rotate_left
  · intro w'
    go_simp
    with_reducible rfl
  rotate_left
  · simp only [Act.put, List.setIfInBounds_toArray, List.set_cons_zero, List.set_cons_succ]
    rfl
  refine done_ (by kernel_rfl) ?_
  have BZ : Aside0 (Below w.heap.size w w9) := ⟨B4'.out.trans (H9.out.2.mono B4'.out.size)⟩
  go_wp2_with fail
  refine bodyPost_ret (v := .tuple #[vr, .int .i64 z, .bool b, .int .i64 0]) (by simp [results, Try.results27, go_sem]) rfl ?_
  exact ⟨_, rfl, ⟨_, _, B4'.out, H9.out.1, BZ.out, rfl, BZ.out⟩⟩
/-- Of a Knapsack: what is in, and its cost. -/
theorem best_0 (w : World) (x : PI) (v : Value) (h : InstC w x v) (hx : PIok x) (he : (cellsP x).2 = 0) (hk : x.kind = 0) :
    Calls Try.prog 27 #[v] w fun e w' => ∃ v, e = .returned (.tuple #[v, .int .i64 (-(rowK (roomP x + 1).toNat x.items x.items.length).getD (roomP x).toNat 0), .bool true, .int .i64 0]) ∧ Aside0 ((∃ A n c, v = .slice A n c ∧ (Kd.int .i64).C w' A n (tbk (roomP x + 1).toNat x.items x.items.length (roomP x).toNat).reverse) ∧ Below w.heap.size w w') := by
  refine (best_call0 w x v h hx he hk _ _ (fun vr W w' => (Kd.int .i64).R 3 w' W.heap.size (fun _ => True) vr (tbk (roomP x + 1).toNat x.items x.items.length (roomP x).toNat).reverse) (fun W hb => (knapsack_any W x v (h.below hb) (cells_ok he).1 (room_small he hk)).mono (fun _ _ ⟨vr, e, H⟩ => ⟨vr, e, H⟩))).mono ?_
  rintro _ w' ⟨vr, rfl, ⟨W, wz, b1, hr, b2, e, b3⟩⟩
  refine ⟨vr, rfl, ⟨?_, b3⟩⟩
  obtain ⟨A, c, rfl⟩ := Kd.R_slice hr
  refine ⟨A, _, c, rfl, ?_⟩
  refine (R_C (Kd.R_step hr (fun k _ _ => by rw [e]))).1
end Go.Proofs.Ytelabmhhnpfegaa.Hand
