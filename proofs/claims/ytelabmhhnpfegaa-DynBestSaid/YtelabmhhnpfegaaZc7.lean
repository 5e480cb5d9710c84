/- Texts Ke, cut to what is used. -/
import Derived.Test.YtelabmhhnpfegaaZa0
import Derived.Test.YtelabmhhnpfegaaZc5
import Derived.Test.YtelabmhhnpfegaaZc6
set_option linter.unusedVariables false
set_option linter.unusedSimpArgs false
section
namespace Go.Proofs.Ytelabmhhnpfegaa.Hand
open Go.RowKit Go.Proofs.YtelabmhhnpfegaaW.PrintWords Go.Proofs.YtelabmhhnpfegaaW.PrintLast Go.Proofs.YtelabmhhnpfegaaW.PrintMore Go.Proofs.Ytelabmhhnpfegaa.PDynCells
theorem prod_sh {n k N : Nat} (h : N = n * 2 ^ k) : (n : Int) * (2 : Int) ^ k = (N : Int) := by
 subst h
 rw [Int.natCast_mul, Int.natCast_pow]
 rfl
theorem R_drew3 {w : World} {base : Nat} {ok : Nat → Prop} {v : Value} {l : List Int} (h : (Kd.int .i64).R 3 w base ok v l) : (Kd.int .i64).R 3 w.drew base ok v l := Kd.R_below h (below_drew (Below.refl _ _))
theorem tabS_one (f : Nat → S152) (s : S152) : tabS 1 (upd f 0 s) = tabS 1 (fun _ => s) := by
 unfold tabS
 refine congrArg List.toArray (List.map_congr_left (fun j hj => ?_))
 have : j / 4 = 0 := by have := List.mem_range.1 hj; omega
 rw [this, upd_self]
theorem offer_0 (w : World) (g : Nat) (E : S152) (a p q : Int) (h : SB w g 1 (fun _ => E)) :
  Calls Try.prog 92 #[.pointer (some ⟨g, 0, none⟩), .int .i64 a, .int .i64 p, .int .i64 q] w fun e w' => e = .returned (.tuple #[]) ∧ Aside0 (SB w' g 1 (fun _ => offS E a p q) ∧ Chg (fun k => k = g) w w') := by
 have h1 := offer_chg w g 1 0 (fun _ => E) a p q h (by omega)
 rw [Nat.zero_mul] at h1
 refine h1.mono ?_
 rintro _ _ ⟨rfl, H⟩
 refine ⟨rfl, ⟨?_, H.out.2⟩⟩
 have := H.out.1
 unfold SB at this ⊢
 rwa [tabS_one] at this
set_option maxHeartbeats 1000000 in
set_option maxRecDepth 100000 in
theorem tour_0 (w : World) (x : PI) (v : Value) (h : InstC w x v) (hn : x.cost.length = 1) :
  Calls Try.prog 56 #[v] w fun e w' => ∃ vr, e = .returned (.tuple #[vr, .int .i64 0, .bool true]) ∧ Aside0 ((Kd.int .i64).R 3 w' w.heap.size (fun _ => True) vr [0] ∧ Below w.heap.size w w') := by
 obtain ⟨A2, c2, A3, c3, A5, c5, rfl, h2, l2, h3, l3, h5, l5⟩ := h
 rw [hn]
 clear h2 h3 h5 l2 l3 l5 hn
 have hu54 := Try.underlying54
 go_enter Try.func56, Try.ntmps56
 go_wp2_with fail
 have O : Aside0 ((Kd.int .i64).R 3 ((w.alloc (.cells #[.int .i64 x.kind, .int .i64 x.cap, .slice A2 x.items.length c2, .slice A3 1 c3, .int .i64 x.size, .slice A5 x.sets.length c5] 54)).alloc (.cells #[.int .i64 0] 3)) w.heap.size (fun _ => True) (.slice (some ⟨w.heap.size + 1, 0, none⟩) 1 1) [0]) := ⟨by
  have h1 := own_lit (w.alloc (.cells #[.int .i64 x.kind, .int .i64 x.cap, .slice A2 x.items.length c2, .slice A3 1 c3, .int .i64 x.size, .slice A5 x.sets.length c5] 54)) w.heap.size 3 .i64 [0] (by rw [al_size]; omega) (by decide)
  rw [al_size] at h1
  exact Kd.R_of_own (enc := Value.int .i64) h1 (fun _ _ => trivial)⟩
 refine bodyPost_ret (v := .tuple #[.slice (some ⟨w.heap.size + 1, 0, none⟩) 1 1, .int .i64 0, .bool true]) (by simp [results, Try.results56, go_sem]) rfl ?_
 exact ⟨_, rfl, ⟨O.out, below_alloc (below_alloc (Below.refl _ _) _) _⟩⟩
set_option maxHeartbeats 1000000 in
set_option maxRecDepth 100000 in
theorem tour_any (w : World) (x : PI) (v : Value) (h : InstC w x v) (n : Nat) (hn : x.cost.length = n + 1) (hn0 : 0 < n) (h8 : n ≤ 8) (hrows : ∀ r ∈ x.cost, r.length = x.cost.length) (hb : ∀ r ∈ x.cost, ∀ z ∈ r, -2147483648 ≤ z ∧ z ≤ 2147483648) :
  Calls Try.prog 56 #[v] w fun e w' => ∃ vr z, e = .returned (.tuple #[vr, .int .i64 z, .bool true]) ∧ Aside0 ((∃ σ, IsPm n σ ∧ z = rndC (costA x) n σ ∧ (Kd.int .i64).R 3 w' w.heap.size (fun _ => True) vr (0 :: (List.range n).map fun r => ((σ r + 1 : Nat) : Int))) ∧ (∀ σ, IsPm n σ → z ≤ rndC (costA x) n σ) ∧ Below w.heap.size w w') := by
 obtain ⟨A2, c2, A3, c3, A5, c5, rfl, h2, l2, h3, l3, h5, l5⟩ := h
 have H3 := Aside0.mk h3
 have HR := Aside0.mk hrows
 have CB := Aside0.mk (costA_bd hb)
 obtain ⟨c, hc⟩ : ∃ c, c = costA x := ⟨_, rfl⟩
 rw [← hc] at CB ⊢
 have HC := Aside0.mk hc
 obtain ⟨L, hL⟩ : ∃ L, L = x.cost.length := ⟨_, rfl⟩
 rw [← hL] at H3 HR l3 hn ⊢
 have HL := Aside0.mk hL
 clear h2 h3 h5 l2 l3 l5 hrows hb hc hL
 have hu54 := Try.underlying54
 have hu152 := Try.underlying152
 obtain ⟨S, hS⟩ : ∃ S : Nat, S = 2 ^ n := ⟨_, rfl⟩
 obtain ⟨hS5, hS0, e0⟩ := pow_facts hS h8
 have f3 : wrap64 ((2 : Int) ^ min n 64) = (S : Int) := by rw [Nat.min_eq_left (by omega)]; exact wrap_s e0 (by omega)
 have f4 : IntKind.i64.wrap ((2 : Int) ^ min n 64) = (S : Int) := by rw [Nat.min_eq_left (by omega)]; exact wrap_k e0 (by omega)
 have f5 : IntKind.i64.wrap (1 * (2 : Int) ^ min n 64) = (S : Int) := by rw [Int.one_mul]; exact f4
 have f6 : wrap64 (1 * (2 : Int) ^ min n 64) = (S : Int) := by rw [Int.one_mul]; exact f3
 have FP := Aside0.mk (And.intro f3 (And.intro f4 (And.intro f5 (And.intro f6 (And.intro (wrap_s e0 (Nat.le_trans hS5 (by decide))) (wrap_k e0 (Nat.le_trans hS5 (by decide))))))))
 obtain ⟨M, hM⟩ : ∃ M : Nat, M = n * 2 ^ n := ⟨_, rfl⟩
 have hM5 : M ≤ 20000 := by
  rw [hM, ← hS]
  exact Nat.le_trans (Nat.mul_le_mul h8 hS5) (by decide)
 have g1 : wrap64 ((n : Int) * (2 : Int) ^ min n 64) = (M : Int) := by rw [Nat.min_eq_left (by omega)]; exact wrap_s (prod_sh hM) hM5
 have g2 : IntKind.i64.wrap ((n : Int) * (2 : Int) ^ min n 64) = (M : Int) := by rw [Nat.min_eq_left (by omega)]; exact wrap_k (prod_sh hM) hM5
 have g3 : wrap64 ((n : Int) * (2 : Int) ^ n) = (M : Int) := wrap_s (prod_sh hM) hM5
 have g4 : IntKind.i64.wrap ((n : Int) * (2 : Int) ^ n) = (M : Int) := wrap_k (prod_sh hM) hM5
 have mk1 := mkS' hM5
 have HM5 := Aside0.mk hM5
 have HS := Aside0.mk hS
 have HM := Aside0.mk hM
 have hLn : (L : Int) - 1 = (n : Int) := by omega
 have HLN := Aside0.mk hn
 have hl1 : n + 1 ≤ L := by omega
 have hl2 : L ≤ n + 1 := by omega
 have hL0 : 0 < L := by omega
 clear hn
 have hLn2 : wrap64 ((L : Int) - 1) = (n : Int) := wrap_s hLn (Nat.le_trans h8 (by decide))
 clear f3 f4 f5 f6 e0 hS hM hM5
 have hne : ((n : Int) == 0) = false := beq_eq_false_iff_ne.2 (by omega)
 go_enter Try.func56, Try.ntmps56
 go_upto_region 5 with fail
 clear mk1 g1 g2 g3 g4 hLn hLn2
 obtain ⟨W0, hW0⟩ : ∃ W, W = w.alloc (.cells #[.int .i64 x.kind, .int .i64 x.cap, .slice A2 x.items.length c2, .slice A3 L c3, .int .i64 x.size, .slice A5 x.sets.length c5] 54) := ⟨_, rfl⟩
 rw [← hW0]
 have B0 : Aside0 (Below w.heap.size w W0) := ⟨by rw [hW0]; exact below_alloc (Below.refl _ _) _⟩
 obtain ⟨W1, hW1⟩ : ∃ W, W = W0.alloc (.cells (tabS M fun _ => z152) 152) := ⟨_, rfl⟩
 rw [← hW1]
 obtain ⟨g, hg⟩ : ∃ g, g = w.heap.size + 1 := ⟨_, rfl⟩
 rw [← hg]
 have hg2 : g = W0.heap.size := by rw [hg, hW0, al_size]
 have S1 : Aside0 (SB W1 g M (fun _ => z152)) := ⟨by rw [hW1, hg2]; exact heap_alloc_new _ _⟩
 have B1 : Aside0 (Below W0.heap.size W0 W1) := ⟨by rw [hW1]; exact below_alloc (Below.refl _ _) _⟩
 obtain ⟨p1, hp1⟩ : ∃ p, p = w.heap.size := ⟨_, rfl⟩
 have Q0 : Aside0 (W0.heap[p1]? = some (.cells #[.int .i64 x.kind, .int .i64 x.cap, .slice A2 x.items.length c2, .slice A3 L c3, .int .i64 x.size, .slice A5 x.sets.length c5] 54 (0, 0))) := ⟨by rw [hW0, hp1]; exact heap_alloc_new _ _⟩
 rw [← hp1]
 have HG : Aside0 (W0.heap.size ≤ g) := ⟨by omega⟩
 clear hW0 hW1 hg hp1 hg2
 have KE : Aside0 (∃ ar, A3 = some ar) := ⟨by
  obtain ⟨ar, _, _, e, _⟩ := at_L2 H3.out (0 : Int) (by omega) (by omega)
  exact ⟨ar, e⟩⟩
 obtain ⟨ar, e⟩ := KE.out
 subst e
 clear KE
 have ROW : ∀ i : Nat, i < L → ∃ aY cY, w.cell? (ar.add i) = some (.slice (some aY) L cY) ∧ ∀ j : Nat, j < L → w.cell? (aY.add j) = some (.int .i64 (c i j)) := fun i hi => by
  obtain ⟨ar', AY, cY, e, y0, ly, hy⟩ := at_L2 H3.out (i : Int) (by omega) (by omega)
  injection e with e
  subst e
  have hlen : (rd_L2 x.cost (i : Int)).length = L := by
   unfold rd_L2
   rw [Int.toNat_natCast, List.getD_eq_getElem?_getD, List.getElem?_eq_getElem (by rw [← HL.out]; exact hi), Option.getD_some]
   exact HR.out _ (List.getElem_mem _)
  rw [hlen] at y0 hy
  obtain ⟨aY, eY, _⟩ := at_Int hy 0 (by omega)
  subst eY
  rw [Int.toNat_natCast] at y0
  refine ⟨aY, cY, y0, fun j hj => ?_⟩
  obtain ⟨aY', eY, y1⟩ := at_Int hy j hj
  injection eY with eY
  subst eY
  rw [y1, HC.out]
  unfold rd_L2 costA
  rw [Int.toNat_natCast]
 have HROW := Aside0.mk ROW
 clear ROW
 have K0 : Aside0 (∃ T, SB W1 g M T ∧ Bs n c 0 T ∧ Below W0.heap.size W0 W1) := ⟨_, S1.out, Bs.start n c, B1.out⟩
 clear S1 B1
 go_wp2_with fail
 go_loopw [29] (fun v29 wr => ∃ k : Nat, k ≤ n ∧ v29 = .int .i64 (k : Int) ∧ Aside0 (∃ T, SB wr g M T ∧ Bs n c k T ∧ Below W0.heap.size W0 wr)) (fun v29 _ => n - (intOf v29).toNat)
 case atStart => exact ⟨0, Nat.zero_le _, rfl, K0⟩
 case round =>
  clear K0
  obtain ⟨k, hk, rfl, KK⟩ := hrel
  by_cases hlt : k < n
  ·go_upto_region 8 with fail
   obtain ⟨T, t1, t2, t3⟩ := KK.out
   obtain ⟨wo, hwo⟩ : ∃ wo : World, wo = wr := ⟨_, rfl⟩
   rw [← hwo] at t1 t3 ⊢
   clear hwo KK
   obtain ⟨a, ha⟩ : ∃ a : Nat, a = n * 2 ^ k := ⟨_, rfl⟩
   have hX0 : a + k < M := by
    rw [ha, HM.out]
    exact cell_lt (Nat.pow_lt_pow_right (by omega) hlt) hlt
   obtain ⟨X, hX⟩ : ∃ X, X = a + k := ⟨_, rfl⟩
   rw [← hX] at hX0
   have pa := prod_sh ha
   have ha5 : a ≤ 20000 := Nat.le_trans (by rw [hX] at hX0; exact Nat.le_trans (Nat.le_add_right a k) (Nat.le_of_lt hX0)) HM5.out
   have m1 : IntKind.i64.wrap ((n : Int) * (2 : Int) ^ min k 64) = (a : Int) := by rw [Nat.min_eq_left (by omega)]; exact wrap_k pa ha5
   have m2 : IntKind.i64.wrap ((n : Int) * (2 : Int) ^ k) = (a : Int) := wrap_k pa ha5
   have eX : (a : Int) + (k : Int) = (X : Int) := by omega
   have kX : IntKind.i64.wrap (X : Int) = (X : Int) := wrap_k rfl (Nat.le_trans (Nat.le_of_lt hX0) HM5.out)
   have k1 : IntKind.i64.wrap ((k : Int) + 1) = ((k + 1 : Nat) : Int) := by rw [i64_w]; unfold wrap64; omega
   obtain ⟨aY, cY, y0', y1'⟩ := HROW.out 0 (by omega)
   obtain ⟨k', hk'⟩ : ∃ k', k' = k + 1 := ⟨_, rfl⟩
   have y1'' := y1' (k + 1) (by omega)
   rw [← hk'] at y1'' k1
   have hk'L : k' < L := by omega
   have BB := B0.out.trans (t3.mono B0.out.size)
   have z0 : wo.drew.cell? ⟨p1, 3, none⟩ = some (.slice (some ar) L c3) := (blk_cell (blk_below Q0.out t3) 3).trans rfl
   have z1 : wo.drew.cell? ar = some (.slice (some aY) L cY) := pw_cell_below BB y0'
   have z2 : wo.drew.cell? (aY.add k') = some (.int .i64 (c 0 k')) := pw_cell_below BB y1''
   have s0 := t1.c0 hX0
   have s1 := t1.c1 hX0
   have s2 := t1.c2 hX0
   have s3 := t1.c3 hX0
   have sz : ∀ j, wo.frozen? ⟨g, j, none⟩ = false := t1.z
   have KT := Aside0.mk (And.intro t1 (And.intro t2 t3))
   have HX : Aside0 (X = n * 2 ^ k + k ∧ k' = k + 1) := ⟨by rw [hX, ha], hk'⟩
   clear pa ha5 ha hX t1 t2 t3 BB y0' y1' y1'' hk'
   refine start_ (n := 19) (S := fun w' => w'.cell? ⟨p1, 3, none⟩ = some (.slice (some ar) L c3) ∧ w'.cell? ar = some (.slice (some aY) L cY) ∧ w'.cell? (aY.add k') = some (.int .i64 (c 0 k'))) (ds := [18]) #[false, false, false, false, false, false, false, false, false, false, false, false, false, false, false, false, false, false, false] (by kernel_rfl) rfl rfl ⟨z0, z1, z2⟩ (fun hHeld => ?_)
   clear z0 z1 z2
   refine puU 0 (some 32) ?_ rfl rfl (by kernel_rfl) (fun _ _ _ h => h) (Or.inl ⟨by rfl, ?_⟩) ?_ ?_ ?_
   rotate_left
   ·intro w'
    go_simp
    with_reducible rfl
   rotate_left
   ·simp only [Act.put, lsA, lsB, lsC]
    rfl
   refine puU 1 (some 33) ?_ rfl rfl (by kernel_rfl) (fun _ _ _ h => h) (Or.inl ⟨by rfl, ?_⟩) ?_ ?_ ?_
   rotate_left
   ·intro w'
    go_simp
    with_reducible rfl
   rotate_left
   ·simp only [Act.put, lsA, lsB, lsC]
    rfl
   refine puU 2 (some 34) ?_ rfl rfl (by kernel_rfl) (fun _ _ _ h => h) (Or.inl ⟨by rfl, ?_⟩) ?_ ?_ ?_
   rotate_left
   ·intro w'
    go_simp
    with_reducible rfl
   rotate_left
   ·simp only [Act.put, lsA, lsB, lsC]
    rfl
   refine puU 3 (some 35) ?_ rfl rfl (by kernel_rfl) (fun _ _ _ h => h) (Or.inl ⟨by rfl, ?_⟩) ?_ ?_ ?_
   rotate_left
   ·intro w'
    go_simp
    with_reducible rfl
   rotate_left
   ·simp only [Act.put, lsA, lsB, lsC]
    rfl
   refine puU 4 (some 36) ?_ rfl rfl (by kernel_rfl) (fun _ _ _ h => h) (Or.inl ⟨by rfl, ?_⟩) ?_ ?_ ?_
   rotate_left
   ·intro w'
    go_simp
    with_reducible rfl
   rotate_left
   ·simp only [Act.put, lsA, lsB, lsC]
    rfl
   refine puU 5 (some 37) ?_ rfl rfl (by kernel_rfl) (fun _ _ _ h => h) (Or.inl ⟨by rfl, ?_⟩) ?_ ?_ ?_
   rotate_left
   ·intro w'
    go_simp
    with_reducible rfl
   rotate_left
   ·simp only [Act.put, lsA, lsB, lsC]
    rfl
   refine puU 6 (some 38) ?_ rfl rfl (by kernel_rfl) (fun _ _ _ h => h) (Or.inl ⟨by rfl, ?_⟩) ?_ ?_ ?_
   rotate_left
   ·intro w'
    go_simp
    with_reducible rfl
   rotate_left
   ·simp only [Act.put, lsA, lsB, lsC]
    rfl
   refine taU 7 (some 39) ?_ rfl rfl (by kernel_rfl) (fun _ _ _ h => h) (Or.inl ⟨by rfl, ?_⟩) hHeld ?_ ?_ ?_
   rotate_left
   ·rintro w' ⟨s0, s1, s2⟩
    go_simp
    with_reducible rfl
   rotate_left
   ·simp only [Act.put, lsA, lsB, lsC]
    rfl
   refine puU 8 (some 40) ?_ rfl rfl (by kernel_rfl) (fun _ _ _ h => h) (Or.inl ⟨by rfl, ?_⟩) ?_ ?_ ?_
   rotate_left
   ·intro w'
    go_simp
    with_reducible rfl
   rotate_left
   ·simp only [Act.put, lsA, lsB, lsC]
    rfl
   refine taU 9 (some 41) ?_ rfl rfl (by kernel_rfl) (fun _ _ _ h => h) (Or.inl ⟨by rfl, ?_⟩) hHeld ?_ ?_ ?_
   rotate_left
   ·rintro w' ⟨s0, s1, s2⟩
    go_simp
    with_reducible rfl
   rotate_left
   ·simp only [Act.put, lsA, lsB, lsC]
    rfl
   refine puU 10 (some 42) ?_ rfl rfl (by kernel_rfl) (fun _ _ _ h => h) (Or.inl ⟨by rfl, ?_⟩) ?_ ?_ ?_
   rotate_left
   ·intro w'
    go_simp
    with_reducible rfl
   rotate_left
   ·simp only [Act.put, lsA, lsB, lsC]
    rfl
   refine puU 11 (some 43) ?_ rfl rfl (by kernel_rfl) (fun _ _ _ h => h) (Or.inl ⟨by rfl, ?_⟩) ?_ ?_ ?_
   rotate_left
   ·intro w'
    go_simp
    with_reducible rfl
   rotate_left
   ·simp only [Act.put, lsA, lsB, lsC]
    rfl
   refine puU 12 (some 44) ?_ rfl rfl (by kernel_rfl) (fun _ _ _ h => h) (Or.inl ⟨by rfl, ?_⟩) ?_ ?_ ?_
   rotate_left
   ·intro w'
    go_simp
    with_reducible rfl
   rotate_left
   ·simp only [Act.put, lsA, lsB, lsC]
    rfl
   refine taU 13 (some 45) ?_ rfl rfl (by kernel_rfl) (fun _ _ _ h => h) (Or.inl ⟨by rfl, ?_⟩) hHeld ?_ ?_ ?_
   rotate_left
   ·rintro w' ⟨s0, s1, s2⟩
    go_simp
    with_reducible rfl
   rotate_left
   ·simp only [Act.put, lsA, lsB, lsC]
    rfl
   refine puU 14 (some 46) ?_ rfl rfl (by kernel_rfl) (fun _ _ _ h => h) (Or.inl ⟨by rfl, ?_⟩) ?_ ?_ ?_
   rotate_left
   ·intro w'
    go_simp
    with_reducible rfl
   rotate_left
   ·simp only [Act.put, lsA, lsB, lsC]
    rfl
   refine puU 15 (some 47) ?_ rfl rfl (by kernel_rfl) (fun _ _ _ h => h) (Or.inl ⟨by rfl, ?_⟩) ?_ ?_ ?_
   rotate_left
   ·intro w'
    go_simp
    with_reducible rfl
   rotate_left
   ·simp only [Act.put, lsA, lsB, lsC]
    rfl
   refine puU 16 (some 48) ?_ rfl rfl (by kernel_rfl) (fun _ _ _ h => h) (Or.inl ⟨by rfl, ?_⟩) ?_ ?_ ?_
   rotate_left
   ·intro w'
    go_simp
    with_reducible rfl
   rotate_left
   ·simp only [Act.put, lsA, lsB, lsC]
    rfl
   refine puU 17 (some 49) ?_ rfl rfl (by kernel_rfl) (fun _ _ _ h => h) (Or.inl ⟨by rfl, ?_⟩) ?_ ?_ ?_
   rotate_left
   ·intro w'
    go_simp
    with_reducible rfl
   rotate_left
   ·simp only [Act.put, lsA, lsB, lsC]
    rfl
   refine last_ (i := 18) (N := none) #[true, true, true, true, true, true, true, true, true, true, true, true, true, true, true, true, true, true, true] rfl rfl (by kernel_rfl) (by decide) (fun K hK => ?_)
   refine skip_ (w1 := ?_) (by rfl) rfl ?_ ?_
   rotate_left
   ·go_simp
    rfl
   refine hK.out _ _ ?_
   clear hK K
   refine done_ (by kernel_rfl) ?_
   have N1 : Aside0 (∃ T, SB ((((wo.setCell ⟨g, X * 4, none⟩ (.int .i64 (c 0 k'))).setCell ⟨g, X * 4 + 1, none⟩ (.bool true)).setCell ⟨g, X * 4 + 2, none⟩ (.int .i64 (k' : Int))).setCell ⟨g, X * 4 + 3, none⟩ (.int .i64 (-1))).drew g M T ∧ Bs n c (k + 1) T ∧ Below W0.heap.size W0 ((((wo.setCell ⟨g, X * 4, none⟩ (.int .i64 (c 0 k'))).setCell ⟨g, X * 4 + 1, none⟩ (.bool true)).setCell ⟨g, X * 4 + 2, none⟩ (.int .i64 (k' : Int))).setCell ⟨g, X * 4 + 3, none⟩ (.int .i64 (-1))).drew) := ⟨_, KT.out.1.set X ⟨c 0 k', true, (k' : Int), -1⟩, by
    have h1 := KT.out.2.1.put hlt
    rw [← HX.out.1, ← HX.out.2] at h1
    rw [← HX.out.2]
    exact h1, below_drew (set4_below KT.out.2.2 HG.out _ _ _ _ _ _ _ _)⟩
   clear m1 m2 eX kX k1 s0 s1 s2 s3 sz
   go_wp2_with fail
   exact ⟨⟨k + 1, by omega, by go_num, N1⟩, by simp [intOf]; omega⟩
  ·obtain rfl : n = k := by omega
   obtain ⟨f3, f4, f5, f6, f7, f8⟩ := FP.out
   go_upto_region 10 with fail
   go_upto_block 2 with fail
   clear f3 f4 f5 f6 f7 f8
   have K1 : Aside0 (∃ T, SB wr g M T ∧ TrI n c (AheadT n 0 0 0) T ∧ Below W0.heap.size W0 wr) := ⟨by
    obtain ⟨T, t1, t2, t3⟩ := KK.out
    exact ⟨T, t1, t2.tri, t3⟩⟩
   clear KK
   go_wp2_with fail
   go_loopw [53] (fun v53 wr => ∃ u : Nat, u ≤ S ∧ v53 = .int .i64 (u : Int) ∧ Aside0 (∃ T, SB wr g M T ∧ TrI n c (AheadT n u 0 0) T ∧ Below W0.heap.size W0 wr)) (fun v53 _ => S - (intOf v53).toNat)
   case atStart => exact ⟨0, Nat.zero_le _, rfl, K1⟩
   case round =>
    clear K1
    obtain ⟨u, hu, rfl, KU⟩ := hrel
    by_cases hlu : u < S
    ·go_wp2_with fail
     go_loopw [57] (fun v57 wr => ∃ l : Nat, l ≤ n ∧ v57 = .int .i64 (l : Int) ∧ Aside0 (∃ T, SB wr g M T ∧ TrI n c (AheadT n u l 0) T ∧ Below W0.heap.size W0 wr)) (fun v57 _ => n - (intOf v57).toNat)
     case atStart => exact ⟨0, Nat.zero_le _, rfl, KU⟩
     case round =>
      clear KU
      obtain ⟨l, hl, rfl, KL⟩ := hrel
      by_cases hll : l < n
      ·go_upto_region 16 with fail
       obtain ⟨T, t1, t2, t3⟩ := KL.out
       obtain ⟨wo, hwo⟩ : ∃ wo : World, wo = wr := ⟨_, rfl⟩
       rw [← hwo] at t1 t3 ⊢
       clear hwo KL
       obtain ⟨a, ha⟩ : ∃ a : Nat, a = n * u := ⟨_, rfl⟩
       have hX0 : a + l < M := by
        rw [ha, HM.out]
        exact cell_lt (by rw [← HS.out]; exact hlu) hll
       obtain ⟨X, hX⟩ : ∃ X, X = a + l := ⟨_, rfl⟩
       rw [← hX] at hX0
       have pa := prod_cast0 ha
       have ha5 : a ≤ 20000 := Nat.le_trans (by rw [hX] at hX0; exact Nat.le_trans (Nat.le_add_right a l) (Nat.le_of_lt hX0)) HM5.out
       have hX5 : X ≤ 20000 := Nat.le_trans (Nat.le_of_lt hX0) HM5.out
       have m1 : wrap64 ((n : Int) * (u : Int)) = (a : Int) := wrap_s pa ha5
       have m2 : wrap64 (a : Int) = (a : Int) := wrap_small ha5
       have eX : (a : Int) + (l : Int) = (X : Int) := by omega
       have kX : wrap64 (X : Int) = (X : Int) := wrap_small hX5
       have HA := Aside0.mk (And.intro pa (And.intro ha5 (And.intro hX5 eX)))
       have HX : Aside0 (X = n * u + l ∧ a = n * u) := ⟨by rw [hX, ha], ha⟩
       clear ha hX ha5 hX5
       have c0 := t1.c0 hX0
       have c1 := t1.c1 hX0
       have c2' := t1.c2 hX0
       have c3' := t1.c3 hX0
       have sb := t2.bd CB.out X X (Nat.le_refl _)
       have KT := Aside0.mk (And.intro t1 (And.intro t2 t3))
       clear t1 t2 t3
       obtain ⟨s, hs⟩ : ∃ s, s = T X := ⟨_, rfl⟩
       rw [← hs] at c0 c1 c2' c3' sb
       have HS1 := Aside0.mk hs
       clear hs
       obtain ⟨s0, s1, s2, s3⟩ := s
       simp only at c0 c1 c2' c3' sb
       have SB0 := Aside0.mk sb
       clear sb
       go_upto_region 17 with fail
       clear pa m1 m2 eX kX c0 c1 c2' c3'
       obtain ⟨W6, hW6⟩ : ∃ W, W = wo.alloc (.cells #[.int .i64 s0, .bool s1, .int .i64 s2, .int .i64 s3] 152) := ⟨_, rfl⟩
       rw [← hW6]
       obtain ⟨p6, hp6⟩ : ∃ p, p = wo.heap.size := ⟨_, rfl⟩
       have Q6 : Aside0 (W6.heap[p6]? = some (.cells #[.int .i64 s0, .bool s1, .int .i64 s2, .int .i64 s3] 152 (0, 0))) := ⟨by rw [hW6, hp6]; exact heap_alloc_new _ _⟩
       have G6 : Aside0 (p6 ≠ g) := ⟨by
        have := (Array.getElem?_eq_some_iff.1 KT.out.1).1
        omega⟩
       have B6 : Aside0 (Below W0.heap.size W0 W6) := ⟨by rw [hW6]; exact KT.out.2.2.alloc KT.out.2.2.size _⟩
       have J0 : Aside0 (∃ T, SB W6 g M T ∧ TrI n c (AheadT n u l 0) T ∧ T X = ⟨s0, s1, s2, s3⟩ ∧ Chg (fun b => b = g) W6 W6) := ⟨T, by rw [hW6]; exact blk_below KT.out.1 (below_alloc (Below.refl _ _) _), KT.out.2.1, HS1.out.symm, Chg.refl _ _⟩
       rw [← hp6]
       clear hW6 hp6
       go_wp2_with fail
       go_loopw [69] (fun v69 wr => ∃ k : Nat, k ≤ n ∧ v69 = .int .i64 (k : Int) ∧ Aside0 (∃ T, SB wr g M T ∧ TrI n c (AheadT n u l k) T ∧ T X = ⟨s0, s1, s2, s3⟩ ∧ Chg (fun b => b = g) W6 wr)) (fun v69 _ => n - (intOf v69).toNat)
       case atStart => exact ⟨0, Nat.zero_le _, rfl, J0⟩
       case round =>
        clear J0
        obtain ⟨k, hk, rfl, KJ⟩ := hrel
        by_cases hlk : k < n
        ·have q1 : wr.cell? ⟨p6, 1, none⟩ = some (.bool s1) := by
          obtain ⟨T, t1, t2, t3, t4⟩ := KJ.out
          exact (blk_cell (t4.blk Q6.out G6.out) 1).trans rfl
         have hu5 : u < 512 := by omega
         have hk9 : k < 9 := by omega
         have hsh := bit_sh ⟨u, hu5⟩ ⟨k, hk9⟩
         simp only at hsh
         have hmin : min k 64 = k := by omega
         have hmod : (k : Int) < 64 := by omega
         by_cases hbit : u / 2 ^ k % 2 = 0
         ·rw [hbit] at hsh
          have HV : Aside0 (ValT n u l k) := ⟨by rw [← HS.out]; exact hlu, hll, hlk, hbit⟩
          cases s1 with
          | false =>
           have N1 : Aside0 (∃ T, SB wr g M T ∧ TrI n c (AheadT n u l (k + 1)) T ∧ T X = ⟨s0, false, s2, s3⟩ ∧ Chg (fun b => b = g) W6 wr) := ⟨by
            obtain ⟨T, t1, t2, t3, t4⟩ := KJ.out
            exact ⟨T, t1, (t2.skip HV.out.1 HV.out.2.1 HV.out.2.2.1 HV.out.2.2.2 (by rw [← HX.out.1, t3])).same (aheadT_put HV.out), t3, t4⟩⟩
           go_wp2_with fail
           exact ⟨⟨k + 1, by omega, by go_num, N1⟩, by simp [intOf]; omega⟩
          | true =>
           go_upto_region 21 with fail
           clear q1
           obtain ⟨P, hP⟩ : ∃ P : Nat, P = 2 ^ k := ⟨_, rfl⟩
           have hor := bit_or ⟨u, hu5⟩ ⟨k, hk9⟩ hbit
           simp only at hor
           have hP5 : P ≤ 256 := by
            rw [hP]
            exact Nat.le_trans (Nat.pow_le_pow_right (by omega) (show k ≤ 8 by omega)) (by decide)
           have e0 : ((2 : Int) ^ k) = (P : Int) := by rw [hP, Int.natCast_pow]; rfl
           have f1 : IntKind.i64.wrap ((2 : Int) ^ k) = (P : Int) := wrap_k e0 (by omega)
           have f3 : IntKind.i64.wrap ((2 : Int) ^ min k 64) = (P : Int) := by rw [hmin]; exact f1
           have f5 : IntKind.i64.wrap (1 * (2 : Int) ^ min k 64) = (P : Int) := by rw [Int.one_mul]; exact f3
           rw [e0, ← hP] at hor
           obtain ⟨V, hV⟩ : ∃ V, V = u + P := ⟨_, rfl⟩
           rw [← hV] at hor
           have hVS : V < 2 ^ n := by
            rw [hV, hP]
            exact bit_lt n k u (by rw [← HS.out]; exact hlu) hlk hbit
           obtain ⟨b, hb⟩ : ∃ b : Nat, b = n * V := ⟨_, rfl⟩
           have hY0 : b + k < M := by
            rw [hb, HM.out]
            exact cell_lt hVS hlk
           obtain ⟨Y, hY⟩ : ∃ Y, Y = b + k := ⟨_, rfl⟩
           rw [← hY] at hY0
           have pb := prod_cast0 hb
           have hb5 : b ≤ 20000 := Nat.le_trans (by rw [hY] at hY0; exact Nat.le_trans (Nat.le_add_right b k) (Nat.le_of_lt hY0)) HM5.out
           have m1 : IntKind.i64.wrap ((n : Int) * (V : Int)) = (b : Int) := wrap_k pb hb5
           have m2 : IntKind.i64.wrap (b : Int) = (b : Int) := wrap_k rfl hb5
           have eY : (b : Int) + (k : Int) = (Y : Int) := by omega
           have kY : IntKind.i64.wrap (Y : Int) = (Y : Int) := wrap_k rfl (Nat.le_trans (Nat.le_of_lt hY0) HM5.out)
           obtain ⟨pa, ha5, hX5, eX⟩ := HA.out
           have n1 : IntKind.i64.wrap ((n : Int) * (u : Int)) = (a : Int) := wrap_k pa ha5
           have n2 : IntKind.i64.wrap (a : Int) = (a : Int) := wrap_k rfl ha5
           have kX : IntKind.i64.wrap (X : Int) = (X : Int) := wrap_k rfl hX5
           obtain ⟨k', hk'⟩ : ∃ k', k' = k + 1 := ⟨_, rfl⟩
           obtain ⟨l', hl'⟩ : ∃ l', l' = l + 1 := ⟨_, rfl⟩
           have k1 : IntKind.i64.wrap ((k : Int) + 1) = (k' : Int) := by rw [i64_w, hk']; unfold wrap64; omega
           have l1 : IntKind.i64.wrap ((l : Int) + 1) = (l' : Int) := by rw [i64_w, hl']; unfold wrap64; omega
           have hk'L : k' < L := by omega
           have hl'L : l' < L := by omega
           obtain ⟨aY, cY, y0', y1'⟩ := HROW.out l' hl'L
           have y1'' := y1' k' hk'L
           obtain ⟨cv, hcv⟩ : ∃ z, z = c l' k' := ⟨_, rfl⟩
           rw [← hcv] at y1''
           have cb : -2147483648 ≤ cv ∧ cv ≤ 2147483648 := by rw [hcv]; exact CB.out _ _
           have sb := SB0.out rfl
           have v1 : wrap64 (s0 + cv) = s0 + cv := by unfold wrap64; omega
           have v2 : IntKind.i64.wrap (s0 + cv) = s0 + cv := by rw [i64_w]; exact v1
           obtain ⟨T', t1, t2, t3, t4⟩ := KJ.out
           obtain ⟨wq, hwq⟩ : ∃ wq : World, wq = wr := ⟨_, rfl⟩
           rw [← hwq] at t1 t4 ⊢
           clear hwq KJ
           have BQ : Below w.heap.size w wq.drew := below_drew (B0.out.trans (((Chg.of_below B6.out).then_ t4 (fun b hb e => by have := HG.out; omega) |>.below (fun b hb h => h)).mono B0.out.size))
           have z0 : wq.drew.cell? ⟨p6, 0, none⟩ = some (.int .i64 s0) := (blk_cell (t4.blk Q6.out G6.out) 0).trans rfl
           have z1 : wq.drew.cell? ⟨p1, 3, none⟩ = some (.slice (some ar) L c3) := (blk_cell (blk_below Q0.out ((Chg.of_below B6.out).then_ t4 (fun b hb e => by have := HG.out; omega) |>.below (fun b hb h => h))) 3).trans rfl
           have z2 : wq.drew.cell? (ar.add l') = some (.slice (some aY) L cY) := pw_cell_below BQ y0'
           have z3 : wq.drew.cell? (aY.add k') = some (.int .i64 cv) := pw_cell_below BQ y1''
           have KT2 := Aside0.mk (And.intro t1 (And.intro t2 (And.intro t3 t4)))
           have HY : Aside0 (Y = n * (u + 2 ^ k) + k ∧ k' = k + 1 ∧ l' = l + 1 ∧ cv = c l' k') := ⟨by rw [hY, hb, hV, hP], hk', hl', hcv⟩
           clear e0 hP hV hVS hb hY pb hb5 pa ha5 hX5 hk' hl' y0' y1' y1'' hcv cb sb t1 t2 t3 t4 BQ hsh hbit hu hk hl hP5
           refine start_ (n := 31) (S := fun w' => w'.cell? ⟨p6, 0, none⟩ = some (.int .i64 s0) ∧ w'.cell? ⟨p1, 3, none⟩ = some (.slice (some ar) L c3) ∧ w'.cell? (ar.add l') = some (.slice (some aY) L cY) ∧ w'.cell? (aY.add k') = some (.int .i64 cv)) (ds := [30]) #[false, false, false, false, false, false, false, false, false, false, false, false, false, false, false, false, false, false, false, false, false, false, false, false, false, false, false, false, false, false, false] (by kernel_rfl) rfl rfl ⟨z0, z1, z2, z3⟩ (fun hHeld => ?_)
           clear z0 z1 z2 z3
           refine puU 0 (some 81) ?_ rfl rfl (by kernel_rfl) (fun _ _ _ h => h) (Or.inl ⟨by rfl, ?_⟩) ?_ ?_ ?_
           rotate_left
           ·intro w'
            go_simp
            with_reducible rfl
           rotate_left
           ·simp only [Act.put, lsA, lsB, lsC]
            rfl
           refine puU 1 (some 82) ?_ rfl rfl (by kernel_rfl) (fun _ _ _ h => h) (Or.inl ⟨by rfl, ?_⟩) ?_ ?_ ?_
           rotate_left
           ·intro w'
            go_simp
            with_reducible rfl
           rotate_left
           ·simp only [Act.put, lsA, lsB, lsC]
            rfl
           refine puU 2 (some 83) ?_ rfl rfl (by kernel_rfl) (fun _ _ _ h => h) (Or.inl ⟨by rfl, ?_⟩) ?_ ?_ ?_
           rotate_left
           ·intro w'
            go_simp
            with_reducible rfl
           rotate_left
           ·simp only [Act.put, lsA, lsB, lsC]
            rfl
           refine puU 3 (some 84) ?_ rfl rfl (by kernel_rfl) (fun _ _ _ h => h) (Or.inl ⟨by rfl, ?_⟩) ?_ ?_ ?_
           rotate_left
           ·intro w'
            go_simp
            with_reducible rfl
           rotate_left
           ·simp only [Act.put, lsA, lsB, lsC]
            rfl
           refine puU 4 (some 85) ?_ rfl rfl (by kernel_rfl) (fun _ _ _ h => h) (Or.inl ⟨by rfl, ?_⟩) ?_ ?_ ?_
           rotate_left
           ·intro w'
            go_simp
            with_reducible rfl
           rotate_left
           ·simp only [Act.put, lsA, lsB, lsC]
            rfl
           refine puU 5 (some 86) ?_ rfl rfl (by kernel_rfl) (fun _ _ _ h => h) (Or.inl ⟨by rfl, ?_⟩) ?_ ?_ ?_
           rotate_left
           ·intro w'
            go_simp
            with_reducible rfl
           rotate_left
           ·simp only [Act.put, lsA, lsB, lsC]
            rfl
           refine puU 6 (some 87) ?_ rfl rfl (by kernel_rfl) (fun _ _ _ h => h) (Or.inl ⟨by rfl, ?_⟩) ?_ ?_ ?_
           rotate_left
           ·intro w'
            go_simp
            with_reducible rfl
           rotate_left
           ·simp only [Act.put, lsA, lsB, lsC]
            rfl
           refine puU 7 (some 88) ?_ rfl rfl (by kernel_rfl) (fun _ _ _ h => h) (Or.inl ⟨by rfl, ?_⟩) ?_ ?_ ?_
           rotate_left
           ·intro w'
            go_simp
            with_reducible rfl
           rotate_left
           ·simp only [Act.put, lsA, lsB, lsC]
            rfl
           refine puU 8 (some 89) ?_ rfl rfl (by kernel_rfl) (fun _ _ _ h => h) (Or.inl ⟨by rfl, ?_⟩) ?_ ?_ ?_
           rotate_left
           ·intro w'
            go_simp
            with_reducible rfl
           rotate_left
           ·simp only [Act.put, lsA, lsB, lsC]
            rfl
           refine puU 9 (some 90) ?_ rfl rfl (by kernel_rfl) (fun _ _ _ h => h) (Or.inl ⟨by rfl, ?_⟩) ?_ ?_ ?_
           rotate_left
           ·intro w'
            go_simp
            with_reducible rfl
           rotate_left
           ·simp only [Act.put, lsA, lsB, lsC]
            rfl
           refine puU 10 (some 91) ?_ rfl rfl (by kernel_rfl) (fun _ _ _ h => h) (Or.inl ⟨by rfl, ?_⟩) ?_ ?_ ?_
           rotate_left
           ·intro w'
            go_simp
            with_reducible rfl
           rotate_left
           ·simp only [Act.put, lsA, lsB, lsC]
            rfl
           refine taU 11 (some 92) ?_ rfl rfl (by kernel_rfl) (fun _ _ _ h => h) (Or.inl ⟨by rfl, ?_⟩) hHeld ?_ ?_ ?_
           rotate_left
           ·rintro w' ⟨s0, s1, s2, s3⟩
            go_simp
            with_reducible rfl
           rotate_left
           ·simp only [Act.put, lsA, lsB, lsC]
            rfl
           refine puU 12 (some 93) ?_ rfl rfl (by kernel_rfl) (fun _ _ _ h => h) (Or.inl ⟨by rfl, ?_⟩) ?_ ?_ ?_
           rotate_left
           ·intro w'
            go_simp
            with_reducible rfl
           rotate_left
           ·simp only [Act.put, lsA, lsB, lsC]
            rfl
           refine taU 13 (some 94) ?_ rfl rfl (by kernel_rfl) (fun _ _ _ h => h) (Or.inl ⟨by rfl, ?_⟩) hHeld ?_ ?_ ?_
           rotate_left
           ·rintro w' ⟨s0, s1, s2, s3⟩
            go_simp
            with_reducible rfl
           rotate_left
           ·simp only [Act.put, lsA, lsB, lsC]
            rfl
           refine puU 14 (some 95) ?_ rfl rfl (by kernel_rfl) (fun _ _ _ h => h) (Or.inl ⟨by rfl, ?_⟩) ?_ ?_ ?_
           rotate_left
           ·intro w'
            go_simp
            with_reducible rfl
           rotate_left
           ·simp only [Act.put, lsA, lsB, lsC]
            rfl
           refine puU 15 (some 96) ?_ rfl rfl (by kernel_rfl) (fun _ _ _ h => h) (Or.inl ⟨by rfl, ?_⟩) ?_ ?_ ?_
           rotate_left
           ·intro w'
            go_simp
            with_reducible rfl
           rotate_left
           ·simp only [Act.put, lsA, lsB, lsC]
            rfl
           refine puU 16 (some 97) ?_ rfl rfl (by kernel_rfl) (fun _ _ _ h => h) (Or.inl ⟨by rfl, ?_⟩) ?_ ?_ ?_
           rotate_left
           ·intro w'
            go_simp
            with_reducible rfl
           rotate_left
           ·simp only [Act.put, lsA, lsB, lsC]
            rfl
           refine taU 17 (some 98) ?_ rfl rfl (by kernel_rfl) (fun _ _ _ h => h) (Or.inl ⟨by rfl, ?_⟩) hHeld ?_ ?_ ?_
           rotate_left
           ·rintro w' ⟨s0, s1, s2, s3⟩
            go_simp
            with_reducible rfl
           rotate_left
           ·simp only [Act.put, lsA, lsB, lsC]
            rfl
           refine puU 18 (some 99) ?_ rfl rfl (by kernel_rfl) (fun _ _ _ h => h) (Or.inl ⟨by rfl, ?_⟩) ?_ ?_ ?_
           rotate_left
           ·intro w'
            go_simp
            with_reducible rfl
           rotate_left
           ·simp only [Act.put, lsA, lsB, lsC]
            rfl
           refine puU 19 (some 100) ?_ rfl rfl (by kernel_rfl) (fun _ _ _ h => h) (Or.inl ⟨by rfl, ?_⟩) ?_ ?_ ?_
           rotate_left
           ·intro w'
            go_simp
            with_reducible rfl
           rotate_left
           ·simp only [Act.put, lsA, lsB, lsC]
            rfl
           refine puU 20 (some 101) ?_ rfl rfl (by kernel_rfl) (fun _ _ _ h => h) (Or.inl ⟨by rfl, ?_⟩) ?_ ?_ ?_
           rotate_left
           ·intro w'
            go_simp
            with_reducible rfl
           rotate_left
           ·simp only [Act.put, lsA, lsB, lsC]
            rfl
           refine taU 21 (some 102) ?_ rfl rfl (by kernel_rfl) (fun _ _ _ h => h) (Or.inl ⟨by rfl, ?_⟩) hHeld ?_ ?_ ?_
           rotate_left
           ·rintro w' ⟨s0, s1, s2, s3⟩
            go_simp
            with_reducible rfl
           rotate_left
           ·simp only [Act.put, lsA, lsB, lsC]
            rfl
           refine puU 22 (some 103) ?_ rfl rfl (by kernel_rfl) (fun _ _ _ h => h) (Or.inl ⟨by rfl, ?_⟩) ?_ ?_ ?_
           rotate_left
           ·intro w'
            go_simp
            with_reducible rfl
           rotate_left
           ·simp only [Act.put, lsA, lsB, lsC]
            rfl
           refine puU 23 (some 104) ?_ rfl rfl (by kernel_rfl) (fun _ _ _ h => h) (Or.inl ⟨by rfl, ?_⟩) ?_ ?_ ?_
           rotate_left
           ·intro w'
            go_simp
            with_reducible rfl
           rotate_left
           ·simp only [Act.put, lsA, lsB, lsC]
            rfl
           refine puU 24 (some 105) ?_ rfl rfl (by kernel_rfl) (fun _ _ _ h => h) (Or.inl ⟨by rfl, ?_⟩) ?_ ?_ ?_
           rotate_left
           ·intro w'
            go_simp
            with_reducible rfl
           rotate_left
           ·simp only [Act.put, lsA, lsB, lsC]
            rfl
           refine puU 25 (some 106) ?_ rfl rfl (by kernel_rfl) (fun _ _ _ h => h) (Or.inl ⟨by rfl, ?_⟩) ?_ ?_ ?_
           rotate_left
           ·intro w'
            go_simp
            with_reducible rfl
           rotate_left
           ·simp only [Act.put, lsA, lsB, lsC]
            rfl
           refine puU 26 (some 107) ?_ rfl rfl (by kernel_rfl) (fun _ _ _ h => h) (Or.inl ⟨by rfl, ?_⟩) ?_ ?_ ?_
           rotate_left
           ·intro w'
            go_simp
            with_reducible rfl
           rotate_left
           ·simp only [Act.put, lsA, lsB, lsC]
            rfl
           refine puU 27 (some 108) ?_ rfl rfl (by kernel_rfl) (fun _ _ _ h => h) (Or.inl ⟨by rfl, ?_⟩) ?_ ?_ ?_
           rotate_left
           ·intro w'
            go_simp
            with_reducible rfl
           rotate_left
           ·simp only [Act.put, lsA, lsB, lsC]
            rfl
           refine puU 28 (some 109) ?_ rfl rfl (by kernel_rfl) (fun _ _ _ h => h) (Or.inl ⟨by rfl, ?_⟩) ?_ ?_ ?_
           rotate_left
           ·intro w'
            go_simp
            with_reducible rfl
           rotate_left
           ·simp only [Act.put, lsA, lsB, lsC]
            rfl
           refine puU 29 (some 110) ?_ rfl rfl (by kernel_rfl) (fun _ _ _ h => h) (Or.inl ⟨by rfl, ?_⟩) ?_ ?_ ?_
           rotate_left
           ·intro w'
            go_simp
            with_reducible rfl
           rotate_left
           ·simp only [Act.put, lsA, lsB, lsC]
            rfl
           refine last_ (i := 30) (N := some 111) #[true, true, true, true, true, true, true, true, true, true, true, true, true, true, true, true, true, true, true, true, true, true, true, true, true, true, true, true, true, true, true] rfl rfl (by kernel_rfl) (by decide) (fun K hK => ?_)
           refine goes_ Try.func92 (by kernel_rfl) rfl #[.pointer (some ⟨g, Y * 4, none⟩), .int .i64 (s0 + cv), .int .i64 (k' : Int), .int .i64 (X : Int)] (by rfl) rfl rfl (by (try simp only [List.map_toArray, List.map_cons, List.map_nil]); first | done | rfl) ?_
           refine (offer_chg wq.drew g M Y T' _ _ _ KT2.out.1 hY0).mono ?_
           rintro _ w7 ⟨rfl, H7⟩
           refine ⟨_, rfl, ?_⟩
           refine hK.out _ _ ?_
           clear hK K
           refine norm_ (a' := ?_) ?_ ?_
           rotate_left
           ·show Act.put _ (some 111) _ = _
            simp only [Act.put, lsA, lsB, lsC]
            rfl
           refine done_ (by kernel_rfl) ?_
           have N1 : Aside0 (∃ T, SB w7 g M T ∧ TrI n c (AheadT n u l (k + 1)) T ∧ T X = ⟨s0, true, s2, s3⟩ ∧ Chg (fun b => b = g) W6 w7) := ⟨_, H7.out.1, by
            have h1 := KT2.out.2.1.put HV.out.1 HV.out.2.1 HV.out.2.2.1 HV.out.2.2.2 (fun _ _ _ hh => aheadT_le hh) (by rw [← HX.out.1, KT2.out.2.2.1])
            rw [← HX.out.1, ← HY.out.1, KT2.out.2.2.1, ← HY.out.2.1, ← HY.out.2.2.1, ← HY.out.2.2.2] at h1
            exact h1.same (aheadT_put HV.out), by
            rw [upd_ne _ _ (by
             have h1 := cell_lt (n := n) (show u < u + 2 ^ k by have : 0 < 2 ^ k := Nat.pow_pos (by omega); omega) hll
             rw [HX.out.1, HY.out.1]
             omega)]
            exact KT2.out.2.2.1, (KT2.out.2.2.2.drew).trans H7.out.2⟩
           clear hHeld f1 f3 f5 hor m1 m2 eY kY n1 n2 eX kX k1 l1 v1 v2
           go_wp2_with fail
           exact ⟨⟨k + 1, by omega, by go_num, N1⟩, by simp [intOf]; omega⟩
         ·have hb1 : u / 2 ^ k % 2 = 1 := by omega
          rw [hb1] at hsh
          have N1 : Aside0 (∃ T, SB wr g M T ∧ TrI n c (AheadT n u l (k + 1)) T ∧ T X = ⟨s0, s1, s2, s3⟩ ∧ Chg (fun b => b = g) W6 wr) := ⟨by
           obtain ⟨T, t1, t2, t3, t4⟩ := KJ.out
           exact ⟨T, t1, t2.same (aheadT_not (fun h => hbit h.2.2.2)), t3, t4⟩⟩
          cases s1 with
          | false =>
           go_wp2_with fail
           exact ⟨⟨k + 1, by omega, by go_num, N1⟩, by simp [intOf]; omega⟩
          | true =>
           go_wp2_with fail
           exact ⟨⟨k + 1, by omega, by go_num, N1⟩, by simp [intOf]; omega⟩
        ·obtain rfl : n = k := by omega
         have N1 : Aside0 (∃ T, SB wr g M T ∧ TrI n c (AheadT n u (l + 1) 0) T ∧ Below W0.heap.size W0 wr) := ⟨by
          obtain ⟨T, t1, t2, t3, t4⟩ := KJ.out
          exact ⟨T, t1, t2.same aheadT_row, (Chg.of_below B6.out).then_ t4 (fun b hb e => by have := HG.out; omega) |>.below (fun b hb h => h)⟩⟩
         go_wp2_with fail
         exact ⟨⟨l + 1, by omega, by go_num, N1⟩, by simp [intOf]; omega⟩
      ·obtain rfl : n = l := by omega
       have N1 : Aside0 (∃ T, SB wr g M T ∧ TrI n c (AheadT n (u + 1) 0 0) T ∧ Below W0.heap.size W0 wr) := ⟨by
        obtain ⟨T, t1, t2, t3⟩ := KL.out
        exact ⟨T, t1, t2.same aheadT_set, t3⟩⟩
       go_wp2_with fail
       exact ⟨⟨u + 1, by omega, by go_num, N1⟩, by simp [intOf]; omega⟩
    ·obtain rfl : S = u := by omega
     obtain ⟨T, t1, t2, t3⟩ := KU.out
     obtain ⟨wo, hwo⟩ : ∃ wo : World, wo = wr := ⟨_, rfl⟩
     rw [← hwo] at t1 t3 ⊢
     clear hwo KU
     go_upto_region 26 with fail
     obtain ⟨W8, hW8⟩ : ∃ W, W = wo.alloc (.cells #[.int .i64 0, .bool false, .int .i64 0, .int .i64 0] 152) := ⟨_, rfl⟩
     rw [← hW8]
     obtain ⟨pe, hpe⟩ : ∃ p, p = wo.heap.size := ⟨_, rfl⟩
     have SE : Aside0 (SB W8 pe 1 (fun _ => z152)) := ⟨by rw [hW8, hpe]; exact heap_alloc_new _ _⟩
     have G8 : Aside0 (g ≠ pe ∧ W0.heap.size ≤ pe) := ⟨by
      have := (Array.getElem?_eq_some_iff.1 t1).1
      have h2 := t3.size
      omega⟩
     have KT : Aside0 (SB W8 g M T ∧ TrI n c (AheadT n (2 ^ n) 0 0) T ∧ Below W0.heap.size W0 W8) := ⟨by rw [hW8]; exact blk_below t1 (below_alloc (Below.refl _ _) _), by rw [← HS.out]; exact t2, by rw [hW8]; exact t3.alloc t3.size _⟩
     rw [← hpe]
     clear hW8 hpe t1 t2 t3
     have J0 : Aside0 (∃ E, SB W8 pe 1 (fun _ => E) ∧ EndI (fun j => (T (n * (2 ^ n - 1) + j)).f0 + c (j + 1) 0) (fun j => n * (2 ^ n - 1) + j) 0 E ∧ Chg (fun b => b = pe) W8 W8) := ⟨_, SE.out, EndI.start _ _, Chg.refl _ _⟩
     go_wp2_with fail
     go_loopw [116] (fun v116 wr => ∃ l : Nat, l ≤ n ∧ v116 = .int .i64 (l : Int) ∧ Aside0 (∃ E, SB wr pe 1 (fun _ => E) ∧ EndI (fun j => (T (n * (2 ^ n - 1) + j)).f0 + c (j + 1) 0) (fun j => n * (2 ^ n - 1) + j) l E ∧ Chg (fun b => b = pe) W8 wr)) (fun v116 _ => n - (intOf v116).toNat)
     case atStart => exact ⟨0, Nat.zero_le _, rfl, J0⟩
     case round =>
      clear J0
      obtain ⟨l, hl, rfl, KJ⟩ := hrel
      by_cases hll : l < n
      ·go_upto_region 29 with fail
       clear hl
       obtain ⟨f3, f4, f5, f6, f7, f8⟩ := FP.out
       obtain ⟨D, hD⟩ : ∃ D, S = D + 1 := ⟨S - 1, by omega⟩
       have d1 : (S : Int) - 1 = (D : Int) := by omega
       have HD : Aside0 (D = 2 ^ n - 1) := ⟨by rw [← HS.out]; omega⟩
       obtain ⟨b, hb⟩ : ∃ b : Nat, b = n * D := ⟨_, rfl⟩
       have hX0 : b + l < M := by
        rw [hb, HM.out]
        exact cell_lt (by rw [← HS.out]; omega) hll
       obtain ⟨X, hX⟩ : ∃ X, X = b + l := ⟨_, rfl⟩
       rw [← hX] at hX0
       have pb := prod_cast0 hb
       have hb5 : b ≤ 20000 := Nat.le_trans (by rw [hX] at hX0; exact Nat.le_trans (Nat.le_add_right b l) (Nat.le_of_lt hX0)) HM5.out
       have m1 : wrap64 ((n : Int) * (D : Int)) = (b : Int) := wrap_s pb hb5
       have m2 : wrap64 (b : Int) = (b : Int) := wrap_small hb5
       have eX : (b : Int) + (l : Int) = (X : Int) := by omega
       have hX5 : X ≤ 20000 := Nat.le_trans (Nat.le_of_lt hX0) HM5.out
       have kX : wrap64 (X : Int) = (X : Int) := wrap_small hX5
       have HX5 := Aside0.mk hX5
       have HX : Aside0 (X = n * (2 ^ n - 1) + l) := ⟨by rw [hX, hb, HD.out]⟩
       clear hD hb hX hX5 hb5
       go_upto_region 30 with fail
       try rw [kX]
       clear f3 f4 f5 f6 f7 f8 d1 pb m1 m2 eX kX
       obtain ⟨l', hl'⟩ : ∃ l', l' = l + 1 := ⟨_, rfl⟩
       have l1 : IntKind.i64.wrap ((l : Int) + 1) = (l' : Int) := by rw [i64_w, hl']; unfold wrap64; omega
       have hl'L : l' < L := by omega
       obtain ⟨aY, cY, y0', y1'⟩ := HROW.out l' hl'L
       have y1'' := y1' 0 hL0
       obtain ⟨cv, hcv⟩ : ∃ z, z = c l' 0 := ⟨_, rfl⟩
       rw [← hcv] at y1''
       have cb : -2147483648 ≤ cv ∧ cv ≤ 2147483648 := by rw [hcv]; exact CB.out _ _
       have sb := KT.out.2.1.bd CB.out X X (Nat.le_refl _) (by rw [HX.out]; exact KT.out.2.1.there (fun u l k hu hl hk hb => ⟨⟨hu, hl, hk, hb⟩, .inl hu⟩) hll)
       obtain ⟨sX, hsX⟩ : ∃ z, z = (T X).f0 := ⟨_, rfl⟩
       rw [← hsX] at sb
       have hX5 := HX5.out
       have v1 : wrap64 (sX + cv) = sX + cv := by unfold wrap64; omega
       have v2 : IntKind.i64.wrap (sX + cv) = sX + cv := by rw [i64_w]; exact v1
       obtain ⟨E, t1, t2, t3⟩ := KJ.out
       obtain ⟨wq, hwq⟩ : ∃ wq : World, wq = wr := ⟨_, rfl⟩
       rw [← hwq] at t1 t3 ⊢
       clear hwq KJ hX5
       have SQ : SB wq.drew g M T := t3.drew.blk KT.out.1 G8.out.1
       have BQ : Below W0.heap.size W0 wq.drew := (Chg.of_below KT.out.2.2).then_ t3.drew (fun b hb e => by have := G8.out.2; omega) |>.below (fun b hb h => h)
       have z0 : wq.drew.cell? ⟨g, X * 4, none⟩ = some (.int .i64 sX) := by rw [hsX]; exact SQ.c0 hX0
       have z1 : wq.drew.cell? ⟨p1, 3, none⟩ = some (.slice (some ar) L c3) := (blk_cell (blk_below Q0.out BQ) 3).trans rfl
       have z2 : wq.drew.cell? (ar.add l') = some (.slice (some aY) L cY) := pw_cell_below (B0.out.trans (BQ.mono B0.out.size)) y0'
       have z3 : wq.drew.cell? aY = some (.int .i64 cv) := pw_cell_below (B0.out.trans (BQ.mono B0.out.size)) y1''
       have KE := Aside0.mk (And.intro t1 (And.intro t2 t3))
       have HV : Aside0 (sX + cv = (T (n * (2 ^ n - 1) + l)).f0 + c (l + 1) 0) := ⟨by rw [hsX, hcv, HX.out, hl']⟩
       clear hl' y0' y1' y1'' hcv cb sb hsX t1 t2 t3 SQ BQ
       refine start_ (n := 16) (S := fun w' => w'.cell? ⟨g, X * 4, none⟩ = some (.int .i64 sX) ∧ w'.cell? ⟨p1, 3, none⟩ = some (.slice (some ar) L c3) ∧ w'.cell? (ar.add l') = some (.slice (some aY) L cY) ∧ w'.cell? aY = some (.int .i64 cv)) (ds := [15]) #[false, false, false, false, false, false, false, false, false, false, false, false, false, false, false, false] (by kernel_rfl) rfl rfl ⟨z0, z1, z2, z3⟩ (fun hHeld => ?_)
       clear z0 z1 z2 z3
       refine puU 0 (some 126) ?_ rfl rfl (by kernel_rfl) (fun _ _ _ h => h) (Or.inl ⟨by rfl, ?_⟩) ?_ ?_ ?_
       rotate_left
       ·intro w'
        go_simp
        with_reducible rfl
       rotate_left
       ·simp only [Act.put, lsA, lsB, lsC]
        rfl
       refine puU 1 (some 127) ?_ rfl rfl (by kernel_rfl) (fun _ _ _ h => h) (Or.inl ⟨by rfl, ?_⟩) ?_ ?_ ?_
       rotate_left
       ·intro w'
        go_simp
        with_reducible rfl
       rotate_left
       ·simp only [Act.put, lsA, lsB, lsC]
        rfl
       refine puU 2 (some 128) ?_ rfl rfl (by kernel_rfl) (fun _ _ _ h => h) (Or.inl ⟨by rfl, ?_⟩) ?_ ?_ ?_
       rotate_left
       ·intro w'
        go_simp
        with_reducible rfl
       rotate_left
       ·simp only [Act.put, lsA, lsB, lsC]
        rfl
       refine puU 3 (some 129) ?_ rfl rfl (by kernel_rfl) (fun _ _ _ h => h) (Or.inl ⟨by rfl, ?_⟩) ?_ ?_ ?_
       rotate_left
       ·intro w'
        go_simp
        with_reducible rfl
       rotate_left
       ·simp only [Act.put, lsA, lsB, lsC]
        rfl
       refine taU 4 (some 130) ?_ rfl rfl (by kernel_rfl) (fun _ _ _ h => h) (Or.inl ⟨by rfl, ?_⟩) hHeld ?_ ?_ ?_
       rotate_left
       ·rintro w' ⟨s0, s1, s2, s3⟩
        go_simp
        with_reducible rfl
       rotate_left
       ·simp only [Act.put, lsA, lsB, lsC]
        rfl
       refine puU 5 (some 131) ?_ rfl rfl (by kernel_rfl) (fun _ _ _ h => h) (Or.inl ⟨by rfl, ?_⟩) ?_ ?_ ?_
       rotate_left
       ·intro w'
        go_simp
        with_reducible rfl
       rotate_left
       ·simp only [Act.put, lsA, lsB, lsC]
        rfl
       refine taU 6 (some 132) ?_ rfl rfl (by kernel_rfl) (fun _ _ _ h => h) (Or.inl ⟨by rfl, ?_⟩) hHeld ?_ ?_ ?_
       rotate_left
       ·rintro w' ⟨s0, s1, s2, s3⟩
        go_simp
        with_reducible rfl
       rotate_left
       ·simp only [Act.put, lsA, lsB, lsC]
        rfl
       refine puU 7 (some 133) ?_ rfl rfl (by kernel_rfl) (fun _ _ _ h => h) (Or.inl ⟨by rfl, ?_⟩) ?_ ?_ ?_
       rotate_left
       ·intro w'
        go_simp
        with_reducible rfl
       rotate_left
       ·simp only [Act.put, lsA, lsB, lsC]
        rfl
       refine puU 8 (some 134) ?_ rfl rfl (by kernel_rfl) (fun _ _ _ h => h) (Or.inl ⟨by rfl, ?_⟩) ?_ ?_ ?_
       rotate_left
       ·intro w'
        go_simp
        with_reducible rfl
       rotate_left
       ·simp only [Act.put, lsA, lsB, lsC]
        rfl
       refine puU 9 (some 135) ?_ rfl rfl (by kernel_rfl) (fun _ _ _ h => h) (Or.inl ⟨by rfl, ?_⟩) ?_ ?_ ?_
       rotate_left
       ·intro w'
        go_simp
        with_reducible rfl
       rotate_left
       ·simp only [Act.put, lsA, lsB, lsC]
        rfl
       refine taU 10 (some 136) ?_ rfl rfl (by kernel_rfl) (fun _ _ _ h => h) (Or.inl ⟨by rfl, ?_⟩) hHeld ?_ ?_ ?_
       rotate_left
       ·rintro w' ⟨s0, s1, s2, s3⟩
        go_simp
        with_reducible rfl
       rotate_left
       ·simp only [Act.put, lsA, lsB, lsC]
        rfl
       refine puU 11 (some 137) ?_ rfl rfl (by kernel_rfl) (fun _ _ _ h => h) (Or.inl ⟨by rfl, ?_⟩) ?_ ?_ ?_
       rotate_left
       ·intro w'
        go_simp
        with_reducible rfl
       rotate_left
       ·simp only [Act.put, lsA, lsB, lsC]
        rfl
       refine taU 12 (some 138) ?_ rfl rfl (by kernel_rfl) (fun _ _ _ h => h) (Or.inl ⟨by rfl, ?_⟩) hHeld ?_ ?_ ?_
       rotate_left
       ·rintro w' ⟨s0, s1, s2, s3⟩
        go_simp
        with_reducible rfl
       rotate_left
       ·simp only [Act.put, lsA, lsB, lsC]
        rfl
       refine puU 13 (some 139) ?_ rfl rfl (by kernel_rfl) (fun _ _ _ h => h) (Or.inl ⟨by rfl, ?_⟩) ?_ ?_ ?_
       rotate_left
       ·intro w'
        go_simp
        with_reducible rfl
       rotate_left
       ·simp only [Act.put, lsA, lsB, lsC]
        rfl
       refine puU 14 (some 140) ?_ rfl rfl (by kernel_rfl) (fun _ _ _ h => h) (Or.inl ⟨by rfl, ?_⟩) ?_ ?_ ?_
       rotate_left
       ·intro w'
        go_simp
        with_reducible rfl
       rotate_left
       ·simp only [Act.put, lsA, lsB, lsC]
        rfl
       refine last_ (i := 15) (N := some 141) #[true, true, true, true, true, true, true, true, true, true, true, true, true, true, true, true] rfl rfl (by kernel_rfl) (by decide) (fun K hK => ?_)
       refine goes_ Try.func92 (by kernel_rfl) rfl #[.pointer (some ⟨pe, 0, none⟩), .int .i64 (sX + cv), .int .i64 0, .int .i64 (X : Int)] (by rfl) rfl rfl (by (try simp only [List.map_toArray, List.map_cons, List.map_nil]); first | done | rfl) ?_
       refine (offer_0 wq.drew pe E _ _ _ KE.out.1).mono ?_
       rintro _ w7 ⟨rfl, H7⟩
       refine ⟨_, rfl, ?_⟩
       refine hK.out _ _ ?_
       clear hK K
       refine norm_ (a' := ?_) ?_ ?_
       rotate_left
       ·show Act.put _ (some 141) _ = _
        simp only [Act.put, lsA, lsB, lsC]
        rfl
       refine done_ (by kernel_rfl) ?_
       have N1 : Aside0 (∃ E, SB w7 pe 1 (fun _ => E) ∧ EndI (fun j => (T (n * (2 ^ n - 1) + j)).f0 + c (j + 1) 0) (fun j => n * (2 ^ n - 1) + j) (l + 1) E ∧ Chg (fun b => b = pe) W8 w7) := ⟨_, H7.out.1, by
        have h1 := KE.out.2.1.put
        rw [← HV.out, ← HX.out] at h1
        exact h1, (KE.out.2.2.drew).trans H7.out.2⟩
       clear hHeld l1 v1 v2
       go_wp2_with fail
       exact ⟨⟨l + 1, by omega, by go_num, N1⟩, by simp [intOf]; omega⟩
      ·obtain rfl : n = l := by omega
       obtain ⟨E, t1, t2, t3⟩ := KJ.out
       obtain ⟨h1, σ, s1, s2, X0, m0, s3, s4, s5⟩ := KT.out.2.1.ends hn0 t2
       obtain ⟨ll, hll2⟩ : ∃ l, l = m0 := ⟨_, rfl⟩
       obtain ⟨z, hz⟩ : ∃ z, z = E.f0 := ⟨_, rfl⟩
       obtain ⟨Wr, hWr⟩ : ∃ Wr : World, Wr = wr := ⟨_, rfl⟩
       rw [← hWr] at t1 t3 ⊢
       have e0 : Wr.cell? ⟨pe, 0, none⟩ = some (.int .i64 z) := by rw [hz]; exact t1.c0 (i := 0) (by omega)
       have e3 : Wr.cell? ⟨pe, 3, none⟩ = some (.int .i64 (X0 : Int)) := by rw [← s3]; exact t1.c3 (i := 0) (by omega)
       rw [← hz] at h1 s2
       rw [← HM.out] at s4
       have SG := Aside0.mk (And.intro h1 (And.intro s1 (And.intro s2 s5)))
       have SR : Aside0 (SB Wr g M T) := ⟨t3.blk KT.out.1 G8.out.1⟩
       have BR : Aside0 (Below w.heap.size w Wr) := ⟨B0.out.trans (((Chg.of_below KT.out.2.2).then_ t3 (fun b hb e => by have := G8.out.2; omega) |>.below (fun b hb h => h)).mono B0.out.size)⟩
       have E0 := Aside0.mk e0
       have hlen : m0.length = n := by
        have := congrArg List.length s5
        rwa [List.length_reverse, List.length_map, List.length_range] at this
       have HLN0 : Aside0 (ll.length = n ∧ ll.reverse = (List.range n).map fun r => ((σ r + 1 : Nat) : Int)) := ⟨by rw [hll2]; exact hlen, by rw [hll2]; exact s5⟩
       have K6 : Aside0 (ll = [] ++ ll ∧ (((X0 : Int) = -1 ∧ ll = []) ∨ ∃ Y : Nat, (X0 : Int) = (Y : Int) ∧ Way2 M T Y ll) ∧ (Kd.int .i64).R 3 (Wr.alloc (.cells #[] 3)) Wr.heap.size (fun _ => True) (.slice (some ⟨Wr.heap.size, 0, none⟩) 0 0) [] ∧ Below Wr.heap.size Wr (Wr.alloc (.cells #[] 3))) := ⟨rfl, .inr ⟨X0, rfl, by rw [hll2]; exact s4⟩, ⟨fun k hk => trivial, [], ⟨rfl, .inr ⟨Wr.heap.size, 0, #[], rfl, Nat.le_refl _, heap_alloc_new Wr _, Nat.le_refl _, Nat.zero_le _, rfl, rfl⟩⟩, Reps.none _ _⟩, below_alloc (Below.refl _ _) _⟩
       have e3' : (Wr.alloc (.cells #[] 3)).cell? ⟨pe, 3, none⟩ = some (.int .i64 (X0 : Int)) := pw_cell_below (below_alloc (Below.refl _ _) _) e3
       clear h1 s1 s2 s3 s4 s5 t1 t2 t3 hz hWr KJ hll2 hlen
       go_wp2_with fail
       clear e0 e3 e3'
       go_loopw [15, 16] (fun v15 v16 wr => ∃ (q : Int) (A : Option Addr) (m cc : Nat) (acc rest : List Int), v16 = .int .i64 q ∧ v15 = .slice A m cc ∧ Aside0 (ll = acc ++ rest ∧ ((q = -1 ∧ rest = []) ∨ ∃ Y : Nat, q = (Y : Int) ∧ Way2 M T Y rest) ∧ (Kd.int .i64).R 3 wr Wr.heap.size (fun _ => True) (.slice A m cc) acc ∧ Below Wr.heap.size Wr wr)) (fun v15 _ _ => ll.length - (match v15 with | .slice _ m _ => m | _ => 0))
       case atStart => exact ⟨(X0 : Int), some ⟨Wr.heap.size, 0, none⟩, 0, 0, [], ll, rfl, rfl, K6⟩
       case round =>
        clear K6
        obtain ⟨q, A, m, cc, acc, rest, rfl, rfl, KK⟩ := hrel
        have hm : m = acc.length := by
         obtain ⟨A', c', e, _⟩ := Kd.R_reads KK.out.2.2.1
         injection e
        have hlen : ll.length = acc.length + rest.length := by
         conv => lhs; rw [KK.out.1]
         rw [List.length_append]
        rcases KK.out.2.1 with ⟨hq, hrest⟩ | ⟨Y, hq, hway⟩
        ·have E : Aside0 (ll = acc) := ⟨by have h1 := KK.out.1; rwa [hrest, List.append_nil] at h1⟩
         have LL : Aside0 (acc.length ≤ 17592186044416) := ⟨by have := HLN0.out.1; rw [E.out] at this; omega⟩
         have g1 : decide (q ≥ 0) = false := decide_eq_false (by omega)
         have g2 : decide (0 ≤ q) = false := decide_eq_false (by omega)
         clear hq hrest hlen hm
         go_wp2_with fail
         refine (rev_any (fun _ => True) (.slice A m cc) acc Wr wr KK.out.2.2.2 KK.out.2.2.1 LL.out).mono ?_
         rintro _ w9 ⟨rfl, H9⟩
         go_upto_region 38 with fail
         obtain ⟨wq, hwq⟩ : ∃ wq, wq = w9.drew := ⟨_, rfl⟩
         have HQ : Aside0 (Below Wr.heap.size Wr wq ∧ (Kd.int .i64).C wq A m acc.reverse ∧ acc.reverse.length = m) := ⟨by
          rw [hwq]
          have hc := R_C (n := m) (c := cc) (A := A) (R_drew3 H9.out.1)
          exact ⟨below_drew H9.out.2.1, hc.1, hc.2.1⟩⟩
         have z0 : w9.drew.cell? ⟨pe, 0, none⟩ = some (.int .i64 z) := by rw [← hwq]; exact pw_cell_below HQ.out.1 E0.out
         have z1 : Aside0 (Below Wr.heap.size Wr w9.drew) := ⟨by rw [← hwq]; exact HQ.out.1⟩
         rw [hwq] at HQ
         have LB : Aside0 ((([0] : List Int).length + m) * 8 ≤ 140737488355328) := ⟨by
          have h1 := HLN0.out.1
          have h2 := HQ.out.2.2
          rw [List.length_reverse] at h2
          rw [E.out] at h1
          show (1 + m) * 8 ≤ 140737488355328
          omega⟩
         clear hwq
         have ZB := Aside0.mk (And.intro z0 z1.out)
         refine start_ (n := 8) (S := fun w' => w'.cell? ⟨pe, 0, none⟩ = some (.int .i64 z) ∧ Aside0 (Below Wr.heap.size Wr w')) (ds := []) #[false, false, false, false, false, false, false, false] (by kernel_rfl) rfl rfl ⟨z0, z1⟩ (fun hHeld => ?_)
         clear z0 z1
         refine puU 1 (some 164) ?_ rfl rfl (by kernel_rfl) (fun _ _ _ h => h) (Or.inl ⟨by rfl, ?_⟩) ?_ ?_ ?_
         rotate_left
         ·intro w'
          go_simp
          with_reducible rfl
         rotate_left
         ·simp only [Act.put, lsA, lsB, lsC]
          rfl
         refine puU 3 (some 166) ?_ rfl rfl (by kernel_rfl) (fun _ _ _ h => h) (Or.inl ⟨by rfl, ?_⟩) ?_ ?_ ?_
         rotate_left
         ·intro w'
          go_simp
          with_reducible rfl
         rotate_left
         ·simp only [Act.put, lsA, lsB, lsC]
          rfl
         refine taU 4 (some 167) ?_ rfl rfl (by kernel_rfl) (fun _ _ _ h => h) (Or.inl ⟨by rfl, ?_⟩) hHeld ?_ ?_ ?_
         rotate_left
         ·rintro w' ⟨s0, s1⟩
          go_simp
          with_reducible rfl
         rotate_left
         ·simp only [Act.put, lsA, lsB, lsC]
          rfl
         refine one_ (i := 0) (N := some 163) #[true, true, false, true, true, false, false, false] rfl rfl (by kernel_rfl) (by decide) (fun K hK => ?_)
         refine value_ (v := .slice (some ⟨w9.heap.size, 0, none⟩) 1 1) (w1 := w9.drew.alloc (.cells #[.int .i64 0] 3)) (by rfl) rfl ?_ ?_
         ·go_simp
         have BA : Aside0 (Below w9.drew.heap.size w9.drew (w9.drew.alloc (.cells #[.int .i64 0] 3))) := ⟨below_alloc (Below.refl _ _) _⟩
         have OL : Aside0 ((Kd.int .i64).R 3 (w9.drew.alloc (.cells #[.int .i64 0] 3)) Wr.heap.size (fun _ => True) (.slice (some ⟨w9.drew.heap.size, 0, none⟩) 1 1) [0]) := ⟨Kd.R_of_own (enc := Value.int .i64) (own_lit w9.drew Wr.heap.size 3 .i64 [0] ZB.out.2.size (by decide)) (fun _ _ => trivial)⟩
         have BW : Aside0 (Below Wr.heap.size Wr (w9.drew.alloc (.cells #[.int .i64 0] 3))) := ⟨ZB.out.2.trans (BA.out.mono ZB.out.2.size)⟩
         refine hK.out _ _ ⟨pw_cell_below BA.out ZB.out.1, ⟨BW.out⟩⟩ (fun _ => ?_)
         clear hK K
         refine norm_ (a' := ?_) ?_ ?_
         rotate_left
         ·show Act.put _ (some 163) _ = _
          simp only [Act.put, lsA, lsB, lsC]
          rfl
         refine one_ (i := 2) (N := some 165) #[true, true, true, true, true, false, false, false] rfl rfl (by kernel_rfl) (by decide) (fun K hK => ?_)
         refine Kd.R_append_rows_step (Kd.int .i64) (Rr := fun x cs => cs = [.int .i64 x]) (w0 := Wr) Wr.heap.size (by rfl) _ _ 29 3 (.int .i64 0) 8 (by rfl) Try.underlying29 info3 rfl (by decide) (by omega) (.slice (some ⟨w9.heap.size, 0, none⟩) 1 1) [0] acc.reverse A m cc (fun _ => True) (fun _ => False) (by rfl) (by rfl) OL.out (Kd.C_below HQ.out.2.1 BA.out) (fun _ _ h => h) (fun _ h => h.elim) (fun _ _ => trivial) BW.out BW.out.size LB.out ?_
         intro vv w2 hR2 hB2 hg2 _
         have OB := Aside0.mk (And.intro hR2 hB2)
         have h3 : Wr.heap.size ≤ w9.heap.size := ZB.out.2.size
         have h4 : pe < Wr.heap.size := World.block_lt_of_cell? Wr _ E0.out
         have h6 : w2.cell? ⟨pe, 0, none⟩ = some (.int .i64 z) := cell_grown hg2 (pw_cell_below BA.out ZB.out.1) (fun h => by have h5 : pe = w9.heap.size := (by simpa [Value.ownBlock] using h); omega)
         refine hK.out _ _ ⟨h6, ⟨hB2⟩⟩ (fun _ => ?_)
         clear hK K hR2 hB2 hg2 h3 h4 h6
         refine norm_ (a' := ?_) ?_ ?_
         rotate_left
         ·show Act.put _ (some 165) _ = _
          simp only [Act.put, lsA, lsB, lsC]
          rfl
         refine puU 5 (some 2) ?_ rfl rfl (by kernel_rfl) (fun _ _ _ h => h) (Or.inl ⟨by rfl, ?_⟩) ?_ ?_ ?_
         rotate_left
         ·intro w'
          go_simp
          with_reducible rfl
         rotate_left
         ·simp only [Act.put, lsA, lsB, lsC]
          rfl
         refine puU 6 (some 3) ?_ rfl rfl (by kernel_rfl) (fun _ _ _ h => h) (Or.inl ⟨by rfl, ?_⟩) ?_ ?_ ?_
         rotate_left
         ·intro w'
          go_simp
          with_reducible rfl
         rotate_left
         ·simp only [Act.put, lsA, lsB, lsC]
          rfl
         refine puU 7 (some 4) ?_ rfl rfl (by kernel_rfl) (fun _ _ _ h => h) (Or.inl ⟨by rfl, ?_⟩) ?_ ?_ ?_
         rotate_left
         ·intro w'
          go_simp
          with_reducible rfl
         rotate_left
         ·simp only [Act.put, lsA, lsB, lsC]
          rfl
         refine done_ (by kernel_rfl) ?_
         go_wp2_with fail
         refine bodyPost_ret (v := .tuple #[vv, .int .i64 z, .bool true]) (by simp [results, Try.results56, go_sem]) rfl ?_
         refine ⟨vv, z, rfl, ⟨⟨σ, SG.out.2.1, SG.out.2.2.1, ?_⟩, SG.out.1, BR.out.trans (OB.out.2.mono BR.out.size)⟩⟩
         have h1 := OB.out.1
         rw [← E.out, HLN0.out.2] at h1
         exact Kd.R_lower h1 BR.out.size
        ·have hr : rest = (T Y).f2 :: (rest.drop 1) := by cases hway <;> rfl
         have hYM : Y < M := by cases hway <;> assumption
         have hnx : ((T Y).f3 = -1 ∧ rest.drop 1 = []) ∨ ∃ Z : Nat, (T Y).f3 = (Z : Int) ∧ Way2 M T Z (rest.drop 1) := by
          cases hway with
          | one _ hX e => exact .inl ⟨e, rfl⟩
          | cons _ Z l hX e hl => exact .inr ⟨Z, e, hl⟩
         obtain ⟨p2, hp2⟩ : ∃ z, z = (T Y).f2 := ⟨_, rfl⟩
         obtain ⟨p3, hp3⟩ : ∃ z, z = (T Y).f3 := ⟨_, rfl⟩
         rw [← hp2] at hr
         rw [← hp3] at hnx
         have SY : SB wr g M T := blk_below SR.out KK.out.2.2.2
         have y2 : wr.cell? ⟨g, Y * 4 + 2, none⟩ = some (.int .i64 p2) := by rw [hp2]; exact SY.c2 hYM
         have HP := Aside0.mk (And.intro hp2 hp3)
         have N1 : Aside0 (ll = (acc ++ [p2]) ++ rest.drop 1 ∧ ((p3 = -1 ∧ rest.drop 1 = []) ∨ ∃ Z : Nat, p3 = (Z : Int) ∧ Way2 M T Z (rest.drop 1)) ∧ acc.length + 1 ≤ ll.length) := ⟨by
          rw [List.append_assoc, List.singleton_append, ← hr]
          exact KK.out.1, hnx, by
          have h1 := congrArg List.length hr
          rw [List.length_cons] at h1
          omega⟩
         have HB : Aside0 ((acc.length + 1) * 8 ≤ 140737488355328) := ⟨by have := N1.out.2.2; have := HLN0.out.1; omega⟩
         have HM0 := Aside0.mk hm
         have HY := Aside0.mk hYM
         obtain rfl := hq
         clear hr hnx hway hp2 hp3 hlen hm SY
         go_upto_region 35 with (at_builtin; refine Kd.R_append (Kd.int .i64) (w0 := Wr) Wr.heap.size rfl _ _ 29 3 (.int .i64 0) 8 rfl Try.underlying29 infoR3 rfl (by decide) (by decide) (.slice A m cc) acc p2 [.int .i64 p2] (fun _ => True) (fun _ => False) rfl rfl rfl (fun _ h => h.elim) (fun _ _ => trivial) KK.out.2.2.1 KK.out.2.2.2 KK.out.2.2.2.size HB.out ?_; intro v7 w7 ho7 hb7 _ _; obtain ⟨A7, n7, c7, rfl, _⟩ := R_open ho7; have O7 := Aside0.mk ho7; have B7 := Aside0.mk hb7; clear ho7 hb7)
         have h7 : n7 = acc.length + 1 := by
          obtain ⟨A', c', e, _⟩ := Kd.R_reads O7.out
          injection e with _ e _
          rw [e]
          simp
         have d3 : w7.cell? ⟨g, Y * 4 + 3, none⟩ = some (.int .i64 p3) := by rw [HP.out.2]; exact (show SB w7 g M T from blk_below SR.out B7.out).c3 HY.out
         clear y2
         go_wp2_with fail
         exact ⟨⟨p3, A7, n7, c7, acc ++ [p2], rest.drop 1, rfl, rfl, ⟨N1.out.1, N1.out.2.1, O7.out, B7.out⟩⟩, by have := N1.out.2.2; have := HM0.out; simp; omega⟩
end Go.Proofs.Ytelabmhhnpfegaa.Hand
end
