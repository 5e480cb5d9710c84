/- assignment: walked. -/
import Derived.Test.YtelabmhhnpfegaaEo
namespace Go.Proofs.Ytelabmhhnpfegaa.Hand
open Go.RowKit Go.Proofs.YtelabmhhnpfegaaW.PrintWords Go.Proofs.YtelabmhhnpfegaaW.PrintLast Go.Proofs.YtelabmhhnpfegaaW.PrintMore Go.Proofs.Ytelabmhhnpfegaa.PDynCells
theorem made_S (n : Nat) : madeCells #[.int .i64 0, .bool false, .int .i64 0, .int .i64 0] (n * 4) = tabS n (fun _ => z152) := by
  apply Array.ext_getElem?
  intro j
  by_cases hl : j < n * 4
  · rw [tabS_at hl]
    have h4 : j % 4 = 0 ∨ j % 4 = 1 ∨ j % 4 = 2 ∨ j % 4 = 3 := by omega
    rcases h4 with h | h | h | h <;> simp [madeCells, hl, h, fldS, z152]
  · simp [madeCells, tabS, hl]
theorem infoS152 : (Try.prog.info? 152).map (fun i => (i.zero, i.size, i.bytes)) = some (some (.agg #[.int .i64 0, .bool false, .int .i64 0, .int .i64 0]), 4, 32) := by kernel_rfl
theorem mkS (n : Nat) (hn : n ≤ 1048576) (W : World) : (Instr.makeSlice 150 (.int .i64 (n : Int)) (.int .i64 (n : Int))).run Try.prog W = .ok (.slice (some ⟨W.heap.size, 0, none⟩) n n) (W.alloc (.cells (tabS n fun _ => z152) 152)) := by
  obtain ⟨i, hi, hzz⟩ := Option.map_eq_some_iff.1 infoS152
  simp only [Prod.mk.injEq] at hzz
  obtain ⟨hz, hs, hb⟩ := hzz
  have h := run_make (P := Try.prog) W 150 152 i _ Try.underlying150 hi hz .i64 .i64 (n : Int) (n : Int) (by omega) (Int.le_refl _) (by rw [hb]; omega) (by omega)
  rw [hs, Int.toNat_natCast] at h
  rw [← made_S]
  exact h
/-- The table's number of a row and a column. -/
def costA (x : PI) : Nat → Nat → Int := fun i k => (x.cost.getD i []).getD k 0
theorem least_is (x : PI) (hn : x.cost.length ≤ 9) : ∃ z, IsLeast x.cost.length (costA x) (fun _ _ => false) (some z) := by
  have key : ∀ M, M ≤ 2 ^ x.cost.length → ∃ T, DpI 9 x.cost.length (costA x) M 0 T := by
    intro M
    induction M with
    | zero => exact fun _ => ⟨_, DpI.start⟩
    | succ M ih =>
      intro hM
      obtain ⟨T, hT⟩ := ih (by omega)
      have key2 : ∀ j, j ≤ x.cost.length → ∃ T, DpI 9 x.cost.length (costA x) M j T := by
        intro j
        induction j with
        | zero => exact fun _ => ⟨T, hT⟩
        | succ j ih =>
          intro hj
          obtain ⟨T, hT⟩ := ih (by omega)
          by_cases hb : M / 2 ^ j % 2 = 0
          · exact ⟨_, hT.put (by omega) (by omega) hb⟩
          · exact ⟨_, hT.skip hb⟩
      obtain ⟨T, hT⟩ := key2 _ (Nat.le_refl _)
      exact ⟨T, hT.next⟩
  obtain ⟨T, hT⟩ := key _ (Nat.le_refl _)
  obtain ⟨σ, _, _, h, _⟩ := hT.least hn
  exact ⟨_, h⟩
/-- What a cell holds is not too much. -/
theorem DpI.bd {K n M j : Nat} {c : Nat → Nat → Int} {T : Nat → S152} (h : DpI K n c M j T) (hc : ∀ i k, -2147483648 ≤ c i k ∧ c i k ≤ 2147483648) : ∀ (f X : Nat), X ≤ f → (T X).f1 = true → -(2147483648 * X) ≤ (T X).f0 ∧ (T X).f0 ≤ 2147483648 * X
  | f, X, hf, hok => by
    by_cases e : X = 0
    · subst e
      rw [h.zero]
      exact ⟨Int.le_refl _, Int.le_refl _⟩
    · obtain ⟨Y, k, a1, a2, a3, a4, a5, a6, a7⟩ := h.link X e hok
      have hp : 0 < 2 ^ k := Nat.pow_pos (by omega)
      match f, hf with
      | 0, hf => omega
      | f + 1, hf =>
        have ih := DpI.bd h hc f Y (by omega) a6
        have := hc (pop K Y) k
        rw [a7]
        show -(2147483648 * (X : Int)) ≤ (T Y).f0 + c (pop K Y) k ∧ (T Y).f0 + c (pop K Y) k ≤ 2147483648 * X
        omega
theorem costA_bd {x : PI} (hb : ∀ r ∈ x.cost, ∀ z ∈ r, -2147483648 ≤ z ∧ z ≤ 2147483648) (i k : Nat) : -2147483648 ≤ costA x i k ∧ costA x i k ≤ 2147483648 := by
  unfold costA
  have hr : ∀ z ∈ x.cost.getD i [], -2147483648 ≤ z ∧ z ≤ 2147483648 := by
    by_cases hi : i < x.cost.length
    · rw [List.getD_eq_getElem?_getD, List.getElem?_eq_getElem hi, Option.getD_some]
      exact hb _ (List.getElem_mem _)
    · rw [List.getD_eq_getElem?_getD, List.getElem?_eq_none (by omega)]
      intro z hz
      cases hz
  obtain ⟨r, hr'⟩ : ∃ r, r = x.cost.getD i [] := ⟨_, rfl⟩
  rw [← hr'] at hr ⊢
  by_cases hk : k < r.length
  · rw [List.getD_eq_getElem?_getD, List.getElem?_eq_getElem hk, Option.getD_some]
    exact hr _ (List.getElem_mem _)
  · rw [List.getD_eq_getElem?_getD, List.getElem?_eq_none (by omega)]
    decide
set_option maxHeartbeats 1000000 in
set_option maxRecDepth 100000 in
theorem assignment_any (w : World) (x : PI) (v : Value) (h : InstC w x v) (hn : x.cost.length ≤ 9) (hrows : ∀ r ∈ x.cost, r.length = x.cost.length) (hb : ∀ r ∈ x.cost, ∀ z ∈ r, -2147483648 ≤ z ∧ z ≤ 2147483648) (z : Int) (hz : IsLeast x.cost.length (costA x) (fun _ _ => false) (some z)) :
    Calls Try.prog 55 #[v] w fun e w' => ∃ vr, e = .returned (.tuple #[vr, .int .i64 z, .bool true]) ∧ Aside0 ((∃ σ, PM x.cost.length (fun _ _ => false) σ ∧ cost x.cost.length (costA x) σ = z ∧ (Kd.int .i64).R 3 w' w.heap.size (fun _ => True) vr ((List.range x.cost.length).map fun r => ((σ r : Nat) : Int))) ∧ Below w.heap.size w w') := by
  have HI := Aside0.mk h
  obtain ⟨A2, c2, A3, c3, A5, c5, rfl, h2, l2, h3, l3, h5, l5⟩ := h
  have H3 := Aside0.mk h3
  have HR := Aside0.mk hrows
  have CB := Aside0.mk (costA_bd hb)
  have HZ := Aside0.mk hz
  obtain ⟨c, hc⟩ : ∃ c, c = costA x := ⟨_, rfl⟩
  rw [← hc] at CB HZ ⊢
  have HC := Aside0.mk hc
  obtain ⟨n, hn1⟩ : ∃ n, n = x.cost.length := ⟨_, rfl⟩
  rw [← hn1] at hn HI H3 HR HZ l3 ⊢
  have HN := Aside0.mk hn1
  clear h2 h3 h5 l2 l3 l5 hrows hb hz hc hn1 HI
  have hu54 := Try.underlying54
  have hu152 := Try.underlying152
  obtain ⟨N, hN⟩ : ∃ N : Nat, N = 2 ^ n := ⟨_, rfl⟩
  have hN5 : N ≤ 512 := by
    rw [hN]
    exact Nat.le_trans (Nat.pow_le_pow_right (by omega) hn) (by decide)
  have hN0 : 0 < N := by rw [hN]; exact Nat.pow_pos (by omega)
  have e0 : ((2 : Int) ^ n) = (N : Int) := by rw [hN, Int.natCast_pow]; rfl
  have e1 : IntKind.i64.wrap ((2 : Int) ^ n) = (N : Int) := by rw [e0, i64_w]; unfold wrap64; omega
  have e2 : wrap64 ((2 : Int) ^ n) = (N : Int) := by rw [e0]; unfold wrap64; omega
  have e3 : IntKind.i64.wrap ((2 : Int) ^ min n 64) = (N : Int) := by rw [Nat.min_eq_left (by omega)]; exact e1
  have e4 : wrap64 ((2 : Int) ^ min n 64) = (N : Int) := by rw [Nat.min_eq_left (by omega)]; exact e2
  have e5 : IntKind.i64.wrap (1 * (2 : Int) ^ min n 64) = (N : Int) := by rw [Int.one_mul]; exact e3
  have e6 : wrap64 (1 * (2 : Int) ^ min n 64) = (N : Int) := by rw [Int.one_mul]; exact e4
  have HNN := Aside0.mk hN
  clear hN e0
  have mk1 := mkS N (by omega)
  go_enter Try.func55, Try.ntmps55
  go_upto_region 3 with fail
  clear e1 e2 e3 e4 e5 e6 mk1
  obtain ⟨W0, hW0⟩ : ∃ W, W = w.alloc (.cells #[.int .i64 x.kind, .int .i64 x.cap, .slice A2 x.items.length c2, .slice A3 n c3, .int .i64 x.size, .slice A5 x.sets.length c5] 54) := ⟨_, rfl⟩
  rw [← hW0]
  have B0 : Aside0 (Below w.heap.size w W0) := ⟨by rw [hW0]; exact below_alloc (Below.refl _ _) _⟩
  obtain ⟨W1, hW1⟩ : ∃ W, W = W0.alloc (.cells (tabS N fun _ => z152) 152) := ⟨_, rfl⟩
  rw [← hW1]
  obtain ⟨g, hg⟩ : ∃ g, g = w.heap.size + 1 := ⟨_, rfl⟩
  rw [← hg]
  have hg2 : g = W0.heap.size := by rw [hg, hW0, al_size]
  have S1 : Aside0 (SB W1 g N (fun _ => z152)) := ⟨by rw [hW1, hg2]; exact heap_alloc_new _ _⟩
  have B1 : Aside0 (Below W0.heap.size W0 W1) := ⟨by rw [hW1]; exact below_alloc (Below.refl _ _) _⟩
  obtain ⟨p1, hp1⟩ : ∃ p, p = w.heap.size := ⟨_, rfl⟩
  have Q0 : Aside0 (W0.heap[p1]? = some (.cells #[.int .i64 x.kind, .int .i64 x.cap, .slice A2 x.items.length c2, .slice A3 n c3, .int .i64 x.size, .slice A5 x.sets.length c5] 54 (0, 0))) := ⟨by rw [hW0, hp1]; exact heap_alloc_new _ _⟩
  rw [← hp1]
  have HG : Aside0 (W0.heap.size ≤ g) := ⟨by omega⟩
  clear hW0 hW1 hg hp1 hg2
  have q0 : W1.cell? ⟨g, 0, none⟩ = some (.int .i64 0) := S1.out.c0 hN0
  have q1 : W1.cell? ⟨g, 1, none⟩ = some (.bool false) := S1.out.c1 hN0
  have q2 : W1.cell? ⟨g, 2, none⟩ = some (.int .i64 0) := S1.out.c2 hN0
  have q3 : W1.cell? ⟨g, 3, none⟩ = some (.int .i64 0) := S1.out.c3 hN0
  have hz : ∀ j, W1.frozen? ⟨g, j, none⟩ = false := S1.out.z
  go_upto_region 4 with fail
  clear q0 q1 q2 q3 hz
  obtain ⟨W2, hW2⟩ : ∃ W, W = (((W1.setCell ⟨g, 0, none⟩ (Value.int .i64 0)).setCell ⟨g, 1, none⟩ (Value.bool true)).setCell ⟨g, 2, none⟩ (Value.int .i64 (-1))).setCell ⟨g, 3, none⟩ (Value.int .i64 0) := ⟨_, rfl⟩
  rw [← hW2]
  have K0 : Aside0 (∃ T, SB W2 g N T ∧ DpI 9 n c 0 0 T ∧ Below W0.heap.size W0 W2) := ⟨_, by rw [hW2]; exact S1.out.set 0 ⟨0, true, -1, 0⟩, DpI.start, by rw [hW2]; exact set4_below B1.out HG.out _ _ _ _ _ _ _ _⟩
  clear hW2 S1 B1
  go_wp2_with fail
  go_loopw [23] (fun v23 wr => ∃ M : Nat, M ≤ N ∧ v23 = .int .i64 (M : Int) ∧ Aside0 (∃ T, SB wr g N T ∧ DpI 9 n c M 0 T ∧ Below W0.heap.size W0 wr)) (fun v23 _ => N - (intOf v23).toNat)
  case atStart => exact ⟨0, Nat.zero_le _, rfl, K0⟩
  case round =>
    clear K0
    obtain ⟨M, hM, rfl, KK⟩ := hrel
    by_cases hlt : M < N
    · go_wp2_with fail
      have hM5 : M < 512 := by omega
      refine (ones_any M hM5 wr).mono ?_
      rintro _ w5 ⟨rfl, ⟨nd, rfl⟩⟩
      obtain ⟨row, hrow⟩ : ∃ r, r = pop 9 M := ⟨_, rfl⟩
      rw [← hrow]
      have hrn : row ≤ n := by rw [hrow]; exact pop_le 9 n M (by rw [← HNN.out]; exact hlt)
      have HROW := Aside0.mk hrow
      clear hrow
      go_wp2_with fail
      have L0 : Aside0 (∃ T, SB (wr.drewN nd) g N T ∧ DpI 9 n c M 0 T ∧ Below W0.heap.size W0 (wr.drewN nd)) := ⟨by
        obtain ⟨T, t1, t2, t3⟩ := KK.out
        exact ⟨T, t1, t2, pw_below_drewN t3 nd⟩⟩
      clear KK
      go_loopw [30] (fun v30 wr => ∃ j : Nat, j ≤ n ∧ v30 = .int .i64 (j : Int) ∧ Aside0 (∃ T, SB wr g N T ∧ DpI 9 n c M j T ∧ Below W0.heap.size W0 wr)) (fun v30 _ => n - (intOf v30).toNat)
      case atStart => exact ⟨0, Nat.zero_le _, rfl, L0⟩
      case round =>
        clear L0
        obtain ⟨j, hj, rfl, KJ⟩ := hrel
        by_cases hjn : j < n
        · have hsh := bit_sh ⟨M, hM5⟩ ⟨j, by omega⟩
          simp only at hsh
          have hmin : min j 64 = j := by omega
          have hmod : (j : Int) < 64 := by omega
          by_cases hbit : M / 2 ^ j % 2 = 0
          · rw [hbit] at hsh
            obtain ⟨P, hP⟩ : ∃ P : Nat, P = 2 ^ j := ⟨_, rfl⟩
            have hor := bit_or ⟨M, hM5⟩ ⟨j, by omega⟩ hbit
            simp only at hor
            have hP5 : P ≤ 256 := by
              rw [hP]
              exact Nat.le_trans (Nat.pow_le_pow_right (by omega) (show j ≤ 8 by omega)) (by decide)
            have f0 : ((2 : Int) ^ j) = (P : Int) := by rw [hP, Int.natCast_pow]; rfl
            have f1 : IntKind.i64.wrap ((2 : Int) ^ j) = (P : Int) := by rw [f0, i64_w]; unfold wrap64; omega
            have f2 : wrap64 ((2 : Int) ^ j) = (P : Int) := by rw [f0]; unfold wrap64; omega
            have f3 : IntKind.i64.wrap ((2 : Int) ^ min j 64) = (P : Int) := by rw [hmin]; exact f1
            have f4 : wrap64 ((2 : Int) ^ min j 64) = (P : Int) := by rw [hmin]; exact f2
            have f5 : IntKind.i64.wrap (1 * (2 : Int) ^ min j 64) = (P : Int) := by rw [Int.one_mul]; exact f3
            have f6 : wrap64 (1 * (2 : Int) ^ min j 64) = (P : Int) := by rw [Int.one_mul]; exact f4
            rw [f0, ← hP] at hor
            obtain ⟨X, hX⟩ : ∃ X, X = M + P := ⟨_, rfl⟩
            rw [← hX] at hor
            have hXN : X < N := by
              rw [hX, hP, HNN.out]
              exact bit_lt n j M (by rw [← HNN.out]; exact hlt) hjn hbit
            have hrow1 : row < n := by
              have h1 := pop_add 9 j M (by omega) hbit
              have h2 := pop_le 9 n (M + 2 ^ j) (bit_lt n j M (by rw [← HNN.out]; exact hlt) hjn hbit)
              rw [HROW.out]
              omega
            have HX := Aside0.mk (And.intro hX hP)
            clear f0 hP hX
            go_upto_region 13 with fail
            clear f1 f2 f3 f4 f5 f6 hor hsh
            obtain ⟨T, t1, t2, t3⟩ := KJ.out
            obtain ⟨wo, hwo⟩ : ∃ wo : World, wo = wr := ⟨_, rfl⟩
            rw [← hwo] at t1 t3 ⊢
            clear hwo KJ
            have KT : Aside0 (SB wo.drew g N T ∧ DpI 9 n c M j T ∧ Below W0.heap.size W0 wo.drew) := ⟨t1, t2, below_drew t3⟩
            have ab := t2.bd CB.out M M (Nat.le_refl _) (t2.ok (Nat.le_refl _) (by rw [← HNN.out]; exact hlt))
            have cb := CB.out row j
            obtain ⟨aM, haM⟩ : ∃ z, z = (T M).f0 := ⟨_, rfl⟩
            obtain ⟨cv, hcv⟩ : ∃ z, z = c row j := ⟨_, rfl⟩
            rw [← haM] at ab
            rw [← hcv] at cb
            obtain ⟨ab0, ab1⟩ := ab
            obtain ⟨cb0, cb1⟩ := cb
            obtain ⟨ar, AY, cY, e, y0, ly, hy⟩ := at_L2 H3.out (row : Int) (by omega) (by omega)
            have hlen : (rd_L2 x.cost (row : Int)).length = n := by
              unfold rd_L2
              rw [Int.toNat_natCast, List.getD_eq_getElem?_getD, List.getElem?_eq_getElem (by rw [← HN.out]; exact hrow1), Option.getD_some]
              exact HR.out _ (List.getElem_mem _)
            rw [hlen] at y0 ly hy
            obtain ⟨aY, eY, y1⟩ := at_Int hy j hjn
            subst e eY
            rw [Int.toNat_natCast] at y0
            have hcv2 : (rd_L2 x.cost (row : Int)).getD j 0 = cv := by rw [hcv, HC.out]; unfold rd_L2 costA; rw [Int.toNat_natCast]
            rw [hcv2] at y1
            have BB := B0.out.trans (t3.mono B0.out.size)
            have z0 : wo.drew.cell? ⟨g, M * 4, none⟩ = some (.int .i64 aM) := (t1.c0 hlt).trans (by rw [haM])
            have z1 : wo.drew.cell? ⟨p1, 3, none⟩ = some (.slice (some ar) n c3) := (blk_cell (blk_below Q0.out t3) 3).trans rfl
            have z2 : wo.drew.cell? (ar.add row) = some (.slice (some aY) n cY) := pw_cell_below BB y0
            have z3 : wo.drew.cell? (aY.add j) = some (.int .i64 cv) := pw_cell_below BB y1
            have HV := Aside0.mk (And.intro haM hcv)
            have v1 : wrap64 (aM + cv) = aM + cv := by unfold wrap64; omega
            have v2 : IntKind.i64.wrap (aM + cv) = aM + cv := by rw [i64_w]; exact v1
            clear haM hcv hcv2 hlen y0 y1 ly hy t1 t2 t3 BB
            refine start_ (n := 20) (S := fun w' => w'.cell? ⟨g, M * 4, none⟩ = some (.int .i64 aM) ∧ w'.cell? ⟨p1, 3, none⟩ = some (.slice (some ar) n c3) ∧ w'.cell? (ar.add row) = some (.slice (some aY) n cY) ∧ w'.cell? (aY.add j) = some (.int .i64 cv)) (ds := [19]) #[false, false, false, false, false, false, false, false, false, false, false, false, false, false, false, false, false, false, false, false] (by kernel_rfl) rfl rfl ⟨z0, z1, z2, z3⟩ (fun hHeld => ?_)
            clear z0 z1 z2 z3
            refine pure_ (i := 0) (N := some 42) (v := ?_) (a' := ?_) #[true, false, false, false, false, false, false, false, false, false, false, false, false, false, false, false, false, false, false, false] rfl rfl (by kernel_rfl) (fun _ _ _ h => h) (Or.inl ⟨by rfl, ?_⟩) ?_ ?_
            rotate_left
            · intro w'
              go_simp
              with_reducible rfl
            rotate_left
            · simp only [Act.put, List.setIfInBounds_toArray, List.set_cons_zero, List.set_cons_succ]
              rfl
            refine pure_ (i := 1) (N := some 43) (v := ?_) (a' := ?_) #[true, true, false, false, false, false, false, false, false, false, false, false, false, false, false, false, false, false, false, false] rfl rfl (by kernel_rfl) (fun _ _ _ h => h) (Or.inl ⟨by rfl, ?_⟩) ?_ ?_
            rotate_left
            · intro w'
              go_simp
              with_reducible rfl
            rotate_left
            · simp only [Act.put, List.setIfInBounds_toArray, List.set_cons_zero, List.set_cons_succ]
              rfl
            refine pure_ (i := 2) (N := some 44) (v := ?_) (a' := ?_) #[true, true, true, false, false, false, false, false, false, false, false, false, false, false, false, false, false, false, false, false] rfl rfl (by kernel_rfl) (fun _ _ _ h => h) (Or.inl ⟨by rfl, ?_⟩) ?_ ?_
            rotate_left
            · intro w'
              go_simp
              with_reducible rfl
            rotate_left
            · simp only [Act.put, List.setIfInBounds_toArray, List.set_cons_zero, List.set_cons_succ]
              rfl
            refine pure_ (i := 3) (N := some 45) (v := ?_) (a' := ?_) #[true, true, true, true, false, false, false, false, false, false, false, false, false, false, false, false, false, false, false, false] rfl rfl (by kernel_rfl) (fun _ _ _ h => h) (Or.inl ⟨by rfl, ?_⟩) ?_ ?_
            rotate_left
            · intro w'
              go_simp
              with_reducible rfl
            rotate_left
            · simp only [Act.put, List.setIfInBounds_toArray, List.set_cons_zero, List.set_cons_succ]
              rfl
            refine pure_ (i := 4) (N := some 46) (v := ?_) (a' := ?_) #[true, true, true, true, true, false, false, false, false, false, false, false, false, false, false, false, false, false, false, false] rfl rfl (by kernel_rfl) (fun _ _ _ h => h) (Or.inl ⟨by rfl, ?_⟩) ?_ ?_
            rotate_left
            · intro w'
              go_simp
              with_reducible rfl
            rotate_left
            · simp only [Act.put, List.setIfInBounds_toArray, List.set_cons_zero, List.set_cons_succ]
              rfl
            refine pure_ (i := 5) (N := some 47) (v := ?_) (a' := ?_) #[true, true, true, true, true, true, false, false, false, false, false, false, false, false, false, false, false, false, false, false] rfl rfl (by kernel_rfl) (fun _ _ _ h => h) (Or.inl ⟨by rfl, ?_⟩) ?_ ?_
            rotate_left
            · intro w'
              go_simp
              with_reducible rfl
            rotate_left
            · simp only [Act.put, List.setIfInBounds_toArray, List.set_cons_zero, List.set_cons_succ]
              rfl
            refine pure_ (i := 6) (N := some 48) (v := ?_) (a' := ?_) #[true, true, true, true, true, true, true, false, false, false, false, false, false, false, false, false, false, false, false, false] rfl rfl (by kernel_rfl) (fun _ _ _ h => h) (Or.inl ⟨by rfl, ?_⟩) ?_ ?_
            rotate_left
            · intro w'
              go_simp
              with_reducible rfl
            rotate_left
            · simp only [Act.put, List.setIfInBounds_toArray, List.set_cons_zero, List.set_cons_succ]
              rfl
            refine take_ (i := 7) (N := some 49) (v := ?_) (a' := ?_) #[true, true, true, true, true, true, true, true, false, false, false, false, false, false, false, false, false, false, false, false] rfl rfl (by kernel_rfl) (fun _ _ _ h => h) (Or.inl ⟨by rfl, ?_⟩) hHeld ?_ ?_
            rotate_left
            · rintro w' ⟨s0, s1, s2, s3⟩
              go_simp
              with_reducible rfl
            rotate_left
            · simp only [Act.put, List.setIfInBounds_toArray, List.set_cons_zero, List.set_cons_succ]
              rfl
            refine pure_ (i := 8) (N := some 50) (v := ?_) (a' := ?_) #[true, true, true, true, true, true, true, true, true, false, false, false, false, false, false, false, false, false, false, false] rfl rfl (by kernel_rfl) (fun _ _ _ h => h) (Or.inl ⟨by rfl, ?_⟩) ?_ ?_
            rotate_left
            · intro w'
              go_simp
              with_reducible rfl
            rotate_left
            · simp only [Act.put, List.setIfInBounds_toArray, List.set_cons_zero, List.set_cons_succ]
              rfl
            refine take_ (i := 9) (N := some 51) (v := ?_) (a' := ?_) #[true, true, true, true, true, true, true, true, true, true, false, false, false, false, false, false, false, false, false, false] rfl rfl (by kernel_rfl) (fun _ _ _ h => h) (Or.inl ⟨by rfl, ?_⟩) hHeld ?_ ?_
            rotate_left
            · rintro w' ⟨s0, s1, s2, s3⟩
              go_simp
              with_reducible rfl
            rotate_left
            · simp only [Act.put, List.setIfInBounds_toArray, List.set_cons_zero, List.set_cons_succ]
              rfl
            refine pure_ (i := 10) (N := some 52) (v := ?_) (a' := ?_) #[true, true, true, true, true, true, true, true, true, true, true, false, false, false, false, false, false, false, false, false] rfl rfl (by kernel_rfl) (fun _ _ _ h => h) (Or.inl ⟨by rfl, ?_⟩) ?_ ?_
            rotate_left
            · intro w'
              go_simp
              with_reducible rfl
            rotate_left
            · simp only [Act.put, List.setIfInBounds_toArray, List.set_cons_zero, List.set_cons_succ]
              rfl
            refine pure_ (i := 11) (N := some 53) (v := ?_) (a' := ?_) #[true, true, true, true, true, true, true, true, true, true, true, true, false, false, false, false, false, false, false, false] rfl rfl (by kernel_rfl) (fun _ _ _ h => h) (Or.inl ⟨by rfl, ?_⟩) ?_ ?_
            rotate_left
            · intro w'
              go_simp
              with_reducible rfl
            rotate_left
            · simp only [Act.put, List.setIfInBounds_toArray, List.set_cons_zero, List.set_cons_succ]
              rfl
            refine take_ (i := 12) (N := some 54) (v := ?_) (a' := ?_) #[true, true, true, true, true, true, true, true, true, true, true, true, true, false, false, false, false, false, false, false] rfl rfl (by kernel_rfl) (fun _ _ _ h => h) (Or.inl ⟨by rfl, ?_⟩) hHeld ?_ ?_
            rotate_left
            · rintro w' ⟨s0, s1, s2, s3⟩
              go_simp
              with_reducible rfl
            rotate_left
            · simp only [Act.put, List.setIfInBounds_toArray, List.set_cons_zero, List.set_cons_succ]
              rfl
            refine pure_ (i := 13) (N := some 55) (v := ?_) (a' := ?_) #[true, true, true, true, true, true, true, true, true, true, true, true, true, true, false, false, false, false, false, false] rfl rfl (by kernel_rfl) (fun _ _ _ h => h) (Or.inl ⟨by rfl, ?_⟩) ?_ ?_
            rotate_left
            · intro w'
              go_simp
              with_reducible rfl
            rotate_left
            · simp only [Act.put, List.setIfInBounds_toArray, List.set_cons_zero, List.set_cons_succ]
              rfl
            refine pure_ (i := 14) (N := some 56) (v := ?_) (a' := ?_) #[true, true, true, true, true, true, true, true, true, true, true, true, true, true, true, false, false, false, false, false] rfl rfl (by kernel_rfl) (fun _ _ _ h => h) (Or.inl ⟨by rfl, ?_⟩) ?_ ?_
            rotate_left
            · intro w'
              go_simp
              with_reducible rfl
            rotate_left
            · simp only [Act.put, List.setIfInBounds_toArray, List.set_cons_zero, List.set_cons_succ]
              rfl
            refine take_ (i := 15) (N := some 57) (v := ?_) (a' := ?_) #[true, true, true, true, true, true, true, true, true, true, true, true, true, true, true, true, false, false, false, false] rfl rfl (by kernel_rfl) (fun _ _ _ h => h) (Or.inl ⟨by rfl, ?_⟩) hHeld ?_ ?_
            rotate_left
            · rintro w' ⟨s0, s1, s2, s3⟩
              go_simp
              with_reducible rfl
            rotate_left
            · simp only [Act.put, List.setIfInBounds_toArray, List.set_cons_zero, List.set_cons_succ]
              rfl
            refine pure_ (i := 16) (N := some 58) (v := ?_) (a' := ?_) #[true, true, true, true, true, true, true, true, true, true, true, true, true, true, true, true, true, false, false, false] rfl rfl (by kernel_rfl) (fun _ _ _ h => h) (Or.inl ⟨by rfl, ?_⟩) ?_ ?_
            rotate_left
            · intro w'
              go_simp
              with_reducible rfl
            rotate_left
            · simp only [Act.put, List.setIfInBounds_toArray, List.set_cons_zero, List.set_cons_succ]
              rfl
            refine pure_ (i := 17) (N := some 59) (v := ?_) (a' := ?_) #[true, true, true, true, true, true, true, true, true, true, true, true, true, true, true, true, true, true, false, false] rfl rfl (by kernel_rfl) (fun _ _ _ h => h) (Or.inl ⟨by rfl, ?_⟩) ?_ ?_
            rotate_left
            · intro w'
              go_simp
              with_reducible rfl
            rotate_left
            · simp only [Act.put, List.setIfInBounds_toArray, List.set_cons_zero, List.set_cons_succ]
              rfl
            refine pure_ (i := 18) (N := some 60) (v := ?_) (a' := ?_) #[true, true, true, true, true, true, true, true, true, true, true, true, true, true, true, true, true, true, true, false] rfl rfl (by kernel_rfl) (fun _ _ _ h => h) (Or.inl ⟨by rfl, ?_⟩) ?_ ?_
            rotate_left
            · intro w'
              go_simp
              with_reducible rfl
            rotate_left
            · simp only [Act.put, List.setIfInBounds_toArray, List.set_cons_zero, List.set_cons_succ]
              rfl
            refine last_ (i := 19) (N := some 61) #[true, true, true, true, true, true, true, true, true, true, true, true, true, true, true, true, true, true, true, true] rfl rfl (by kernel_rfl) (by decide) (fun K hK => ?_)
            refine goes_ Try.func92 (by kernel_rfl) rfl #[.pointer (some ⟨g, X * 4, none⟩), .int .i64 (aM + cv), .int .i64 (j : Int), .int .i64 (M : Int)] (by rfl) rfl rfl (by (try simp only [List.map_toArray, List.map_cons, List.map_nil]); first | done | rfl) ?_
            refine (offer_any W0 wo.drew g N X T _ _ _ KT.out.1 hXN KT.out.2.2 HG.out).mono ?_
            rintro _ w6 ⟨rfl, H6⟩
            refine ⟨_, rfl, ?_⟩
            refine hK.out _ _ ?_
            clear hK K
            refine norm_ (a' := ?_) ?_ ?_
            rotate_left
            · show Act.put _ (some 61) _ = _
              simp only [Act.put, List.setIfInBounds_toArray, List.set_cons_zero, List.set_cons_succ]
              rfl
            refine done_ (by kernel_rfl) ?_
            have N1 : Aside0 (∃ T, SB w6 g N T ∧ DpI 9 n c M (j + 1) T ∧ Below W0.heap.size W0 w6) := ⟨_, H6.out.1, by
              have h1 := KT.out.2.1.put (by rw [← HNN.out]; exact hlt) hjn hbit
              rw [← HX.out.2, ← HX.out.1, ← HROW.out, ← HV.out.1, ← HV.out.2] at h1
              exact h1, H6.out.2⟩
            clear hHeld
            go_wp2_with fail
            exact ⟨⟨j + 1, by omega, by go_num, N1⟩, by simp [intOf]; omega⟩
          · have hb1 : M / 2 ^ j % 2 = 1 := by omega
            rw [hb1] at hsh
            have N1 : Aside0 (∃ T, SB wr g N T ∧ DpI 9 n c M (j + 1) T ∧ Below W0.heap.size W0 wr) := ⟨by
              obtain ⟨T, t1, t2, t3⟩ := KJ.out
              exact ⟨T, t1, t2.skip hbit, t3⟩⟩
            go_wp2_with fail
            exact ⟨⟨j + 1, by omega, by go_num, N1⟩, by simp [intOf]; omega⟩
        · obtain rfl : n = j := by omega
          have N1 : Aside0 (∃ T, SB wr g N T ∧ DpI 9 n c (M + 1) 0 T ∧ Below W0.heap.size W0 wr) := ⟨by
            obtain ⟨T, t1, t2, t3⟩ := KJ.out
            exact ⟨T, t1, t2.next, t3⟩⟩
          go_wp2_with fail
          exact ⟨⟨M + 1, by omega, by go_num, N1⟩, by simp [intOf]; omega⟩
    · obtain rfl : N = M := by omega
      have hF0 : ∃ F, N = F + 1 := ⟨N - 1, by omega⟩
      obtain ⟨F, hF⟩ := hF0
      have d1 : (N : Int) - 1 = (F : Int) := by omega
      have d2 : wrap64 ((N : Int) - 1) = (F : Int) := by unfold wrap64; omega
      have hFN : F < N := by omega
      have HF := Aside0.mk (show N - 1 = F by omega)
      clear hF
      go_upto_region 17 with fail
      clear d1 d2
      obtain ⟨T, t1, t2, t3⟩ := KK.out
      rw [HNN.out] at t2
      obtain ⟨σ, s1, s2, s3, l, s4, s5⟩ := t2.least hn
      rw [← HNN.out, HF.out] at s2 s3 s4
      have hzz : (T F).f0 = z := by
        have := s3.uniq HZ.out
        injection this
      obtain ⟨wo, hwo⟩ : ∃ wo : World, wo = wr := ⟨_, rfl⟩
      rw [← hwo] at t1 t3 ⊢
      clear hwo KK
      have KT : Aside0 (SB wo.drew g N T ∧ Below W0.heap.size W0 wo.drew) := ⟨t1, below_drew t3⟩
      have hll : l.length ≤ 4096 := by
        have := congrArg List.length s5
        rw [List.length_reverse, List.length_map, List.length_range] at this
        omega
      have CH : Aside0 (Chain N T F l ∧ l.reverse = ((List.range n).map fun r => ((σ r : Nat) : Int)) ∧ l.length ≤ 4096) := ⟨s4, s5, hll⟩
      have SG : Aside0 (PM n (fun _ _ => false) σ ∧ cost n c σ = z) := ⟨s1, by rw [← hzz, s2]⟩
      have z0 : wo.drew.cell? ⟨g, F * 4, none⟩ = some (.int .i64 z) := (t1.c0 hFN).trans (by rw [hzz])
      have ZZ := Aside0.mk z0
      have z1 : Aside0 (Below wo.drew.heap.size wo.drew wo.drew) := ⟨Below.refl _ _⟩
      clear s1 s2 s3 s4 s5 hll t1 t2 t3 hzz
      refine start_ (n := 11) (S := fun w' => w'.cell? ⟨g, F * 4, none⟩ = some (.int .i64 z) ∧ Aside0 (Below wo.drew.heap.size wo.drew w')) (ds := []) #[false, false, false, false, false, false, false, false, false, false, false] (by kernel_rfl) rfl rfl ⟨z0, z1⟩ (fun hHeld => ?_)
      clear z0 z1
      refine pure_ (i := 0) (N := some 67) (v := ?_) (a' := ?_) #[true, false, false, false, false, false, false, false, false, false, false] rfl rfl (by kernel_rfl) (fun _ _ _ h => h) (Or.inl ⟨by rfl, ?_⟩) ?_ ?_
      rotate_left
      · intro w'
        go_simp
        with_reducible rfl
      rotate_left
      · simp only [Act.put, List.setIfInBounds_toArray, List.set_cons_zero, List.set_cons_succ]
        rfl
      refine pure_ (i := 1) (N := some 68) (v := ?_) (a' := ?_) #[true, true, false, false, false, false, false, false, false, false, false] rfl rfl (by kernel_rfl) (fun _ _ _ h => h) (Or.inl ⟨by rfl, ?_⟩) ?_ ?_
      rotate_left
      · intro w'
        go_simp
        with_reducible rfl
      rotate_left
      · simp only [Act.put, List.setIfInBounds_toArray, List.set_cons_zero, List.set_cons_succ]
        rfl
      refine pure_ (i := 3) (N := some 70) (v := ?_) (a' := ?_) #[true, true, false, true, false, false, false, false, false, false, false] rfl rfl (by kernel_rfl) (fun _ _ _ h => h) (Or.inl ⟨by rfl, ?_⟩) ?_ ?_
      rotate_left
      · intro w'
        go_simp
        with_reducible rfl
      rotate_left
      · simp only [Act.put, List.setIfInBounds_toArray, List.set_cons_zero, List.set_cons_succ]
        rfl
      refine pure_ (i := 4) (N := some 71) (v := ?_) (a' := ?_) #[true, true, false, true, true, false, false, false, false, false, false] rfl rfl (by kernel_rfl) (fun _ _ _ h => h) (Or.inl ⟨by rfl, ?_⟩) ?_ ?_
      rotate_left
      · intro w'
        go_simp
        with_reducible rfl
      rotate_left
      · simp only [Act.put, List.setIfInBounds_toArray, List.set_cons_zero, List.set_cons_succ]
        rfl
      refine pure_ (i := 5) (N := some 72) (v := ?_) (a' := ?_) #[true, true, false, true, true, true, false, false, false, false, false] rfl rfl (by kernel_rfl) (fun _ _ _ h => h) (Or.inl ⟨by rfl, ?_⟩) ?_ ?_
      rotate_left
      · intro w'
        go_simp
        with_reducible rfl
      rotate_left
      · simp only [Act.put, List.setIfInBounds_toArray, List.set_cons_zero, List.set_cons_succ]
        rfl
      refine pure_ (i := 6) (N := some 73) (v := ?_) (a' := ?_) #[true, true, false, true, true, true, true, false, false, false, false] rfl rfl (by kernel_rfl) (fun _ _ _ h => h) (Or.inl ⟨by rfl, ?_⟩) ?_ ?_
      rotate_left
      · intro w'
        go_simp
        with_reducible rfl
      rotate_left
      · simp only [Act.put, List.setIfInBounds_toArray, List.set_cons_zero, List.set_cons_succ]
        rfl
      refine take_ (i := 7) (N := some 74) (v := ?_) (a' := ?_) #[true, true, false, true, true, true, true, true, false, false, false] rfl rfl (by kernel_rfl) (fun _ _ _ h => h) (Or.inl ⟨by rfl, ?_⟩) hHeld ?_ ?_
      rotate_left
      · rintro w' ⟨s0, s1⟩
        go_simp
        with_reducible rfl
      rotate_left
      · simp only [Act.put, List.setIfInBounds_toArray, List.set_cons_zero, List.set_cons_succ]
        rfl
      refine one_ (i := 2) (N := some 69) #[true, true, true, true, true, true, true, true, false, false, false] rfl rfl (by kernel_rfl) (by decide) (fun K hK => ?_)
      refine goes_ Try.func93 (by kernel_rfl) rfl #[.slice (some ⟨g, 0, none⟩) N N, .int .i64 (F : Int)] (by rfl) rfl rfl (by (try simp only [List.map_toArray, List.map_cons, List.map_nil]); first | done | rfl) ?_
      refine (trace_any wo.drew g N T F l KT.out.1 CH.out.1 CH.out.2.2).mono ?_
      rintro _ w6 ⟨vr, rfl, H6⟩
      refine ⟨_, rfl, ?_⟩
      refine hK.out _ _ ⟨(pw_cell_below H6.out.2 ZZ.out), ⟨H6.out.2⟩⟩ (fun _ => ?_)
      clear hK K
      refine norm_ (a' := ?_) ?_ ?_
      rotate_left
      · show Act.put _ (some 69) _ = _
        simp only [Act.put, List.setIfInBounds_toArray, List.set_cons_zero, List.set_cons_succ]
        rfl
      refine pure_ (i := 8) (N := some 2) (v := ?_) (a' := ?_) #[true, true, true, true, true, true, true, true, true, false, false] rfl rfl (by kernel_rfl) (fun _ _ _ h => h) (Or.inl ⟨by rfl, ?_⟩) ?_ ?_
      rotate_left
      · intro w'
        go_simp
        with_reducible rfl
      rotate_left
      · simp only [Act.put, List.setIfInBounds_toArray, List.set_cons_zero, List.set_cons_succ]
        rfl
      refine pure_ (i := 9) (N := some 3) (v := ?_) (a' := ?_) #[true, true, true, true, true, true, true, true, true, true, false] rfl rfl (by kernel_rfl) (fun _ _ _ h => h) (Or.inl ⟨by rfl, ?_⟩) ?_ ?_
      rotate_left
      · intro w'
        go_simp
        with_reducible rfl
      rotate_left
      · simp only [Act.put, List.setIfInBounds_toArray, List.set_cons_zero, List.set_cons_succ]
        rfl
      refine pure_ (i := 10) (N := some 4) (v := ?_) (a' := ?_) #[true, true, true, true, true, true, true, true, true, true, true] rfl rfl (by kernel_rfl) (fun _ _ _ h => h) (Or.inl ⟨by rfl, ?_⟩) ?_ ?_
      rotate_left
      · intro w'
        go_simp
        with_reducible rfl
      rotate_left
      · simp only [Act.put, List.setIfInBounds_toArray, List.set_cons_zero, List.set_cons_succ]
        rfl
      refine done_ (by kernel_rfl) ?_
      go_wp2_with fail
      refine bodyPost_ret (v := .tuple #[vr, .int .i64 z, .bool true]) (by simp [results, Try.results55, go_sem]) rfl ?_
      refine ⟨vr, rfl, ⟨⟨σ, SG.out.1, SG.out.2, ?_⟩, B0.out.trans ((KT.out.2.trans (H6.out.2.mono KT.out.2.size)).mono B0.out.size)⟩⟩
      rw [← CH.out.2.1]
      exact Kd.R_lower H6.out.1 (Nat.le_trans B0.out.size KT.out.2.size)
end Go.Proofs.Ytelabmhhnpfegaa.Hand
