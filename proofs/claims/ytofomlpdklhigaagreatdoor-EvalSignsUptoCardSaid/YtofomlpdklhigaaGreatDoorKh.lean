/- Answers: covers and fits, in plain Lean and walked. -/
import Derived.Test.YtofomlpdklhigaaGreatDoorKg
import Derived.Test.YtofomlpdklhigaaGreatDoorKs
import Derived.Test.YtofomlpdklhigaaGreatDoorDm
namespace Go.Proofs.YtofomlpdklhigaaGreatDoor.Hand
open Go.RowKit Go.Proofs.YtofomlpdklhigaaGreatDoorW.PrintWords Go.Proofs.YtofomlpdklhigaaGreatDoorW.PrintLast Go.Proofs.YtofomlpdklhigaaGreatDoorW.PrintMore Go.Proofs.YtofomlpdklhigaaGreatDoor.PSigns
set_option linter.unusedVariables false
set_option linter.unusedSimpArgs false
theorem getD_mem' {l : List Int} {i : Nat} (h : i < l.length) : l.getD i 0 ∈ l := by
  rw [List.getD_eq_getElem?_getD, List.getElem?_eq_getElem h, Option.getD_some]
  exact List.getElem_mem h
def elsC (x : PI) (k : Int) : List Int := (x.sets.getD k.toNat ⟨0, []⟩).f1
/-- Have some sets all elements? -/
def covB (x : PI) (xs : List Int) : Bool := (List.range x.size.toNat).all fun e => decide ((e : Int) ∈ xs.flatMap (elsC x))
set_option maxHeartbeats 1000000 in
set_option maxRecDepth 100000 in
theorem covers_any (w : World) (x : PI) (v : Value) (h : InstC w x v) (hi : IOk x) (hx : PIok x) (A : Option Addr) (m c : Nat) (xs : List Int) (hC : (Kd.int .i64).C w A m xs) (hm : m ≤ 17592186044416) (hr : ∀ k ∈ xs, 0 ≤ k ∧ k < x.sets.length) (r : Bool) (RR : r = covB x xs) :
    Calls Tryz.prog 95 #[v, .slice A m c] w fun e w' => e = .returned (.bool r) ∧ Aside0 (Below w.heap.size w w') := by
  have HC := Aside0.mk hC
  have HL : Aside0 (xs.length = m) := ⟨hC.1⟩
  have HR := Aside0.mk RR
  have HX := Aside0.mk hx
  have HI := Aside0.mk hi
  have HE := Aside0.mk hr
  obtain ⟨n, hn⟩ : ∃ n : Nat, x.size = (n : Int) := ⟨x.size.toNat, by have := hi.size.1; omega⟩
  have hn5 : n ≤ 4096 := by have := hi.size.2; omega
  obtain ⟨A2, c2, A3, c3, A5, c5, rfl, h2, l2, h3, l3, h5, l5⟩ := h
  have H5 := Aside0.mk h5
  obtain ⟨K, hK1⟩ : ∃ K, K = x.sets.length := ⟨_, rfl⟩
  rw [← hK1] at H5 HE l5 ⊢
  rw [hn]
  have HN := Aside0.mk hn
  have HKK := Aside0.mk hK1
  clear h2 h3 h5 l2 l3 hi hx hr hC RR hn hK1
  have hu54 := Tryz.underlying76
  have hu197 := Tryz.underlying189
  have hu102 := Tryz.underlying161
  go_enter Tryz.func95, Tryz.ntmps95
  go_upto_region 1 with fail
  obtain ⟨W1, hW1⟩ : ∃ W, W = w.alloc (.cells #[.int .i64 x.kind, .int .i64 x.cap, .slice A2 x.items.length c2, .slice A3 x.cost.length c3, .int .i64 (n : Int), .slice A5 K c5] 76) := ⟨_, rfl⟩
  rw [← hW1]
  have B1 : Aside0 (Below w.heap.size w W1) := ⟨by rw [hW1]; exact below_alloc (Below.refl _ _) _⟩
  obtain ⟨p1, hp1⟩ : ∃ p, p = w.heap.size := ⟨_, rfl⟩
  have Q1 : Aside0 (W1.heap[p1]? = some (.cells #[.int .i64 x.kind, .int .i64 x.cap, .slice A2 x.items.length c2, .slice A3 x.cost.length c3, .int .i64 (n : Int), .slice A5 K c5] 76 (0, 0))) := ⟨by rw [hW1, hp1]; exact heap_alloc_new _ _⟩
  rw [← hp1]
  clear hW1 hp1
  have q4 : W1.cell? ⟨p1, 4, none⟩ = some (.int .i64 (n : Int)) := (blk_cell Q1.out 4).trans rfl
  go_wp2_with fail
  refine (new_any W1 n hn5).mono ?_
  rintro _ w2 ⟨vs, rfl, H2⟩
  obtain ⟨g0, cc, ws, rfl, hc0, hw0⟩ := H2.out.1
  clear q4
  go_upto_region 2 with fail
  obtain ⟨W3, hW3⟩ : ∃ W, W = w2.alloc (.cells #[.int .i64 (n : Int), .slice (some ⟨g0, 0, none⟩) ws.length cc] 189) := ⟨_, rfl⟩
  rw [← hW3]
  obtain ⟨p5, hp5⟩ : ∃ p, p = w2.heap.size := ⟨_, rfl⟩
  have B3 : Aside0 (Below W1.heap.size W1 W3) := ⟨by rw [hW3]; exact H2.out.2.alloc H2.out.2.size _⟩
  have G5 : Aside0 (W1.heap.size ≤ p5) := ⟨by rw [hp5]; exact H2.out.2.size⟩
  have K0 : Aside0 (∃ (g q cc : Nat), W3.heap[p5]? = some (.cells (#[.int .i64 (n : Int), .slice (some ⟨g, 0, none⟩) q cc]) 189 (0, 0)) ∧ BS W3 (.agg (#[.int .i64 (n : Int), .slice (some ⟨g, 0, none⟩) q cc])) n (inP ((xs.take 0).flatMap (elsC x)) n) ∧ Below W1.heap.size W1 W3) := ⟨g0, ws.length, cc, by rw [hW3, hp5]; exact heap_alloc_new _ _, by
    rw [hW3]
    exact (BS.below (v := .agg #[.int .i64 (n : Int), .slice (some ⟨g0, 0, none⟩) ws.length cc]) ⟨g0, cc, ws, rfl, hc0, hw0⟩ (below_alloc (Below.refl _ _) _)).same (fun k => by unfold inP; simp), B3.out⟩
  rw [← hp5]
  clear hW3 hp5 hc0 hw0 H2
  go_wp2_with fail
  go_loopw [19] (fun v19 wr => ∃ j : Nat, j ≤ m ∧ v19 = .int .i64 (j : Int) ∧ Aside0 (∃ (g q cc : Nat), wr.heap[p5]? = some (.cells (#[.int .i64 (n : Int), .slice (some ⟨g, 0, none⟩) q cc]) 189 (0, 0)) ∧ BS wr (.agg (#[.int .i64 (n : Int), .slice (some ⟨g, 0, none⟩) q cc])) n (inP ((xs.take j).flatMap (elsC x)) n) ∧ Below W1.heap.size W1 wr)) (fun v19 _ => m - (intOf v19).toNat)
  case atStart => exact ⟨0, Nat.zero_le _, rfl, K0⟩
  case round =>
    clear K0
    obtain ⟨j, hj, rfl, KK⟩ := hrel
    by_cases hlt : j < m
    · have BR : Aside0 (Below W1.heap.size W1 wr) := ⟨by
        obtain ⟨g, q, cc, k1, k2, k3⟩ := KK.out
        exact k3⟩
      obtain ⟨ae, rfl, hx'⟩ := at_Int HC.out j hlt
      have hx := pw_cell_below (B1.out.trans (BR.out.mono B1.out.size)) hx'
      have hzr := HE.out (xs.getD j 0) (getD_mem' (by rw [HL.out]; exact hlt))
      obtain ⟨k, hk⟩ : ∃ k : Nat, (k : Int) = xs.getD j 0 := ⟨(xs.getD j 0).toNat, by omega⟩
      rw [← hk] at hx hzr
      have hkK : k < K := by omega
      have HK := Aside0.mk hk
      obtain ⟨ad, AE, cE, rfl, a0', a1', lE, hE⟩ := at_T161 H5.out (k : Int) (by omega) (by omega)
      have a1 := pw_cell_below (B1.out.trans (BR.out.mono B1.out.size)) a1'
      rw [Int.toNat_natCast] at a1
      have hkl : k < x.sets.length := by rw [← HKK.out]; exact hkK
      have hmk : rd_T161 x.sets (k : Int) = x.sets.getD k ⟨0, []⟩ := by
        unfold rd_T161
        rw [Int.toNat_natCast]
        rfl
      obtain ⟨el, hl0⟩ : ∃ z, z = (x.sets.getD k ⟨0, []⟩).f1 := ⟨_, rfl⟩
      rw [hmk, ← hl0] at a1 hE lE
      have HEL : Aside0 (el = elsC x (xs.getD j 0)) := ⟨by rw [hl0, ← hk]; rfl⟩
      obtain ⟨nE, hnE⟩ : ∃ n, n = el.length := ⟨_, rfl⟩
      rw [← hnE] at a1 hE lE
      have hEN : nE ≤ 17592186044416 := by
        rw [hnE, hl0]
        exact HX.out.els _ (by
          rw [List.getD_eq_getElem?_getD, List.getElem?_eq_getElem hkl]
          exact List.getElem_mem hkl)
      have HEE := Aside0.mk hE
      have HNE := Aside0.mk hnE
      have NX : Aside0 ((xs.take (j + 1)).flatMap (elsC x) = (xs.take j).flatMap (elsC x) ++ el) := ⟨by
        rw [take_snoc (show j < xs.length by rw [HL.out]; exact hlt) 0, List.flatMap_append, HEL.out]
        simp⟩
      clear hx' hzr hk a0' a1' hmk hl0 hnE hkl hE
      have q5 : wr.cell? ⟨p1, 5, none⟩ = some (.slice (some ad) K c5) := (blk_cell (blk_below Q1.out BR.out) 5).trans rfl
      go_wp2_with fail
      clear q5 hx a1
      have J0 : Aside0 (∃ (g q cc : Nat), wr.heap[p5]? = some (.cells (#[.int .i64 (n : Int), .slice (some ⟨g, 0, none⟩) q cc]) 189 (0, 0)) ∧ BS wr (.agg (#[.int .i64 (n : Int), .slice (some ⟨g, 0, none⟩) q cc])) n (inP ((xs.take j).flatMap (elsC x) ++ el.take 0) n) ∧ Below W1.heap.size W1 wr) := ⟨by
        rw [List.take_zero, List.append_nil]
        exact KK.out⟩
      clear KK BR
      go_loopw [30] (fun v30 wr => ∃ i : Nat, i ≤ nE ∧ v30 = .int .i64 (i : Int) ∧ Aside0 (∃ (g q cc : Nat), wr.heap[p5]? = some (.cells (#[.int .i64 (n : Int), .slice (some ⟨g, 0, none⟩) q cc]) 189 (0, 0)) ∧ BS wr (.agg (#[.int .i64 (n : Int), .slice (some ⟨g, 0, none⟩) q cc])) n (inP ((xs.take j).flatMap (elsC x) ++ el.take i) n) ∧ Below W1.heap.size W1 wr)) (fun v30 _ => nE - (intOf v30).toNat)
      case atStart => exact ⟨0, Nat.zero_le _, rfl, J0⟩
      case round =>
        clear J0
        obtain ⟨i, hi, rfl, KJ⟩ := hrel
        by_cases hli : i < nE
        · obtain ⟨g, q, cc, k1, k2, k3⟩ := KJ.out
          have q0 : wr.cell? ⟨p5, 0, none⟩ = some (.int .i64 (n : Int)) := (blk_cell k1 0).trans rfl
          have q1 : wr.cell? ⟨p5, 1, none⟩ = some (.slice (some ⟨g, 0, none⟩) q cc) := (blk_cell k1 1).trans rfl
          have KS := Aside0.mk (And.intro k1 (And.intro k2 k3))
          clear k1 k2 k3 KJ
          obtain ⟨ae2, rfl, hy'⟩ := at_Int HEE.out i hli
          have hy := pw_cell_below (B1.out.trans (KS.out.2.2.mono B1.out.size)) hy'
          obtain ⟨z, hz⟩ : ∃ z, z = el.getD i 0 := ⟨_, rfl⟩
          rw [← hz] at hy
          have HZ := Aside0.mk hz
          clear hy' hz
          go_wp2_with fail
          refine (with_any wr _ n _ KS.out.2.1 hn5 z).mono ?_
          rintro _ w4 ⟨v4, rfl, H4⟩
          obtain ⟨g4, c4, ws4, rfl, o4, d4⟩ := H4.out.1
          have Q6 := Aside0.mk (blk_below KS.out.1 H4.out.2)
          have B6 : Aside0 (Below W1.heap.size W1 w4) := ⟨KS.out.2.2.trans (H4.out.2.mono KS.out.2.2.size)⟩
          clear q0 q1 hy
          have e0 : w4.cell? ⟨p5, 0, none⟩ = some (.int .i64 (n : Int)) := (blk_cell Q6.out 0).trans rfl
          have e1 : w4.cell? ⟨p5, 1, none⟩ = some (.slice (some ⟨g, 0, none⟩) q cc) := (blk_cell Q6.out 1).trans rfl
          have e2 : ∀ j, w4.frozen? ⟨p5, j, none⟩ = false := fun j => blk_frozen Q6.out j
          obtain ⟨nw, hnw⟩ : ∃ q, q = ws4.length := ⟨_, rfl⟩
          have N1 : Aside0 (∃ (g q cc : Nat), ((w4.setCell ⟨p5, 0, none⟩ (.int .i64 (n : Int))).setCell ⟨p5, 1, none⟩ (.slice (some ⟨g4, 0, none⟩) ws4.length c4)).heap[p5]? = some (.cells (#[.int .i64 (n : Int), .slice (some ⟨g, 0, none⟩) q cc]) 189 (0, 0)) ∧ BS ((w4.setCell ⟨p5, 0, none⟩ (.int .i64 (n : Int))).setCell ⟨p5, 1, none⟩ (.slice (some ⟨g4, 0, none⟩) ws4.length c4)) (.agg (#[.int .i64 (n : Int), .slice (some ⟨g, 0, none⟩) q cc])) n (inP ((xs.take j).flatMap (elsC x) ++ el.take (i + 1)) n) ∧ Below W1.heap.size W1 ((w4.setCell ⟨p5, 0, none⟩ (.int .i64 (n : Int))).setCell ⟨p5, 1, none⟩ (.slice (some ⟨g4, 0, none⟩) ws4.length c4))) :=
            ⟨g4, ws4.length, c4, blk_set (blk_set Q6.out 0 _) 1 _, (((BS.set (v := .agg #[.int .i64 (n : Int), .slice (some ⟨g4, 0, none⟩) ws4.length c4]) ⟨g4, c4, ws4, rfl, o4, d4⟩ Q6.out (by decide) 0 _).set (blk_set Q6.out 0 _) (by decide) 1 _)).same (fun k => by
              have hl : i < el.length := by rw [← HNE.out]; exact hli
              show (inP ((xs.take j).flatMap (elsC x) ++ el.take i) n k || (decide (0 ≤ z) && decide (z < (n : Int)) && decide (k = z.toNat))) = inP ((xs.take j).flatMap (elsC x) ++ el.take (i + 1)) n k
              rw [take_snoc hl 0, ← HZ.out, ← List.append_assoc]
              exact inP_snoc _ _ _ _), (B6.out.setCell (p := ⟨p5, 0, none⟩) G5.out _).setCell (p := ⟨p5, 1, none⟩) G5.out _⟩
          rw [← hnw] at N1 ⊢
          clear o4 d4 H4 hnw
          go_wp2_with fail
          exact ⟨⟨i + 1, by omega, by go_num, N1⟩, by simp [intOf]; omega⟩
        · obtain rfl : nE = i := by omega
          have N1 : Aside0 (∃ (g q cc : Nat), wr.heap[p5]? = some (.cells (#[.int .i64 (n : Int), .slice (some ⟨g, 0, none⟩) q cc]) 189 (0, 0)) ∧ BS wr (.agg (#[.int .i64 (n : Int), .slice (some ⟨g, 0, none⟩) q cc])) n (inP ((xs.take (j + 1)).flatMap (elsC x)) n) ∧ Below W1.heap.size W1 wr) := ⟨by
            have h1 := KJ.out
            rw [List.take_of_length_le (l := el) (by rw [HNE.out]; exact Nat.le_refl _), ← NX.out] at h1
            exact h1⟩
          go_wp2_with fail
          exact ⟨⟨j + 1, by omega, by go_num, N1⟩, by simp [intOf]; omega⟩
    · obtain rfl : m = j := by omega
      have hall : xs.take m = xs := List.take_of_length_le (by rw [HL.out]; exact Nat.le_refl _)
      obtain ⟨ct, hct⟩ : ∃ ct, ct = (List.range n).countP (inP ((xs.take m).flatMap (elsC x)) n) := ⟨_, rfl⟩
      have HCT := Aside0.mk hct
      have RF : Aside0 (r = ((ct : Int) == (n : Int))) := ⟨by
        have h1 : (ct = n) ↔ (List.range n).all (fun k => decide ((k : Int) ∈ xs.flatMap (elsC x))) = true := by rw [hct, hall]; exact count_in _ _
        rw [HR.out]
        unfold covB
        rw [HN.out, Int.toNat_natCast, Bool.eq_iff_iff, ← h1, beq_iff_eq]
        omega⟩
      clear hall hct
      obtain ⟨g, q, cc, k1, k2, k3⟩ := KK.out
      go_upto_region 11 with fail
      obtain ⟨wo, hwo⟩ : ∃ wo : World, wo = wr := ⟨_, rfl⟩
      rw [← hwo] at k1 k2 k3 ⊢
      clear hwo KK
      have z0 : wo.drew.cell? ⟨p5, 0, none⟩ = some (.int .i64 (n : Int)) := (blk_cell k1 0).trans rfl
      have z1 : wo.drew.cell? ⟨p5, 1, none⟩ = some (.slice (some ⟨g, 0, none⟩) q cc) := (blk_cell k1 1).trans rfl
      have z2 : wo.drew.cell? ⟨p1, 4, none⟩ = some (.int .i64 (n : Int)) := (blk_cell (blk_below Q1.out k3) 4).trans rfl
      have ZZ := Aside0.mk (And.intro z0 (And.intro z1 z2))
      have KS := Aside0.mk (And.intro k1 (And.intro k2 k3))
      clear k1 k2 k3
      refine start_ (n := 6) (S := fun w' => w'.cell? ⟨p5, 0, none⟩ = some (.int .i64 (n : Int)) ∧ w'.cell? ⟨p5, 1, none⟩ = some (.slice (some ⟨g, 0, none⟩) q cc) ∧ w'.cell? ⟨p1, 4, none⟩ = some (.int .i64 (n : Int))) (ds := []) #[false, false, false, false, false, false] (by kernel_rfl) rfl rfl ⟨z0, z1, z2⟩ (fun hHeld => ?_)
      clear z0 z1 z2
      refine take_ (i := 0) (N := some 39) (v := ?_) (a' := ?_) #[true, false, false, false, false, false] rfl rfl (by kernel_rfl) (fun _ _ _ h => h) (Or.inl ⟨by rfl, ?_⟩) hHeld ?_ ?_
      rotate_left
      · rintro w' ⟨s0, s1, s2⟩
        go_simp
        with_reducible rfl
      rotate_left
      · simp only [Act.put, List.setIfInBounds_toArray, List.set_cons_zero, List.set_cons_succ]
        rfl
      refine pure_ (i := 2) (N := some 41) (v := ?_) (a' := ?_) #[true, false, true, false, false, false] rfl rfl (by kernel_rfl) (fun _ _ _ h => h) (Or.inl ⟨by rfl, ?_⟩) ?_ ?_
      rotate_left
      · intro w'
        go_simp
        with_reducible rfl
      rotate_left
      · simp only [Act.put, List.setIfInBounds_toArray, List.set_cons_zero, List.set_cons_succ]
        rfl
      refine take_ (i := 3) (N := some 42) (v := ?_) (a' := ?_) #[true, false, true, true, false, false] rfl rfl (by kernel_rfl) (fun _ _ _ h => h) (Or.inl ⟨by rfl, ?_⟩) hHeld ?_ ?_
      rotate_left
      · rintro w' ⟨s0, s1, s2⟩
        go_simp
        with_reducible rfl
      rotate_left
      · simp only [Act.put, List.setIfInBounds_toArray, List.set_cons_zero, List.set_cons_succ]
        rfl
      refine one_ (i := 1) (N := some 40) #[true, true, true, true, false, false] rfl rfl (by kernel_rfl) (by decide) (fun K hK => ?_)
      refine goes_ Tryz.func130 (by kernel_rfl) rfl #[.agg #[.int .i64 (n : Int), .slice (some ⟨g, 0, none⟩) q cc]] (by rfl) rfl rfl (by (try simp only [List.map_toArray, List.map_cons, List.map_nil]); first | done | rfl) ?_
      refine (count_any wo.drew _ n _ (KS.out.2.1.below (below_drew (Below.refl _ _))) hn5).mono ?_
      rintro _ w7 ⟨rfl, hb7⟩
      rw [← HCT.out]
      have H7 := Aside0.mk hb7
      refine ⟨_, rfl, ?_⟩
      refine hK.out _ _ ⟨pw_cell_below hb7 ZZ.out.1, pw_cell_below hb7 ZZ.out.2.1, pw_cell_below hb7 ZZ.out.2.2⟩ (fun _ => ?_)
      clear hK K hb7
      refine norm_ (a' := ?_) ?_ ?_
      rotate_left
      · show Act.put _ (some 40) _ = _
        simp only [Act.put, List.setIfInBounds_toArray, List.set_cons_zero, List.set_cons_succ]
        rfl
      refine pure_ (i := 4) (N := some 43) (v := ?_) (a' := ?_) #[true, true, true, true, true, false] rfl rfl (by kernel_rfl) (fun _ _ _ h => h) (Or.inl ⟨by rfl, ?_⟩) ?_ ?_
      rotate_left
      · intro w'
        go_simp
        with_reducible rfl
      rotate_left
      · simp only [Act.put, List.setIfInBounds_toArray, List.set_cons_zero, List.set_cons_succ]
        rfl
      refine pure_ (i := 5) (N := some 4) (v := ?_) (a' := ?_) #[true, true, true, true, true, true] rfl rfl (by kernel_rfl) (fun _ _ _ h => h) (Or.inl ⟨by rfl, ?_⟩) ?_ ?_
      rotate_left
      · intro w'
        go_simp
        with_reducible rfl
      rotate_left
      · simp only [Act.put, List.setIfInBounds_toArray, List.set_cons_zero, List.set_cons_succ]
        rfl
      refine done_ (by kernel_rfl) ?_
      go_wp2_with fail
      go_ret
      refine ⟨by rw [RF.out]; rfl, ⟨(B1.out.trans (KS.out.2.2.mono B1.out.size)).trans ?_⟩⟩
      exact ((below_drew (Below.refl _ wo)).trans H7.out).mono (Nat.le_trans B1.out.size KS.out.2.2.size)
end Go.Proofs.YtofomlpdklhigaaGreatDoor.Hand
