/- The document's Check of an instance: walked. -/
import Derived.Test.YtelabmhhnpfegaaDh
namespace Go.Proofs.Ytelabmhhnpfegaa.Hand
open Go.RowKit Go.Proofs.YtelabmhhnpfegaaW.PrintWords Go.Proofs.YtelabmhhnpfegaaW.PrintLast Go.Proofs.YtelabmhhnpfegaaW.PrintMore Go.Proofs.Ytelabmhhnpfegaa.PDynCells
theorem out_any (z lo hi : Int) (w : World) : Calls Try.prog 99 #[.int .i64 z, .int .i64 lo, .int .i64 hi] w fun e w' => e = .returned (.bool (!(decide (z ≥ lo) && decide (z ≤ hi)))) ∧ w = w' := by
  cases h1 : decide (z < lo) with
  | true =>
    have e : decide (z ≥ lo) = false := decide_eq_false (by have := of_decide_eq_true h1; omega)
    rw [e]
    go_enter Try.func99, Try.ntmps99
    go_wp2
    go_ret
    exact ⟨rfl, rfl⟩
  | false =>
    have e : decide (z ≥ lo) = true := decide_eq_true (by have := of_decide_eq_false h1; omega)
    rw [e]
    cases h2 : decide (z > hi) with
    | true =>
      have e2 : decide (z ≤ hi) = false := decide_eq_false (by have := of_decide_eq_true h2; omega)
      rw [e2]
      go_enter Try.func99, Try.ntmps99
      go_wp2
      go_ret
      exact ⟨rfl, rfl⟩
    | false =>
      have e2 : decide (z ≤ hi) = true := decide_eq_true (by have := of_decide_eq_false h2; omega)
      rw [e2]
      go_enter Try.func99, Try.ntmps99
      go_wp2
      go_ret
      exact ⟨rfl, rfl⟩
set_option maxHeartbeats 4000000 in
set_option maxRecDepth 100000 in
theorem numbers_any (w : World) (x : PI) (v : Value) (h : InstC w x v) (hx : PIok x) : Calls Try.prog 62 #[v] w fun e w' => e = .returned (.bool (smallB x)) ∧ Below w.heap.size w w' := by
  obtain ⟨A2, c2, A3, c3, A5, c5, rfl, h2, l2, h3, l3, h5, l5⟩ := h
  obtain ⟨n2, hn2⟩ : ∃ n, n = x.items.length := ⟨_, rfl⟩
  obtain ⟨n3, hn3⟩ : ∃ n, n = x.cost.length := ⟨_, rfl⟩
  obtain ⟨n5, hn5⟩ : ∃ n, n = x.sets.length := ⟨_, rfl⟩
  obtain ⟨kd, hkd⟩ : ∃ n, n = x.kind := ⟨_, rfl⟩
  obtain ⟨cap, hcap⟩ : ∃ n, n = x.cap := ⟨_, rfl⟩
  obtain ⟨sz, hsz⟩ : ∃ n, n = x.size := ⟨_, rfl⟩
  have b2 := hx.items
  have b3 := hx.cost
  have b5 := hx.sets
  rw [← hn2] at h2 l2 b2 ⊢
  rw [← hn3] at h3 l3 b3 ⊢
  rw [← hn5] at h5 l5 b5 ⊢
  rw [← hkd, ← hcap, ← hsz]
  have HF := Aside0.mk (And.intro hkd (And.intro hcap hsz))
  have HN2 := Aside0.mk hn2
  have HN3 := Aside0.mk hn3
  have HN5 := Aside0.mk hn5
  have H2 := Aside0.mk h2
  have H3 := Aside0.mk h3
  have H5 := Aside0.mk h5
  have HX := Aside0.mk hx
  clear hkd hcap hsz hn2 hn3 hn5 h2 h3 h5 hx
  have hu57 := Try.underlying57
  have hu68 := Try.underlying68
  have hu103 := Try.underlying103
  go_enter Try.func62, Try.ntmps62
  go_wp2_with fail
  refine (out_any cap 0 2147483648 _).mono ?_
  rintro _ _ ⟨rfl, rfl⟩
  obtain ⟨b, hb⟩ : ∃ b : Bool, b = !(decide (cap ≥ 0) && decide (cap ≤ 2147483648)) := ⟨_, rfl⟩
  rw [← hb]
  have HB0 : Aside0 (b = !(inB x.cap 0)) := ⟨by rw [hb, HF.out.2.1]; rfl⟩
  clear hb
  obtain ⟨W1, hW1⟩ : ∃ W, W = w.alloc (.cells #[.int .i64 kd, .int .i64 cap, .slice A2 n2 c2, .slice A3 n3 c3, .int .i64 sz, .slice A5 n5 c5] 57) := ⟨_, rfl⟩
  rw [← hW1]
  have B1 : Aside0 (Below w.heap.size w W1) := ⟨by rw [hW1]; exact below_alloc (Below.refl _ _) _⟩
  obtain ⟨p1, hp1⟩ : ∃ p, p = w.heap.size := ⟨_, rfl⟩
  have Q1 : Aside0 (W1.heap[p1]? = some (.cells #[.int .i64 kd, .int .i64 cap, .slice A2 n2 c2, .slice A3 n3 c3, .int .i64 sz, .slice A5 n5 c5] 57 (0, 0))) := ⟨by rw [hW1, hp1]; exact heap_alloc_new _ _⟩
  rw [← hp1]
  clear hW1 hp1
  have q2 : W1.cell? ⟨p1, 2, none⟩ = some (.slice A2 n2 c2) := (blk_cell Q1.out 2).trans rfl
  have q3 : W1.cell? ⟨p1, 3, none⟩ = some (.slice A3 n3 c3) := (blk_cell Q1.out 3).trans rfl
  have q5 : W1.cell? ⟨p1, 5, none⟩ = some (.slice A5 n5 c5) := (blk_cell Q1.out 5).trans rfl
  go_wp2_with fail
  have K0 : Aside0 (b = !(inB x.cap 0 && (x.items.take 0).all itB)) := ⟨by rw [HB0.out]; simp⟩
  go_loop [3, 4] (fun v i => ∃ (k : Nat) (b : Bool), k ≤ n2 ∧ v = .bool b ∧ i = .int .i64 k ∧ Aside0 (b = !(inB x.cap 0 && (x.items.take k).all itB))) (fun _ i => n2 - (intOf i).toNat)
  case atStart => exact ⟨0, b, Nat.zero_le _, rfl, rfl, K0⟩
  case round =>
    clear K0 HB0
    obtain ⟨k, b, hk, rfl, rfl, KB⟩ := hrel
    by_cases hlt : k < n2
    · obtain ⟨ad, rfl, a0, a1⟩ := at_T101 (Kd.C_below H2.out B1.out) (k : Int) (by omega) (by omega)
      rw [Int.toNat_natCast] at a0 a1
      obtain ⟨s, hs⟩ : ∃ s, s = rd_T101 x.items (k : Int) := ⟨_, rfl⟩
      rw [← hs] at a0 a1
      have NX := Aside0.mk (all_take (l := x.items) (i := k) (by rw [← HN2.out]; exact hlt) z101 itB)
      have HS : Aside0 (s = x.items.getD k z101) := ⟨by rw [hs]; unfold rd_T101; rw [Int.toNat_natCast]⟩
      clear hs
      go_wp2_with fail
      refine (out_any s.f0 0 2147483648 _).mono ?_
      rintro _ _ ⟨rfl, rfl⟩
      obtain ⟨c0, hc0⟩ : ∃ b : Bool, b = inB s.f0 0 := ⟨_, rfl⟩
      rw [show (decide (s.f0 ≥ 0) && decide (s.f0 ≤ 2147483648)) = c0 from hc0.symm]
      have C0 := Aside0.mk hc0
      clear hc0
      go_wp2_with fail
      refine (out_any s.f1 0 2147483648 _).mono ?_
      rintro _ _ ⟨rfl, rfl⟩
      obtain ⟨c1, hc1⟩ : ∃ b : Bool, b = inB s.f1 0 := ⟨_, rfl⟩
      rw [show (decide (s.f1 ≥ 0) && decide (s.f1 ≤ 2147483648)) = c1 from hc1.symm]
      have C1 := Aside0.mk hc1
      clear hc1
      have NB : Aside0 ((b || (!c0) || (!c1)) = !(inB x.cap 0 && (x.items.take (k + 1)).all itB)) := ⟨by
        rw [NX.out, KB.out, C0.out, C1.out, ← HS.out]
        rw [show itB s = (inB s.f0 0 && inB s.f1 0) from rfl]
        cases inB x.cap 0 <;> cases (x.items.take k).all itB <;> cases inB s.f0 0 <;> cases inB s.f1 0 <;> rfl⟩
      go_wp2_with fail
      all_goals
        exact ⟨⟨k + 1, _, by omega, rfl, by simp, ⟨by rw [← NB.out]; cases b <;> cases c0 <;> first | rfl | contradiction⟩⟩, by simp [intOf]; omega⟩
    · obtain rfl : n2 = k := by omega
      have K1 : Aside0 (b = !(inB x.cap 0 && x.items.all itB)) := ⟨by rw [KB.out, List.take_of_length_le (by rw [HN2.out]; exact Nat.le_refl _)]⟩
      clear KB hlt hk
      go_wp2_with fail
      have K0 : Aside0 (b = !(inB x.cap 0 && x.items.all itB && (x.cost.take 0).all rowB)) := ⟨by rw [K1.out]; simp⟩
      go_loop [3, 7] (fun v i => ∃ (k : Nat) (b : Bool), k ≤ n3 ∧ v = .bool b ∧ i = .int .i64 k ∧ Aside0 (b = !(inB x.cap 0 && x.items.all itB && (x.cost.take k).all rowB))) (fun _ i => n3 - (intOf i).toNat)
      case atStart => exact ⟨0, b, Nat.zero_le _, rfl, rfl, K0⟩
      case round =>
        clear K0 K1
        obtain ⟨k, b, hk, rfl, rfl, KB⟩ := hrel
        by_cases hlt : k < n3
        · obtain ⟨ad, AY, cY, rfl, a0, ly, hy⟩ := at_L2 (Kd.C_below H3.out B1.out) (k : Int) (by omega) (by omega)
          rw [Int.toNat_natCast] at a0
          have hm : rd_L2 x.cost (k : Int) ∈ x.cost := by
            unfold rd_L2
            rw [Int.toNat_natCast, List.getD_eq_getElem?_getD, List.getElem?_eq_getElem (by rw [← HN3.out]; exact hlt)]
            exact List.getElem_mem _
          have hyl : (rd_L2 x.cost (k : Int)).length ≤ 17592186044416 := HX.out.rows _ hm
          have NX := Aside0.mk (all_take (l := x.cost) (i := k) (by rw [← HN3.out]; exact hlt) [] rowB)
          obtain ⟨y, hy1⟩ : ∃ y, y = rd_L2 x.cost (k : Int) := ⟨_, rfl⟩
          have HS : Aside0 (y = x.cost.getD k []) := ⟨by rw [hy1]; unfold rd_L2; rw [Int.toNat_natCast]⟩
          rw [← hy1] at a0 ly hy hyl
          obtain ⟨nY, hnY⟩ : ∃ n, n = y.length := ⟨_, rfl⟩
          rw [← hnY] at a0 ly hyl hy
          have HNY := Aside0.mk hnY
          have HY := Aside0.mk hy
          clear hy hnY hy1 hm
          go_wp2_with fail
          have K0 : Aside0 (b = !(inB x.cap 0 && x.items.all itB && (x.cost.take k).all rowB && (y.take 0).all fun z => inB z (-2147483648))) := ⟨by rw [KB.out]; simp⟩
          go_loop [3, 8] (fun v i => ∃ (j : Nat) (b : Bool), j ≤ nY ∧ v = .bool b ∧ i = .int .i64 j ∧ Aside0 (b = !(inB x.cap 0 && x.items.all itB && (x.cost.take k).all rowB && (y.take j).all fun z => inB z (-2147483648)))) (fun _ i => nY - (intOf i).toNat)
          case atStart => exact ⟨0, b, Nat.zero_le _, rfl, rfl, K0⟩
          case round =>
            clear K0 KB
            obtain ⟨j, b, hj, rfl, rfl, KJ⟩ := hrel
            by_cases hlt2 : j < nY
            · obtain ⟨ar, rfl, hx⟩ := at_Int HY.out j hlt2
              have NZ := Aside0.mk (all_take (l := y) (i := j) (by rw [← HNY.out]; exact hlt2) 0 (fun z => inB z (-2147483648)))
              obtain ⟨z, hz⟩ : ∃ z, z = y.getD j 0 := ⟨_, rfl⟩
              rw [← hz] at hx
              have HZ := Aside0.mk hz
              clear hz
              go_wp2_with fail
              refine (out_any z (-2147483648) 2147483648 _).mono ?_
              rintro _ _ ⟨rfl, rfl⟩
              obtain ⟨c0, hc0⟩ : ∃ b : Bool, b = inB z (-2147483648) := ⟨_, rfl⟩
              rw [show (decide (z ≥ -2147483648) && decide (z ≤ 2147483648)) = c0 from hc0.symm]
              have C0 := Aside0.mk hc0
              clear hc0
              have NB : Aside0 ((b || (!c0)) = !(inB x.cap 0 && x.items.all itB && (x.cost.take k).all rowB && (y.take (j + 1)).all fun z => inB z (-2147483648))) := ⟨by
                rw [NZ.out, KJ.out, C0.out, ← HZ.out]
                cases inB x.cap 0 <;> cases x.items.all itB <;> cases (x.cost.take k).all rowB <;> cases (y.take j).all (fun z => inB z (-2147483648)) <;> cases inB z (-2147483648) <;> rfl⟩
              go_wp2_with fail
              all_goals
                exact ⟨⟨j + 1, _, by omega, rfl, by simp, ⟨by rw [← NB.out]; cases b <;> first | rfl | contradiction⟩⟩, by simp [intOf]; omega⟩
            · obtain rfl : nY = j := by omega
              have NB : Aside0 (b = !(inB x.cap 0 && x.items.all itB && (x.cost.take (k + 1)).all rowB)) := ⟨by
                rw [KJ.out, NX.out, ← HS.out, List.take_of_length_le (l := y) (by rw [HNY.out]; exact Nat.le_refl _)]
                show _ = !(inB x.cap 0 && x.items.all itB && ((x.cost.take k).all rowB && y.all fun z => inB z (-2147483648)))
                rw [Bool.and_assoc (inB x.cap 0 && x.items.all itB)]⟩
              go_wp2_with fail
              exact ⟨⟨k + 1, b, by omega, rfl, by simp, NB⟩, by simp [intOf]; omega⟩
        · obtain rfl : n3 = k := by omega
          have K1 : Aside0 (b = !(inB x.cap 0 && x.items.all itB && x.cost.all rowB)) := ⟨by rw [KB.out, List.take_of_length_le (by rw [HN3.out]; exact Nat.le_refl _)]⟩
          clear KB hlt hk
          go_wp2_with fail
          have K0 : Aside0 (b = !(inB x.cap 0 && x.items.all itB && x.cost.all rowB && (x.sets.take 0).all fun s => inB s.f0 0)) := ⟨by rw [K1.out]; simp⟩
          go_loop [3, 10] (fun v i => ∃ (k : Nat) (b : Bool), k ≤ n5 ∧ v = .bool b ∧ i = .int .i64 k ∧ Aside0 (b = !(inB x.cap 0 && x.items.all itB && x.cost.all rowB && (x.sets.take k).all fun s => inB s.f0 0))) (fun _ i => n5 - (intOf i).toNat)
          case atStart => exact ⟨0, b, Nat.zero_le _, rfl, rfl, K0⟩
          case round =>
            clear K0 K1
            obtain ⟨k, b, hk, rfl, rfl, KB⟩ := hrel
            by_cases hlt : k < n5
            · obtain ⟨ad, AE, cE, rfl, a0, a1, lE, hE⟩ := at_T102 (Kd.C_below H5.out B1.out) (k : Int) (by omega) (by omega)
              rw [Int.toNat_natCast] at a0 a1
              have NX := Aside0.mk (all_take (l := x.sets) (i := k) (by rw [← HN5.out]; exact hlt) z102 (fun s => inB s.f0 0))
              obtain ⟨s, hs⟩ : ∃ s, s = rd_T102 x.sets (k : Int) := ⟨_, rfl⟩
              rw [← hs] at a0
              have HS : Aside0 (s = x.sets.getD k z102) := ⟨by rw [hs]; unfold rd_T102; rw [Int.toNat_natCast]⟩
              clear hs a1 lE hE
              go_wp2_with fail
              refine (out_any s.f0 0 2147483648 _).mono ?_
              rintro _ _ ⟨rfl, rfl⟩
              obtain ⟨c0, hc0⟩ : ∃ b : Bool, b = inB s.f0 0 := ⟨_, rfl⟩
              rw [show (decide (s.f0 ≥ 0) && decide (s.f0 ≤ 2147483648)) = c0 from hc0.symm]
              have C0 := Aside0.mk hc0
              clear hc0
              have NB : Aside0 ((b || (!c0)) = !(inB x.cap 0 && x.items.all itB && x.cost.all rowB && (x.sets.take (k + 1)).all fun s => inB s.f0 0)) := ⟨by
                rw [NX.out, KB.out, C0.out, ← HS.out]
                cases inB x.cap 0 <;> cases x.items.all itB <;> cases x.cost.all rowB <;> cases (x.sets.take k).all (fun s => inB s.f0 0) <;> cases inB s.f0 0 <;> rfl⟩
              go_wp2_with fail
              all_goals
                exact ⟨⟨k + 1, _, by omega, rfl, by simp, ⟨by rw [← NB.out]; cases b <;> first | rfl | contradiction⟩⟩, by simp [intOf]; omega⟩
            · obtain rfl : n5 = k := by omega
              have K1 : Aside0 ((!b) = smallB x) := ⟨by
                rw [KB.out, List.take_of_length_le (by rw [HN5.out]; exact Nat.le_refl _), Bool.not_not]
                rfl⟩
              clear KB hlt hk
              go_wp2_with fail
              go_ret
              exact ⟨by first | rfl | (rw [← K1.out]; rfl), B1.out⟩
end Go.Proofs.Ytelabmhhnpfegaa.Hand
