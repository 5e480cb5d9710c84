/- The document's N and Cells: walked. -/
import Derived.Test.YtelabmhhnpfegaaDq
import Derived.Test.YtelabmhhnpfegaaDj
namespace Go.Proofs.Ytelabmhhnpfegaa.Hand
open Go.RowKit Go.Proofs.YtelabmhhnpfegaaW.PrintWords Go.Proofs.YtelabmhhnpfegaaW.PrintLast Go.Proofs.YtelabmhhnpfegaaW.PrintMore Go.Proofs.Ytelabmhhnpfegaa.PDynCells
set_option maxHeartbeats 400000 in
set_option maxRecDepth 100000 in
theorem rn_any (w : World) (x : PI) (v : Value) (h : InstC w x v) (hx : PIok x) (hi : IOk x) : Calls Try.prog 49 #[v] w fun e w' => e = .returned (.int .i64 (nP x)) ∧ Below w.heap.size w w' := by
  have HI := Aside0.mk h
  have HX := Aside0.mk hx
  have IOa := Aside0.mk hi
  have n2 : x.items.length ≤ 4096 := hi.nitems
  have n5 : x.sets.length ≤ 4096 := hi.nsets
  have n3 : x.cost.length ≤ 64 := by
    by_cases e : x.kind = 1 ∨ x.kind = 2
    · exact (hi.side e).2
    · rw [hi.kc e]; exact Nat.zero_le _
  have NP : Aside0 ((x.kind = 2 → nP x = (x.cost.length : Int) - 1) ∧ (x.kind ≠ 2 → nP x = (x.items.length : Int) + x.cost.length + x.sets.length)) := ⟨by
    have hk := hi.kind
    unfold nP
    constructor
    · intro e
      rw [if_neg (by omega), if_neg (by omega), if_pos e]
    · intro e
      by_cases k0 : x.kind = 0
      · rw [if_pos k0, hi.kc (by omega), (hi.k3 (by omega)).2]
        simp
      · rw [if_neg k0, (hi.k0 k0).2]
        by_cases k1 : x.kind = 1
        · rw [if_pos k1, (hi.k3 (by omega)).2]
          simp
        · rw [if_neg k1, if_neg e, hi.kc (by omega)]
          simp⟩
  obtain ⟨A2, c2, A3, c3, A5, c5, rfl, h2, l2, h3, l3, h5, l5⟩ := h
  clear hi hx h2 h3 h5
  have CK : Aside0 (chk x = 0) := ⟨iok.2 IOa.out⟩
  have hu57 := Try.underlying57
  go_enter Try.func49, Try.ntmps49
  go_wp2_with fail
  obtain ⟨W1, hW1⟩ : ∃ W, W = w.alloc (.cells #[.int .i64 x.kind, .int .i64 x.cap, .slice A2 x.items.length c2, .slice A3 x.cost.length c3, .int .i64 x.size, .slice A5 x.sets.length c5] 57) := ⟨_, rfl⟩
  rw [← hW1]
  have B1 : Aside0 (Below w.heap.size w W1) := ⟨by rw [hW1]; exact below_alloc (Below.refl _ _) _⟩
  obtain ⟨p1, hp1⟩ : ∃ p, p = w.heap.size := ⟨_, rfl⟩
  have Q1 : Aside0 (W1.heap[p1]? = some (.cells #[.int .i64 x.kind, .int .i64 x.cap, .slice A2 x.items.length c2, .slice A3 x.cost.length c3, .int .i64 x.size, .slice A5 x.sets.length c5] 57 (0, 0))) := ⟨by rw [hW1, hp1]; exact heap_alloc_new _ _⟩
  rw [← hp1]
  clear hW1 hp1
  refine (rcheck_any W1 x _ (HI.out.below B1.out) HX.out).mono ?_
  rintro _ W2 ⟨rfl, B2'⟩
  have B2 := Aside0.mk (B1.out.trans (B2'.mono B1.out.size))
  have Q2 : Aside0 (W2.heap[p1]? = some (.cells #[.int .i64 x.kind, .int .i64 x.cap, .slice A2 x.items.length c2, .slice A3 x.cost.length c3, .int .i64 x.size, .slice A5 x.sets.length c5] 57 (0, 0))) := ⟨blk_below Q1.out B2'⟩
  clear B2' Q1
  rw [CK.out]
  have q0 : W2.cell? ⟨p1, 0, none⟩ = some (.int .i64 x.kind) := (blk_cell Q2.out 0).trans rfl
  have q2 : W2.cell? ⟨p1, 2, none⟩ = some (.slice A2 x.items.length c2) := (blk_cell Q2.out 2).trans rfl
  have q3 : W2.cell? ⟨p1, 3, none⟩ = some (.slice A3 x.cost.length c3) := (blk_cell Q2.out 3).trans rfl
  have q5 : W2.cell? ⟨p1, 5, none⟩ = some (.slice A5 x.sets.length c5) := (blk_cell Q2.out 5).trans rfl
  by_cases k2 : x.kind = 2
  · have e := Aside0.mk (NP.out.1 k2)
    have g : (x.kind == 2) = true := by rw [k2]; rfl
    clear k2
    go_wp2_with fail
    go_ret
    exact ⟨by rw [e.out]; rfl, B2.out⟩
  · have e := Aside0.mk (NP.out.2 k2)
    have g : (x.kind == 2) = false := by simpa using k2
    clear k2
    go_wp2_with fail
    go_ret
    exact ⟨by rw [e.out]; rfl, B2.out⟩
theorem pow2_mono {a b : Nat} (h : a ≤ b) : (2 : Int) ^ a ≤ 2 ^ b := by
  have h1 : 2 ^ a ≤ 2 ^ b := Nat.pow_le_pow_right (by omega) h
  have h2 := Int.ofNat_le.2 h1
  rwa [Int.natCast_pow, Int.natCast_pow] at h2
set_option maxHeartbeats 1000000 in
set_option maxRecDepth 100000 in
theorem rcells_any' (w : World) (x : PI) (v : Value) (h : InstC w x v) (hx : PIok x) (r1 r2 : Int) (hr : Aside0 (cellsP x = (r1, r2))) : Calls Try.prog 23 #[v] w fun e w' => e = .returned (.tuple #[.int .i64 r1, .int .i64 r2]) ∧ Below w.heap.size w w' := by
  have HI := Aside0.mk h
  have HX := Aside0.mk hx
  obtain ⟨A2, c2, A3, c3, A5, c5, rfl, h2, l2, h3, l3, h5, l5⟩ := h
  have H2 := Aside0.mk h2
  obtain ⟨n2, hn2⟩ : ∃ n, n = x.items.length := ⟨_, rfl⟩
  obtain ⟨n3, hn3⟩ : ∃ n, n = x.cost.length := ⟨_, rfl⟩
  obtain ⟨n5, hn5⟩ : ∃ n, n = x.sets.length := ⟨_, rfl⟩
  obtain ⟨kd, hkd⟩ : ∃ n, n = x.kind := ⟨_, rfl⟩
  obtain ⟨cap, hcap⟩ : ∃ n, n = x.cap := ⟨_, rfl⟩
  obtain ⟨sz, hsz⟩ : ∃ n, n = x.size := ⟨_, rfl⟩
  rw [← hn2] at HI H2 l2 ⊢
  rw [← hn3] at HI l3 ⊢
  rw [← hn5] at HI l5 ⊢
  rw [← hkd, ← hcap, ← hsz] at HI ⊢
  have HF := Aside0.mk (And.intro hkd (And.intro hcap hsz))
  have HN := Aside0.mk (And.intro hn2 (And.intro hn3 hn5))
  clear hkd hcap hsz hn2 hn3 hn5 h2 h3 h5 hx
  have hu57 := Try.underlying57
  have hu111 := Try.underlying111
  go_enter Try.func23, Try.ntmps23
  go_wp2_with fail
  obtain ⟨W1, hW1⟩ : ∃ W, W = w.alloc (.cells #[.int .i64 kd, .int .i64 cap, .slice A2 n2 c2, .slice A3 n3 c3, .int .i64 sz, .slice A5 n5 c5] 57) := ⟨_, rfl⟩
  rw [← hW1]
  have B1 : Aside0 (Below w.heap.size w W1) := ⟨by rw [hW1]; exact below_alloc (Below.refl _ _) _⟩
  obtain ⟨p1, hp1⟩ : ∃ p, p = w.heap.size := ⟨_, rfl⟩
  have Q1 : Aside0 (W1.heap[p1]? = some (.cells #[.int .i64 kd, .int .i64 cap, .slice A2 n2 c2, .slice A3 n3 c3, .int .i64 sz, .slice A5 n5 c5] 57 (0, 0))) := ⟨by rw [hW1, hp1]; exact heap_alloc_new _ _⟩
  rw [← hp1]
  clear hW1 hp1
  refine (rcheck_any W1 x _ (HI.out.below B1.out) HX.out).mono ?_
  rintro _ W2 ⟨rfl, B2'⟩
  have B2 := Aside0.mk (B1.out.trans (B2'.mono B1.out.size))
  have Q2 : Aside0 (W2.heap[p1]? = some (.cells #[.int .i64 kd, .int .i64 cap, .slice A2 n2 c2, .slice A3 n3 c3, .int .i64 sz, .slice A5 n5 c5] 57 (0, 0))) := ⟨blk_below Q1.out B2'⟩
  clear B2' Q1 B1
  by_cases hc : chk x = 0
  · rw [hc]
    have IOa := Aside0.mk (iok.1 hc)
    have CP : Aside0 ((r1, r2) = if 1048576 < qP x then (0, 24) else (qP x, 0)) := ⟨by rw [← hr.out]; unfold cellsP; rw [if_pos hc]⟩
    have N2 : n2 ≤ 4096 := by rw [HN.out.1]; exact IOa.out.nitems
    have N5 : n5 ≤ 4096 := by rw [HN.out.2.2]; exact IOa.out.nsets
    have SZ : 0 ≤ sz ∧ sz ≤ 4096 := by rw [HF.out.2.2]; exact IOa.out.size
    have CA : 0 ≤ cap ∧ cap ≤ 2147483648 := by rw [HF.out.2.1]; exact IOa.out.cap
    obtain ⟨SZ0, SZ1⟩ := SZ
    obtain ⟨CA0, CA1⟩ := CA
    clear hc
    have q0 : W2.cell? ⟨p1, 0, none⟩ = some (.int .i64 kd) := (blk_cell Q2.out 0).trans rfl
    have q1 : W2.cell? ⟨p1, 1, none⟩ = some (.int .i64 cap) := (blk_cell Q2.out 1).trans rfl
    have q2 : W2.cell? ⟨p1, 2, none⟩ = some (.slice A2 n2 c2) := (blk_cell Q2.out 2).trans rfl
    have q3 : W2.cell? ⟨p1, 3, none⟩ = some (.slice A3 n3 c3) := (blk_cell Q2.out 3).trans rfl
    have q4 : W2.cell? ⟨p1, 4, none⟩ = some (.int .i64 sz) := (blk_cell Q2.out 4).trans rfl
    have q5 : W2.cell? ⟨p1, 5, none⟩ = some (.slice A5 n5 c5) := (blk_cell Q2.out 5).trans rfl
    go_upto_block 0 with fail
    go_cut [5, 6, 7, 8, 9] from 22 to 63 (fun s5 s6 _ _ _ wx => ∃ (a : Int) (t : Nat), s5 = .int .i64 a ∧ s6 = .int .i64 t ∧ Aside0 (a = aP x ∧ t = tP x ∧ Below W2.heap.size W2 wx))
    case first =>
      by_cases k0 : kd = 0
      · have g0 : (kd == 0) = true := by rw [k0]; rfl
        have AP : Aside0 (aP x = ((x.items.length : Int) + 1) * (roomP x + 1) ∧ tP x = 0) := ⟨by rw [HF.out.1] at k0; unfold aP tP; rw [if_pos k0, if_pos k0]; exact ⟨rfl, rfl⟩⟩
        clear k0 q0 q3 q4 q5
        go_wp2_with fail
        go_loop [7, 8] (fun v7 v8 => ∃ (k : Nat) (s : Int), k ≤ n2 ∧ 0 ≤ s ∧ s ≤ 2147483648 * k ∧ v7 = .int .i64 s ∧ v8 = .int .i64 k ∧ Aside0 (s = wsum (x.items.take k))) (fun _ i => n2 - (intOf i).toNat)
        case atStart => exact ⟨0, 0, Nat.zero_le _, by omega, by omega, rfl, rfl, ⟨by simp [wsum]⟩⟩
        case round =>
          obtain ⟨k, s, hk, s0, s1, rfl, rfl, KS⟩ := hrel
          by_cases hlt : k < n2
          · obtain ⟨ad, rfl, a0, a1⟩ := at_T101 (Kd.C_below H2.out B2.out) (k : Int) (by omega) (by omega)
            rw [Int.toNat_natCast] at a0 a1
            have hlt' : k < x.items.length := by rw [← HN.out.1]; exact hlt
            obtain ⟨t, ht⟩ : ∃ t, t = (rd_T101 x.items (k : Int)).f1 := ⟨_, rfl⟩
            rw [← ht] at a1
            have HT : t = (x.items.getD k z101).f1 := by rw [ht]; unfold rd_T101; rw [Int.toNat_natCast]
            have tb := (IOa.out.items (x.items.getD k z101) (by
              rw [List.getD_eq_getElem?_getD, List.getElem?_eq_getElem hlt', Option.getD_some]
              exact List.getElem_mem _)).2
            rw [← HT] at tb
            have NX : Aside0 (s + t = wsum (x.items.take (k + 1))) := ⟨by rw [wsum_take hlt', KS.out, HT]⟩
            obtain ⟨t0, t1⟩ := tb
            clear a0 ht HT hlt' KS
            go_wp2_with fail
            exact ⟨⟨k + 1, s + t, by omega, by omega, by omega, rfl, by go_num, NX⟩, by simp [intOf]; omega⟩
          · obtain rfl : n2 = k := by omega
            have KS' : Aside0 (s = wsum x.items) := ⟨by rw [KS.out, List.take_of_length_le (by rw [HN.out.1]; exact Nat.le_refl _)]⟩
            clear KS hlt hk
            by_cases hcmp : cap < s
            · have g1 : decide (s > cap) = true := decide_eq_true hcmp
              have g2 : decide (cap < s) = true := decide_eq_true hcmp
              have RP : Aside0 ((cap + 1) * ((n2 : Int) + 1) = aP x) := ⟨by
                rw [AP.out.1, Int.mul_comm, HN.out.1]
                unfold roomP
                rw [← KS'.out, ← HF.out.2.1, if_pos hcmp]⟩
              have bb : 0 ≤ (cap + 1) * ((n2 : Int) + 1) ∧ (cap + 1) * ((n2 : Int) + 1) ≤ 17592186044416 := by rw [RP.out]; exact aP_bd IOa.out
              obtain ⟨bb0, bb1⟩ := bb
              clear hcmp
              go_wp2_with fail
              go_meet
              exact ⟨_, 0, rfl, rfl, ⟨RP.out, AP.out.2.symm, Below.refl _ _⟩⟩
            · have g1 : decide (s > cap) = false := decide_eq_false hcmp
              have g2 : decide (cap < s) = false := decide_eq_false hcmp
              have RP : Aside0 ((s + 1) * ((n2 : Int) + 1) = aP x) := ⟨by
                rw [AP.out.1, Int.mul_comm, HN.out.1]
                unfold roomP
                rw [← KS'.out, ← HF.out.2.1, if_neg hcmp]⟩
              have bb : 0 ≤ (s + 1) * ((n2 : Int) + 1) ∧ (s + 1) * ((n2 : Int) + 1) ≤ 17592186044416 := by rw [RP.out]; exact aP_bd IOa.out
              obtain ⟨bb0, bb1⟩ := bb
              clear hcmp
              go_wp2_with fail
              go_meet
              exact ⟨_, 0, rfl, rfl, ⟨RP.out, AP.out.2.symm, Below.refl _ _⟩⟩
      · have g0 : (kd == 0) = false := by simpa using k0
        by_cases k3 : kd = 3
        · have g3 : (kd == 3) = true := by rw [k3]; rfl
          have AP : Aside0 (aP x = (n5 : Int) + 1 ∧ tP x = sz.toNat) := ⟨by
            have e0 := k0
            have e3 := k3
            rw [HF.out.1] at e0 e3
            unfold aP tP
            rw [if_neg e0, if_neg e0, if_pos e3, if_pos e3, HN.out.2.2, HF.out.2.2]
            exact ⟨rfl, rfl⟩⟩
          clear k0 k3
          go_wp2_with fail
          go_meet
          exact ⟨_, sz.toNat, rfl, by rw [Int.toNat_of_nonneg SZ0], ⟨AP.out.1.symm, AP.out.2.symm, Below.refl _ _⟩⟩
        · have g3 : (kd == 3) = false := by simpa using k3
          have AP : Aside0 (aP x = nP x ∧ tP x = (nP x).toNat) := ⟨by
            have e0 := k0
            have e3 := k3
            rw [HF.out.1] at e0 e3
            unfold aP tP
            rw [if_neg e0, if_neg e0, if_neg e3, if_neg e3]
            exact ⟨rfl, rfl⟩⟩
          clear k0 k3
          go_wp2_with fail
          refine (rn_any W2 x _ (HI.out.below B2.out) HX.out IOa.out).mono ?_
          rintro _ W3 ⟨rfl, B3'⟩
          have B3 := Aside0.mk B3'
          clear B3'
          go_wp2_with fail
          go_meet
          exact ⟨_, (nP x).toNat, rfl, by rw [Int.toNat_of_nonneg (n_bd IOa.out).1], ⟨AP.out.1.symm, AP.out.2.symm, B3.out⟩⟩
    case rest =>
    clear q0 q1 q2 q3 q4 q5
    obtain ⟨a, t, rfl, rfl, HC⟩ := hcut
    obtain ⟨a0, a1⟩ : 0 ≤ a ∧ a ≤ 17592186044416 := by rw [HC.out.1]; exact aP_bd IOa.out
    have T1 : t ≤ 4096 := by
      rw [HC.out.2.1]
      have h1 := n_bd IOa.out
      have h2 := IOa.out.size
      unfold tP
      split
      · omega
      · split <;> omega
    have QQ : Aside0 (qP x = a * 2 ^ t) := ⟨by unfold qP; rw [HC.out.1, HC.out.2.1]⟩
    have BC := Aside0.mk (B2.out.trans (HC.out.2.2.mono B2.out.size))
    obtain ⟨W3, hW3⟩ : ∃ W, W = wc := ⟨_, rfl⟩
    rw [← hW3] at BC ⊢
    clear HC hW3
    go_wp2_with fail
    refine (of_pos W3 a a0 (by omega)).mono ?_
    rintro _ W4 ⟨v4, rfl, H4⟩
    obtain ⟨ad4, n4, c4, D4, rfl, _⟩ := id H4.out.1
    go_upto_region 23 with fail
    obtain ⟨W5, hW5⟩ : ∃ W, W = W4.alloc (.cells #[.bool false, .slice (some ad4) n4 c4] 111) := ⟨_, rfl⟩
    rw [← hW5]
    have B5 : Aside0 (Below W4.heap.size W4 W5) := ⟨by rw [hW5]; exact below_alloc (Below.refl _ _) _⟩
    obtain ⟨p3, hp3⟩ : ∃ p, p = W4.heap.size := ⟨_, rfl⟩
    have Q5 : Aside0 (W5.heap[p3]? = some (.cells #[.bool false, .slice (some ad4) n4 c4] 111 (0, 0))) := ⟨by rw [hW5, hp3]; exact heap_alloc_new _ _⟩
    rw [← hp3]
    have P3 : Aside0 (w.heap.size ≤ p3) := ⟨by rw [hp3]; exact Nat.le_trans BC.out.size H4.out.2.size⟩
    clear hW5 hp3
    go_wp2_with fail
    refine (of_pos W5 2 (by omega) (by omega)).mono ?_
    rintro _ W6 ⟨v6, rfl, H6⟩
    obtain ⟨ad6, n6, c6, D6, rfl, _⟩ := id H6.out.1
    go_upto_region 25 with fail
    obtain ⟨W7, hW7⟩ : ∃ W, W = W6.alloc (.cells #[.bool false, .slice (some ad6) n6 c6] 111) := ⟨_, rfl⟩
    rw [← hW7]
    have B7 : Aside0 (Below W6.heap.size W6 W7) := ⟨by rw [hW7]; exact below_alloc (Below.refl _ _) _⟩
    obtain ⟨p4, hp4⟩ : ∃ p, p = W6.heap.size := ⟨_, rfl⟩
    have Q7 : Aside0 (W7.heap[p4]? = some (.cells #[.bool false, .slice (some ad6) n6 c6] 111 (0, 0))) := ⟨by rw [hW7, hp4]; exact heap_alloc_new _ _⟩
    rw [← hp4]
    have P4 : Aside0 (p3 ≠ p4) := ⟨by
      have h1 := (Array.getElem?_eq_some_iff.1 Q5.out).1
      have h2 := H6.out.2.size
      omega⟩
    have V6 := Aside0.mk (H6.out.1.below B7.out)
    have K0 : Aside0 (∃ vb ad n c, vb = .agg #[.bool false, .slice (some ad) n c] ∧ BigV W7 false (a * 2 ^ 0) vb ∧ BigV W7 false 2 (.agg #[.bool false, .slice (some ad6) n6 c6]) ∧ W7.heap[p3]? = some (.cells #[.bool false, .slice (some ad) n c] 111 (0, 0)) ∧ W7.heap[p4]? = some (.cells #[.bool false, .slice (some ad6) n6 c6] 111 (0, 0)) ∧ Below w.heap.size w W7) := ⟨_, ad4, n4, c4, rfl, by
        rw [Int.pow_zero, Int.mul_one]
        exact ((H4.out.1.below B5.out).below H6.out.2).below B7.out, V6.out, blk_below (blk_below Q5.out H6.out.2) B7.out, Q7.out,
        ((BC.out.trans (H4.out.2.mono BC.out.size)).trans (B5.out.mono (Nat.le_trans BC.out.size H4.out.2.size))).trans ((H6.out.2.trans (B7.out.mono H6.out.2.size)).mono (Nat.le_trans BC.out.size (Nat.le_trans H4.out.2.size B5.out.size)))⟩
    clear hW7 hp4 V6
    go_loopw [12] (fun v wr => ∃ i : Nat, i ≤ t ∧ v = .int .i64 i ∧ Aside0 (∃ vb ad n c, vb = .agg #[.bool false, .slice (some ad) n c] ∧ BigV wr false (a * 2 ^ i) vb ∧ BigV wr false 2 (.agg #[.bool false, .slice (some ad6) n6 c6]) ∧ wr.heap[p3]? = some (.cells #[.bool false, .slice (some ad) n c] 111 (0, 0)) ∧ wr.heap[p4]? = some (.cells #[.bool false, .slice (some ad6) n6 c6] 111 (0, 0)) ∧ Below w.heap.size w wr)) (fun v _ => t - (intOf v).toNat)
    case atStart => exact ⟨0, Nat.zero_le _, rfl, K0⟩
    case round =>
      clear K0
      obtain ⟨i, hi, rfl, ⟨vb, ad, n, c, rfl, v1, v2, k3, k4, k5⟩⟩ := hrel
      have V1 := Aside0.mk v1
      have V2 := Aside0.mk v2
      have K3 := Aside0.mk k3
      have K4 := Aside0.mk k4
      have K5 := Aside0.mk k5
      clear v1 v2 k3 k4 k5
      have b0 : wr.cell? ⟨p3, 0, none⟩ = some (.bool false) := (blk_cell K3.out 0).trans rfl
      have b1 : wr.cell? ⟨p3, 1, none⟩ = some (.slice (some ad) n c) := (blk_cell K3.out 1).trans rfl
      by_cases hlt : i < t
      · by_cases h4 : 4 < n
        · have g : decide ((n : Int) > 4) = true := decide_eq_true (by omega)
          have g2 : decide (4 < n) = true := decide_eq_true h4
          have E : Aside0 (r1 = 0 ∧ r2 = 24) := ⟨by
            obtain ⟨ad', n', c', D', e, _, _, hD, _, hdg, _⟩ := V1.out
            injection e with e
            injection e with e
            injection e with e1 e2
            injection e2 with e2 _
            injection e2 with _ e2 _
            have h5 := hdg.low (by omega)
            have h6 := pow_mono (show 4 ≤ D'.length - 1 by omega)
            have h7 : a * 2 ^ i ≤ a * 2 ^ t := Int.mul_le_mul_of_nonneg_left (pow2_mono (by omega)) a0
            have h8 := CP.out
            rw [QQ.out, if_pos (by have : (65536 : Int) ^ 4 = 18446744073709551616 := by decide
                                   omega)] at h8
            injection h8 with h8 h9
            exact ⟨h8, h9⟩⟩
          obtain ⟨e1, e2⟩ := E.out
          subst e1
          subst e2
          clear h4 E
          go_wp2_with fail
          go_ret2
          exact ⟨rfl, K5.out⟩
        · have g : decide ((n : Int) > 4) = false := decide_eq_false (by omega)
          have g2 : decide (4 < n) = false := decide_eq_false h4
          have c0 : wr.cell? ⟨p4, 0, none⟩ = some (.bool false) := (blk_cell K4.out 0).trans rfl
          have c1 : wr.cell? ⟨p4, 1, none⟩ = some (.slice (some ad6) n6 c6) := (blk_cell K4.out 1).trans rfl
          go_wp2_with fail
          clear b0 b1 c0 c1
          refine (mul_two wr (a * 2 ^ i) _ _ V1.out V2.out (fun ad' n' c' e => by
            injection e with e
            injection e with e
            injection e with e1 e2
            injection e2 with e2 _
            injection e2 with _ e2 _
            omega)).mono ?_
          rintro _ w8 ⟨v8, rfl, H8⟩
          obtain ⟨ad8, n8, c8, D8, rfl, _⟩ := id H8.out.1
          have Z3 : Aside0 (w8.heap[p3]? = some (.cells #[.bool false, .slice (some ad) n c] 111 (0, 0))) := ⟨blk_below K3.out H8.out.2⟩
          have Z4 : Aside0 (w8.heap[p4]? = some (.cells #[.bool false, .slice (some ad6) n6 c6] 111 (0, 0))) := ⟨blk_below K4.out H8.out.2⟩
          have b0 : w8.cell? ⟨p3, 0, none⟩ = some (.bool false) := (blk_cell Z3.out 0).trans rfl
          have b1 : w8.cell? ⟨p3, 1, none⟩ = some (.slice (some ad) n c) := (blk_cell Z3.out 1).trans rfl
          have bz : ∀ j, w8.frozen? ⟨p3, j, none⟩ = false := blk_frozen Z3.out
          go_wp2_with fail
          have Y3 := blk_put (blk_put Z3.out 0 (.bool false) rfl) 1 (.slice (some ad8) n8 c8) rfl
          have VV := (H8.out.1.set Z3.out (by decide) 0 (.bool false)).set (blk_put Z3.out 0 (.bool false) rfl) (by decide) 1 (.slice (some ad8) n8 c8)
          have V2' := (((V2.out.below H8.out.2).set Z3.out (by decide) 0 (.bool false)).set (blk_put Z3.out 0 (.bool false) rfl) (by decide) 1 (.slice (some ad8) n8 c8))
          have Y4 := blk_far (blk_far Z4.out (p := ⟨p3, 0, none⟩) P4.out.symm (.bool false)) (p := ⟨p3, 1, none⟩) P4.out.symm (.slice (some ad8) n8 c8)
          have Y5 := ((K5.out.trans (H8.out.2.mono K5.out.size)).setCell (p := ⟨p3, 0, none⟩) P3.out (.bool false)).setCell (p := ⟨p3, 1, none⟩) P3.out (.slice (some ad8) n8 c8)
          rw [show 2 * (a * 2 ^ i) = a * 2 ^ (i + 1) by rw [Int.pow_succ, Int.mul_comm 2, Int.mul_assoc]] at VV
          exact ⟨⟨i + 1, by omega, by go_num, ⟨_, ad8, n8, c8, rfl, VV, V2', Y3, Y4, Y5⟩⟩, by simp [intOf]; omega⟩
      · obtain rfl : t = i := by omega
        go_wp2_with fail
        clear b0 b1
        refine (short_any wr _ _ V1.out).mono ?_
        rintro _ w8 ⟨rfl, B8'⟩
        have B8 := Aside0.mk (K5.out.trans (B8'.mono K5.out.size))
        clear B8'
        rw [← QQ.out]
        obtain ⟨q, hq⟩ : ∃ q, q = qP x := ⟨_, rfl⟩
        rw [← hq] at CP ⊢
        by_cases h1 : q ≤ 9223372036854775807
        · rw [if_pos h1, decide_eq_true h1]
          by_cases h2 : 1048576 < q
          · have g : decide (q > 1048576) = true := decide_eq_true h2
            have g2 : decide (1048576 < q) = true := decide_eq_true h2
            have E : Aside0 (r1 = 0 ∧ r2 = 24) := ⟨by
              have h8 := CP.out
              rw [if_pos h2] at h8
              injection h8 with h8 h9
              exact ⟨h8, h9⟩⟩
            obtain ⟨e1, e2⟩ := E.out
            subst e1
            subst e2
            clear h1 h2 hq E
            go_wp2_with fail
            go_ret2
            exact ⟨rfl, B8.out⟩
          · have g : decide (q > 1048576) = false := decide_eq_false h2
            have g2 : decide (1048576 < q) = false := decide_eq_false h2
            have E : Aside0 (r1 = q ∧ r2 = 0) := ⟨by
              have h8 := CP.out
              rw [if_neg h2] at h8
              injection h8 with h8 h9
              exact ⟨h8, h9⟩⟩
            obtain ⟨e1, e2⟩ := E.out
            subst e1
            subst e2
            clear h1 h2 hq E
            go_wp2_with fail
            go_ret2
            exact ⟨rfl, B8.out⟩
        · rw [if_neg h1, decide_eq_false h1]
          have E : Aside0 (r1 = 0 ∧ r2 = 24) := ⟨by
            have h8 := CP.out
            rw [if_pos (by omega)] at h8
            injection h8 with h8 h9
            exact ⟨h8, h9⟩⟩
          obtain ⟨e1, e2⟩ := E.out
          subst e1
          subst e2
          clear h1 hq E
          go_wp2_with fail
          go_ret2
          exact ⟨rfl, B8.out⟩
  · have CP : Aside0 (r1 = 0 ∧ r2 = chk x) := ⟨by
      have h1 := hr.out
      unfold cellsP at h1
      rw [if_neg hc] at h1
      injection h1 with h1 h2
      exact ⟨h1.symm, h2.symm⟩⟩
    obtain ⟨z, hz⟩ : ∃ z, z = chk x := ⟨_, rfl⟩
    rw [← hz] at hc CP ⊢
    have g : (z == 0) = false := by simpa using hc
    obtain ⟨e1, e2⟩ := CP.out
    subst e1
    subst e2
    clear hc hz CP
    go_wp2_with fail
    go_ret2
    exact ⟨rfl, B2.out⟩
theorem rcells_any (w : World) (x : PI) (v : Value) (h : InstC w x v) (hx : PIok x) : Calls Try.prog 23 #[v] w fun e w' => e = .returned (.tuple #[.int .i64 (cellsP x).1, .int .i64 (cellsP x).2]) ∧ Below w.heap.size w w' :=
  rcells_any' w x v h hx _ _ ⟨rfl⟩
end Go.Proofs.Ytelabmhhnpfegaa.Hand
