/- HungMoved: walked. -/
import Derived.Test.YtelabmhhnpfegaaLx
namespace Go.Proofs.Ytelabmhhnpfegaa.Hand
open Go.RowKit Go.Proofs.YtelabmhhnpfegaaW.PrintWords Go.Proofs.YtelabmhhnpfegaaW.PrintLast Go.Proofs.YtelabmhhnpfegaaW.PrintMore
set_option maxHeartbeats 4000000 in
set_option maxRecDepth 100000 in
theorem moved_law (w : World) (A B : Option Addr) (nc nn cA cB : Nat) (len mlen : Nat → Nat) (c : Nat → Nat → Int) (g : Nat → Nat → Bool) (m0 m1 : Int) (h : RawI w A nc len c) (hg : RawB w B nn mlen g) (h1 : nc ≤ 17592186044416) (h2 : nn ≤ 17592186044416) (hl : ∀ i, i < nc → len i ≤ 17592186044416) (hl2 : ∀ i, i < nn → mlen i ≤ 140737488355328)
    (hm0 : -32768 ≤ m0 ∧ m0 ≤ 32767) (hm1 : -32768 ≤ m1 ∧ m1 ≤ 32767) :
    Calls Try.prog 3 #[.slice A nc cA, .slice B nn cB, .agg #[.int .i16 m0, .int .i16 m1]] w fun e w' => e = .returned (.bool true) ∧ Below w.heap.size w w' := by
  have hu := Try.underlying27
  have hu2 := Try.underlying32
  obtain ⟨t, ht⟩ : ∃ t, t = cutT nc nn 20 len mlen c g := ⟨_, rfl⟩
  obtain ⟨n, hn⟩ : ∃ n, n = t.n := ⟨_, rfl⟩
  have hn20 : n ≤ 20 := by
    rw [hn, ht]
    show min nc 20 ≤ 20
    omega
  have TA := Aside0.mk (fun (W : World) (hb : Below w.heap.size w W) => table_sq cA cB h hg 20 (by omega) h1 h2 hl hl2 hb ht hn)
  have TO : Aside0 (TbOk ⟨n, t.c, t.no⟩) := ⟨by
    have := cutT_ok (nc := nc) (nn := nn) (most := 20) (len := len) (mlen := mlen) (c := c) (g := g) (by omega)
    rw [← ht] at this
    rw [hn]
    exact this⟩
  clear h hg h1 h2 hl hl2 ht hn
  go_enter Try.func3, Try.ntmps3
  go_wp2_with fail
  have b0 : Aside0 (Below w.heap.size w (w.alloc (.cells #[.int .i16 m0, .int .i16 m1] 25))) := ⟨below_alloc (Below.refl _ _) _⟩
  refine (TA.out _ b0.out).mono ?_
  rintro _ w1 ⟨AC, cC, AN, cN, B1, D1, rfl, Q1⟩
  have M1 : Aside0 (w1.heap[w.heap.size]? = some (.cells #[.int .i16 m0, .int .i16 m1] 25 (0, 0))) := ⟨blk_below (heap_alloc_new _ _) Q1.out.2⟩
  go_wp2_with fail
  obtain ⟨W1, hW1⟩ : ∃ W1, W1 = w1.alloc (.cells #[.slice AC n cC, .slice AN n cN] 27) := ⟨_, rfl⟩
  rw [← hW1]
  have X1 : Aside0 (W1.heap[w1.heap.size]? = some (.cells #[.slice AC n cC, .slice AN n cN] 27 (0, 0))) := ⟨by rw [hW1]; exact heap_alloc_new _ _⟩
  have b1 : Aside0 (Below w.heap.size w W1) := ⟨by rw [hW1]; exact below_alloc (b0.out.trans (Q1.out.2.mono b0.out.size)) _⟩
  have M2 : Aside0 (W1.heap[w.heap.size]? = some (.cells #[.int .i16 m0, .int .i16 m1] 25 (0, 0))) := ⟨by rw [hW1]; exact blk_alloc M1.out _⟩
  have S1 : Aside0 (Sq W1 (w.heap.size + 1) w1.heap.size AC AN n t.c t.no B1 D1) := ⟨by
    rw [hW1]
    have := Q1.out.1
    rw [al_size] at this
    exact this.alloc (Nat.le_refl _) _⟩
  have z1 : Aside0 (w1.heap.size + 1 = W1.heap.size) := ⟨by rw [hW1, al_size]⟩
  have z0 : Aside0 (w.heap.size + 1 ≤ w1.heap.size) := ⟨by have := Q1.out.2.size; rw [al_size] at this; exact this⟩
  clear M1 Q1 hW1
  have u0 := (blk_cell X1.out 0).trans rfl
  have u1 := (blk_cell X1.out 1).trans rfl
  go_wp2_with fail
  clear u0 u1
  refine (solve_tell W1 AC AN cC cN ⟨n, t.c, t.no⟩ S1.out.tabR TO.out).mono ?_
  rintro _ w2 ⟨a0, l0, c0, x, a2, l2, c2, a3, l3, c3, ok, rfl, R1⟩
  go_wp2_with fail
  obtain ⟨W2, hW2⟩ : ∃ W2, W2 = w2.alloc (.cells #[.slice a0 l0 c0, .int .i64 x, .slice a2 l2 c2, .slice a3 l3 c3] 32) := ⟨_, rfl⟩
  rw [← hW2]
  have bb2 : Aside0 (Below W1.heap.size W1 W2) := ⟨by rw [hW2]; exact below_alloc R1.out.1 _⟩
  have X9 : Aside0 (W2.heap[w2.heap.size]? = some (.cells #[.slice a0 l0 c0, .int .i64 x, .slice a2 l2 c2, .slice a3 l3 c3] 32 (0, 0))) := ⟨by rw [hW2]; exact heap_alloc_new _ _⟩
  have z2 : Aside0 (w2.heap.size + 1 = W2.heap.size) := ⟨by rw [hW2, al_size]⟩
  clear hW2
  have b2 : Aside0 (Below w.heap.size w W2) := ⟨b1.out.trans (bb2.out.mono b1.out.size)⟩
  refine (TA.out W2 b2.out).mono ?_
  rintro _ w3 ⟨AT, cT, NT, cNT, BT, DT, rfl, Q2⟩
  go_wp2_with fail
  have b3 : Aside0 (Below w.heap.size w w3) := ⟨b2.out.trans (Q2.out.2.mono b2.out.size)⟩
  refine (TA.out w3 b3.out).mono ?_
  rintro _ w4 ⟨AM, cM, NM, cNM, BM, DM, rfl, Q3⟩
  have b4 : Aside0 (Below w.heap.size w w4) := ⟨b3.out.trans (Q3.out.2.mono b3.out.size)⟩
  go_wp2_with fail
  obtain ⟨W5, hW5⟩ : ∃ W5, W5 = (w4.alloc (.cells #[.slice AT n cT, .slice NT n cNT] 27)).alloc (.cells #[.slice AM n cM, .slice NM n cNM] 27) := ⟨_, rfl⟩
  rw [← hW5]
  obtain ⟨p7, hp7⟩ : ∃ p, p = w1.heap.size := ⟨_, rfl⟩
  obtain ⟨p9, hp9⟩ : ∃ p, p = w2.heap.size := ⟨_, rfl⟩
  obtain ⟨p11, hp11⟩ : ∃ p, p = w4.heap.size := ⟨_, rfl⟩
  obtain ⟨p0, hp0⟩ : ∃ p, p = w.heap.size := ⟨_, rfl⟩
  rw [← hp7] at X1 S1 z0 z1 ⊢
  rw [← hp9] at X9 z2 ⊢
  rw [← hp0] at S1 z0 M2 ⊢
  obtain ⟨lo, hlo⟩ : ∃ p, p = W2.heap.size := ⟨_, rfl⟩
  obtain ⟨mi, hmi⟩ : ∃ p, p = w3.heap.size := ⟨_, rfl⟩
  have B45 : Aside0 (Below w4.heap.size w4 W5) := ⟨by rw [hW5]; exact below_alloc (below_alloc (Below.refl _ _) _) _⟩
  have L1 : Aside0 (p0 < p7 ∧ p7 < p9 ∧ p9 < lo ∧ lo ≤ mi ∧ mi ≤ p11) := ⟨by
    have s1 := bb2.out.size
    have s2 := Q2.out.2.size
    have s3 := Q3.out.2.size
    have s4 := z0.out
    have y1 := z1.out
    have y2 := z2.out
    have r2 := R1.out.1.size
    omega⟩
  have L5 : Aside0 (W5.heap.size = p11 + 2) := ⟨by rw [hW5, al_size, al_size, hp11]⟩
  have B25 : Aside0 (Below W2.heap.size W2 W5) := ⟨Q2.out.2.trans ((Q3.out.2.mono Q2.out.2.size).trans (B45.out.mono (Nat.le_trans Q2.out.2.size Q3.out.2.size)))⟩
  have B15 : Aside0 (Below W1.heap.size W1 W5) := ⟨bb2.out.trans (B25.out.mono bb2.out.size)⟩
  have B05 : Aside0 (Below p0 w W5) := ⟨by rw [hp0]; exact b1.out.trans (B15.out.mono b1.out.size)⟩
  have M5 : Aside0 (W5.heap[p0]? = some (.cells #[.int .i16 m0, .int .i16 m1] 25 (0, 0))) := ⟨blk_below M2.out B15.out⟩
  have X7 : Aside0 (W5.heap[p7]? = some (.cells #[.slice AC n cC, .slice AN n cN] 27 (0, 0))) := ⟨blk_below X1.out B15.out⟩
  have X95 : Aside0 (W5.heap[p9]? = some (.cells #[.slice a0 l0 c0, .int .i64 x, .slice a2 l2 c2, .slice a3 l3 c3] 32 (0, 0))) := ⟨blk_below X9.out B25.out⟩
  have X11 : Aside0 (W5.heap[p11]? = some (.cells #[.slice AT n cT, .slice NT n cNT] 27 (0, 0))) := ⟨by rw [hW5, hp11]; exact blk_alloc (heap_alloc_new _ _) _⟩
  have X12 : Aside0 (W5.heap[p11 + 1]? = some (.cells #[.slice AM n cM, .slice NM n cNM] 27 (0, 0))) := ⟨by
    rw [hW5, hp11]
    have := heap_alloc_new (w4.alloc (.cells #[.slice AT n cT, .slice NT n cNT] 27)) (.cells #[.slice AM n cM, .slice NM n cNM] 27)
    rw [al_size] at this
    exact this⟩
  have SO : Aside0 (Sq W5 (p0 + 1) p7 AC AN n t.c t.no B1 D1) := ⟨S1.out.below B15.out (by have := z1.out; omega)⟩
  have ST : Aside0 (Sq W5 lo mi AT NT n t.c t.no BT DT) := ⟨by
    have h := Q2.out.1
    rw [← hlo, ← hmi] at h
    exact h.below (Q3.out.2.trans (B45.out.mono Q3.out.2.size)) (by omega)⟩
  have SM : Aside0 (Sq W5 mi p11 AM NM n t.c t.no BM DM) := ⟨by
    have h := Q3.out.1
    rw [← hmi, ← hp11] at h
    exact h.below B45.out (by omega)⟩
  have R2 := Aside0.mk R1.out.2
  rw [← hp11]
  have TM := Aside0.mk (fun (a b : Nat) (ha : a < n) (hb : b < n) => TO.out.mag a b ha hb)
  clear R1 X1 X9 M2 S1 Q2 Q3 b0 b1 b2 b3 b4 bb2 z0 z1 z2 B25 B15 B45 hW5 hp7 hp9 hp11 hlo hmi TA
  have HP0 := Aside0.mk hp0
  clear hp0
  go_loopw [37] (fun v37 wr => ∃ i : Nat, i ≤ n ∧ v37 = .int .i64 i ∧ Aside0 (Sq wr lo mi AT NT n (tF t.c i 0) (tF t.no i 0) BT DT ∧ Sq wr mi p11 AM NM n (mF t.c n m0 m1 i 0) t.no BM DM ∧ Chg (fun k => lo ≤ k ∧ k < p11) W5 wr)) (fun v _ => n - (intOf v).toNat)
  case atStart => exact ⟨0, Nat.zero_le _, rfl, ⟨by rw [tF_zero, tF_zero]; exact ST.out, by rw [mF_zero]; exact SM.out, Chg.refl _ _⟩⟩
  case round =>
    clear ST SM
    obtain ⟨i, hi, rfl, K0⟩ := hrel
    by_cases hlt : i < n
    · go_wp2_with fail
      go_loopw [41] (fun v41 wr => ∃ k : Nat, k ≤ n ∧ v41 = .int .i64 k ∧ Aside0 (Sq wr lo mi AT NT n (tF t.c i k) (tF t.no i k) BT DT ∧ Sq wr mi p11 AM NM n (mF t.c n m0 m1 i k) t.no BM DM ∧ Chg (fun k => lo ≤ k ∧ k < p11) W5 wr)) (fun v _ => n - (intOf v).toNat)
      case atStart => exact ⟨0, Nat.zero_le _, rfl, K0⟩
      case round =>
        clear K0
        obtain ⟨k, hk, rfl, KK⟩ := hrel
        by_cases hlt2 : k < n
        · clear hi hk
          have SO2 : Aside0 (Sq wr (p0 + 1) p7 AC AN n t.c t.no B1 D1) := ⟨SO.out.move (fun q h1 h2 => KK.out.2.2.block q (by have := L1.out; have := L5.out; omega) (fun e => by have := L1.out; omega))⟩
          obtain ⟨gT, rfl, r1⟩ := KK.out.1.rowC hlt2
          obtain ⟨gNT, rfl, r2⟩ := KK.out.1.rowN hlt2
          obtain ⟨gC, rfl, r3⟩ := SO2.out.rowC hlt
          obtain ⟨gN, rfl, r4⟩ := SO2.out.rowN hlt
          obtain ⟨gM, rfl, r5⟩ := KK.out.2.1.rowC hlt
          have R5 := Aside0.mk r5
          clear r5
          have x11 := KK.out.2.2.blk X11.out (fun e => by have := L1.out; omega)
          have x12 := Aside0.mk (KK.out.2.2.blk X12.out (fun e => by have := L1.out; omega))
          have x7 := KK.out.2.2.blk X7.out (fun e => by have := L1.out; omega)
          have x0 := Aside0.mk (KK.out.2.2.blk M5.out (fun e => by have := L1.out; omega))
          have f1 : wr.drew.cell? ⟨p11, 0, none⟩ = some (.slice (some ⟨gT, 0, none⟩) n cT) := (blk_cell x11 0).trans rfl
          have f2 : wr.drew.cell? ⟨p11, 1, none⟩ = some (.slice (some ⟨gNT, 0, none⟩) n cNT) := (blk_cell x11 1).trans rfl
          have f3 : wr.drew.cell? ⟨p7, 0, none⟩ = some (.slice (some ⟨gC, 0, none⟩) n cC) := (blk_cell x7 0).trans rfl
          have f4 : wr.drew.cell? ⟨p7, 1, none⟩ = some (.slice (some ⟨gN, 0, none⟩) n cN) := (blk_cell x7 1).trans rfl
          have e1 : wr.drew.cell? ⟨B1 i, k, none⟩ = some (.int .i64 (t.c i k)) := (SO2.out.ib i hlt).2.c hlt2
          have e2 : wr.drew.cell? ⟨D1 i, k, none⟩ = some (.bool (t.no i k)) := (SO2.out.bb i hlt).2.c hlt2
          obtain ⟨y, hy⟩ : ∃ y, y = t.c i k := ⟨_, rfl⟩
          obtain ⟨yn, hyn⟩ : ∃ y, y = t.no i k := ⟨_, rfl⟩
          rw [← hy] at e1
          rw [← hyn] at e2
          have by_ := TM.out i k hlt hlt2
          change -2147483648 ≤ t.c i k ∧ t.c i k ≤ 2147483648 at by_
          rw [← hy] at by_
          have HY := Aside0.mk hy
          have HYN := Aside0.mk hyn
          clear x11 x7 hy hyn SO2
          go_upto_region 11 with fail
          refine start_ (n := 32) (S := fun w' => w'.cell? ⟨p11, 0, none⟩ = some (.slice (some ⟨gT, 0, none⟩) n cT) ∧ w'.cell? ⟨p11, 1, none⟩ = some (.slice (some ⟨gNT, 0, none⟩) n cNT) ∧ w'.cell? ⟨p7, 0, none⟩ = some (.slice (some ⟨gC, 0, none⟩) n cC) ∧ w'.cell? ⟨p7, 1, none⟩ = some (.slice (some ⟨gN, 0, none⟩) n cN) ∧ w'.cell? ⟨gT, k, none⟩ = some (.slice (some ⟨BT k, 0, none⟩) n n) ∧ w'.cell? ⟨gNT, k, none⟩ = some (.slice (some ⟨DT k, 0, none⟩) n n) ∧ w'.cell? ⟨gC, i, none⟩ = some (.slice (some ⟨B1 i, 0, none⟩) n n) ∧ w'.cell? ⟨gN, i, none⟩ = some (.slice (some ⟨D1 i, 0, none⟩) n n) ∧ w'.cell? ⟨B1 i, k, none⟩ = some (.int .i64 y) ∧ w'.cell? ⟨D1 i, k, none⟩ = some (.bool yn)) (ds := [29, 31]) #[false, false, false, false, false, false, false, false, false, false, false, false, false, false, false, false, false, false, false, false, false, false, false, false, false, false, false, false, false, false, false, false] (by kernel_rfl) rfl rfl ⟨f1, f2, f3, f4, r1, r2, r3, r4, e1, e2⟩ (fun hHeld => ?_)
          clear f1 f2 f3 f4 r1 r2 r3 r4 e1 e2
          refine pure_ (i := 0) (N := some 44) (v := ?_) (a' := ?_) #[true, false, false, false, false, false, false, false, false, false, false, false, false, false, false, false, false, false, false, false, false, false, false, false, false, false, false, false, false, false, false, false] rfl rfl (by kernel_rfl) (fun _ _ _ h => h) (Or.inl ⟨by rfl, ?_⟩) ?_ ?_
          rotate_left
          · intro w'
            go_simp
            with_reducible rfl
          rotate_left
          · simp only [Act.put, List.setIfInBounds_toArray, List.set_cons_zero, List.set_cons_succ]
            rfl
          refine take_ (i := 1) (N := some 45) (v := ?_) (a' := ?_) #[true, true, false, false, false, false, false, false, false, false, false, false, false, false, false, false, false, false, false, false, false, false, false, false, false, false, false, false, false, false, false, false] rfl rfl (by kernel_rfl) (fun _ _ _ h => h) (Or.inl ⟨by rfl, ?_⟩) hHeld ?_ ?_
          rotate_left
          · rintro w' ⟨s0, s1, s2, s3, s4, s5, s6, s7, s8, s9⟩
            go_simp
            with_reducible rfl
          rotate_left
          · simp only [Act.put, List.setIfInBounds_toArray, List.set_cons_zero, List.set_cons_succ]
            rfl
          refine pure_ (i := 2) (N := some 46) (v := ?_) (a' := ?_) #[true, true, true, false, false, false, false, false, false, false, false, false, false, false, false, false, false, false, false, false, false, false, false, false, false, false, false, false, false, false, false, false] rfl rfl (by kernel_rfl) (fun _ _ _ h => h) (Or.inl ⟨by rfl, ?_⟩) ?_ ?_
          rotate_left
          · intro w'
            go_simp
            with_reducible rfl
          rotate_left
          · simp only [Act.put, List.setIfInBounds_toArray, List.set_cons_zero, List.set_cons_succ]
            rfl
          refine pure_ (i := 3) (N := some 47) (v := ?_) (a' := ?_) #[true, true, true, true, false, false, false, false, false, false, false, false, false, false, false, false, false, false, false, false, false, false, false, false, false, false, false, false, false, false, false, false] rfl rfl (by kernel_rfl) (fun _ _ _ h => h) (Or.inl ⟨by rfl, ?_⟩) ?_ ?_
          rotate_left
          · intro w'
            go_simp
            with_reducible rfl
          rotate_left
          · simp only [Act.put, List.setIfInBounds_toArray, List.set_cons_zero, List.set_cons_succ]
            rfl
          refine take_ (i := 4) (N := some 48) (v := ?_) (a' := ?_) #[true, true, true, true, true, false, false, false, false, false, false, false, false, false, false, false, false, false, false, false, false, false, false, false, false, false, false, false, false, false, false, false] rfl rfl (by kernel_rfl) (fun _ _ _ h => h) (Or.inl ⟨by rfl, ?_⟩) hHeld ?_ ?_
          rotate_left
          · rintro w' ⟨s0, s1, s2, s3, s4, s5, s6, s7, s8, s9⟩
            go_simp
            with_reducible rfl
          rotate_left
          · simp only [Act.put, List.setIfInBounds_toArray, List.set_cons_zero, List.set_cons_succ]
            rfl
          refine pure_ (i := 5) (N := some 49) (v := ?_) (a' := ?_) #[true, true, true, true, true, true, false, false, false, false, false, false, false, false, false, false, false, false, false, false, false, false, false, false, false, false, false, false, false, false, false, false] rfl rfl (by kernel_rfl) (fun _ _ _ h => h) (Or.inl ⟨by rfl, ?_⟩) ?_ ?_
          rotate_left
          · intro w'
            go_simp
            with_reducible rfl
          rotate_left
          · simp only [Act.put, List.setIfInBounds_toArray, List.set_cons_zero, List.set_cons_succ]
            rfl
          refine pure_ (i := 6) (N := some 50) (v := ?_) (a' := ?_) #[true, true, true, true, true, true, true, false, false, false, false, false, false, false, false, false, false, false, false, false, false, false, false, false, false, false, false, false, false, false, false, false] rfl rfl (by kernel_rfl) (fun _ _ _ h => h) (Or.inl ⟨by rfl, ?_⟩) ?_ ?_
          rotate_left
          · intro w'
            go_simp
            with_reducible rfl
          rotate_left
          · simp only [Act.put, List.setIfInBounds_toArray, List.set_cons_zero, List.set_cons_succ]
            rfl
          refine take_ (i := 7) (N := some 51) (v := ?_) (a' := ?_) #[true, true, true, true, true, true, true, true, false, false, false, false, false, false, false, false, false, false, false, false, false, false, false, false, false, false, false, false, false, false, false, false] rfl rfl (by kernel_rfl) (fun _ _ _ h => h) (Or.inl ⟨by rfl, ?_⟩) hHeld ?_ ?_
          rotate_left
          · rintro w' ⟨s0, s1, s2, s3, s4, s5, s6, s7, s8, s9⟩
            go_simp
            with_reducible rfl
          rotate_left
          · simp only [Act.put, List.setIfInBounds_toArray, List.set_cons_zero, List.set_cons_succ]
            rfl
          refine pure_ (i := 8) (N := some 52) (v := ?_) (a' := ?_) #[true, true, true, true, true, true, true, true, true, false, false, false, false, false, false, false, false, false, false, false, false, false, false, false, false, false, false, false, false, false, false, false] rfl rfl (by kernel_rfl) (fun _ _ _ h => h) (Or.inl ⟨by rfl, ?_⟩) ?_ ?_
          rotate_left
          · intro w'
            go_simp
            with_reducible rfl
          rotate_left
          · simp only [Act.put, List.setIfInBounds_toArray, List.set_cons_zero, List.set_cons_succ]
            rfl
          refine pure_ (i := 9) (N := some 53) (v := ?_) (a' := ?_) #[true, true, true, true, true, true, true, true, true, true, false, false, false, false, false, false, false, false, false, false, false, false, false, false, false, false, false, false, false, false, false, false] rfl rfl (by kernel_rfl) (fun _ _ _ h => h) (Or.inl ⟨by rfl, ?_⟩) ?_ ?_
          rotate_left
          · intro w'
            go_simp
            with_reducible rfl
          rotate_left
          · simp only [Act.put, List.setIfInBounds_toArray, List.set_cons_zero, List.set_cons_succ]
            rfl
          refine take_ (i := 10) (N := some 54) (v := ?_) (a' := ?_) #[true, true, true, true, true, true, true, true, true, true, true, false, false, false, false, false, false, false, false, false, false, false, false, false, false, false, false, false, false, false, false, false] rfl rfl (by kernel_rfl) (fun _ _ _ h => h) (Or.inl ⟨by rfl, ?_⟩) hHeld ?_ ?_
          rotate_left
          · rintro w' ⟨s0, s1, s2, s3, s4, s5, s6, s7, s8, s9⟩
            go_simp
            with_reducible rfl
          rotate_left
          · simp only [Act.put, List.setIfInBounds_toArray, List.set_cons_zero, List.set_cons_succ]
            rfl
          refine pure_ (i := 11) (N := some 55) (v := ?_) (a' := ?_) #[true, true, true, true, true, true, true, true, true, true, true, true, false, false, false, false, false, false, false, false, false, false, false, false, false, false, false, false, false, false, false, false] rfl rfl (by kernel_rfl) (fun _ _ _ h => h) (Or.inl ⟨by rfl, ?_⟩) ?_ ?_
          rotate_left
          · intro w'
            go_simp
            with_reducible rfl
          rotate_left
          · simp only [Act.put, List.setIfInBounds_toArray, List.set_cons_zero, List.set_cons_succ]
            rfl
          refine pure_ (i := 12) (N := some 56) (v := ?_) (a' := ?_) #[true, true, true, true, true, true, true, true, true, true, true, true, true, false, false, false, false, false, false, false, false, false, false, false, false, false, false, false, false, false, false, false] rfl rfl (by kernel_rfl) (fun _ _ _ h => h) (Or.inl ⟨by rfl, ?_⟩) ?_ ?_
          rotate_left
          · intro w'
            go_simp
            with_reducible rfl
          rotate_left
          · simp only [Act.put, List.setIfInBounds_toArray, List.set_cons_zero, List.set_cons_succ]
            rfl
          refine take_ (i := 13) (N := some 57) (v := ?_) (a' := ?_) #[true, true, true, true, true, true, true, true, true, true, true, true, true, true, false, false, false, false, false, false, false, false, false, false, false, false, false, false, false, false, false, false] rfl rfl (by kernel_rfl) (fun _ _ _ h => h) (Or.inl ⟨by rfl, ?_⟩) hHeld ?_ ?_
          rotate_left
          · rintro w' ⟨s0, s1, s2, s3, s4, s5, s6, s7, s8, s9⟩
            go_simp
            with_reducible rfl
          rotate_left
          · simp only [Act.put, List.setIfInBounds_toArray, List.set_cons_zero, List.set_cons_succ]
            rfl
          refine pure_ (i := 14) (N := some 58) (v := ?_) (a' := ?_) #[true, true, true, true, true, true, true, true, true, true, true, true, true, true, true, false, false, false, false, false, false, false, false, false, false, false, false, false, false, false, false, false] rfl rfl (by kernel_rfl) (fun _ _ _ h => h) (Or.inl ⟨by rfl, ?_⟩) ?_ ?_
          rotate_left
          · intro w'
            go_simp
            with_reducible rfl
          rotate_left
          · simp only [Act.put, List.setIfInBounds_toArray, List.set_cons_zero, List.set_cons_succ]
            rfl
          refine pure_ (i := 15) (N := some 59) (v := ?_) (a' := ?_) #[true, true, true, true, true, true, true, true, true, true, true, true, true, true, true, true, false, false, false, false, false, false, false, false, false, false, false, false, false, false, false, false] rfl rfl (by kernel_rfl) (fun _ _ _ h => h) (Or.inl ⟨by rfl, ?_⟩) ?_ ?_
          rotate_left
          · intro w'
            go_simp
            with_reducible rfl
          rotate_left
          · simp only [Act.put, List.setIfInBounds_toArray, List.set_cons_zero, List.set_cons_succ]
            rfl
          refine take_ (i := 16) (N := some 60) (v := ?_) (a' := ?_) #[true, true, true, true, true, true, true, true, true, true, true, true, true, true, true, true, true, false, false, false, false, false, false, false, false, false, false, false, false, false, false, false] rfl rfl (by kernel_rfl) (fun _ _ _ h => h) (Or.inl ⟨by rfl, ?_⟩) hHeld ?_ ?_
          rotate_left
          · rintro w' ⟨s0, s1, s2, s3, s4, s5, s6, s7, s8, s9⟩
            go_simp
            with_reducible rfl
          rotate_left
          · simp only [Act.put, List.setIfInBounds_toArray, List.set_cons_zero, List.set_cons_succ]
            rfl
          refine pure_ (i := 17) (N := some 61) (v := ?_) (a' := ?_) #[true, true, true, true, true, true, true, true, true, true, true, true, true, true, true, true, true, true, false, false, false, false, false, false, false, false, false, false, false, false, false, false] rfl rfl (by kernel_rfl) (fun _ _ _ h => h) (Or.inl ⟨by rfl, ?_⟩) ?_ ?_
          rotate_left
          · intro w'
            go_simp
            with_reducible rfl
          rotate_left
          · simp only [Act.put, List.setIfInBounds_toArray, List.set_cons_zero, List.set_cons_succ]
            rfl
          refine pure_ (i := 18) (N := some 62) (v := ?_) (a' := ?_) #[true, true, true, true, true, true, true, true, true, true, true, true, true, true, true, true, true, true, true, false, false, false, false, false, false, false, false, false, false, false, false, false] rfl rfl (by kernel_rfl) (fun _ _ _ h => h) (Or.inl ⟨by rfl, ?_⟩) ?_ ?_
          rotate_left
          · intro w'
            go_simp
            with_reducible rfl
          rotate_left
          · simp only [Act.put, List.setIfInBounds_toArray, List.set_cons_zero, List.set_cons_succ]
            rfl
          refine take_ (i := 19) (N := some 63) (v := ?_) (a' := ?_) #[true, true, true, true, true, true, true, true, true, true, true, true, true, true, true, true, true, true, true, true, false, false, false, false, false, false, false, false, false, false, false, false] rfl rfl (by kernel_rfl) (fun _ _ _ h => h) (Or.inl ⟨by rfl, ?_⟩) hHeld ?_ ?_
          rotate_left
          · rintro w' ⟨s0, s1, s2, s3, s4, s5, s6, s7, s8, s9⟩
            go_simp
            with_reducible rfl
          rotate_left
          · simp only [Act.put, List.setIfInBounds_toArray, List.set_cons_zero, List.set_cons_succ]
            rfl
          refine pure_ (i := 20) (N := some 64) (v := ?_) (a' := ?_) #[true, true, true, true, true, true, true, true, true, true, true, true, true, true, true, true, true, true, true, true, true, false, false, false, false, false, false, false, false, false, false, false] rfl rfl (by kernel_rfl) (fun _ _ _ h => h) (Or.inl ⟨by rfl, ?_⟩) ?_ ?_
          rotate_left
          · intro w'
            go_simp
            with_reducible rfl
          rotate_left
          · simp only [Act.put, List.setIfInBounds_toArray, List.set_cons_zero, List.set_cons_succ]
            rfl
          refine take_ (i := 21) (N := some 65) (v := ?_) (a' := ?_) #[true, true, true, true, true, true, true, true, true, true, true, true, true, true, true, true, true, true, true, true, true, true, false, false, false, false, false, false, false, false, false, false] rfl rfl (by kernel_rfl) (fun _ _ _ h => h) (Or.inl ⟨by rfl, ?_⟩) hHeld ?_ ?_
          rotate_left
          · rintro w' ⟨s0, s1, s2, s3, s4, s5, s6, s7, s8, s9⟩
            go_simp
            with_reducible rfl
          rotate_left
          · simp only [Act.put, List.setIfInBounds_toArray, List.set_cons_zero, List.set_cons_succ]
            rfl
          refine pure_ (i := 22) (N := some 66) (v := ?_) (a' := ?_) #[true, true, true, true, true, true, true, true, true, true, true, true, true, true, true, true, true, true, true, true, true, true, true, false, false, false, false, false, false, false, false, false] rfl rfl (by kernel_rfl) (fun _ _ _ h => h) (Or.inl ⟨by rfl, ?_⟩) ?_ ?_
          rotate_left
          · intro w'
            go_simp
            with_reducible rfl
          rotate_left
          · simp only [Act.put, List.setIfInBounds_toArray, List.set_cons_zero, List.set_cons_succ]
            rfl
          refine pure_ (i := 23) (N := some 67) (v := ?_) (a' := ?_) #[true, true, true, true, true, true, true, true, true, true, true, true, true, true, true, true, true, true, true, true, true, true, true, true, false, false, false, false, false, false, false, false] rfl rfl (by kernel_rfl) (fun _ _ _ h => h) (Or.inl ⟨by rfl, ?_⟩) ?_ ?_
          rotate_left
          · intro w'
            go_simp
            with_reducible rfl
          rotate_left
          · simp only [Act.put, List.setIfInBounds_toArray, List.set_cons_zero, List.set_cons_succ]
            rfl
          refine take_ (i := 24) (N := some 68) (v := ?_) (a' := ?_) #[true, true, true, true, true, true, true, true, true, true, true, true, true, true, true, true, true, true, true, true, true, true, true, true, true, false, false, false, false, false, false, false] rfl rfl (by kernel_rfl) (fun _ _ _ h => h) (Or.inl ⟨by rfl, ?_⟩) hHeld ?_ ?_
          rotate_left
          · rintro w' ⟨s0, s1, s2, s3, s4, s5, s6, s7, s8, s9⟩
            go_simp
            with_reducible rfl
          rotate_left
          · simp only [Act.put, List.setIfInBounds_toArray, List.set_cons_zero, List.set_cons_succ]
            rfl
          refine pure_ (i := 25) (N := some 69) (v := ?_) (a' := ?_) #[true, true, true, true, true, true, true, true, true, true, true, true, true, true, true, true, true, true, true, true, true, true, true, true, true, true, false, false, false, false, false, false] rfl rfl (by kernel_rfl) (fun _ _ _ h => h) (Or.inl ⟨by rfl, ?_⟩) ?_ ?_
          rotate_left
          · intro w'
            go_simp
            with_reducible rfl
          rotate_left
          · simp only [Act.put, List.setIfInBounds_toArray, List.set_cons_zero, List.set_cons_succ]
            rfl
          refine pure_ (i := 26) (N := some 70) (v := ?_) (a' := ?_) #[true, true, true, true, true, true, true, true, true, true, true, true, true, true, true, true, true, true, true, true, true, true, true, true, true, true, true, false, false, false, false, false] rfl rfl (by kernel_rfl) (fun _ _ _ h => h) (Or.inl ⟨by rfl, ?_⟩) ?_ ?_
          rotate_left
          · intro w'
            go_simp
            with_reducible rfl
          rotate_left
          · simp only [Act.put, List.setIfInBounds_toArray, List.set_cons_zero, List.set_cons_succ]
            rfl
          refine take_ (i := 27) (N := some 71) (v := ?_) (a' := ?_) #[true, true, true, true, true, true, true, true, true, true, true, true, true, true, true, true, true, true, true, true, true, true, true, true, true, true, true, true, false, false, false, false] rfl rfl (by kernel_rfl) (fun _ _ _ h => h) (Or.inl ⟨by rfl, ?_⟩) hHeld ?_ ?_
          rotate_left
          · rintro w' ⟨s0, s1, s2, s3, s4, s5, s6, s7, s8, s9⟩
            go_simp
            with_reducible rfl
          rotate_left
          · simp only [Act.put, List.setIfInBounds_toArray, List.set_cons_zero, List.set_cons_succ]
            rfl
          refine pure_ (i := 28) (N := some 72) (v := ?_) (a' := ?_) #[true, true, true, true, true, true, true, true, true, true, true, true, true, true, true, true, true, true, true, true, true, true, true, true, true, true, true, true, true, false, false, false] rfl rfl (by kernel_rfl) (fun _ _ _ h => h) (Or.inl ⟨by rfl, ?_⟩) ?_ ?_
          rotate_left
          · intro w'
            go_simp
            with_reducible rfl
          rotate_left
          · simp only [Act.put, List.setIfInBounds_toArray, List.set_cons_zero, List.set_cons_succ]
            rfl
          refine last_ (i := 29) (N := none) #[true, true, true, true, true, true, true, true, true, true, true, true, true, true, true, true, true, true, true, true, true, true, true, true, true, true, true, true, true, true, false, false] rfl rfl (by kernel_rfl) (by decide) (fun K hK => ?_)
          have h0 := (KK.out.1.ib k hlt2).2.c hlt
          have h1 := (KK.out.1.ib k hlt2).2.z i
          refine skip_ (w1 := ?_) (by rfl) rfl ?_ ?_
          rotate_left
          · go_simp
            rfl
          refine hK.out _ _ ?_
          clear hK K h0 h1
          refine pure_ (i := 30) (N := some 73) (v := ?_) (a' := ?_) #[true, true, true, true, true, true, true, true, true, true, true, true, true, true, true, true, true, true, true, true, true, true, true, true, true, true, true, true, true, true, true, false] rfl rfl (by kernel_rfl) (fun _ _ _ h => h) (Or.inl ⟨by rfl, ?_⟩) ?_ ?_
          rotate_left
          · intro w'
            go_simp
            with_reducible rfl
          rotate_left
          · simp only [Act.put, List.setIfInBounds_toArray, List.set_cons_zero, List.set_cons_succ]
            rfl
          refine last_ (i := 31) (N := none) #[true, true, true, true, true, true, true, true, true, true, true, true, true, true, true, true, true, true, true, true, true, true, true, true, true, true, true, true, true, true, true, true] rfl rfl (by kernel_rfl) (by decide) (fun K hK => ?_)
          have T1 := Aside0.mk (KK.out.1.setC hlt2 i y)
          have h0 := (T1.out.bb k hlt2).2.c hlt
          have h1 := (KK.out.1.bb k hlt2).2.z i
          refine skip_ (w1 := ?_) (by rfl) rfl ?_ ?_
          rotate_left
          · go_simp
            rfl
          refine hK.out _ _ ?_
          clear hK K h0 h1
          refine done_ (by kernel_rfl) ?_
          obtain ⟨W6, hW6⟩ : ∃ W6, W6 = ((wr.setCell ⟨BT k, i, none⟩ (.int .i64 y)).setCell ⟨DT k, i, none⟩ (.bool yn)).drew := ⟨_, rfl⟩
          rw [← hW6]
          have T6 : Aside0 (Sq W6 lo mi (some ⟨gT, 0, none⟩) (some ⟨gNT, 0, none⟩) n (tF t.c i (k + 1)) (tF t.no i (k + 1)) BT DT) := ⟨by rw [hW6, tF_next, tF_next, ← HY.out, ← HYN.out]; exact (T1.out.setN hlt2 i yn).drew⟩
          have KT := KK.out.1.ib k hlt2
          have KD := KK.out.1.bb k hlt2
          have M6 : Aside0 (Sq W6 mi p11 (some ⟨gM, 0, none⟩) NM n (mF t.c n m0 m1 i k) t.no BM DM) := ⟨by rw [hW6]; exact ((KK.out.2.1.far (.inl KT.1.2) _).far (.inl KD.1.2) _).drew⟩
          have C6 : Aside0 (Chg (fun k => lo ≤ k ∧ k < p11) W5 W6) := ⟨by
            have := L1.out
            rw [hW6]
            exact ((KK.out.2.2.setCell (.inl ⟨KT.1.1, by have := KT.1.2; show BT k < p11; omega⟩) _).setCell (.inl ⟨KD.1.1, by have := KD.1.2; show DT k < p11; omega⟩) _).drew⟩
          have ym : Aside0 (mF t.c n m0 m1 i k i k = y) := ⟨by rw [mF_at, HY.out]⟩
          have y6 : Aside0 (W6.cell? ⟨BM i, k, none⟩ = some (.int .i64 y)) := ⟨by
            have := (M6.out.ib i hlt).2.c hlt2
            rw [ym.out] at this
            exact this⟩
          have r6 : Aside0 (W6.cell? ⟨gM, i, none⟩ = some (.slice (some ⟨BM i, 0, none⟩) n n)) := ⟨by
            obtain ⟨g', e, h⟩ := M6.out.rowC hlt
            injection e with e
            injection e with e1 _ _
            rw [e1]
            exact h⟩
          have q12 : Aside0 (W6.heap[p11 + 1]? = some (.cells #[.slice (some ⟨gM, 0, none⟩) n cM, .slice NM n cNM] 27 (0, 0))) := ⟨C6.out.blk X12.out (fun e => by have := L1.out; omega)⟩
          have q0 : Aside0 (W6.heap[p0]? = some (.cells #[.int .i16 m0, .int .i16 m1] 25 (0, 0))) := ⟨C6.out.blk M5.out (fun e => by have := L1.out; omega)⟩
          clear T1 KT KD hW6 KK R5 x12 x0
          clear HYN
          have wm0 : IntKind.i64.wrap m0 = m0 := IntWalk.i64_in _ (by omega)
          have wm1 : IntKind.i64.wrap m1 = m1 := IntWalk.i64_in _ (by omega)
          have wy0 : IntKind.i64.wrap (y + m0) = y + m0 := IntWalk.i64_in _ (by omega)
          have wy1 : IntKind.i64.wrap (y + m1) = y + m1 := IntWalk.i64_in _ (by omega)
          have wy2 : IntKind.i64.wrap (y + m0 + m1) = y + m0 + m1 := IntWalk.i64_in _ (by omega)
          by_cases hi0 : i = 0
          · have d1 : ((i : Int) == 0) = true := by simp; omega
            have d2 : decide ((i : Int) = 0) = true := by simp; omega
            have HI0 := Aside0.mk hi0
            clear hi0
            go_upto_region 13 with fail
            have f1 : W6.drew.cell? ⟨p11 + 1, 0, none⟩ = some (.slice (some ⟨gM, 0, none⟩) n cM) := (blk_cell q12.out 0).trans rfl
            have f2 : W6.drew.cell? ⟨gM, i, none⟩ = some (.slice (some ⟨BM i, 0, none⟩) n n) := r6.out
            have f3 : W6.drew.cell? ⟨BM i, k, none⟩ = some (.int .i64 y) := y6.out
            have f4 : W6.drew.cell? ⟨p0, 0, none⟩ = some (.int .i16 m0) := (blk_cell q0.out 0).trans rfl
            refine start_ (n := 14) (S := fun w' => w'.cell? ⟨p11 + 1, 0, none⟩ = some (.slice (some ⟨gM, 0, none⟩) n cM) ∧ w'.cell? ⟨gM, i, none⟩ = some (.slice (some ⟨BM i, 0, none⟩) n n) ∧ w'.cell? ⟨BM i, k, none⟩ = some (.int .i64 y) ∧ w'.cell? ⟨p0, 0, none⟩ = some (.int .i16 m0)) (ds := [13]) #[false, false, false, false, false, false, false, false, false, false, false, false, false, false] (by kernel_rfl) rfl rfl ⟨f1, f2, f3, f4⟩ (fun hHeld => ?_)
            clear f1 f2 f3 f4
            refine pure_ (i := 0) (N := some 76) (v := ?_) (a' := ?_) #[true, false, false, false, false, false, false, false, false, false, false, false, false, false] rfl rfl (by kernel_rfl) (fun _ _ _ h => h) (Or.inl ⟨by rfl, ?_⟩) ?_ ?_
            rotate_left
            · intro w'
              go_simp
              with_reducible rfl
            rotate_left
            · simp only [Act.put, List.setIfInBounds_toArray, List.set_cons_zero, List.set_cons_succ]
              rfl
            refine take_ (i := 1) (N := some 77) (v := ?_) (a' := ?_) #[true, true, false, false, false, false, false, false, false, false, false, false, false, false] rfl rfl (by kernel_rfl) (fun _ _ _ h => h) (Or.inl ⟨by rfl, ?_⟩) hHeld ?_ ?_
            rotate_left
            · rintro w' ⟨s0, s1, s2, s3⟩
              go_simp
              with_reducible rfl
            rotate_left
            · simp only [Act.put, List.setIfInBounds_toArray, List.set_cons_zero, List.set_cons_succ]
              rfl
            refine pure_ (i := 2) (N := some 78) (v := ?_) (a' := ?_) #[true, true, true, false, false, false, false, false, false, false, false, false, false, false] rfl rfl (by kernel_rfl) (fun _ _ _ h => h) (Or.inl ⟨by rfl, ?_⟩) ?_ ?_
            rotate_left
            · intro w'
              go_simp
              with_reducible rfl
            rotate_left
            · simp only [Act.put, List.setIfInBounds_toArray, List.set_cons_zero, List.set_cons_succ]
              rfl
            refine pure_ (i := 3) (N := some 79) (v := ?_) (a' := ?_) #[true, true, true, true, false, false, false, false, false, false, false, false, false, false] rfl rfl (by kernel_rfl) (fun _ _ _ h => h) (Or.inl ⟨by rfl, ?_⟩) ?_ ?_
            rotate_left
            · intro w'
              go_simp
              with_reducible rfl
            rotate_left
            · simp only [Act.put, List.setIfInBounds_toArray, List.set_cons_zero, List.set_cons_succ]
              rfl
            refine take_ (i := 4) (N := some 80) (v := ?_) (a' := ?_) #[true, true, true, true, true, false, false, false, false, false, false, false, false, false] rfl rfl (by kernel_rfl) (fun _ _ _ h => h) (Or.inl ⟨by rfl, ?_⟩) hHeld ?_ ?_
            rotate_left
            · rintro w' ⟨s0, s1, s2, s3⟩
              go_simp
              with_reducible rfl
            rotate_left
            · simp only [Act.put, List.setIfInBounds_toArray, List.set_cons_zero, List.set_cons_succ]
              rfl
            refine pure_ (i := 5) (N := some 81) (v := ?_) (a' := ?_) #[true, true, true, true, true, true, false, false, false, false, false, false, false, false] rfl rfl (by kernel_rfl) (fun _ _ _ h => h) (Or.inl ⟨by rfl, ?_⟩) ?_ ?_
            rotate_left
            · intro w'
              go_simp
              with_reducible rfl
            rotate_left
            · simp only [Act.put, List.setIfInBounds_toArray, List.set_cons_zero, List.set_cons_succ]
              rfl
            refine pure_ (i := 6) (N := some 82) (v := ?_) (a' := ?_) #[true, true, true, true, true, true, true, false, false, false, false, false, false, false] rfl rfl (by kernel_rfl) (fun _ _ _ h => h) (Or.inl ⟨by rfl, ?_⟩) ?_ ?_
            rotate_left
            · intro w'
              go_simp
              with_reducible rfl
            rotate_left
            · simp only [Act.put, List.setIfInBounds_toArray, List.set_cons_zero, List.set_cons_succ]
              rfl
            refine take_ (i := 7) (N := some 83) (v := ?_) (a' := ?_) #[true, true, true, true, true, true, true, true, false, false, false, false, false, false] rfl rfl (by kernel_rfl) (fun _ _ _ h => h) (Or.inl ⟨by rfl, ?_⟩) hHeld ?_ ?_
            rotate_left
            · rintro w' ⟨s0, s1, s2, s3⟩
              go_simp
              with_reducible rfl
            rotate_left
            · simp only [Act.put, List.setIfInBounds_toArray, List.set_cons_zero, List.set_cons_succ]
              rfl
            refine pure_ (i := 8) (N := some 84) (v := ?_) (a' := ?_) #[true, true, true, true, true, true, true, true, true, false, false, false, false, false] rfl rfl (by kernel_rfl) (fun _ _ _ h => h) (Or.inl ⟨by rfl, ?_⟩) ?_ ?_
            rotate_left
            · intro w'
              go_simp
              with_reducible rfl
            rotate_left
            · simp only [Act.put, List.setIfInBounds_toArray, List.set_cons_zero, List.set_cons_succ]
              rfl
            refine take_ (i := 9) (N := some 85) (v := ?_) (a' := ?_) #[true, true, true, true, true, true, true, true, true, true, false, false, false, false] rfl rfl (by kernel_rfl) (fun _ _ _ h => h) (Or.inl ⟨by rfl, ?_⟩) hHeld ?_ ?_
            rotate_left
            · rintro w' ⟨s0, s1, s2, s3⟩
              go_simp
              with_reducible rfl
            rotate_left
            · simp only [Act.put, List.setIfInBounds_toArray, List.set_cons_zero, List.set_cons_succ]
              rfl
            refine pure_ (i := 10) (N := some 86) (v := ?_) (a' := ?_) #[true, true, true, true, true, true, true, true, true, true, true, false, false, false] rfl rfl (by kernel_rfl) (fun _ _ _ h => h) (Or.inl ⟨by rfl, ?_⟩) ?_ ?_
            rotate_left
            · intro w'
              go_simp
              with_reducible rfl
            rotate_left
            · simp only [Act.put, List.setIfInBounds_toArray, List.set_cons_zero, List.set_cons_succ]
              rfl
            refine pure_ (i := 11) (N := some 87) (v := ?_) (a' := ?_) #[true, true, true, true, true, true, true, true, true, true, true, true, false, false] rfl rfl (by kernel_rfl) (fun _ _ _ h => h) (Or.inl ⟨by rfl, ?_⟩) ?_ ?_
            rotate_left
            · intro w'
              go_simp
              with_reducible rfl
            rotate_left
            · simp only [Act.put, List.setIfInBounds_toArray, List.set_cons_zero, List.set_cons_succ]
              rfl
            refine pure_ (i := 12) (N := some 88) (v := ?_) (a' := ?_) #[true, true, true, true, true, true, true, true, true, true, true, true, true, false] rfl rfl (by kernel_rfl) (fun _ _ _ h => h) (Or.inl ⟨by rfl, ?_⟩) ?_ ?_
            rotate_left
            · intro w'
              go_simp
              with_reducible rfl
            rotate_left
            · simp only [Act.put, List.setIfInBounds_toArray, List.set_cons_zero, List.set_cons_succ]
              rfl
            refine last_ (i := 13) (N := none) #[true, true, true, true, true, true, true, true, true, true, true, true, true, true] rfl rfl (by kernel_rfl) (by decide) (fun K hK => ?_)
            have h0 : W6.cell? ⟨BM i, k, none⟩ = some (.int .i64 y) := y6.out
            have h1 : W6.frozen? ⟨BM i, k, none⟩ = false := (M6.out.ib i hlt).2.z k
            refine skip_ (w1 := ?_) (by rfl) rfl ?_ ?_
            rotate_left
            · go_simp
              rfl
            refine hK.out _ _ ?_
            clear hK K h0 h1
            refine done_ (by kernel_rfl) ?_
            obtain ⟨W7, hW⟩ : ∃ W', W' = (W6.setCell ⟨BM i, k, none⟩ (.int .i64 (y + m0))).drew := ⟨_, rfl⟩
            rw [← hW]
            have MB := (M6.out.ib i hlt).1
            have T7 : Aside0 (Sq W7 lo mi (some ⟨gT, 0, none⟩) (some ⟨gNT, 0, none⟩) n (tF t.c i (k + 1)) (tF t.no i (k + 1)) BT DT) := ⟨by rw [hW]; exact (T6.out.far (.inr MB.1) _).drew⟩
            have M7 : Aside0 (Sq W7 mi p11 (some ⟨gM, 0, none⟩) NM n (upd2 (mF t.c n m0 m1 i k) i k (y + m0)) t.no BM DM) := ⟨by rw [hW]; first | exact (M6.out.setC hlt k _).drew | (have hh := M6.out.setC hlt k (y + m0); rw [upd2_upd2] at hh; exact hh.drew)⟩
            have C7 : Aside0 (Chg (fun k => lo ≤ k ∧ k < p11) W5 W7) := ⟨by rw [hW]; exact (C6.out.setCell (.inl ⟨by have := L1.out; show lo ≤ BM i; omega, MB.2⟩) _).drew⟩
            have y7 : Aside0 (W7.cell? ⟨BM i, k, none⟩ = some (.int .i64 (y + m0))) := ⟨by
              have := (M7.out.ib i hlt).2.c hlt2
              rw [upd2_at] at this
              exact this⟩
            have r7 : Aside0 (W7.cell? ⟨gM, i, none⟩ = some (.slice (some ⟨BM i, 0, none⟩) n n)) := ⟨by
              obtain ⟨g', e, h⟩ := M7.out.rowC hlt
              injection e with e
              injection e with e1 _ _
              rw [e1]
              exact h⟩
            have q127 : Aside0 (W7.heap[p11 + 1]? = some (.cells #[.slice (some ⟨gM, 0, none⟩) n cM, .slice NM n cNM] 27 (0, 0))) := ⟨C7.out.blk X12.out (fun e => by have := L1.out; omega)⟩
            have q07 : Aside0 (W7.heap[p0]? = some (.cells #[.int .i16 m0, .int .i16 m1] 25 (0, 0))) := ⟨C7.out.blk M5.out (fun e => by have := L1.out; omega)⟩
            clear T6 M6 C6 y6 r6 q12 q0 hW MB
            have T6 := T7
            have M6 := M7
            have C6 := C7
            have y6 := y7
            have r6 := r7
            have q12 := q127
            have q0 := q07
            clear T7 M7 C7 y7 r7 q127 q07
            clear d1 d2
            by_cases hk1 : k = n - 1
            · have e1 : ((k : Int) == (n : Int) - 1) = true := by simp; omega
              have e2 : decide ((k : Int) = (n : Int) - 1) = true := by simp; omega
              have HK1 := Aside0.mk hk1
              clear hk1
              go_upto_region 15 with fail
              have f1 : W7.drew.cell? ⟨p11 + 1, 0, none⟩ = some (.slice (some ⟨gM, 0, none⟩) n cM) := (blk_cell q12.out 0).trans rfl
              have f2 : W7.drew.cell? ⟨gM, i, none⟩ = some (.slice (some ⟨BM i, 0, none⟩) n n) := r6.out
              have f3 : W7.drew.cell? ⟨BM i, k, none⟩ = some (.int .i64 (y + m0)) := y6.out
              have f4 : W7.drew.cell? ⟨p0, 1, none⟩ = some (.int .i16 m1) := (blk_cell q0.out 1).trans rfl
              refine start_ (n := 14) (S := fun w' => w'.cell? ⟨p11 + 1, 0, none⟩ = some (.slice (some ⟨gM, 0, none⟩) n cM) ∧ w'.cell? ⟨gM, i, none⟩ = some (.slice (some ⟨BM i, 0, none⟩) n n) ∧ w'.cell? ⟨BM i, k, none⟩ = some (.int .i64 (y + m0)) ∧ w'.cell? ⟨p0, 1, none⟩ = some (.int .i16 m1)) (ds := [13]) #[false, false, false, false, false, false, false, false, false, false, false, false, false, false] (by kernel_rfl) rfl rfl ⟨f1, f2, f3, f4⟩ (fun hHeld => ?_)
              clear f1 f2 f3 f4
              refine pure_ (i := 0) (N := some 93) (v := ?_) (a' := ?_) #[true, false, false, false, false, false, false, false, false, false, false, false, false, false] rfl rfl (by kernel_rfl) (fun _ _ _ h => h) (Or.inl ⟨by rfl, ?_⟩) ?_ ?_
              rotate_left
              · intro w'
                go_simp
                with_reducible rfl
              rotate_left
              · simp only [Act.put, List.setIfInBounds_toArray, List.set_cons_zero, List.set_cons_succ]
                rfl
              refine take_ (i := 1) (N := some 94) (v := ?_) (a' := ?_) #[true, true, false, false, false, false, false, false, false, false, false, false, false, false] rfl rfl (by kernel_rfl) (fun _ _ _ h => h) (Or.inl ⟨by rfl, ?_⟩) hHeld ?_ ?_
              rotate_left
              · rintro w' ⟨s0, s1, s2, s3⟩
                go_simp
                with_reducible rfl
              rotate_left
              · simp only [Act.put, List.setIfInBounds_toArray, List.set_cons_zero, List.set_cons_succ]
                rfl
              refine pure_ (i := 2) (N := some 95) (v := ?_) (a' := ?_) #[true, true, true, false, false, false, false, false, false, false, false, false, false, false] rfl rfl (by kernel_rfl) (fun _ _ _ h => h) (Or.inl ⟨by rfl, ?_⟩) ?_ ?_
              rotate_left
              · intro w'
                go_simp
                with_reducible rfl
              rotate_left
              · simp only [Act.put, List.setIfInBounds_toArray, List.set_cons_zero, List.set_cons_succ]
                rfl
              refine pure_ (i := 3) (N := some 96) (v := ?_) (a' := ?_) #[true, true, true, true, false, false, false, false, false, false, false, false, false, false] rfl rfl (by kernel_rfl) (fun _ _ _ h => h) (Or.inl ⟨by rfl, ?_⟩) ?_ ?_
              rotate_left
              · intro w'
                go_simp
                with_reducible rfl
              rotate_left
              · simp only [Act.put, List.setIfInBounds_toArray, List.set_cons_zero, List.set_cons_succ]
                rfl
              refine take_ (i := 4) (N := some 97) (v := ?_) (a' := ?_) #[true, true, true, true, true, false, false, false, false, false, false, false, false, false] rfl rfl (by kernel_rfl) (fun _ _ _ h => h) (Or.inl ⟨by rfl, ?_⟩) hHeld ?_ ?_
              rotate_left
              · rintro w' ⟨s0, s1, s2, s3⟩
                go_simp
                with_reducible rfl
              rotate_left
              · simp only [Act.put, List.setIfInBounds_toArray, List.set_cons_zero, List.set_cons_succ]
                rfl
              refine pure_ (i := 5) (N := some 98) (v := ?_) (a' := ?_) #[true, true, true, true, true, true, false, false, false, false, false, false, false, false] rfl rfl (by kernel_rfl) (fun _ _ _ h => h) (Or.inl ⟨by rfl, ?_⟩) ?_ ?_
              rotate_left
              · intro w'
                go_simp
                with_reducible rfl
              rotate_left
              · simp only [Act.put, List.setIfInBounds_toArray, List.set_cons_zero, List.set_cons_succ]
                rfl
              refine pure_ (i := 6) (N := some 99) (v := ?_) (a' := ?_) #[true, true, true, true, true, true, true, false, false, false, false, false, false, false] rfl rfl (by kernel_rfl) (fun _ _ _ h => h) (Or.inl ⟨by rfl, ?_⟩) ?_ ?_
              rotate_left
              · intro w'
                go_simp
                with_reducible rfl
              rotate_left
              · simp only [Act.put, List.setIfInBounds_toArray, List.set_cons_zero, List.set_cons_succ]
                rfl
              refine take_ (i := 7) (N := some 100) (v := ?_) (a' := ?_) #[true, true, true, true, true, true, true, true, false, false, false, false, false, false] rfl rfl (by kernel_rfl) (fun _ _ _ h => h) (Or.inl ⟨by rfl, ?_⟩) hHeld ?_ ?_
              rotate_left
              · rintro w' ⟨s0, s1, s2, s3⟩
                go_simp
                with_reducible rfl
              rotate_left
              · simp only [Act.put, List.setIfInBounds_toArray, List.set_cons_zero, List.set_cons_succ]
                rfl
              refine pure_ (i := 8) (N := some 101) (v := ?_) (a' := ?_) #[true, true, true, true, true, true, true, true, true, false, false, false, false, false] rfl rfl (by kernel_rfl) (fun _ _ _ h => h) (Or.inl ⟨by rfl, ?_⟩) ?_ ?_
              rotate_left
              · intro w'
                go_simp
                with_reducible rfl
              rotate_left
              · simp only [Act.put, List.setIfInBounds_toArray, List.set_cons_zero, List.set_cons_succ]
                rfl
              refine take_ (i := 9) (N := some 102) (v := ?_) (a' := ?_) #[true, true, true, true, true, true, true, true, true, true, false, false, false, false] rfl rfl (by kernel_rfl) (fun _ _ _ h => h) (Or.inl ⟨by rfl, ?_⟩) hHeld ?_ ?_
              rotate_left
              · rintro w' ⟨s0, s1, s2, s3⟩
                go_simp
                with_reducible rfl
              rotate_left
              · simp only [Act.put, List.setIfInBounds_toArray, List.set_cons_zero, List.set_cons_succ]
                rfl
              refine pure_ (i := 10) (N := some 103) (v := ?_) (a' := ?_) #[true, true, true, true, true, true, true, true, true, true, true, false, false, false] rfl rfl (by kernel_rfl) (fun _ _ _ h => h) (Or.inl ⟨by rfl, ?_⟩) ?_ ?_
              rotate_left
              · intro w'
                go_simp
                with_reducible rfl
              rotate_left
              · simp only [Act.put, List.setIfInBounds_toArray, List.set_cons_zero, List.set_cons_succ]
                rfl
              refine pure_ (i := 11) (N := some 104) (v := ?_) (a' := ?_) #[true, true, true, true, true, true, true, true, true, true, true, true, false, false] rfl rfl (by kernel_rfl) (fun _ _ _ h => h) (Or.inl ⟨by rfl, ?_⟩) ?_ ?_
              rotate_left
              · intro w'
                go_simp
                with_reducible rfl
              rotate_left
              · simp only [Act.put, List.setIfInBounds_toArray, List.set_cons_zero, List.set_cons_succ]
                rfl
              refine pure_ (i := 12) (N := some 105) (v := ?_) (a' := ?_) #[true, true, true, true, true, true, true, true, true, true, true, true, true, false] rfl rfl (by kernel_rfl) (fun _ _ _ h => h) (Or.inl ⟨by rfl, ?_⟩) ?_ ?_
              rotate_left
              · intro w'
                go_simp
                with_reducible rfl
              rotate_left
              · simp only [Act.put, List.setIfInBounds_toArray, List.set_cons_zero, List.set_cons_succ]
                rfl
              refine last_ (i := 13) (N := none) #[true, true, true, true, true, true, true, true, true, true, true, true, true, true] rfl rfl (by kernel_rfl) (by decide) (fun K hK => ?_)
              have h0 : W7.cell? ⟨BM i, k, none⟩ = some (.int .i64 (y + m0)) := y6.out
              have h1 : W7.frozen? ⟨BM i, k, none⟩ = false := (M6.out.ib i hlt).2.z k
              refine skip_ (w1 := ?_) (by rfl) rfl ?_ ?_
              rotate_left
              · go_simp
                rfl
              refine hK.out _ _ ?_
              clear hK K h0 h1
              refine done_ (by kernel_rfl) ?_
              obtain ⟨W8, hW⟩ : ∃ W', W' = (W7.setCell ⟨BM i, k, none⟩ (.int .i64 (y + m0 + m1))).drew := ⟨_, rfl⟩
              rw [← hW]
              have MB := (M6.out.ib i hlt).1
              have T7 : Aside0 (Sq W8 lo mi (some ⟨gT, 0, none⟩) (some ⟨gNT, 0, none⟩) n (tF t.c i (k + 1)) (tF t.no i (k + 1)) BT DT) := ⟨by rw [hW]; exact (T6.out.far (.inr MB.1) _).drew⟩
              have M7 : Aside0 (Sq W8 mi p11 (some ⟨gM, 0, none⟩) NM n (upd2 (mF t.c n m0 m1 i k) i k (y + m0 + m1)) t.no BM DM) := ⟨by rw [hW]; first | exact (M6.out.setC hlt k _).drew | (have hh := M6.out.setC hlt k (y + m0 + m1); rw [upd2_upd2] at hh; exact hh.drew)⟩
              have C7 : Aside0 (Chg (fun k => lo ≤ k ∧ k < p11) W5 W8) := ⟨by rw [hW]; exact (C6.out.setCell (.inl ⟨by have := L1.out; show lo ≤ BM i; omega, MB.2⟩) _).drew⟩
              have y7 : Aside0 (W8.cell? ⟨BM i, k, none⟩ = some (.int .i64 (y + m0 + m1))) := ⟨by
                have := (M7.out.ib i hlt).2.c hlt2
                rw [upd2_at] at this
                exact this⟩
              have r7 : Aside0 (W8.cell? ⟨gM, i, none⟩ = some (.slice (some ⟨BM i, 0, none⟩) n n)) := ⟨by
                obtain ⟨g', e, h⟩ := M7.out.rowC hlt
                injection e with e
                injection e with e1 _ _
                rw [e1]
                exact h⟩
              have q127 : Aside0 (W8.heap[p11 + 1]? = some (.cells #[.slice (some ⟨gM, 0, none⟩) n cM, .slice NM n cNM] 27 (0, 0))) := ⟨C7.out.blk X12.out (fun e => by have := L1.out; omega)⟩
              have q07 : Aside0 (W8.heap[p0]? = some (.cells #[.int .i16 m0, .int .i16 m1] 25 (0, 0))) := ⟨C7.out.blk M5.out (fun e => by have := L1.out; omega)⟩
              clear T6 M6 C6 y6 r6 q12 q0 hW MB
              have T6 := T7
              have M6 := M7
              have C6 := C7
              have y6 := y7
              have r6 := r7
              have q12 := q127
              have q0 := q07
              clear T7 M7 C7 y7 r7 q127 q07
              clear e1 e2
              go_wp2_with fail
              go_roundw
              case measure => simp [intOf]; omega
              case rel =>
                refine ⟨k + 1, by omega, by go_num, ⟨T6.out, ?_, C6.out⟩⟩
                rw [mF_next, ← HY.out, if_pos HI0.out, if_pos HK1.out]
                exact M6.out
            · have e1 : ((k : Int) == (n : Int) - 1) = false := by simp; omega
              have e2 : decide ((k : Int) = (n : Int) - 1) = false := by simp; omega
              have HK1 := Aside0.mk hk1
              clear hk1
              go_wp2_with fail
              go_roundw
              case measure => simp [intOf]; omega
              case rel =>
                refine ⟨k + 1, by omega, by go_num, ⟨T6.out, ?_, C6.out⟩⟩
                rw [mF_next, ← HY.out, if_pos HI0.out, if_neg HK1.out]
                rw [show y + m0 + 0 = y + m0 by omega]
                exact M6.out
          · have d1 : ((i : Int) == 0) = false := by simp; omega
            have d2 : decide ((i : Int) = 0) = false := by simp; omega
            have HI0 := Aside0.mk hi0
            clear hi0
            by_cases hk1 : k = n - 1
            · have e1 : ((k : Int) == (n : Int) - 1) = true := by simp; omega
              have e2 : decide ((k : Int) = (n : Int) - 1) = true := by simp; omega
              have HK1 := Aside0.mk hk1
              clear hk1
              go_upto_region 15 with fail
              have f1 : W6.drew.cell? ⟨p11 + 1, 0, none⟩ = some (.slice (some ⟨gM, 0, none⟩) n cM) := (blk_cell q12.out 0).trans rfl
              have f2 : W6.drew.cell? ⟨gM, i, none⟩ = some (.slice (some ⟨BM i, 0, none⟩) n n) := r6.out
              have f3 : W6.drew.cell? ⟨BM i, k, none⟩ = some (.int .i64 y) := y6.out
              have f4 : W6.drew.cell? ⟨p0, 1, none⟩ = some (.int .i16 m1) := (blk_cell q0.out 1).trans rfl
              refine start_ (n := 14) (S := fun w' => w'.cell? ⟨p11 + 1, 0, none⟩ = some (.slice (some ⟨gM, 0, none⟩) n cM) ∧ w'.cell? ⟨gM, i, none⟩ = some (.slice (some ⟨BM i, 0, none⟩) n n) ∧ w'.cell? ⟨BM i, k, none⟩ = some (.int .i64 y) ∧ w'.cell? ⟨p0, 1, none⟩ = some (.int .i16 m1)) (ds := [13]) #[false, false, false, false, false, false, false, false, false, false, false, false, false, false] (by kernel_rfl) rfl rfl ⟨f1, f2, f3, f4⟩ (fun hHeld => ?_)
              clear f1 f2 f3 f4
              refine pure_ (i := 0) (N := some 93) (v := ?_) (a' := ?_) #[true, false, false, false, false, false, false, false, false, false, false, false, false, false] rfl rfl (by kernel_rfl) (fun _ _ _ h => h) (Or.inl ⟨by rfl, ?_⟩) ?_ ?_
              rotate_left
              · intro w'
                go_simp
                with_reducible rfl
              rotate_left
              · simp only [Act.put, List.setIfInBounds_toArray, List.set_cons_zero, List.set_cons_succ]
                rfl
              refine take_ (i := 1) (N := some 94) (v := ?_) (a' := ?_) #[true, true, false, false, false, false, false, false, false, false, false, false, false, false] rfl rfl (by kernel_rfl) (fun _ _ _ h => h) (Or.inl ⟨by rfl, ?_⟩) hHeld ?_ ?_
              rotate_left
              · rintro w' ⟨s0, s1, s2, s3⟩
                go_simp
                with_reducible rfl
              rotate_left
              · simp only [Act.put, List.setIfInBounds_toArray, List.set_cons_zero, List.set_cons_succ]
                rfl
              refine pure_ (i := 2) (N := some 95) (v := ?_) (a' := ?_) #[true, true, true, false, false, false, false, false, false, false, false, false, false, false] rfl rfl (by kernel_rfl) (fun _ _ _ h => h) (Or.inl ⟨by rfl, ?_⟩) ?_ ?_
              rotate_left
              · intro w'
                go_simp
                with_reducible rfl
              rotate_left
              · simp only [Act.put, List.setIfInBounds_toArray, List.set_cons_zero, List.set_cons_succ]
                rfl
              refine pure_ (i := 3) (N := some 96) (v := ?_) (a' := ?_) #[true, true, true, true, false, false, false, false, false, false, false, false, false, false] rfl rfl (by kernel_rfl) (fun _ _ _ h => h) (Or.inl ⟨by rfl, ?_⟩) ?_ ?_
              rotate_left
              · intro w'
                go_simp
                with_reducible rfl
              rotate_left
              · simp only [Act.put, List.setIfInBounds_toArray, List.set_cons_zero, List.set_cons_succ]
                rfl
              refine take_ (i := 4) (N := some 97) (v := ?_) (a' := ?_) #[true, true, true, true, true, false, false, false, false, false, false, false, false, false] rfl rfl (by kernel_rfl) (fun _ _ _ h => h) (Or.inl ⟨by rfl, ?_⟩) hHeld ?_ ?_
              rotate_left
              · rintro w' ⟨s0, s1, s2, s3⟩
                go_simp
                with_reducible rfl
              rotate_left
              · simp only [Act.put, List.setIfInBounds_toArray, List.set_cons_zero, List.set_cons_succ]
                rfl
              refine pure_ (i := 5) (N := some 98) (v := ?_) (a' := ?_) #[true, true, true, true, true, true, false, false, false, false, false, false, false, false] rfl rfl (by kernel_rfl) (fun _ _ _ h => h) (Or.inl ⟨by rfl, ?_⟩) ?_ ?_
              rotate_left
              · intro w'
                go_simp
                with_reducible rfl
              rotate_left
              · simp only [Act.put, List.setIfInBounds_toArray, List.set_cons_zero, List.set_cons_succ]
                rfl
              refine pure_ (i := 6) (N := some 99) (v := ?_) (a' := ?_) #[true, true, true, true, true, true, true, false, false, false, false, false, false, false] rfl rfl (by kernel_rfl) (fun _ _ _ h => h) (Or.inl ⟨by rfl, ?_⟩) ?_ ?_
              rotate_left
              · intro w'
                go_simp
                with_reducible rfl
              rotate_left
              · simp only [Act.put, List.setIfInBounds_toArray, List.set_cons_zero, List.set_cons_succ]
                rfl
              refine take_ (i := 7) (N := some 100) (v := ?_) (a' := ?_) #[true, true, true, true, true, true, true, true, false, false, false, false, false, false] rfl rfl (by kernel_rfl) (fun _ _ _ h => h) (Or.inl ⟨by rfl, ?_⟩) hHeld ?_ ?_
              rotate_left
              · rintro w' ⟨s0, s1, s2, s3⟩
                go_simp
                with_reducible rfl
              rotate_left
              · simp only [Act.put, List.setIfInBounds_toArray, List.set_cons_zero, List.set_cons_succ]
                rfl
              refine pure_ (i := 8) (N := some 101) (v := ?_) (a' := ?_) #[true, true, true, true, true, true, true, true, true, false, false, false, false, false] rfl rfl (by kernel_rfl) (fun _ _ _ h => h) (Or.inl ⟨by rfl, ?_⟩) ?_ ?_
              rotate_left
              · intro w'
                go_simp
                with_reducible rfl
              rotate_left
              · simp only [Act.put, List.setIfInBounds_toArray, List.set_cons_zero, List.set_cons_succ]
                rfl
              refine take_ (i := 9) (N := some 102) (v := ?_) (a' := ?_) #[true, true, true, true, true, true, true, true, true, true, false, false, false, false] rfl rfl (by kernel_rfl) (fun _ _ _ h => h) (Or.inl ⟨by rfl, ?_⟩) hHeld ?_ ?_
              rotate_left
              · rintro w' ⟨s0, s1, s2, s3⟩
                go_simp
                with_reducible rfl
              rotate_left
              · simp only [Act.put, List.setIfInBounds_toArray, List.set_cons_zero, List.set_cons_succ]
                rfl
              refine pure_ (i := 10) (N := some 103) (v := ?_) (a' := ?_) #[true, true, true, true, true, true, true, true, true, true, true, false, false, false] rfl rfl (by kernel_rfl) (fun _ _ _ h => h) (Or.inl ⟨by rfl, ?_⟩) ?_ ?_
              rotate_left
              · intro w'
                go_simp
                with_reducible rfl
              rotate_left
              · simp only [Act.put, List.setIfInBounds_toArray, List.set_cons_zero, List.set_cons_succ]
                rfl
              refine pure_ (i := 11) (N := some 104) (v := ?_) (a' := ?_) #[true, true, true, true, true, true, true, true, true, true, true, true, false, false] rfl rfl (by kernel_rfl) (fun _ _ _ h => h) (Or.inl ⟨by rfl, ?_⟩) ?_ ?_
              rotate_left
              · intro w'
                go_simp
                with_reducible rfl
              rotate_left
              · simp only [Act.put, List.setIfInBounds_toArray, List.set_cons_zero, List.set_cons_succ]
                rfl
              refine pure_ (i := 12) (N := some 105) (v := ?_) (a' := ?_) #[true, true, true, true, true, true, true, true, true, true, true, true, true, false] rfl rfl (by kernel_rfl) (fun _ _ _ h => h) (Or.inl ⟨by rfl, ?_⟩) ?_ ?_
              rotate_left
              · intro w'
                go_simp
                with_reducible rfl
              rotate_left
              · simp only [Act.put, List.setIfInBounds_toArray, List.set_cons_zero, List.set_cons_succ]
                rfl
              refine last_ (i := 13) (N := none) #[true, true, true, true, true, true, true, true, true, true, true, true, true, true] rfl rfl (by kernel_rfl) (by decide) (fun K hK => ?_)
              have h0 : W6.cell? ⟨BM i, k, none⟩ = some (.int .i64 y) := y6.out
              have h1 : W6.frozen? ⟨BM i, k, none⟩ = false := (M6.out.ib i hlt).2.z k
              refine skip_ (w1 := ?_) (by rfl) rfl ?_ ?_
              rotate_left
              · go_simp
                rfl
              refine hK.out _ _ ?_
              clear hK K h0 h1
              refine done_ (by kernel_rfl) ?_
              obtain ⟨W8, hW⟩ : ∃ W', W' = (W6.setCell ⟨BM i, k, none⟩ (.int .i64 (y + m1))).drew := ⟨_, rfl⟩
              rw [← hW]
              have MB := (M6.out.ib i hlt).1
              have T7 : Aside0 (Sq W8 lo mi (some ⟨gT, 0, none⟩) (some ⟨gNT, 0, none⟩) n (tF t.c i (k + 1)) (tF t.no i (k + 1)) BT DT) := ⟨by rw [hW]; exact (T6.out.far (.inr MB.1) _).drew⟩
              have M7 : Aside0 (Sq W8 mi p11 (some ⟨gM, 0, none⟩) NM n (upd2 (mF t.c n m0 m1 i k) i k (y + m1)) t.no BM DM) := ⟨by rw [hW]; first | exact (M6.out.setC hlt k _).drew | (have hh := M6.out.setC hlt k (y + m1); rw [upd2_upd2] at hh; exact hh.drew)⟩
              have C7 : Aside0 (Chg (fun k => lo ≤ k ∧ k < p11) W5 W8) := ⟨by rw [hW]; exact (C6.out.setCell (.inl ⟨by have := L1.out; show lo ≤ BM i; omega, MB.2⟩) _).drew⟩
              have y7 : Aside0 (W8.cell? ⟨BM i, k, none⟩ = some (.int .i64 (y + m1))) := ⟨by
                have := (M7.out.ib i hlt).2.c hlt2
                rw [upd2_at] at this
                exact this⟩
              have r7 : Aside0 (W8.cell? ⟨gM, i, none⟩ = some (.slice (some ⟨BM i, 0, none⟩) n n)) := ⟨by
                obtain ⟨g', e, h⟩ := M7.out.rowC hlt
                injection e with e
                injection e with e1 _ _
                rw [e1]
                exact h⟩
              have q127 : Aside0 (W8.heap[p11 + 1]? = some (.cells #[.slice (some ⟨gM, 0, none⟩) n cM, .slice NM n cNM] 27 (0, 0))) := ⟨C7.out.blk X12.out (fun e => by have := L1.out; omega)⟩
              have q07 : Aside0 (W8.heap[p0]? = some (.cells #[.int .i16 m0, .int .i16 m1] 25 (0, 0))) := ⟨C7.out.blk M5.out (fun e => by have := L1.out; omega)⟩
              clear T6 M6 C6 y6 r6 q12 q0 hW MB
              have T6 := T7
              have M6 := M7
              have C6 := C7
              have y6 := y7
              have r6 := r7
              have q12 := q127
              have q0 := q07
              clear T7 M7 C7 y7 r7 q127 q07
              clear e1 e2
              go_wp2_with fail
              go_roundw
              case measure => simp [intOf]; omega
              case rel =>
                refine ⟨k + 1, by omega, by go_num, ⟨T6.out, ?_, C6.out⟩⟩
                rw [mF_next, ← HY.out, if_neg HI0.out, if_pos HK1.out]
                rw [show y + 0 + m1 = y + m1 by omega]
                exact M6.out
            · have e1 : ((k : Int) == (n : Int) - 1) = false := by simp; omega
              have e2 : decide ((k : Int) = (n : Int) - 1) = false := by simp; omega
              have HK1 := Aside0.mk hk1
              clear hk1
              go_wp2_with fail
              go_roundw
              case measure => simp [intOf]; omega
              case rel =>
                refine ⟨k + 1, by omega, by go_num, ⟨T6.out, ?_, C6.out⟩⟩
                rw [mF_next, ← HY.out, if_neg HI0.out, if_neg HK1.out]
                have e := upd2_self (mF t.c n m0 m1 i k) i k
                rw [ym.out] at e
                rw [show y + 0 + 0 = y by omega, e]
                exact M6.out
        · obtain rfl : k = n := by omega
          go_wp2_with fail
          go_roundw
          case measure => simp [intOf]; omega
          case rel =>
            refine ⟨i + 1, by omega, by go_num, ⟨KK.out.1.congr (fun a b ha _ => tF_row t.c i ha) (fun a b ha _ => tF_row t.no i ha), KK.out.2.1.congr (fun a b _ hb => mF_row t.c m0 m1 i hb) (fun _ _ _ _ => rfl), KK.out.2.2⟩⟩
    · obtain rfl : n = i := by omega
      clear hi hlt
      have x11 := Aside0.mk (K0.out.2.2.blk X11.out (fun e => by have := L1.out; omega))
      have x12 := Aside0.mk (K0.out.2.2.blk X12.out (fun e => by have := L1.out; omega))
      have x9 := Aside0.mk (K0.out.2.2.blk X95.out (fun e => by have := L1.out; omega))
      have x0 := Aside0.mk (K0.out.2.2.blk M5.out (fun e => by have := L1.out; omega))
      have QT : Aside0 (Sq wr lo mi AT NT n (fun a b => t.c b a) (fun a b => t.no b a) BT DT) := ⟨K0.out.1.congr (fun a b _ hb => tF_full t.c hb) (fun a b _ hb => tF_full t.no hb)⟩
      have QM : Aside0 (Sq wr mi p11 AM NM n (fun a b => t.c a b + (if a = 0 then m0 else 0) + (if b = n - 1 then m1 else 0)) t.no BM DM) := ⟨K0.out.2.1.congr (fun a b ha _ => mF_full t.c m0 m1 ha) (fun _ _ _ _ => rfl)⟩
      have BR : Aside0 (Below p0 w wr) := ⟨B05.out.trans ⟨K0.out.2.2.os, K0.out.2.2.tape, K0.out.2.2.output, K0.out.2.2.size, fun q hq => K0.out.2.2.block q (by have := L1.out; have := L5.out; omega) (fun e => by have := L1.out; omega)⟩⟩
      clear K0 X11 X12 X95 M5 SO X7 B05
      have u0 := (blk_cell x11.out 0).trans rfl
      have u1 := (blk_cell x11.out 1).trans rfl
      go_wp2_with fail
      clear u0 u1
      refine (solve_tell wr AT NT cT cNT ⟨n, fun a b => t.c b a, fun a b => t.no b a⟩ QT.out.tabR ⟨TO.out.n64, fun a b ha hb => TO.out.mag b a hb ha⟩).mono ?_
      rintro _ w6 ⟨d0, d0l, d0c, y, d2, d2l, d2c, d3, d3l, d3c, ok2, rfl, R6⟩
      have EQ := eq_least (R2.out.1.turn) R6.out.2.1 R2.out.2.1 R6.out.2.2.1
      obtain ⟨rfl, rfl⟩ := EQ
      go_upto_region 19 with fail
      obtain ⟨W6, hW6⟩ : ∃ W6, W6 = w6.alloc (.cells #[.slice d0 d0l d0c, .int .i64 x, .slice d2 d2l d2c, .slice d3 d3l d3c] 32) := ⟨_, rfl⟩
      rw [← hW6]
      have B6 : Aside0 (Below wr.heap.size wr W6) := ⟨by rw [hW6]; exact below_alloc R6.out.1 _⟩
      have X15 : Aside0 (W6.heap[w6.heap.size]? = some (.cells #[.slice d0 d0l d0c, .int .i64 x, .slice d2 d2l d2c, .slice d3 d3l d3c] 32 (0, 0))) := ⟨by rw [hW6]; exact heap_alloc_new _ _⟩
      clear hW6 R6 QT x11
      go_wp2_with fail
      refine (wakes_any W6).mono ?_
      rintro _ w7 ⟨rfl, b7⟩
      have B7 : Aside0 (Below wr.heap.size wr w7) := ⟨B6.out.trans (b7.mono B6.out.size)⟩
      have X157 := Aside0.mk (blk_below X15.out b7)
      clear b7 B6 X15
      have x97 := Aside0.mk (blk_below x9.out B7.out)
      have x127 := Aside0.mk (blk_below x12.out B7.out)
      have x07 := Aside0.mk (blk_below x0.out B7.out)
      have Q7 : Aside0 (Sq w7 mi p11 AM NM n (fun a b => t.c a b + (if a = 0 then m0 else 0) + (if b = n - 1 then m1 else 0)) t.no BM DM) := ⟨QM.out.below B7.out (Nat.le_of_lt (Nat.lt_of_succ_lt (blk_lt x12.out)))⟩
      have BW : Aside0 (Below p0 w w7) := ⟨BR.out.trans (B7.out.mono (by have := blk_lt x0.out; omega))⟩
      clear x9 x12 x0 QM B7 BR
      have v0 : w7.cell? ⟨w6.heap.size, 1, none⟩ = some (.int .i64 x) := (blk_cell X157.out 1).trans rfl
      have v1 : w7.cell? ⟨p9, 1, none⟩ = some (.int .i64 x) := (blk_cell x97.out 1).trans rfl
      have v2 : w7.cell? ⟨p11 + 1, 0, none⟩ = some (.slice AM n cM) := (blk_cell x127.out 0).trans rfl
      have v3 : w7.cell? ⟨p11 + 1, 1, none⟩ = some (.slice NM n cNM) := (blk_cell x127.out 1).trans rfl
      have hok : (ok != ok) = false := by simp
      have hx : (x != x) = false := by simp
      by_cases hn0 : n = 0
      · have d1 : ((n : Int) == 0) = true := by simp; omega
        have d2 : decide ((n : Int) = 0) = true := by simp; omega
        clear hn0
        go_wp2_with fail
        go_ret
        exact ⟨rfl, by rw [← HP0.out]; exact BW.out⟩
      · have d1 : ((n : Int) == 0) = false := by simp; omega
        have d2 : decide ((n : Int) = 0) = false := by simp; omega
        go_wp2_with fail
        refine (check_any w7 AM NM n n cM cNM (fun _ => n) (fun _ => n) _ Q7.out.tabR.raw (fun i _ => by omega)).mono ?_
        rintro _ w8 ⟨okc, rfl, hokc, b8⟩
        have BW8 : Aside0 (Below p0 w w8) := ⟨BW.out.trans (b8.mono (by have := blk_lt x07.out; omega))⟩
        have x98 := Aside0.mk (blk_below x97.out b8)
        have x128 := Aside0.mk (blk_below x127.out b8)
        have x08 := Aside0.mk (blk_below x07.out b8)
        have Q8 := Aside0.mk (Q7.out.below b8 (Nat.le_of_lt (Nat.lt_of_succ_lt (blk_lt x127.out))))
        have HC := Aside0.mk hokc
        clear v0 v1 v2 v3 x97 x127 x07 Q7 b8 BW X157 hokc
        have v1 : w8.cell? ⟨p9, 1, none⟩ = some (.int .i64 x) := (blk_cell x98.out 1).trans rfl
        have v2 : w8.cell? ⟨p11 + 1, 0, none⟩ = some (.slice AM n cM) := (blk_cell x128.out 0).trans rfl
        have v3 : w8.cell? ⟨p11 + 1, 1, none⟩ = some (.slice NM n cNM) := (blk_cell x128.out 1).trans rfl
        cases okc with
        | false =>
          go_wp2_with fail
          go_ret
          exact ⟨rfl, by rw [← HP0.out]; exact BW8.out⟩
        | true =>
          go_wp2_with fail
          have TB := TbOk.of_may (t := ⟨n, fun a b => t.c a b + (if a = 0 then m0 else 0) + (if b = n - 1 then m1 else 0), t.no⟩) (HC.out.1 trivial)
          refine (solve_tell w8 AM NM cM cNM ⟨n, fun a b => t.c a b + (if a = 0 then m0 else 0) + (if b = n - 1 then m1 else 0), t.no⟩ Q8.out.tabR TB).mono ?_
          rintro _ w9 ⟨g0, g0l, g0c, z, g2, g2l, g2c, g3, g3l, g3c, ok3, rfl, R9⟩
          have HX := R2.out.2.2
          have EQ := (R2.out.1.moved m0 m1 (n - 1) (by omega) (by omega)).uniq R9.out.2.1
          have hz := R9.out.2.2.1
          go_upto_region 24 with fail
          obtain ⟨W9, hW9⟩ : ∃ W9, W9 = w9.alloc (.cells #[.slice g0 g0l g0c, .int .i64 z, .slice g2 g2l g2c, .slice g3 g3l g3c] 32) := ⟨_, rfl⟩
          rw [← hW9]
          have B9 : Aside0 (Below w8.heap.size w8 W9) := ⟨by rw [hW9]; exact below_alloc R9.out.1 _⟩
          have k0 : W9.cell? ⟨w9.heap.size, 1, none⟩ = some (.int .i64 z) := (blk_cell (by rw [hW9]; exact heap_alloc_new _ _) 1).trans rfl
          have k1 : W9.cell? ⟨p9, 1, none⟩ = some (.int .i64 x) := (blk_cell (blk_below x98.out B9.out) 1).trans rfl
          have k2 : W9.cell? ⟨p0, 0, none⟩ = some (.int .i16 m0) := (blk_cell (blk_below x08.out B9.out) 0).trans rfl
          have k3 : W9.cell? ⟨p0, 1, none⟩ = some (.int .i16 m1) := (blk_cell (blk_below x08.out B9.out) 1).trans rfl
          have BF : Aside0 (Below p0 w W9) := ⟨BW8.out.trans (B9.out.mono (by have := blk_lt x08.out; omega))⟩
          clear hW9 R9 v1 v2 v3 hn0 d1 d2 hok hx
          have wm0 : IntKind.i64.wrap m0 = m0 := IntWalk.i64_in _ (by omega)
          have wm1 : IntKind.i64.wrap m1 = m1 := IntWalk.i64_in _ (by omega)
          have wx0 : IntKind.i64.wrap (x + m0) = x + m0 := IntWalk.i64_in _ (by omega)
          have wx1 : IntKind.i64.wrap (x + m0 + m1) = x + m0 + m1 := IntWalk.i64_in _ (by omega)
          cases ok with
          | true =>
            cases ok3 with
            | false => cases EQ
            | true =>
              have e : z = x + m0 + m1 := by
                injection EQ with e
                exact e.symm
              subst e
              clear EQ hz HX
              go_wp2_with fail
              go_ret
              exact ⟨rfl, by rw [← HP0.out]; exact BF.out⟩
          | false =>
            cases ok3 with
            | true => cases EQ
            | false =>
              clear EQ hz HX
              go_wp2_with fail
              go_ret
              exact ⟨rfl, by rw [← HP0.out]; exact BF.out⟩
end Go.Proofs.Ytelabmhhnpfegaa.Hand
