/- The law's table: walked. -/
import Derived.Test.YtelabmhhnpfegaaLw
namespace Go.Proofs.Ytelabmhhnpfegaa.Hand
open Go.RowKit Go.Proofs.YtelabmhhnpfegaaW.PrintWords Go.Proofs.YtelabmhhnpfegaaW.PrintLast Go.Proofs.YtelabmhhnpfegaaW.PrintMore
attribute [local go_sem] max2_int min2_int
set_option maxHeartbeats 4000000 in
set_option maxRecDepth 100000 in
theorem table_any (w : World) (A B : Option Addr) (nc nn cA cB : Nat) (len mlen : Nat → Nat) (c : Nat → Nat → Int) (g : Nat → Nat → Bool) (h : RawI w A nc len c) (hg : RawB w B nn mlen g) (most : Nat) (hm : most ≤ 64) (h1 : nc ≤ 17592186044416) (_h2 : nn ≤ 17592186044416) (hl : ∀ i, i < nc → len i ≤ 17592186044416) (hl2 : ∀ i, i < nn → mlen i ≤ 140737488355328) :
    Calls Try.prog 12 #[.slice A nc cA, .slice B nn cB, .int .i64 (most : Int)] w fun e w' => ∃ AC cC AN cN B' D', e = .returned (.agg #[.slice AC (cutT nc nn most len mlen c g).n cC, .slice AN (cutT nc nn most len mlen c g).n cN]) ∧ Aside0 (TabO w' w.heap.size AC AN (cutT nc nn most len mlen c g) B' D' ∧ Below w.heap.size w w' ∧ (cutT nc nn most len mlen c g).n ≤ cC ∧ (cutT nc nn most len mlen c g).n ≤ cN) := by
  have H := Aside0.mk h
  have HG := Aside0.mk hg
  have HL := Aside0.mk hl
  have HL2 := Aside0.mk hl2
  have hu := Try.underlying27
  obtain ⟨t, ht⟩ : ∃ t, t = cutT nc nn most len mlen c g := ⟨_, rfl⟩
  have HT := Aside0.mk ht
  rw [← ht]
  obtain ⟨n, hn⟩ : ∃ n, n = t.n := ⟨_, rfl⟩
  have HN := Aside0.mk hn
  have hmin : n = min nc most := by rw [hn, ht]; rfl
  rw [← hn]
  have hn64 : n ≤ 64 := by omega
  have hminI : min (nc : Int) (most : Int) = (n : Int) := by omega
  clear h hg hl hl2 ht hn
  have m1 := mk30 n hn64
  have m3 := mk35 n hn64
  go_enter Try.func12, Try.ntmps12
  go_upto_region 1 with fail
  go_cut [7] from 13 to 16 (fun s7 wx => s7 = .int .i64 (n : Int) ∧ wx = w.alloc (.cells #[.slice none 0 0, .slice none 0 0] 27))
  case first =>
    go_wp2_with fail
    all_goals
      go_meet
      exact ⟨by congr 1; omega, rfl⟩
  case rest =>
    obtain ⟨rfl, rfl⟩ := hcut
    have HM := Aside0.mk hmin
    clear hminI hmin
    go_wp2_with fail
    obtain ⟨W, hW⟩ : ∃ W, W = (w.alloc (.cells #[.slice none 0 0, .slice none 0 0] 27)).alloc (.cells #[.slice none 0 0, .slice none 0 0] 27) := ⟨_, rfl⟩
    rw [← hW]
    have K0 : Aside0 (∃ B' D', Mk w W (w.heap.size + 1) t 0 (.slice none 0 0) (.slice none 0 0) B' D') := ⟨fun _ => 0, fun _ => 0, by
      rw [hW]
      refine ⟨World.ownsRow_nil _ _ _ _, World.ownsRow_nil _ _ _ _, fun j hj => absurd hj (Nat.not_lt_zero _), fun j hj => absurd hj (Nat.not_lt_zero _), fun j _ hj => absurd hj (Nat.not_lt_zero _), fun j _ hj => absurd hj (Nat.not_lt_zero _), ?_, ?_, below_alloc (below_alloc (Below.refl _ _) _) _⟩
      · rw [al_get, al_size, if_pos rfl]
      · rw [al_get, al_size, if_neg (by omega), al_get, if_pos rfl]⟩
    clear hW
    go_loopw [18] (fun v18 wr => ∃ i : Nat, i ≤ n ∧ v18 = .int .i64 i ∧ Aside0 (∃ AC cC AN cN B' D', Mk w wr (w.heap.size + 1) t i (.slice AC i cC) (.slice AN i cN) B' D')) (fun v _ => n - (intOf v).toNat)
    case atStart => exact ⟨0, Nat.zero_le _, rfl, ⟨none, 0, none, 0, K0.out⟩⟩
    case round =>
      clear K0
      obtain ⟨i, hi, rfl, ⟨AC, cC, AN, cN, B', D', K1⟩⟩ := hrel
      have K := Aside0.mk K1
      clear K1
      by_cases hlt : i < n
      · go_upto_region 6 with fail
        go_cut [10, 11] from 21 to 24 (fun s10 s11 wx => ∃ R D : Nat, s10 = .slice (some ⟨R, 0, none⟩) n n ∧ s11 = .slice (some ⟨D, 0, none⟩) n n ∧ Aside0 (IB wx R 2 n (fun _ => 0) ∧ BB wx D n (fun _ => false) ∧ Below wr.heap.size wr wx ∧ wr.heap.size ≤ R ∧ wr.heap.size ≤ D))
        case first =>
          go_region
          all_goals
            go_wp2_with fail
            go_meet
            first
              | exact ⟨_, _, rfl, rfl, ⟨by simp only [IB, dr_heap, al_get, al_size]; (repeat (first | rw [if_pos trivial] | rw [if_pos (by omega)] | rw [if_neg (by omega)])), by simp only [BB, dr_heap, al_get, al_size]; (repeat (first | rw [if_pos trivial] | rw [if_pos (by omega)] | rw [if_neg (by omega)])), below_drew (below_alloc (below_alloc (Below.refl _ _) _) _), by omega, by omega⟩⟩
              | trace_state
        case rest =>
          clear m1 m3
          obtain ⟨R, D, rfl, rfl, A1⟩ := hcut
          obtain ⟨wo, hwo⟩ : ∃ wo : World, wo = wr := ⟨_, rfl⟩
          rw [← hwo] at K A1
          clear hwo
          have RG : Aside0 (wo.heap.size ≤ R ∧ wo.heap.size ≤ D) := ⟨A1.out.2.2.2⟩
          have R0 : Aside0 (IB wc R 2 n (cutI (t.c i) 0)) := ⟨by rw [cutI_zero]; exact A1.out.1⟩
          have D0 : Aside0 (BB wc D n (cutB (t.no i) 0)) := ⟨by rw [cutB_zero]; exact A1.out.2.1⟩
          have B0 : Aside0 (Below wo.heap.size wo wc) := ⟨A1.out.2.2.1⟩
          have RD : Aside0 (R ≠ D) := ⟨by have a := A1.out.1; have b := A1.out.2.1; unfold IB at a; unfold BB at b; exact ty_ne a b (by decide)⟩
          clear A1
          go_wp2_with fail
          go_loopw [26] (fun v26 wr => ∃ k : Nat, k ≤ n ∧ v26 = .int .i64 k ∧ Aside0 (IB wr R 2 n (cutI (t.c i) k)) ∧ Aside0 (BB wr D n (cutB (t.no i) k)) ∧ Aside0 (Below wo.heap.size wo wr)) (fun v _ => n - (intOf v).toNat)
          case atStart => exact ⟨0, Nat.zero_le _, rfl, R0, D0, B0⟩
          case round =>
            clear R0 D0 B0
            obtain ⟨k, hk, rfl, RK, DK, BL⟩ := hrel
            by_cases hlt2 : k < n
            · have BW : Aside0 (Below w.heap.size w wr) := ⟨K.out.below.trans (BL.out.mono K.out.below.size)⟩
              have hic : i < nc := by have := HM.out; omega
              obtain ⟨ad, AR, cR, rfl, hc, hrow⟩ := H.out i hic
              have f1 := pw_cell_below BW.out hc
              have hll := HL.out i hic
              by_cases hL : k < len i
              · obtain ⟨ar, rfl, hx⟩ := hrow k hL
                have f2 := pw_cell_below BW.out hx
                have er := RK.out.c hlt2
                have zr := RK.out.z k
                have NV : t.c i k = min (max (c i k) (-2147483648)) 2147483648 := by rw [HT.out]; simp [cutT, hL]
                have NR := Aside0.mk (cutI_succ (t.c i) k)
                rw [NV] at NR
                clear hc hrow hx NV
                go_upto_region 11 with fail
                go_cut [] from 36 to 47 (fun wx => wx = wr.setCell ⟨R, k, none⟩ (.int .i64 (min (max (c i k) (-2147483648)) 2147483648)))
                case first =>
                  go_wp2_with fail
                  all_goals
                    go_meet
                    congr 2
                    omega
                case rest =>
                  obtain ⟨W1, hW1⟩ : ∃ W1, W1 = wr.setCell ⟨R, k, none⟩ (.int .i64 (min (max (c i k) (-2147483648)) 2147483648)) := ⟨_, rfl⟩
                  have R1 : Aside0 (IB W1 R 2 n (cutI (t.c i) (k + 1))) := ⟨by rw [NR.out, hW1]; exact RK.out.set k _⟩
                  have D1 : Aside0 (BB W1 D n (cutB (t.no i) k)) := ⟨by rw [hW1]; exact blk_far DK.out RD.out.symm _⟩
                  have BL1 : Aside0 (Below wo.heap.size wo W1) := ⟨by rw [hW1]; exact BL.out.setCell RG.out.1 _⟩
                  have BW1 : Aside0 (Below w.heap.size w W1) := ⟨K.out.below.trans (BL1.out.mono K.out.below.size)⟩
                  obtain rfl : wc = W1 := by rw [hW1]; exact hcut
                  clear f1 f2 er zr RK DK BL BW NR hW1 hcut

                  have ed := D1.out.c hlt2
                  have zd := D1.out.z k
                  by_cases hN : i < nn
                  · obtain ⟨bd, BR, dR, rfl, hd, hrow⟩ := HG.out i hN
                    have g1 := pw_cell_below BW1.out hd
                    have hml := HL2.out i hN
                    by_cases hM : k < mlen i
                    · obtain ⟨br, rfl, hb⟩ := hrow k hM
                      have g2 := pw_cell_below BW1.out hb
                      have NV : t.no i k = g i k := by rw [HT.out]; simp [cutT, hN, hM]
                      have ND := Aside0.mk (cutB_succ (t.no i) k)
                      rw [NV] at ND
                      clear hd hrow hb NV
                      go_wp2_with fail
                      go_roundw
                      case measure => simp [intOf]; omega
                      case rel => exact ⟨k + 1, by omega, by go_num, ⟨blk_far R1.out (RD.out) _⟩, ⟨by rw [ND.out]; exact D1.out.set k _⟩, ⟨BL1.out.setCell RG.out.2 _⟩⟩
                    · have NV : t.no i k = false := by rw [HT.out]; simp [cutT, hM]
                      have ND := Aside0.mk (cutB_succ (t.no i) k)
                      rw [NV] at ND
                      clear hd hrow NV
                      go_wp2_with fail
                      go_roundw
                      case measure => simp [intOf]; omega
                      case rel => exact ⟨k + 1, by omega, by go_num, ⟨blk_far R1.out (RD.out) _⟩, ⟨by rw [ND.out]; exact D1.out.set k _⟩, ⟨BL1.out.setCell RG.out.2 _⟩⟩
                  · have NV : t.no i k = false := by rw [HT.out]; simp [cutT, hN]
                    have ND := Aside0.mk (cutB_succ (t.no i) k)
                    rw [NV] at ND
                    clear NV
                    go_wp2_with fail
                    go_roundw
                    case measure => simp [intOf]; omega
                    case rel => exact ⟨k + 1, by omega, by go_num, ⟨blk_far R1.out (RD.out) _⟩, ⟨by rw [ND.out]; exact D1.out.set k _⟩, ⟨BL1.out.setCell RG.out.2 _⟩⟩

              · have NV : t.c i k = 0 := by rw [HT.out]; simp [cutT, hL]
                have NR := Aside0.mk (cutI_succ (t.c i) k)
                rw [NV] at NR
                have R1 : Aside0 (IB wr R 2 n (cutI (t.c i) (k + 1))) := ⟨by
                  rw [NR.out]
                  have a := RK.out
                  unfold IB at a ⊢
                  rw [a, tabI_congr (fun j _ => ?_)]
                  unfold upd
                  split
                  · rename_i e
                    subst e
                    exact if_neg (Nat.lt_irrefl _)
                  · rfl⟩
                have D1 := DK
                have BL1 := BL
                have BW1 := BW
                clear hc hrow NV RK DK BL BW NR
                go_upto_region 12 with fail
                clear f1

                have ed := D1.out.c hlt2
                have zd := D1.out.z k
                by_cases hN : i < nn
                · obtain ⟨bd, BR, dR, rfl, hd, hrow⟩ := HG.out i hN
                  have g1 := pw_cell_below BW1.out hd
                  have hml := HL2.out i hN
                  by_cases hM : k < mlen i
                  · obtain ⟨br, rfl, hb⟩ := hrow k hM
                    have g2 := pw_cell_below BW1.out hb
                    have NV : t.no i k = g i k := by rw [HT.out]; simp [cutT, hN, hM]
                    have ND := Aside0.mk (cutB_succ (t.no i) k)
                    rw [NV] at ND
                    clear hd hrow hb NV
                    go_wp2_with fail
                    go_roundw
                    case measure => simp [intOf]; omega
                    case rel => exact ⟨k + 1, by omega, by go_num, ⟨blk_far R1.out (RD.out) _⟩, ⟨by rw [ND.out]; exact D1.out.set k _⟩, ⟨BL1.out.setCell RG.out.2 _⟩⟩
                  · have NV : t.no i k = false := by rw [HT.out]; simp [cutT, hM]
                    have ND := Aside0.mk (cutB_succ (t.no i) k)
                    rw [NV] at ND
                    clear hd hrow NV
                    go_wp2_with fail
                    go_roundw
                    case measure => simp [intOf]; omega
                    case rel => exact ⟨k + 1, by omega, by go_num, ⟨blk_far R1.out (RD.out) _⟩, ⟨by rw [ND.out]; exact D1.out.set k _⟩, ⟨BL1.out.setCell RG.out.2 _⟩⟩
                · have NV : t.no i k = false := by rw [HT.out]; simp [cutT, hN]
                  have ND := Aside0.mk (cutB_succ (t.no i) k)
                  rw [NV] at ND
                  clear NV
                  go_wp2_with fail
                  go_roundw
                  case measure => simp [intOf]; omega
                  case rel => exact ⟨k + 1, by omega, by go_num, ⟨blk_far R1.out (RD.out) _⟩, ⟨by rw [ND.out]; exact D1.out.set k _⟩, ⟨BL1.out.setCell RG.out.2 _⟩⟩

            · obtain rfl : k = n := by omega
              go_upto_region 14 with fail
              have BS : Aside0 (w.heap.size ≤ wr.heap.size) := ⟨Nat.le_trans K.out.below.size BL.out.size⟩
              have OC : Aside0 (wr.ownsRow w.heap.size 30 1 (.slice AC i cC) i (rowsL B' i k)) := ⟨by rw [HN.out]; exact own_move K.out.oc (fun q hq => BL.out.block q (own_lt K.out.oc q hq))⟩
              have ON : Aside0 (wr.ownsRow w.heap.size 35 1 (.slice AN i cN) i (rowsL D' i k)) := ⟨by rw [HN.out]; exact own_move K.out.on (fun q hq => BL.out.block q (own_lt K.out.on q hq))⟩
              have T8 : Aside0 (wr.heap[w.heap.size + 1]? = some (.cells #[.slice AC i cC, .slice AN i cN] 27 (0, 0))) := ⟨blk_below K.out.t8 BL.out⟩
              have NC : Aside0 (some (w.heap.size + 1) ≠ (Value.slice AC i cC).ownBlock) := ⟨blk_apart T8.out OC.out (by decide)⟩
              have NN : Aside0 (some (w.heap.size + 1) ≠ (Value.slice AN i cN).ownBlock) := ⟨blk_apart T8.out ON.out (by decide)⟩
              have p0 : wr.drew.cell? ⟨w.heap.size + 1, 0, none⟩ = some (.slice AC i cC) := (blk_cell T8.out 0).trans rfl
              have p1 : wr.drew.cell? ⟨w.heap.size + 1, 1, none⟩ = some (.slice AN i cN) := (blk_cell T8.out 1).trans rfl
              obtain ⟨i1, hi1, hz1a, hz1b, hz1c⟩ := info_parts info30
              obtain ⟨i2, hi2, hz2a, hz2b, hz2c⟩ := info_parts info35
              refine start_ (n := 14) (S := fun w' => w'.cell? ⟨w.heap.size + 1, 0, none⟩ = some (.slice AC i cC) ∧ w'.cell? ⟨w.heap.size + 1, 1, none⟩ = some (.slice AN i cN)) (ds := [11, 13]) #[false, false, false, false, false, false, false, false, false, false, false, false, false, false] (by kernel_rfl) rfl rfl ⟨p0, p1⟩ (fun hHeld => ?_)
              clear p0 p1
              refine pure_ (i := 0) (N := some 74) (v := ?_) (a' := ?_) #[true, false, false, false, false, false, false, false, false, false, false, false, false, false] rfl rfl (by kernel_rfl) (fun _ _ _ h => h) (Or.inl ⟨by rfl, ?_⟩) ?_ ?_
              rotate_left
              · intro w'
                go_simp
                with_reducible rfl
              rotate_left
              · simp only [Act.put, List.setIfInBounds_toArray, List.set_cons_zero, List.set_cons_succ]
                rfl
              refine pure_ (i := 2) (N := some 76) (v := ?_) (a' := ?_) #[true, false, true, false, false, false, false, false, false, false, false, false, false, false] rfl rfl (by kernel_rfl) (fun _ _ _ h => h) (Or.inl ⟨by rfl, ?_⟩) ?_ ?_
              rotate_left
              · intro w'
                go_simp
                with_reducible rfl
              rotate_left
              · simp only [Act.put, List.setIfInBounds_toArray, List.set_cons_zero, List.set_cons_succ]
                rfl
              refine pure_ (i := 5) (N := some 79) (v := ?_) (a' := ?_) #[true, false, true, false, false, true, false, false, false, false, false, false, false, false] rfl rfl (by kernel_rfl) (fun _ _ _ h => h) (Or.inl ⟨by rfl, ?_⟩) ?_ ?_
              rotate_left
              · intro w'
                go_simp
                with_reducible rfl
              rotate_left
              · simp only [Act.put, List.setIfInBounds_toArray, List.set_cons_zero, List.set_cons_succ]
                rfl
              refine pure_ (i := 7) (N := some 81) (v := ?_) (a' := ?_) #[true, false, true, false, false, true, false, true, false, false, false, false, false, false] rfl rfl (by kernel_rfl) (fun _ _ _ h => h) (Or.inl ⟨by rfl, ?_⟩) ?_ ?_
              rotate_left
              · intro w'
                go_simp
                with_reducible rfl
              rotate_left
              · simp only [Act.put, List.setIfInBounds_toArray, List.set_cons_zero, List.set_cons_succ]
                rfl
              refine take_ (i := 1) (N := some 75) (v := ?_) (a' := ?_) #[true, true, true, false, false, true, false, true, false, false, false, false, false, false] rfl rfl (by kernel_rfl) (fun _ _ _ h => h) (Or.inl ⟨by rfl, ?_⟩) hHeld ?_ ?_
              rotate_left
              · rintro w' ⟨s0, s1⟩
                go_simp
                with_reducible rfl
              rotate_left
              · simp only [Act.put, List.setIfInBounds_toArray, List.set_cons_zero, List.set_cons_succ]
                rfl
              refine take_ (i := 6) (N := some 80) (v := ?_) (a' := ?_) #[true, true, true, false, false, true, true, true, false, false, false, false, false, false] rfl rfl (by kernel_rfl) (fun _ _ _ h => h) (Or.inl ⟨by rfl, ?_⟩) hHeld ?_ ?_
              rotate_left
              · rintro w' ⟨s0, s1⟩
                go_simp
                with_reducible rfl
              rotate_left
              · simp only [Act.put, List.setIfInBounds_toArray, List.set_cons_zero, List.set_cons_succ]
                rfl
              have T0 := Aside0.mk (Tw.start OC.out ON.out BS.out)
              clear hHeld
              refine join_ (σ := Value × Value × (Nat × Nat) × Nat × Nat) 3 #[true, true, true, true, true, true, true, true, true, true, true, false, false, false] (fun s => [(77, s.1), (82, s.2.1), (78, .slice (some ⟨s.2.2.1.1, 0, none⟩) (i + 1) s.2.2.1.2), (83, .slice (some ⟨s.2.2.2.1, 0, none⟩) (i + 1) s.2.2.2.2), (84, .pointer (some ⟨w.heap.size + 1, 0, none⟩))]) (fun s w' => Tw w.heap.size 1 1 30 35 (.slice AC i cC) (.slice AN i cN) wr w' (.slice (some ⟨s.2.2.1.1, 0, none⟩) (i + 1) s.2.2.1.2) (i + 1) (rowsL B' i k ++ [.slice (some ⟨R, 0, none⟩) k k]) (.slice (some ⟨s.2.2.2.1, 0, none⟩) (i + 1) s.2.2.2.2) (i + 1) (rowsL D' i k ++ [.slice (some ⟨D, 0, none⟩) k k])) ?_ ?_
              · rintro ⟨y1, y2, ⟨g1, c1⟩, g2, c2⟩ w5 HT5
                have T5 := Aside0.mk HT5
                clear HT5
                refine norm_ (a' := ?_) ?_ ?_
                rotate_left
                · simp only [putAll, Act.put, List.setIfInBounds_toArray, List.set_cons_zero, List.set_cons_succ]
                  rfl
                refine last_ (i := 11) (N := none) #[true, true, true, true, true, true, true, true, true, true, true, true, false, false] rfl rfl (by kernel_rfl) (by decide) (fun K hK => ?_)
                have L5 := Aside0.mk (T5.out.keep T8.out NC.out NN.out)
                have h0 := (blk_cell L5.out 0).trans rfl
                have h1 := blk_frozen L5.out 0
                refine skip_ (w1 := ?_) (by rfl) rfl ?_ ?_
                rotate_left
                · go_simp
                  rfl
                refine hK.out _ _ ?_
                clear hK K h0 h1
                refine pure_ (i := 12) (N := some 85) (v := ?_) (a' := ?_) #[true, true, true, true, true, true, true, true, true, true, true, true, true, false] rfl rfl (by kernel_rfl) (fun _ _ _ h => h) (Or.inl ⟨by rfl, ?_⟩) ?_ ?_
                rotate_left
                · intro w'
                  go_simp
                  with_reducible rfl
                rotate_left
                · simp only [Act.put, List.setIfInBounds_toArray, List.set_cons_zero, List.set_cons_succ]
                  rfl
                refine last_ (i := 13) (N := none) #[true, true, true, true, true, true, true, true, true, true, true, true, true, true] rfl rfl (by kernel_rfl) (by decide) (fun K hK => ?_)
                have L6 := Aside0.mk (blk_put L5.out 0 (.slice (some ⟨g1, 0, none⟩) (i + 1) c1) rfl)
                have h0 := (blk_cell L6.out 1).trans rfl
                have h1 := blk_frozen L6.out 1
                refine skip_ (w1 := ?_) (by rfl) rfl ?_ ?_
                rotate_left
                · go_simp
                  rfl
                refine hK.out _ _ ?_
                clear hK K h0 h1
                refine done_ (by kernel_rfl) ?_
                go_wp2_with fail
                go_roundw
                case measure => simp [intOf]; omega
                case rel =>
                  have hN := HN.out
                  have rk := RK.out
                  have dk := DK.out
                  have t5 := T5.out
                  rw [hN] at rk dk t5
                  obtain ⟨a1, a2, a3, a4, B2, D2, rfl, rfl, rfl, rfl, K9⟩ := mk_step K.out (by omega) (by omega) BL.out RG.out.1 RG.out.2 rk dk t5
                  exact ⟨i + 1, by omega, by go_num, ⟨_, _, _, _, B2, D2, K9⟩⟩
              · intro hJ
                have HJ := fun (y1 y2 : Value) (g1 c1 g2 c2 : Nat) w' h => hJ ⟨y1, y2, ⟨g1, c1⟩, g2, c2⟩ w' h
                clear hJ
                simp only [putAll, Act.put, List.setIfInBounds_toArray, List.set_cons_zero, List.set_cons_succ] at HJ
                refine two_ (i := 3) (j := 8) (Ni := some 77) (Nj := some 82) #[true, true, true, true, false, true, true, true, false, false, false, false, false, false] #[true, true, true, false, false, true, true, true, true, false, false, false, false, false] rfl rfl rfl rfl (by kernel_rfl) (by decide) (by decide) (fun K hK => ?_) (fun K hK => ?_)
                · refine value_ (v := .slice (some ⟨(wr.drew).heap.size, 0, none⟩) 1 1) (w1 := (wr.drew).alloc (.cells #[.slice (some ⟨R, 0, none⟩) k k] 30)) (by rfl) rfl ?_ ?_
                  · go_simp
                  · have TT1 := Aside0.mk (T0.out.alloc (.cells #[.slice (some ⟨R, 0, none⟩) k k] 30))
                    have B1 := Aside0.mk (heap_alloc_new (wr.drew) (.cells #[.slice (some ⟨R, 0, none⟩) k k] 30))
                    refine hK.out _ _ ⟨(blk_cell (TT1.out.keep T8.out NC.out NN.out) 0).trans rfl, (blk_cell (TT1.out.keep T8.out NC.out NN.out) 1).trans rfl⟩ (fun hHeld => ?_)
                    clear hK hHeld K
                    refine norm_ (a' := ?_) ?_ ?_
                    rotate_left
                    · show Act.put _ (some 77) _ = _
                      simp only [Act.put, List.setIfInBounds_toArray, List.set_cons_zero, List.set_cons_succ]
                      rfl
                    refine two_ (i := 4) (j := 8) (Ni := some 78) (Nj := some 82) #[true, true, true, true, true, true, true, true, false, false, false, false, false, false] #[true, true, true, true, false, true, true, true, true, false, false, false, false, false] rfl rfl rfl rfl (by kernel_rfl) (by decide) (by decide) (fun K hK => ?_) (fun K hK => ?_)
                    · refine step_append_lies _ (by rfl) _ _ _ (by rfl) w.heap.size 30 i1 _ 1 24 Try.underlying22 hi1 hz1a hz1b hz1c rfl (by omega) _ i (rowsL B' i k) (by rfl) TT1.out.o1 _ 1 1 [.slice (some ⟨R, 0, none⟩) k k] (by rfl) (by rfl) (World.news_of_block (cs := #[.slice (some ⟨R, 0, none⟩) k k]) (t := 30) (fr := (0, 0)) B1.out) (by simp [Value.oneCell']) (by omega) (by unfold maxLen; omega) (by omega) TT1.out.base_le _ rfl ?_
                      intro g1 c1 w2 oo gg aa _
                      have TT2 := Aside0.mk (Tw.grow1 (by decide) TT1.out oo gg aa)
                      clear oo gg aa
                      refine hK.out _ _ ⟨(blk_cell (TT2.out.keep T8.out NC.out NN.out) 0).trans rfl, (blk_cell (TT2.out.keep T8.out NC.out NN.out) 1).trans rfl⟩ (fun hHeld => ?_)
                      clear hK hHeld K
                      refine norm_ (a' := ?_) ?_ ?_
                      rotate_left
                      · show Act.put _ (some 78) _ = _
                        simp only [Act.put, List.setIfInBounds_toArray, List.set_cons_zero, List.set_cons_succ]
                        rfl
                      refine pure_ (i := 10) (N := some 84) (v := ?_) (a' := ?_) #[true, true, true, true, true, true, true, true, false, false, true, false, false, false] rfl rfl (by kernel_rfl) (fun _ _ _ h => h) (Or.inl ⟨by rfl, ?_⟩) ?_ ?_
                      rotate_left
                      · intro w'
                        go_simp
                        with_reducible rfl
                      rotate_left
                      · simp only [Act.put, List.setIfInBounds_toArray, List.set_cons_zero, List.set_cons_succ]
                        rfl
                      refine one_ (i := 8) (N := some 82) #[true, true, true, true, true, true, true, true, true, false, true, false, false, false] rfl rfl (by kernel_rfl) (by decide) (fun K hK => ?_)
                      refine value_ (v := .slice (some ⟨(w2).heap.size, 0, none⟩) 1 1) (w1 := (w2).alloc (.cells #[.slice (some ⟨D, 0, none⟩) k k] 35)) (by rfl) rfl ?_ ?_
                      · go_simp
                      · have TT3 := Aside0.mk (TT2.out.alloc (.cells #[.slice (some ⟨D, 0, none⟩) k k] 35))
                        have B3 := Aside0.mk (heap_alloc_new (w2) (.cells #[.slice (some ⟨D, 0, none⟩) k k] 35))
                        refine hK.out _ _ ⟨(blk_cell (TT3.out.keep T8.out NC.out NN.out) 0).trans rfl, (blk_cell (TT3.out.keep T8.out NC.out NN.out) 1).trans rfl⟩ (fun hHeld => ?_)
                        clear hK hHeld K
                        refine norm_ (a' := ?_) ?_ ?_
                        rotate_left
                        · show Act.put _ (some 82) _ = _
                          simp only [Act.put, List.setIfInBounds_toArray, List.set_cons_zero, List.set_cons_succ]
                          rfl
                        refine one_ (i := 9) (N := some 83) #[true, true, true, true, true, true, true, true, true, true, true, false, false, false] rfl rfl (by kernel_rfl) (by decide) (fun K hK => ?_)
                        refine step_append_lies _ (by rfl) _ _ _ (by rfl) w.heap.size 35 i2 _ 1 24 Try.underlying23 hi2 hz2a hz2b hz2c rfl (by omega) _ i (rowsL D' i k) (by rfl) TT3.out.o2 _ 1 1 [.slice (some ⟨D, 0, none⟩) k k] (by rfl) (by rfl) (World.news_of_block (cs := #[.slice (some ⟨D, 0, none⟩) k k]) (t := 35) (fr := (0, 0)) B3.out) (by simp [Value.oneCell']) (by omega) (by unfold maxLen; omega) (by omega) TT3.out.base_le _ rfl ?_
                        intro g2 c2 w4 oo gg aa _
                        have TT4 := Aside0.mk (Tw.grow2 (by decide) TT3.out oo gg aa)
                        clear oo gg aa
                        refine hK.out _ _ ⟨(blk_cell (TT4.out.keep T8.out NC.out NN.out) 0).trans rfl, (blk_cell (TT4.out.keep T8.out NC.out NN.out) 1).trans rfl⟩ (fun hHeld => ?_)
                        clear hK hHeld K
                        refine norm_ (a' := ?_) ?_ ?_
                        rotate_left
                        · show Act.put _ (some 83) _ = _
                          simp only [Act.put, List.setIfInBounds_toArray, List.set_cons_zero, List.set_cons_succ]
                          rfl
                        exact HJ _ _ _ _ _ _ _ TT4.out
                    · refine value_ (v := .slice (some ⟨((wr.drew).alloc (.cells #[.slice (some ⟨R, 0, none⟩) k k] 30)).heap.size, 0, none⟩) 1 1) (w1 := ((wr.drew).alloc (.cells #[.slice (some ⟨R, 0, none⟩) k k] 30)).alloc (.cells #[.slice (some ⟨D, 0, none⟩) k k] 35)) (by rfl) rfl ?_ ?_
                      · go_simp
                      · have TT5 := Aside0.mk (TT1.out.alloc (.cells #[.slice (some ⟨D, 0, none⟩) k k] 35))
                        have B5 := Aside0.mk (heap_alloc_new ((wr.drew).alloc (.cells #[.slice (some ⟨R, 0, none⟩) k k] 30)) (.cells #[.slice (some ⟨D, 0, none⟩) k k] 35))
                        have C5 := Aside0.mk (blk_alloc B1.out (.cells #[.slice (some ⟨D, 0, none⟩) k k] 35))
                        refine hK.out _ _ ⟨(blk_cell (TT5.out.keep T8.out NC.out NN.out) 0).trans rfl, (blk_cell (TT5.out.keep T8.out NC.out NN.out) 1).trans rfl⟩ (fun hHeld => ?_)
                        clear hK hHeld K
                        refine norm_ (a' := ?_) ?_ ?_
                        rotate_left
                        · show Act.put _ (some 82) _ = _
                          simp only [Act.put, List.setIfInBounds_toArray, List.set_cons_zero, List.set_cons_succ]
                          rfl
                        refine one_ (i := 4) (N := some 78) #[true, true, true, true, true, true, true, true, true, false, false, false, false, false] rfl rfl (by kernel_rfl) (by decide) (fun K hK => ?_)
                        refine step_append_lies _ (by rfl) _ _ _ (by rfl) w.heap.size 30 i1 _ 1 24 Try.underlying22 hi1 hz1a hz1b hz1c rfl (by omega) _ i (rowsL B' i k) (by rfl) TT5.out.o1 _ 1 1 [.slice (some ⟨R, 0, none⟩) k k] (by rfl) (by rfl) (World.news_of_block (cs := #[.slice (some ⟨R, 0, none⟩) k k]) (t := 30) (fr := (0, 0)) C5.out) (by simp [Value.oneCell']) (by omega) (by unfold maxLen; omega) (by omega) TT5.out.base_le _ rfl ?_
                        intro g1 c1 w6 oo gg aa _
                        have TT6 := Aside0.mk (Tw.grow1 (by decide) TT5.out oo gg aa)
                        have C6 := Aside0.mk (Tw.blk2 (by decide) TT5.out B5.out gg)
                        clear oo gg aa
                        refine hK.out _ _ ⟨(blk_cell (TT6.out.keep T8.out NC.out NN.out) 0).trans rfl, (blk_cell (TT6.out.keep T8.out NC.out NN.out) 1).trans rfl⟩ (fun hHeld => ?_)
                        clear hK hHeld K
                        refine norm_ (a' := ?_) ?_ ?_
                        rotate_left
                        · show Act.put _ (some 78) _ = _
                          simp only [Act.put, List.setIfInBounds_toArray, List.set_cons_zero, List.set_cons_succ]
                          rfl
                        refine pure_ (i := 10) (N := some 84) (v := ?_) (a' := ?_) #[true, true, true, true, true, true, true, true, true, false, true, false, false, false] rfl rfl (by kernel_rfl) (fun _ _ _ h => h) (Or.inl ⟨by rfl, ?_⟩) ?_ ?_
                        rotate_left
                        · intro w'
                          go_simp
                          with_reducible rfl
                        rotate_left
                        · simp only [Act.put, List.setIfInBounds_toArray, List.set_cons_zero, List.set_cons_succ]
                          rfl
                        refine one_ (i := 9) (N := some 83) #[true, true, true, true, true, true, true, true, true, true, true, false, false, false] rfl rfl (by kernel_rfl) (by decide) (fun K hK => ?_)
                        refine step_append_lies _ (by rfl) _ _ _ (by rfl) w.heap.size 35 i2 _ 1 24 Try.underlying23 hi2 hz2a hz2b hz2c rfl (by omega) _ i (rowsL D' i k) (by rfl) TT6.out.o2 _ 1 1 [.slice (some ⟨D, 0, none⟩) k k] (by rfl) (by rfl) (World.news_of_block (cs := #[.slice (some ⟨D, 0, none⟩) k k]) (t := 35) (fr := (0, 0)) C6.out) (by simp [Value.oneCell']) (by omega) (by unfold maxLen; omega) (by omega) TT6.out.base_le _ rfl ?_
                        intro g2 c2 w7 oo gg aa _
                        have TT7 := Aside0.mk (Tw.grow2 (by decide) TT6.out oo gg aa)
                        clear oo gg aa
                        refine hK.out _ _ ⟨(blk_cell (TT7.out.keep T8.out NC.out NN.out) 0).trans rfl, (blk_cell (TT7.out.keep T8.out NC.out NN.out) 1).trans rfl⟩ (fun hHeld => ?_)
                        clear hK hHeld K
                        refine norm_ (a' := ?_) ?_ ?_
                        rotate_left
                        · show Act.put _ (some 83) _ = _
                          simp only [Act.put, List.setIfInBounds_toArray, List.set_cons_zero, List.set_cons_succ]
                          rfl
                        exact HJ _ _ _ _ _ _ _ TT7.out
                · refine value_ (v := .slice (some ⟨(wr.drew).heap.size, 0, none⟩) 1 1) (w1 := (wr.drew).alloc (.cells #[.slice (some ⟨D, 0, none⟩) k k] 35)) (by rfl) rfl ?_ ?_
                  · go_simp
                  · have TT8 := Aside0.mk (T0.out.alloc (.cells #[.slice (some ⟨D, 0, none⟩) k k] 35))
                    have B8 := Aside0.mk (heap_alloc_new (wr.drew) (.cells #[.slice (some ⟨D, 0, none⟩) k k] 35))
                    refine hK.out _ _ ⟨(blk_cell (TT8.out.keep T8.out NC.out NN.out) 0).trans rfl, (blk_cell (TT8.out.keep T8.out NC.out NN.out) 1).trans rfl⟩ (fun hHeld => ?_)
                    clear hK hHeld K
                    refine norm_ (a' := ?_) ?_ ?_
                    rotate_left
                    · show Act.put _ (some 82) _ = _
                      simp only [Act.put, List.setIfInBounds_toArray, List.set_cons_zero, List.set_cons_succ]
                      rfl
                    refine one_ (i := 3) (N := some 77) #[true, true, true, true, false, true, true, true, true, false, false, false, false, false] rfl rfl (by kernel_rfl) (by decide) (fun K hK => ?_)
                    refine value_ (v := .slice (some ⟨((wr.drew).alloc (.cells #[.slice (some ⟨D, 0, none⟩) k k] 35)).heap.size, 0, none⟩) 1 1) (w1 := ((wr.drew).alloc (.cells #[.slice (some ⟨D, 0, none⟩) k k] 35)).alloc (.cells #[.slice (some ⟨R, 0, none⟩) k k] 30)) (by rfl) rfl ?_ ?_
                    · go_simp
                    · have TT9 := Aside0.mk (TT8.out.alloc (.cells #[.slice (some ⟨R, 0, none⟩) k k] 30))
                      have B9 := Aside0.mk (heap_alloc_new ((wr.drew).alloc (.cells #[.slice (some ⟨D, 0, none⟩) k k] 35)) (.cells #[.slice (some ⟨R, 0, none⟩) k k] 30))
                      have C9 := Aside0.mk (blk_alloc B8.out (.cells #[.slice (some ⟨R, 0, none⟩) k k] 30))
                      refine hK.out _ _ ⟨(blk_cell (TT9.out.keep T8.out NC.out NN.out) 0).trans rfl, (blk_cell (TT9.out.keep T8.out NC.out NN.out) 1).trans rfl⟩ (fun hHeld => ?_)
                      clear hK hHeld K
                      refine norm_ (a' := ?_) ?_ ?_
                      rotate_left
                      · show Act.put _ (some 77) _ = _
                        simp only [Act.put, List.setIfInBounds_toArray, List.set_cons_zero, List.set_cons_succ]
                        rfl
                      refine one_ (i := 4) (N := some 78) #[true, true, true, true, true, true, true, true, true, false, false, false, false, false] rfl rfl (by kernel_rfl) (by decide) (fun K hK => ?_)
                      refine step_append_lies _ (by rfl) _ _ _ (by rfl) w.heap.size 30 i1 _ 1 24 Try.underlying22 hi1 hz1a hz1b hz1c rfl (by omega) _ i (rowsL B' i k) (by rfl) TT9.out.o1 _ 1 1 [.slice (some ⟨R, 0, none⟩) k k] (by rfl) (by rfl) (World.news_of_block (cs := #[.slice (some ⟨R, 0, none⟩) k k]) (t := 30) (fr := (0, 0)) B9.out) (by simp [Value.oneCell']) (by omega) (by unfold maxLen; omega) (by omega) TT9.out.base_le _ rfl ?_
                      intro g1 c1 w10 oo gg aa _
                      have TT10 := Aside0.mk (Tw.grow1 (by decide) TT9.out oo gg aa)
                      have C10 := Aside0.mk (Tw.blk2 (by decide) TT9.out C9.out gg)
                      clear oo gg aa
                      refine hK.out _ _ ⟨(blk_cell (TT10.out.keep T8.out NC.out NN.out) 0).trans rfl, (blk_cell (TT10.out.keep T8.out NC.out NN.out) 1).trans rfl⟩ (fun hHeld => ?_)
                      clear hK hHeld K
                      refine norm_ (a' := ?_) ?_ ?_
                      rotate_left
                      · show Act.put _ (some 78) _ = _
                        simp only [Act.put, List.setIfInBounds_toArray, List.set_cons_zero, List.set_cons_succ]
                        rfl
                      refine pure_ (i := 10) (N := some 84) (v := ?_) (a' := ?_) #[true, true, true, true, true, true, true, true, true, false, true, false, false, false] rfl rfl (by kernel_rfl) (fun _ _ _ h => h) (Or.inl ⟨by rfl, ?_⟩) ?_ ?_
                      rotate_left
                      · intro w'
                        go_simp
                        with_reducible rfl
                      rotate_left
                      · simp only [Act.put, List.setIfInBounds_toArray, List.set_cons_zero, List.set_cons_succ]
                        rfl
                      refine one_ (i := 9) (N := some 83) #[true, true, true, true, true, true, true, true, true, true, true, false, false, false] rfl rfl (by kernel_rfl) (by decide) (fun K hK => ?_)
                      refine step_append_lies _ (by rfl) _ _ _ (by rfl) w.heap.size 35 i2 _ 1 24 Try.underlying23 hi2 hz2a hz2b hz2c rfl (by omega) _ i (rowsL D' i k) (by rfl) TT10.out.o2 _ 1 1 [.slice (some ⟨D, 0, none⟩) k k] (by rfl) (by rfl) (World.news_of_block (cs := #[.slice (some ⟨D, 0, none⟩) k k]) (t := 35) (fr := (0, 0)) C10.out) (by simp [Value.oneCell']) (by omega) (by unfold maxLen; omega) (by omega) TT10.out.base_le _ rfl ?_
                      intro g2 c2 w11 oo gg aa _
                      have TT11 := Aside0.mk (Tw.grow2 (by decide) TT10.out oo gg aa)
                      clear oo gg aa
                      refine hK.out _ _ ⟨(blk_cell (TT11.out.keep T8.out NC.out NN.out) 0).trans rfl, (blk_cell (TT11.out.keep T8.out NC.out NN.out) 1).trans rfl⟩ (fun hHeld => ?_)
                      clear hK hHeld K
                      refine norm_ (a' := ?_) ?_ ?_
                      rotate_left
                      · show Act.put _ (some 83) _ = _
                        simp only [Act.put, List.setIfInBounds_toArray, List.set_cons_zero, List.set_cons_succ]
                        rfl
                      exact HJ _ _ _ _ _ _ _ TT11.out
      · obtain rfl : i = n := by omega
        clear m1 m3
        have hN := HN.out
        have T8 := Aside0.mk K.out.t8
        have R6 := Aside0.mk K.out.r6
        have p0 : wr.cell? ⟨w.heap.size + 1, 0, none⟩ = some (.slice AC i cC) := (blk_cell T8.out 0).trans rfl
        have p1 : wr.cell? ⟨w.heap.size + 1, 1, none⟩ = some (.slice AN i cN) := (blk_cell T8.out 1).trans rfl
        have q0 := blk_frozen R6.out 0
        have q1 := blk_frozen R6.out 1
        have HN2 := Aside0.mk hN
        clear hN
        have r0 : wr.cell? ⟨w.heap.size, 0, none⟩ = some (.slice none 0 0) := (blk_cell R6.out 0).trans rfl
        have r1 : wr.cell? ⟨w.heap.size, 1, none⟩ = some (.slice none 0 0) := (blk_cell R6.out 1).trans rfl
        go_wp2_with fail
        refine bodyPost_ret (v := .agg #[.slice AC i cC, .slice AN i cN]) (by simp [results, Try.results12, go_sem, r0, r1]) rfl ?_
        have kk := K.out
        have e := HN2.out
        rw [e] at kk ⊢
        have z := mk_end kk (.slice AC t.n cC) (.slice AN t.n cN)
        exact ⟨_, _, _, _, B', D', rfl, ⟨z⟩⟩
end Go.Proofs.Ytelabmhhnpfegaa.Hand
