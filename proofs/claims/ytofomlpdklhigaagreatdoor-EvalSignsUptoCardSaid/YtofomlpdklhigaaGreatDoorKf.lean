/- Sets of bits: OnesCount64, New, Count walked. -/
import Derived.Test.YtofomlpdklhigaaGreatDoorKc
namespace Go.Proofs.YtofomlpdklhigaaGreatDoor.Hand
open Go.RowKit Go.Proofs.YtofomlpdklhigaaGreatDoorW.PrintWords Go.Proofs.YtofomlpdklhigaaGreatDoorW.PrintLast Go.Proofs.YtofomlpdklhigaaGreatDoorW.PrintMore Go.Proofs.YtofomlpdklhigaaGreatDoor.PSigns
set_option linter.unusedVariables false
set_option linter.unusedSimpArgs false
theorem and_u64 (a b : Nat) (ha : a < 2 ^ 64) (hb : b < 2 ^ 64) : Go.bits .and .u64 (a : Int) (b : Int) = ((a &&& b : Nat) : Int) := (bits_nat .u64 64 (by decide) wu64 a b ha hb).1
theorem masks : mk8 85 8 = 6148914691236517205 ∧ mk8 51 8 = 3689348814741910323 ∧ mk8 15 8 = 1085102592571150095 := by decide
theorem st1_lt (x : Nat) : st1 8 x < 2 ^ 64 := by
  have h1 := Nat.and_lt_two_pow (x / 2) (show mk8 85 8 < 2 ^ 63 by decide)
  have h2 := Nat.and_lt_two_pow x (show mk8 85 8 < 2 ^ 63 by decide)
  unfold st1
  omega
theorem st2_lt (x : Nat) : st2 8 x < 2 ^ 63 := by
  have h1 := Nat.and_lt_two_pow (x / 4) (show mk8 51 8 < 2 ^ 62 by decide)
  have h2 := Nat.and_lt_two_pow x (show mk8 51 8 < 2 ^ 62 by decide)
  unfold st2
  omega
theorem div_c (a d : Nat) : ((a : Int) / (d : Int)) = ((a / d : Nat) : Int) := (Int.natCast_ediv a d).symm
set_option maxHeartbeats 1000000 in
set_option maxRecDepth 100000 in
theorem ones64_any (m : Nat) (hm : m < 2 ^ 64) (w : World) : Calls Tryz.prog 150 #[.int .u64 (m : Int)] w fun e w' => e = .returned (.int .i64 ((popc 64 m : Nat) : Int)) ∧ Drawn0 w w' := by
  obtain ⟨k1, k2, k3⟩ := masks
  obtain ⟨y, hy, hy60, hsum⟩ := add_up m
  obtain ⟨x1, hx1⟩ : ∃ x, x = st1 8 m := ⟨_, rfl⟩
  obtain ⟨x2, hx2⟩ : ∃ x, x = st2 8 x1 := ⟨_, rfl⟩
  have hyy : y = st3 8 x2 := by rw [hy, hx2, hx1, st_all]
  have l1 : x1 < 2 ^ 64 := by rw [hx1]; exact st1_lt m
  have l2 : x2 < 2 ^ 63 := by rw [hx2]; exact st2_lt x1
  have d1 : ((m : Int) / 2) = ((m / 2 : Nat) : Int) := div_c m 2
  have a1 : Go.bits .and .u64 ((m / 2 : Nat) : Int) 6148914691236517205 = ((m / 2 &&& mk8 85 8 : Nat) : Int) := by rw [k1]; exact and_u64 _ 6148914691236517205 (by omega) (by decide)
  have a2 : Go.bits .and .u64 (m : Int) 6148914691236517205 = ((m &&& mk8 85 8 : Nat) : Int) := by rw [k1]; exact and_u64 _ 6148914691236517205 hm (by decide)
  have s1 : IntKind.u64.wrap (((m / 2 &&& mk8 85 8 : Nat) : Int) + ((m &&& mk8 85 8 : Nat) : Int)) = (x1 : Int) := by
    have : (((m / 2 &&& mk8 85 8 : Nat) : Int) + ((m &&& mk8 85 8 : Nat) : Int)) = (x1 : Int) := by rw [hx1]; unfold st1; omega
    rw [this]
    exact wu64 _ (by omega) (by exact_mod_cast l1)
  have d2 : ((x1 : Int) / 4) = ((x1 / 4 : Nat) : Int) := div_c x1 4
  have a3 : Go.bits .and .u64 ((x1 / 4 : Nat) : Int) 3689348814741910323 = ((x1 / 4 &&& mk8 51 8 : Nat) : Int) := by rw [k2]; exact and_u64 _ 3689348814741910323 (by omega) (by decide)
  have a4 : Go.bits .and .u64 (x1 : Int) 3689348814741910323 = ((x1 &&& mk8 51 8 : Nat) : Int) := by rw [k2]; exact and_u64 _ 3689348814741910323 l1 (by decide)
  have s2 : IntKind.u64.wrap (((x1 / 4 &&& mk8 51 8 : Nat) : Int) + ((x1 &&& mk8 51 8 : Nat) : Int)) = (x2 : Int) := by
    have : (((x1 / 4 &&& mk8 51 8 : Nat) : Int) + ((x1 &&& mk8 51 8 : Nat) : Int)) = (x2 : Int) := by rw [hx2]; unfold st2; omega
    rw [this]
    exact wu64 _ (by omega) (by exact_mod_cast (Nat.lt_trans l2 (by decide)))
  have d3 : ((x2 : Int) / 16) = ((x2 / 16 : Nat) : Int) := div_c x2 16
  obtain ⟨u, hu⟩ : ∃ u, u = x2 / 16 + x2 := ⟨_, rfl⟩
  have lu : u < 2 ^ 64 := by omega
  have s3 : IntKind.u64.wrap (((x2 / 16 : Nat) : Int) + (x2 : Int)) = (u : Int) := by
    have : (((x2 / 16 : Nat) : Int) + (x2 : Int)) = (u : Int) := by omega
    rw [this]
    exact wu64 _ (by omega) (by exact_mod_cast lu)
  have a5 : Go.bits .and .u64 (u : Int) 1085102592571150095 = (y : Int) := by
    rw [hyy]
    unfold st3
    rw [← hu, k3]
    exact and_u64 _ 1085102592571150095 lu (by decide)
  obtain ⟨v1, hv1⟩ : ∃ v, v = y + y / 256 := ⟨_, rfl⟩
  obtain ⟨v2, hv2⟩ : ∃ v, v = v1 + v1 / 65536 := ⟨_, rfl⟩
  obtain ⟨v3, hv3⟩ : ∃ v, v = v2 + v2 / 4294967296 := ⟨_, rfl⟩
  rw [← hv1, ← hv2, ← hv3] at hsum
  have d4 : ((y : Int) / 256) = ((y / 256 : Nat) : Int) := div_c y 256
  have d5 : ((v1 : Int) / 65536) = ((v1 / 65536 : Nat) : Int) := div_c v1 65536
  have d6 : ((v2 : Int) / 4294967296) = ((v2 / 4294967296 : Nat) : Int) := div_c v2 4294967296
  have m1 : v1 < 2 ^ 61 := by omega
  have m2 : v2 < 2 ^ 62 := by omega
  have m3 : v3 < 2 ^ 63 := by omega
  have s4 : IntKind.u64.wrap ((y : Int) + ((y / 256 : Nat) : Int)) = (v1 : Int) := by
    have : ((y : Int) + ((y / 256 : Nat) : Int)) = (v1 : Int) := by omega
    rw [this]
    exact wu64 _ (by omega) (by omega)
  have s5 : IntKind.u64.wrap ((v1 : Int) + ((v1 / 65536 : Nat) : Int)) = (v2 : Int) := by
    have : ((v1 : Int) + ((v1 / 65536 : Nat) : Int)) = (v2 : Int) := by omega
    rw [this]
    exact wu64 _ (by omega) (by omega)
  have s6 : IntKind.u64.wrap ((v2 : Int) + ((v2 / 4294967296 : Nat) : Int)) = (v3 : Int) := by
    have : ((v2 : Int) + ((v2 / 4294967296 : Nat) : Int)) = (v3 : Int) := by omega
    rw [this]
    exact wu64 _ (by omega) (by omega)
  have s7 : wrap64 (v3 : Int) = (v3 : Int) := by unfold wrap64; omega
  have s8 : IntKind.i64.wrap (v3 : Int) = (v3 : Int) := by rw [i64_w]; exact s7
  have a6 : Go.bits .and .i64 (v3 : Int) 127 = ((popc 64 m : Nat) : Int) := by
    have h1 := (bits_nat .i64 63 (by decide) (fun n h0 h1 => by rw [i64_w]; unfold wrap64; omega) v3 127 m3 (by decide)).1
    rw [← hsum, show v3 % 128 = v3 &&& 127 from (Nat.and_two_pow_sub_one_eq_mod v3 7).symm]
    exact h1
  obtain ⟨r, hr⟩ : ∃ r, r = popc 64 m := ⟨_, rfl⟩
  rw [← hr] at a6 ⊢
  obtain ⟨b1, hb1⟩ : ∃ b, b = m / 2 &&& mk8 85 8 := ⟨_, rfl⟩
  obtain ⟨b2, hb2⟩ : ∃ b, b = m &&& mk8 85 8 := ⟨_, rfl⟩
  obtain ⟨b3, hb3⟩ : ∃ b, b = x1 / 4 &&& mk8 51 8 := ⟨_, rfl⟩
  obtain ⟨b4, hb4⟩ : ∃ b, b = x1 &&& mk8 51 8 := ⟨_, rfl⟩
  rw [← hb1] at a1 s1
  rw [← hb2] at a2 s1
  rw [← hb3] at a3 s2
  rw [← hb4] at a4 s2
  obtain ⟨e1, he1⟩ : ∃ e, e = m / 2 := ⟨_, rfl⟩
  obtain ⟨e2, he2⟩ : ∃ e, e = x1 / 4 := ⟨_, rfl⟩
  obtain ⟨e3, he3⟩ : ∃ e, e = x2 / 16 := ⟨_, rfl⟩
  obtain ⟨e4, he4⟩ : ∃ e, e = y / 256 := ⟨_, rfl⟩
  obtain ⟨e5, he5⟩ : ∃ e, e = v1 / 65536 := ⟨_, rfl⟩
  obtain ⟨e6, he6⟩ : ∃ e, e = v2 / 4294967296 := ⟨_, rfl⟩
  rw [← he1] at d1 a1
  rw [← he2] at d2 a3
  rw [← he3] at d3 s3
  rw [← he4] at d4 s4
  rw [← he5] at d5 s5
  rw [← he6] at d6 s6
  clear hr hb1 hb2 hb3 hb4 he1 he2 he3 he4 he5 he6 hv1 hv2 hv3 hu hy hyy hsum hx1 hx2 l1 l2 lu m1 m2 m3 hy60 k1 k2 k3 hm
  go_enter Tryz.func150, Tryz.ntmps150
  go_wp2
  go_ret
  exact ⟨by first | rfl | (simp; done) | (simp [*]; done), by repeat (first | exact Drawn0.refl _ | apply Drawn0.step)⟩
theorem count_word {ws : List Int} {size : Nat} {p : Nat → Bool} (h : Wd ws size p) (i : Nat) (hi : i < ws.length) : ∃ m : Nat, ws.getD i 0 = (m : Int) ∧ m < 2 ^ 64 ∧ (List.range (64 * (i + 1))).countP p = (List.range (64 * i)).countP p + popc 64 m := by
  obtain ⟨m, e, hm, ht⟩ := h.bit i hi
  refine ⟨m, e, hm, ?_⟩
  have key : ∀ j, j ≤ 64 → (List.range (64 * i + j)).countP p = (List.range (64 * i)).countP p + popc j m := by
    intro j
    induction j with
    | zero => intro _; rfl
    | succ j ih =>
      intro hj
      rw [← Nat.add_assoc, List.range_succ, List.countP_append, ih (by omega), popc_succ, List.countP_singleton, ht j (by omega)]
      omega
  exact key 64 (Nat.le_refl _)
theorem count_all {ws : List Int} {size : Nat} {p : Nat → Bool} (h : Wd ws size p) : (List.range (64 * ws.length)).countP p = (List.range size).countP p := by
  have hl : size ≤ 64 * ws.length := by rw [h.len]; omega
  obtain ⟨d, hd⟩ : ∃ d, 64 * ws.length = size + d := ⟨64 * ws.length - size, by omega⟩
  rw [hd]
  clear hd hl
  induction d with
  | zero => rfl
  | succ d ih => rw [← Nat.add_assoc, List.range_succ, List.countP_append, ih, List.countP_singleton, h.out (size + d) (by omega)]; rfl
theorem count_le (p : Nat → Bool) (n : Nat) : (List.range n).countP p ≤ n := by
  have := List.countP_le_length (p := p) (l := List.range n)
  rwa [List.length_range] at this
set_option maxHeartbeats 1000000 in
set_option maxRecDepth 100000 in
theorem count_any (w : World) (v : Value) (size : Nat) (p : Nat → Bool) (h : BS w v size p) (hs : size ≤ 4096) : Calls Tryz.prog 130 #[v] w fun e w' => e = .returned (.int .i64 (((List.range size).countP p : Nat) : Int)) ∧ Below w.heap.size w w' := by
  obtain ⟨g0, c, ws, rfl, hc, hw⟩ := h
  replace hc := C_own hc
  obtain ⟨a, ha⟩ : ∃ a : Addr, a = ⟨g0, 0, none⟩ := ⟨_, rfl⟩
  rw [← ha] at hc ⊢
  clear ha
  have hu197 := Tryz.underlying189
  have hu109 := Tryz.underlying187
  obtain ⟨n, hn⟩ : ∃ n, n = ws.length := ⟨_, rfl⟩
  have HR : Aside0 ((List.range (64 * n)).countP p = (List.range size).countP p) := ⟨by rw [hn]; exact count_all hw⟩
  obtain ⟨r, hr⟩ : ∃ r, r = (List.range size).countP p := ⟨_, rfl⟩
  rw [← hr] at HR ⊢
  rw [← hn] at hc ⊢
  have hl := hw.len
  have hn5 : n ≤ 64 := by omega
  have HC := Aside0.mk hc
  have HW := Aside0.mk hw
  have HN := Aside0.mk hn
  clear hc hw hn hr hl
  go_enter Tryz.func130, Tryz.ntmps130
  go_upto_region 1 with fail
  obtain ⟨W1, hW1⟩ : ∃ W, W = w.alloc (.cells #[.int .i64 (size : Int), .slice (some a) n c] 189) := ⟨_, rfl⟩
  rw [← hW1]
  have B1 : Aside0 (Below w.heap.size w W1) := ⟨by rw [hW1]; exact below_alloc (Below.refl _ _) _⟩
  obtain ⟨p1, hp1⟩ : ∃ p, p = w.heap.size := ⟨_, rfl⟩
  have Q1 : Aside0 (W1.heap[p1]? = some (.cells #[.int .i64 (size : Int), .slice (some a) n c] 189 (0, 0))) := ⟨by rw [hW1, hp1]; exact heap_alloc_new _ _⟩
  rw [← hp1]
  clear hW1 hp1
  have q1 : W1.cell? ⟨p1, 1, none⟩ = some (.slice (some a) n c) := (blk_cell Q1.out 1).trans rfl
  go_wp2_with fail
  clear q1
  have K0 : Aside0 ((0 : Nat) = (List.range (64 * 0)).countP p ∧ Below w.heap.size w W1) := ⟨rfl, B1.out⟩
  go_loopw [3, 9] (fun v3 v9 wr => ∃ i s : Nat, i ≤ n ∧ s ≤ 4096 ∧ v3 = .int .i64 (s : Int) ∧ v9 = .int .i64 (i : Int) ∧ Aside0 (s = (List.range (64 * i)).countP p ∧ Below w.heap.size w wr)) (fun _ v9 _ => n - (intOf v9).toNat)
  case atStart => exact ⟨0, 0, Nat.zero_le _, by decide, rfl, rfl, K0⟩
  case round =>
    clear K0
    obtain ⟨i, s, hi, hs', rfl, rfl, KK⟩ := hrel
    by_cases hlt : i < n
    · obtain ⟨m, e, hm, hct⟩ := count_word HW.out i (by rw [← HN.out]; exact hlt)
      have c1 := pw_cell_below KK.out.2 (at_Uw HC.out i hlt)
      rw [e] at c1
      have HM := Aside0.mk hm
      obtain ⟨q, hq⟩ : ∃ q, q = popc 64 m := ⟨_, rfl⟩
      have hs2 : s + q ≤ 4096 := by
        have h1 := count_le p (64 * (i + 1))
        rw [hct, ← KK.out.1, ← hq] at h1
        omega
      have N1 : Aside0 (s + q = (List.range (64 * (i + 1))).countP p) := ⟨by rw [hct, ← KK.out.1, hq]⟩
      have HQ := Aside0.mk hq
      clear hct hm e hq
      go_wp2_with fail
      refine (ones64_any m HM.out _).mono ?_
      rintro _ w3 ⟨rfl, hd⟩
      rw [← HQ.out]
      have B3 : Aside0 (Below w.heap.size w w3) := ⟨KK.out.2.trans (hd.below.mono KK.out.2.size)⟩
      clear hd c1
      go_wp2_with fail
      exact ⟨⟨i + 1, s + q, by omega, hs2, by go_num, by go_num, ⟨N1.out, B3.out⟩⟩, by simp [intOf]; omega⟩
    · obtain rfl : n = i := by omega
      have E : Aside0 (s = r) := ⟨by rw [KK.out.1, HR.out]⟩
      go_wp2_with fail
      go_ret
      exact ⟨by rw [E.out]; rfl, KK.out.2⟩
theorem Wd.zero (size : Nat) : Wd (List.replicate ((size + 63) / 64) 0) size (fun _ => false) := by
  refine ⟨by simp, fun _ _ => rfl, fun i hi => ⟨0, ?_, by decide, fun j _ => Nat.zero_testBit j⟩⟩
  rw [List.length_replicate] at hi
  rw [List.getD_eq_getElem?_getD, List.getElem?_replicate, if_pos hi]
  rfl
set_option maxHeartbeats 1000000 in
set_option maxRecDepth 100000 in
theorem new_any (w : World) (size : Nat) (hs : size ≤ 4096) : Calls Tryz.prog 127 #[.int .i64 (size : Int)] w fun e w' => ∃ v, e = .returned (.tuple #[v, .int .i64 0]) ∧ Aside0 (BS w' v size (fun _ => false) ∧ Below w.heap.size w w') := by
  have hu197 := Tryz.underlying189
  obtain ⟨m, hm⟩ : ∃ m, m = (size + 63) / 64 := ⟨_, rfl⟩
  have e1 : ((size : Int) + 64 - 1) / 64 = (m : Int) := by omega
  have e2 : ((size : Int) + 63) / 64 = (m : Int) := by omega
  have hm5 : m ≤ 64 := by omega
  have mk1 : ∀ W : World, (Instr.makeSlice 187 (.int .i64 (m : Int)) (.int .i64 (m : Int))).run Tryz.prog W = .ok (.slice (some ⟨W.heap.size, 0, none⟩) m m) (W.alloc (.cells (madeCells #[.int .u64 0] m) 126)) := fun W => print_make_of 187 126 (.int .u64 0) 8 Tryz.underlying187 info126 rfl (by omega) m (by omega) W
  have HM := Aside0.mk hm
  clear hm
  go_enter Tryz.func127, Tryz.ntmps127
  go_wp2_with fail
  obtain ⟨W1, hW1⟩ : ∃ W, W = w.alloc (.cells #[.int .i64 (size : Int), .slice (some ⟨w.heap.size + 1, 0, none⟩) m m] 189) := ⟨_, rfl⟩
  rw [← hW1]
  have h1 := own_made W1 w.heap.size 126 .u64 m (by rw [hW1, al_size]; omega) (by omega)
  rw [show W1.heap.size = w.heap.size + 1 by rw [hW1, al_size]] at h1
  obtain ⟨Wz, hWz⟩ : ∃ W, W = W1.alloc (.cells (madeCells #[.int .u64 0] m) 126) := ⟨_, rfl⟩
  rw [← hWz] at h1 ⊢
  have BZ : Below w.heap.size w Wz := by
    rw [hWz, hW1]
    exact below_alloc (below_alloc (Below.refl _ _) _) _
  have QZ : Wz.heap[w.heap.size]? = some (.cells #[.int .i64 (size : Int), .slice (some ⟨w.heap.size + 1, 0, none⟩) m m] 189 (0, 0)) := by
    rw [hWz, hW1]
    simp only [al_get, al_size]
    rw [if_neg (by omega), if_pos trivial]
  have r0 : Wz.cell? ⟨w.heap.size, 0, none⟩ = some (.int .i64 (size : Int)) := (blk_cell QZ 0).trans rfl
  have r1 : Wz.cell? ⟨w.heap.size, 1, none⟩ = some (.slice (some ⟨w.heap.size + 1, 0, none⟩) m m) := (blk_cell QZ 1).trans rfl
  refine bodyPost_ret (v := .tuple #[.agg #[.int .i64 (size : Int), .slice (some ⟨w.heap.size + 1, 0, none⟩) m m], .int .i64 0]) (by simp [results, Tryz.results127, go_sem, r0, r1]) rfl ?_
  have hl : (List.replicate m (0 : Int)).length = m := by simp
  refine ⟨_, rfl, ⟨⟨w.heap.size + 1, m, List.replicate m 0, by rw [hl], by rw [hl]; exact own_lower h1 (Nat.zero_le _), by rw [HM.out]; exact Wd.zero size⟩, BZ⟩⟩
end Go.Proofs.YtofomlpdklhigaaGreatDoor.Hand
