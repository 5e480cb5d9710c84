/- Texts Kf Kg Jb, cut to what is used. -/
import Derived.WalkKit
import Derived.Test.YtelabmhhnpfegaaXa0
import Derived.Test.YtelabmhhnpfegaaXa1
import Derived.Test.YtelabmhhnpfegaaXa4
import Derived.Test.YtelabmhhnpfegaaXa5
set_option linter.unusedVariables false
set_option linter.unusedSimpArgs false
section
namespace Go.Proofs.Ytelabmhhnpfegaa.Hand
open Go.RowKit Go.Proofs.YtelabmhhnpfegaaW.PrintWords Go.Proofs.YtelabmhhnpfegaaW.PrintLast Go.Proofs.YtelabmhhnpfegaaW.PrintMore Go.Proofs.Ytelabmhhnpfegaa.PDynCells
theorem and_u64 (a b : Nat) (ha : a < 2 ^ 64) (hb : b < 2 ^ 64) : Go.bits .and .u64 (a : Int) (b : Int) = ((a &&& b : Nat) : Int) := (bits_nat .u64 64 (by decide) wu64 a b ha hb).1
theorem masks : mk8 85 8 = 6148914691236517205 ∧ mk8 51 8 = 3689348814741910323 ∧ mk8 15 8 = 1085102592571150095 := by decide
theorem st1_lt (x : Nat) : st1 8 x < 2 ^ 64 := by
 have h1 := Nat.and_lt_two_pow (x / 2) (show mk8 85 8 < 2 ^ 63 by decide)
 have h2 := Nat.and_lt_two_pow x (show mk8 85 8 < 2 ^ 63 by decide)
 unfold st1
 omega
theorem st2_lt (x : Nat) : st2 8 x < 2 ^ 63 := by
 have h1 := Nat.and_lt_two_pow (x / 4) (show mk8 51 8 < 2 ^ 62 by decide)
 have h2 := Nat.and_lt_two_pow x (show mk8 51 8 < 2 ^ 62 by decide)
 unfold st2
 omega
theorem div_c (a d : Nat) : ((a : Int) / (d : Int)) = ((a / d : Nat) : Int) := (Int.natCast_ediv a d).symm
set_option maxHeartbeats 1000000 in
set_option maxRecDepth 100000 in
theorem ones64_any (m : Nat) (hm : m < 2 ^ 64) (w : World) : Calls Try.prog 127 #[.int .u64 (m : Int)] w fun e w' => e = .returned (.int .i64 ((popc 64 m : Nat) : Int)) ∧ Drawn0 w w' := by
 obtain ⟨k1, k2, k3⟩ := masks
 obtain ⟨y, hy, hy60, hsum⟩ := add_up m
 obtain ⟨x1, hx1⟩ : ∃ x, x = st1 8 m := ⟨_, rfl⟩
 obtain ⟨x2, hx2⟩ : ∃ x, x = st2 8 x1 := ⟨_, rfl⟩
 have hyy : y = st3 8 x2 := by rw [hy, hx2, hx1, st_all]
 have l1 : x1 < 2 ^ 64 := by rw [hx1]; exact st1_lt m
 have l2 : x2 < 2 ^ 63 := by rw [hx2]; exact st2_lt x1
 have d1 : ((m : Int) / 2) = ((m / 2 : Nat) : Int) := div_c m 2
 have a1 : Go.bits .and .u64 ((m / 2 : Nat) : Int) 6148914691236517205 = ((m / 2 &&& mk8 85 8 : Nat) : Int) := by rw [k1]; exact and_u64 _ 6148914691236517205 (by omega) (by decide)
 have a2 : Go.bits .and .u64 (m : Int) 6148914691236517205 = ((m &&& mk8 85 8 : Nat) : Int) := by rw [k1]; exact and_u64 _ 6148914691236517205 hm (by decide)
 have s1 : IntKind.u64.wrap (((m / 2 &&& mk8 85 8 : Nat) : Int) + ((m &&& mk8 85 8 : Nat) : Int)) = (x1 : Int) := by
  have : (((m / 2 &&& mk8 85 8 : Nat) : Int) + ((m &&& mk8 85 8 : Nat) : Int)) = (x1 : Int) := by rw [hx1]; unfold st1; omega
  rw [this]
  exact wu64 _ (by omega) (by exact_mod_cast l1)
 have d2 : ((x1 : Int) / 4) = ((x1 / 4 : Nat) : Int) := div_c x1 4
 have a3 : Go.bits .and .u64 ((x1 / 4 : Nat) : Int) 3689348814741910323 = ((x1 / 4 &&& mk8 51 8 : Nat) : Int) := by rw [k2]; exact and_u64 _ 3689348814741910323 (by omega) (by decide)
 have a4 : Go.bits .and .u64 (x1 : Int) 3689348814741910323 = ((x1 &&& mk8 51 8 : Nat) : Int) := by rw [k2]; exact and_u64 _ 3689348814741910323 l1 (by decide)
 have s2 : IntKind.u64.wrap (((x1 / 4 &&& mk8 51 8 : Nat) : Int) + ((x1 &&& mk8 51 8 : Nat) : Int)) = (x2 : Int) := by
  have : (((x1 / 4 &&& mk8 51 8 : Nat) : Int) + ((x1 &&& mk8 51 8 : Nat) : Int)) = (x2 : Int) := by rw [hx2]; unfold st2; omega
  rw [this]
  exact wu64 _ (by omega) (by exact_mod_cast (Nat.lt_trans l2 (by decide)))
 have d3 : ((x2 : Int) / 16) = ((x2 / 16 : Nat) : Int) := div_c x2 16
 obtain ⟨u, hu⟩ : ∃ u, u = x2 / 16 + x2 := ⟨_, rfl⟩
 have lu : u < 2 ^ 64 := by omega
 have s3 : IntKind.u64.wrap (((x2 / 16 : Nat) : Int) + (x2 : Int)) = (u : Int) := by
  have : (((x2 / 16 : Nat) : Int) + (x2 : Int)) = (u : Int) := by omega
  rw [this]
  exact wu64 _ (by omega) (by exact_mod_cast lu)
 have a5 : Go.bits .and .u64 (u : Int) 1085102592571150095 = (y : Int) := by
  rw [hyy]
  unfold st3
  rw [← hu, k3]
  exact and_u64 _ 1085102592571150095 lu (by decide)
 obtain ⟨v1, hv1⟩ : ∃ v, v = y + y / 256 := ⟨_, rfl⟩
 obtain ⟨v2, hv2⟩ : ∃ v, v = v1 + v1 / 65536 := ⟨_, rfl⟩
 obtain ⟨v3, hv3⟩ : ∃ v, v = v2 + v2 / 4294967296 := ⟨_, rfl⟩
 rw [← hv1, ← hv2, ← hv3] at hsum
 have d4 : ((y : Int) / 256) = ((y / 256 : Nat) : Int) := div_c y 256
 have d5 : ((v1 : Int) / 65536) = ((v1 / 65536 : Nat) : Int) := div_c v1 65536
 have d6 : ((v2 : Int) / 4294967296) = ((v2 / 4294967296 : Nat) : Int) := div_c v2 4294967296
 have m1 : v1 < 2 ^ 61 := by omega
 have m2 : v2 < 2 ^ 62 := by omega
 have m3 : v3 < 2 ^ 63 := by omega
 have s4 : IntKind.u64.wrap ((y : Int) + ((y / 256 : Nat) : Int)) = (v1 : Int) := by
  have : ((y : Int) + ((y / 256 : Nat) : Int)) = (v1 : Int) := by omega
  rw [this]
  exact wu64 _ (by omega) (by omega)
 have s5 : IntKind.u64.wrap ((v1 : Int) + ((v1 / 65536 : Nat) : Int)) = (v2 : Int) := by
  have : ((v1 : Int) + ((v1 / 65536 : Nat) : Int)) = (v2 : Int) := by omega
  rw [this]
  exact wu64 _ (by omega) (by omega)
 have s6 : IntKind.u64.wrap ((v2 : Int) + ((v2 / 4294967296 : Nat) : Int)) = (v3 : Int) := by
  have : ((v2 : Int) + ((v2 / 4294967296 : Nat) : Int)) = (v3 : Int) := by omega
  rw [this]
  exact wu64 _ (by omega) (by omega)
 have s7 : wrap64 (v3 : Int) = (v3 : Int) := by unfold wrap64; omega
 have s8 : IntKind.i64.wrap (v3 : Int) = (v3 : Int) := by rw [i64_w]; exact s7
 have a6 : Go.bits .and .i64 (v3 : Int) 127 = ((popc 64 m : Nat) : Int) := by
  have h1 := (bits_nat .i64 63 (by decide) (fun n h0 h1 => by rw [i64_w]; unfold wrap64; omega) v3 127 m3 (by decide)).1
  rw [← hsum, show v3 % 128 = v3 &&& 127 from (Nat.and_two_pow_sub_one_eq_mod v3 7).symm]
  exact h1
 obtain ⟨r, hr⟩ : ∃ r, r = popc 64 m := ⟨_, rfl⟩
 rw [← hr] at a6 ⊢
 obtain ⟨b1, hb1⟩ : ∃ b, b = m / 2 &&& mk8 85 8 := ⟨_, rfl⟩
 obtain ⟨b2, hb2⟩ : ∃ b, b = m &&& mk8 85 8 := ⟨_, rfl⟩
 obtain ⟨b3, hb3⟩ : ∃ b, b = x1 / 4 &&& mk8 51 8 := ⟨_, rfl⟩
 obtain ⟨b4, hb4⟩ : ∃ b, b = x1 &&& mk8 51 8 := ⟨_, rfl⟩
 rw [← hb1] at a1 s1
 rw [← hb2] at a2 s1
 rw [← hb3] at a3 s2
 rw [← hb4] at a4 s2
 obtain ⟨e1, he1⟩ : ∃ e, e = m / 2 := ⟨_, rfl⟩
 obtain ⟨e2, he2⟩ : ∃ e, e = x1 / 4 := ⟨_, rfl⟩
 obtain ⟨e3, he3⟩ : ∃ e, e = x2 / 16 := ⟨_, rfl⟩
 obtain ⟨e4, he4⟩ : ∃ e, e = y / 256 := ⟨_, rfl⟩
 obtain ⟨e5, he5⟩ : ∃ e, e = v1 / 65536 := ⟨_, rfl⟩
 obtain ⟨e6, he6⟩ : ∃ e, e = v2 / 4294967296 := ⟨_, rfl⟩
 rw [← he1] at d1 a1
 rw [← he2] at d2 a3
 rw [← he3] at d3 s3
 rw [← he4] at d4 s4
 rw [← he5] at d5 s5
 rw [← he6] at d6 s6
 clear hr hb1 hb2 hb3 hb4 he1 he2 he3 he4 he5 he6 hv1 hv2 hv3 hu hy hyy hsum hx1 hx2 l1 l2 lu m1 m2 m3 hy60 k1 k2 k3 hm
 go_enter Try.func127, Try.ntmps127
 go_wp2
 go_ret
 exact ⟨by first | rfl | (simp; done) | (simp [*]; done), by repeat (first | exact Drawn0.refl _ | apply Drawn0.step)⟩
theorem count_word {ws : List Int} {size : Nat} {p : Nat → Bool} (h : Wd ws size p) (i : Nat) (hi : i < ws.length) : ∃ m : Nat, ws.getD i 0 = (m : Int) ∧ m < 2 ^ 64 ∧ (List.range (64 * (i + 1))).countP p = (List.range (64 * i)).countP p + popc 64 m := by
 obtain ⟨m, e, hm, ht⟩ := h.bit i hi
 refine ⟨m, e, hm, ?_⟩
 have key : ∀ j, j ≤ 64 → (List.range (64 * i + j)).countP p = (List.range (64 * i)).countP p + popc j m := by
  intro j
  induction j with
  | zero => intro _; rfl
  | succ j ih =>
   intro hj
   rw [← Nat.add_assoc, List.range_succ, List.countP_append, ih (by omega), popc_succ, List.countP_singleton, ht j (by omega)]
   omega
 exact key 64 (Nat.le_refl _)
theorem count_all {ws : List Int} {size : Nat} {p : Nat → Bool} (h : Wd ws size p) : (List.range (64 * ws.length)).countP p = (List.range size).countP p := by
 have hl : size ≤ 64 * ws.length := by rw [h.len]; omega
 obtain ⟨d, hd⟩ : ∃ d, 64 * ws.length = size + d := ⟨64 * ws.length - size, by omega⟩
 rw [hd]
 clear hd hl
 induction d with
 | zero => rfl
 | succ d ih => rw [← Nat.add_assoc, List.range_succ, List.countP_append, ih, List.countP_singleton, h.out (size + d) (by omega)]; rfl
theorem count_le (p : Nat → Bool) (n : Nat) : (List.range n).countP p ≤ n := by
 have := List.countP_le_length (p := p) (l := List.range n)
 rwa [List.length_range] at this
set_option maxHeartbeats 1000000 in
set_option maxRecDepth 100000 in
theorem count_any (w : World) (v : Value) (size : Nat) (p : Nat → Bool) (h : BS w v size p) (hs : size ≤ 4096) : Calls Try.prog 152 #[v] w fun e w' => e = .returned (.int .i64 (((List.range size).countP p : Nat) : Int)) ∧ Below w.heap.size w w' := by
 obtain ⟨g0, c, ws, rfl, hc, hw⟩ := h
 replace hc := C_own hc
 obtain ⟨a, ha⟩ : ∃ a : Addr, a = ⟨g0, 0, none⟩ := ⟨_, rfl⟩
 rw [← ha] at hc ⊢
 clear ha
 have hu197 := Try.underlying197
 have hu109 := Try.underlying109
 obtain ⟨n, hn⟩ : ∃ n, n = ws.length := ⟨_, rfl⟩
 have HR : Aside0 ((List.range (64 * n)).countP p = (List.range size).countP p) := ⟨by rw [hn]; exact count_all hw⟩
 obtain ⟨r, hr⟩ : ∃ r, r = (List.range size).countP p := ⟨_, rfl⟩
 rw [← hr] at HR ⊢
 rw [← hn] at hc ⊢
 have hl := hw.len
 have hn5 : n ≤ 64 := by omega
 have HC := Aside0.mk hc
 have HW := Aside0.mk hw
 have HN := Aside0.mk hn
 clear hc hw hn hr hl
 go_enter Try.func152, Try.ntmps152
 go_upto_region 1 with fail
 obtain ⟨W1, hW1⟩ : ∃ W, W = w.alloc (.cells #[.int .i64 (size : Int), .slice (some a) n c] 197) := ⟨_, rfl⟩
 rw [← hW1]
 have B1 : Aside0 (Below w.heap.size w W1) := ⟨by rw [hW1]; exact below_alloc (Below.refl _ _) _⟩
 obtain ⟨p1, hp1⟩ : ∃ p, p = w.heap.size := ⟨_, rfl⟩
 have Q1 : Aside0 (W1.heap[p1]? = some (.cells #[.int .i64 (size : Int), .slice (some a) n c] 197 (0, 0))) := ⟨by rw [hW1, hp1]; exact heap_alloc_new _ _⟩
 rw [← hp1]
 clear hW1 hp1
 have q1 : W1.cell? ⟨p1, 1, none⟩ = some (.slice (some a) n c) := (blk_cell Q1.out 1).trans rfl
 go_wp2_with fail
 clear q1
 have K0 : Aside0 ((0 : Nat) = (List.range (64 * 0)).countP p ∧ Below w.heap.size w W1) := ⟨rfl, B1.out⟩
 go_loopw [3, 9] (fun v3 v9 wr => ∃ i s : Nat, i ≤ n ∧ s ≤ 4096 ∧ v3 = .int .i64 (s : Int) ∧ v9 = .int .i64 (i : Int) ∧ Aside0 (s = (List.range (64 * i)).countP p ∧ Below w.heap.size w wr)) (fun _ v9 _ => n - (intOf v9).toNat)
 case atStart => exact ⟨0, 0, Nat.zero_le _, by decide, rfl, rfl, K0⟩
 case round =>
  clear K0
  obtain ⟨i, s, hi, hs', rfl, rfl, KK⟩ := hrel
  by_cases hlt : i < n
  ·obtain ⟨m, e, hm, hct⟩ := count_word HW.out i (by rw [← HN.out]; exact hlt)
   have c1 := pw_cell_below KK.out.2 (at_Uw HC.out i hlt)
   rw [e] at c1
   have HM := Aside0.mk hm
   obtain ⟨q, hq⟩ : ∃ q, q = popc 64 m := ⟨_, rfl⟩
   have hs2 : s + q ≤ 4096 := by
    have h1 := count_le p (64 * (i + 1))
    rw [hct, ← KK.out.1, ← hq] at h1
    omega
   have N1 : Aside0 (s + q = (List.range (64 * (i + 1))).countP p) := ⟨by rw [hct, ← KK.out.1, hq]⟩
   have HQ := Aside0.mk hq
   clear hct hm e hq
   go_wp2_with fail
   refine (ones64_any m HM.out _).mono ?_
   rintro _ w3 ⟨rfl, hd⟩
   rw [← HQ.out]
   have B3 : Aside0 (Below w.heap.size w w3) := ⟨KK.out.2.trans (hd.below.mono KK.out.2.size)⟩
   clear hd c1
   go_wp2_with fail
   exact ⟨⟨i + 1, s + q, by omega, hs2, by go_num, by go_num, ⟨N1.out, B3.out⟩⟩, by simp [intOf]; omega⟩
  ·obtain rfl : n = i := by omega
   have E : Aside0 (s = r) := ⟨by rw [KK.out.1, HR.out]⟩
   go_wp2_with fail
   go_ret
   exact ⟨by rw [E.out]; rfl, KK.out.2⟩
theorem Wd.zero (size : Nat) : Wd (List.replicate ((size + 63) / 64) 0) size (fun _ => false) := by
 refine ⟨by simp, fun _ _ => rfl, fun i hi => ⟨0, ?_, by decide, fun j _ => Nat.zero_testBit j⟩⟩
 rw [List.length_replicate] at hi
 rw [List.getD_eq_getElem?_getD, List.getElem?_replicate, if_pos hi]
 rfl
set_option maxHeartbeats 1000000 in
set_option maxRecDepth 100000 in
theorem new_any (w : World) (size : Nat) (hs : size ≤ 4096) : Calls Try.prog 149 #[.int .i64 (size : Int)] w fun e w' => ∃ v, e = .returned (.tuple #[v, .int .i64 0]) ∧ Aside0 (BS w' v size (fun _ => false) ∧ Below w.heap.size w w') := by
 have hu197 := Try.underlying197
 obtain ⟨m, hm⟩ : ∃ m, m = (size + 63) / 64 := ⟨_, rfl⟩
 have e1 : ((size : Int) + 64 - 1) / 64 = (m : Int) := by omega
 have e2 : ((size : Int) + 63) / 64 = (m : Int) := by omega
 have hm5 : m ≤ 64 := by omega
 have mk1 : ∀ W : World, (Instr.makeSlice 109 (.int .i64 (m : Int)) (.int .i64 (m : Int))).run Try.prog W = .ok (.slice (some ⟨W.heap.size, 0, none⟩) m m) (W.alloc (.cells (madeCells #[.int .u64 0] m) 145)) := fun W => print_make_of 109 145 (.int .u64 0) 8 Try.underlying109 info145 rfl (by omega) m (by omega) W
 have HM := Aside0.mk hm
 clear hm
 go_enter Try.func149, Try.ntmps149
 go_wp2_with fail
 obtain ⟨W1, hW1⟩ : ∃ W, W = w.alloc (.cells #[.int .i64 (size : Int), .slice (some ⟨w.heap.size + 1, 0, none⟩) m m] 197) := ⟨_, rfl⟩
 rw [← hW1]
 have h1 := own_made W1 w.heap.size 145 .u64 m (by rw [hW1, al_size]; omega) (by omega)
 rw [show W1.heap.size = w.heap.size + 1 by rw [hW1, al_size]] at h1
 obtain ⟨Wz, hWz⟩ : ∃ W, W = W1.alloc (.cells (madeCells #[.int .u64 0] m) 145) := ⟨_, rfl⟩
 rw [← hWz] at h1 ⊢
 have BZ : Below w.heap.size w Wz := by
  rw [hWz, hW1]
  exact below_alloc (below_alloc (Below.refl _ _) _) _
 have QZ : Wz.heap[w.heap.size]? = some (.cells #[.int .i64 (size : Int), .slice (some ⟨w.heap.size + 1, 0, none⟩) m m] 197 (0, 0)) := by
  rw [hWz, hW1]
  simp only [al_get, al_size]
  rw [if_neg (by omega), if_pos trivial]
 have r0 : Wz.cell? ⟨w.heap.size, 0, none⟩ = some (.int .i64 (size : Int)) := (blk_cell QZ 0).trans rfl
 have r1 : Wz.cell? ⟨w.heap.size, 1, none⟩ = some (.slice (some ⟨w.heap.size + 1, 0, none⟩) m m) := (blk_cell QZ 1).trans rfl
 refine bodyPost_ret (v := .tuple #[.agg #[.int .i64 (size : Int), .slice (some ⟨w.heap.size + 1, 0, none⟩) m m], .int .i64 0]) (by simp [results, Try.results149, go_sem, r0, r1]) rfl ?_
 have hl : (List.replicate m (0 : Int)).length = m := by simp
 refine ⟨_, rfl, ⟨⟨w.heap.size + 1, m, List.replicate m 0, by rw [hl], by rw [hl]; exact own_lower h1 (Nat.zero_le _), by rw [HM.out]; exact Wd.zero size⟩, BZ⟩⟩
end Go.Proofs.Ytelabmhhnpfegaa.Hand
end
section
namespace Go.Proofs.Ytelabmhhnpfegaa.Hand
open Go.RowKit Go.Proofs.YtelabmhhnpfegaaW.PrintWords Go.Proofs.YtelabmhhnpfegaaW.PrintLast Go.Proofs.YtelabmhhnpfegaaW.PrintMore Go.Proofs.Ytelabmhhnpfegaa.PDynCells
set_option maxHeartbeats 1000000 in
set_option maxRecDepth 100000 in
theorem rises_any (w : World) (A : Option Addr) (n c : Nat) (xs : List Int) (N : Int) (hC : (Kd.int .i64).C w A n xs) (hn : n ≤ 17592186044416) (r : Bool) (RR : r = ascB N (-1) xs) :
  Calls Try.prog 129 #[.slice A n c, .int .i64 N] w fun e w' => e = .returned (.bool r) ∧ w = w' := by
 have HC := Aside0.mk hC
 have HL : Aside0 (xs.length = n) := ⟨hC.1⟩
 have HR := Aside0.mk RR
 clear hC RR
 go_enter Try.func129, Try.ntmps129
 go_wp2_with fail
 have J0 : Aside0 (ascB N (-1) (xs.take 0) = true) := ⟨rfl⟩
 go_loop [5, 10] (fun v5 v => ∃ (j : Nat) (last : Int), j ≤ n ∧ v5 = .int .i64 last ∧ v = .int .i64 j ∧ Aside0 (ascB N (-1) (xs.take j) = true ∧ last = if j = 0 then -1 else xs.getD (j - 1) 0)) (fun _ v => n - (intOf v).toNat)
 case atStart => exact ⟨0, -1, Nat.zero_le _, rfl, rfl, ⟨J0.out, rfl⟩⟩
 case round =>
  clear J0
  obtain ⟨j, last, hj, rfl, rfl, KJ⟩ := hrel
  by_cases hlt : j < n
  ·obtain ⟨ae, rfl, hx⟩ := at_Int HC.out j hlt
   have NZ := Aside0.mk (asc_take N xs j (-1) (by rw [HL.out]; exact hlt))
   obtain ⟨z, hz⟩ : ∃ z, z = xs.getD j 0 := ⟨_, rfl⟩
   rw [← hz] at hx
   have HZ := Aside0.mk hz
   clear hz
   have NN : Aside0 (ascB N (-1) (xs.take (j + 1)) = !(decide (z ≤ last) || decide (z ≥ N))) := ⟨by
    rw [NZ.out, KJ.out.1, Bool.true_and, ← HZ.out, ← KJ.out.2]⟩
   have BAD : Aside0 (ascB N (-1) (xs.take (j + 1)) = false → r = false) := ⟨fun hb => by
    rw [HR.out, Bool.eq_false_iff]
    intro ha
    have := asc_short N xs (-1) (j + 1) ha
    rw [hb] at this
    cases this⟩
   cases g1 : decide (z ≤ last) with
   | true =>
    have N1 : Aside0 (r = false) := ⟨BAD.out (by rw [NN.out, g1]; rfl)⟩
    go_wp2_with fail
    go_ret
    exact ⟨by rw [N1.out]; rfl, rfl⟩
   | false =>
    cases g2 : decide (z ≥ N) with
    | true =>
     have g3 : decide (N ≤ z) = true := g2
     have N1 : Aside0 (r = false) := ⟨BAD.out (by rw [NN.out, g1, g2]; rfl)⟩
     go_wp2_with fail
     go_ret
     exact ⟨by rw [N1.out]; rfl, rfl⟩
    | false =>
     have g3 : decide (N ≤ z) = false := g2
     have N1 : Aside0 (ascB N (-1) (xs.take (j + 1)) = true ∧ z = if j + 1 = 0 then -1 else xs.getD (j + 1 - 1) 0) := ⟨by rw [NN.out, g1, g2]; rfl, by rw [if_neg (by omega), Nat.add_sub_cancel]; exact HZ.out⟩
     go_wp2_with fail
     exact ⟨⟨j + 1, z, by omega, rfl, by go_num, N1⟩, by simp [intOf]; omega⟩
  ·obtain rfl : n = j := by omega
   have N1 : Aside0 (r = true) := ⟨by
    have h1 := KJ.out.1
    rw [List.take_of_length_le (by rw [HL.out]; exact Nat.le_refl _)] at h1
    rw [HR.out, h1]⟩
   go_wp2_with fail
   go_ret
   exact ⟨by rw [N1.out]; rfl, rfl⟩
def ordB (xs : List Int) (n : Nat) : Bool := decide (xs.length = n) && (List.range n).all fun k => decide ((k : Int) ∈ xs)
theorem count_full (p : Nat → Bool) (n : Nat) : (List.range n).countP p = n ↔ (List.range n).all p = true := by
 rw [List.all_eq_true]
 have := List.countP_eq_length (p := p) (l := List.range n)
 rw [List.length_range] at this
 exact this
theorem dup_short : ∀ (n : Nat) (xs : List Int), (∀ k, k < n → (k : Int) ∈ xs) → n ≤ xs.length
 | 0, _, _ => Nat.zero_le _
 | n + 1, xs, h => by
  have h1 := dup_short n (xs.erase (n : Int)) (fun k hk => (List.mem_erase_of_ne (by omega)).2 (h k (by omega)))
  have h2 := List.length_erase_of_mem (h n (Nat.lt_succ_self n))
  have h3 : 0 < xs.length := List.length_pos_of_mem (h n (Nat.lt_succ_self n))
  omega
theorem ord_dup {xs : List Int} {n j k : Nat} (hk : k < n) (hj : j < xs.length) (hx : xs.getD j 0 = (k : Int)) (hd : (k : Int) ∈ xs.take j) : ordB xs n = false := by
 rw [Bool.eq_false_iff]
 intro h
 unfold ordB at h
 simp only [Bool.and_eq_true, decide_eq_true_eq, List.all_eq_true, List.mem_range] at h
 obtain ⟨h1, h2⟩ := h
 have h3 := dup_short n (xs.take j ++ xs.drop (j + 1)) (fun i hi => by
  have hm := h2 i hi
  rw [← List.take_append_drop j xs, drop_cons hj 0, List.mem_append, List.mem_cons] at hm
  rw [List.mem_append]
  rcases hm with hm | hm | hm
  ·exact .inl hm
  ·rw [hx] at hm
   rw [hm]
   exact .inl hd
  ·exact .inr hm)
 rw [List.length_append, List.length_take, List.length_drop] at h3
 omega
def inP (xs : List Int) (n k : Nat) : Bool := decide (k < n) && decide ((k : Int) ∈ xs)
theorem inP_snoc (L : List Int) (n k : Nat) (z : Int) : (inP L n k || (decide (0 ≤ z) && decide (z < (n : Int)) && decide (k = z.toNat))) = inP (L ++ [z]) n k := by
 unfold inP
 simp only [List.mem_append, List.mem_singleton]
 by_cases h1 : k < n
 ·by_cases h2 : (k : Int) ∈ L
  ·simp [h1, h2]
  ·by_cases h3 : (k : Int) = z
   ·have h4 : k = z.toNat := by omega
    have h5 : 0 ≤ z := by omega
    have h6 : z < (n : Int) := by omega
    rw [decide_eq_true h5, decide_eq_true h6, decide_eq_true h4]
    simp [h1, h3]
   ·by_cases h5 : 0 ≤ z
    ·have h6 : k ≠ z.toNat := by omega
     simp [h1, h2, h3, h6]
    ·simp [h1, h2, h3, h5]
 ·by_cases h5 : z < (n : Int)
  ·by_cases h6 : 0 ≤ z
   ·have h7 : k ≠ z.toNat := by omega
    simp [h1, h7]
   ·simp [h1, h6]
  ·simp [h1, h5]
theorem count_in (L : List Int) (n : Nat) : (List.range n).countP (inP L n) = n ↔ (List.range n).all (fun k => decide ((k : Int) ∈ L)) = true := by
 rw [count_full, List.all_eq_true, List.all_eq_true]
 constructor
 ·intro h k hk
  have h3 := h k hk
  unfold inP at h3
  simp only [Bool.and_eq_true, decide_eq_true_eq] at h3
  exact decide_eq_true h3.2
 ·intro h k hk
  have h2 := List.mem_range.1 hk
  have h3 := h k hk
  unfold inP
  simpa [h2] using h3
set_option maxHeartbeats 1000000 in
set_option maxRecDepth 100000 in
theorem order_any (w : World) (A : Option Addr) (m c : Nat) (xs : List Int) (n : Nat) (hC : (Kd.int .i64).C w A m xs) (hm : m ≤ 17592186044416) (hn : n ≤ 4096) (r : Bool) (RR : r = ordB xs n) :
  Calls Try.prog 131 #[.slice A m c, .int .i64 (n : Int)] w fun e w' => e = .returned (.bool r) ∧ Aside0 (Below w.heap.size w w') := by
 have HC := Aside0.mk hC
 have HL : Aside0 (xs.length = m) := ⟨hC.1⟩
 have HR := Aside0.mk RR
 have hu197 := Try.underlying197
 clear hC RR
 go_enter Try.func131, Try.ntmps131
 go_wp2_with fail
 refine (new_any w n hn).mono ?_
 rintro _ w2 ⟨vs, rfl, H2⟩
 obtain ⟨g0, cc, ws, rfl, hc0, hw0⟩ := H2.out.1
 go_upto_region 2 with fail
 obtain ⟨nw, hnw⟩ : ∃ q, q = ws.length := ⟨_, rfl⟩
 obtain ⟨W3, hW3⟩ : ∃ W, W = w2.alloc (.cells #[.int .i64 (n : Int), .slice (some ⟨g0, 0, none⟩) ws.length cc] 197) := ⟨_, rfl⟩
 rw [← hW3]
 obtain ⟨p5, hp5⟩ : ∃ p, p = w2.heap.size := ⟨_, rfl⟩
 have B3 : Aside0 (Below w.heap.size w W3) := ⟨by rw [hW3]; exact H2.out.2.alloc H2.out.2.size _⟩
 have G5 : Aside0 (w.heap.size ≤ p5) := ⟨by rw [hp5]; exact H2.out.2.size⟩
 have K0 : Aside0 (∃ (g q cc : Nat), W3.heap[p5]? = some (.cells #[.int .i64 (n : Int), .slice (some ⟨g, 0, none⟩) q cc] 197 (0, 0)) ∧ BS W3 (.agg #[.int .i64 (n : Int), .slice (some ⟨g, 0, none⟩) q cc]) n (inP (xs.take 0) n) ∧ Below w.heap.size w W3) := ⟨g0, ws.length, cc, by rw [hW3, hp5]; exact heap_alloc_new _ _, by
  rw [hW3]
  exact (BS.below (v := .agg #[.int .i64 (n : Int), .slice (some ⟨g0, 0, none⟩) ws.length cc]) ⟨g0, cc, ws, rfl, hc0, hw0⟩ (below_alloc (Below.refl _ _) _)).same (fun k => by unfold inP; simp), B3.out⟩
 rw [← hp5]
 clear hW3 hp5 hc0 hw0 hnw H2
 go_wp2_with fail
 go_loopw [16] (fun v16 wr => ∃ j : Nat, j ≤ m ∧ v16 = .int .i64 (j : Int) ∧ Aside0 (∃ (g q cc : Nat), wr.heap[p5]? = some (.cells #[.int .i64 (n : Int), .slice (some ⟨g, 0, none⟩) q cc] 197 (0, 0)) ∧ BS wr (.agg #[.int .i64 (n : Int), .slice (some ⟨g, 0, none⟩) q cc]) n (inP (xs.take j) n) ∧ Below w.heap.size w wr)) (fun v16 _ => m - (intOf v16).toNat)
 case atStart => exact ⟨0, Nat.zero_le _, rfl, K0⟩
 case round =>
  clear K0
  obtain ⟨j, hj, rfl, KK⟩ := hrel
  obtain ⟨g, q, cc, k1, k2, k3⟩ := KK.out
  have q0 : wr.cell? ⟨p5, 0, none⟩ = some (.int .i64 (n : Int)) := (blk_cell k1 0).trans rfl
  have q1 : wr.cell? ⟨p5, 1, none⟩ = some (.slice (some ⟨g, 0, none⟩) q cc) := (blk_cell k1 1).trans rfl
  have KS := Aside0.mk (And.intro k1 (And.intro k2 k3))
  clear k1 k2 k3 KK
  by_cases hlt : j < m
  ·obtain ⟨ae, rfl, hx'⟩ := at_Int HC.out j hlt
   have hx := pw_cell_below KS.out.2.2 hx'
   obtain ⟨z, hz⟩ : ∃ z, z = xs.getD j 0 := ⟨_, rfl⟩
   rw [← hz] at hx
   have HZ := Aside0.mk hz
   clear hx' hz
   obtain ⟨b, hb⟩ : ∃ b, b = (decide (0 ≤ z) && decide (z < (n : Int)) && inP (xs.take j) n z.toNat) := ⟨_, rfl⟩
   have HB := Aside0.mk hb
   clear hb
   go_wp2_with fail
   refine (has_any wr _ n _ KS.out.2.1 hn z b HB.out).mono ?_
   rintro _ w3 ⟨rfl, hb3⟩
   have B4 := Aside0.mk hb3.out
   clear q0 q1 hb3
   cases b with
   | true =>
    have N1 : Aside0 (r = false) := ⟨by
     have h1 := HB.out.symm
     simp only [Bool.and_eq_true, decide_eq_true_eq] at h1
     obtain ⟨⟨h2, h3⟩, h4⟩ := h1
     unfold inP at h4
     simp only [Bool.and_eq_true, decide_eq_true_eq] at h4
     rw [HR.out]
     exact ord_dup (k := z.toNat) h4.1 (by rw [HL.out]; exact hlt) (by rw [← HZ.out]; omega) h4.2⟩
    go_wp2_with fail
    go_ret
    exact ⟨by rw [N1.out]; rfl, ⟨KS.out.2.2.trans (B4.out.mono KS.out.2.2.size)⟩⟩
   | false =>
    have Q4 := Aside0.mk (blk_below KS.out.1 B4.out)
    have q0 : w3.cell? ⟨p5, 0, none⟩ = some (.int .i64 (n : Int)) := (blk_cell Q4.out 0).trans rfl
    have q1 : w3.cell? ⟨p5, 1, none⟩ = some (.slice (some ⟨g, 0, none⟩) q cc) := (blk_cell Q4.out 1).trans rfl
    clear hx
    go_wp2_with fail
    refine (with_any w3 _ n _ (KS.out.2.1.below B4.out) hn z).mono ?_
    rintro _ w4 ⟨v4, rfl, H4⟩
    obtain ⟨g4, c4, ws4, rfl, o4, d4⟩ := H4.out.1
    have Q6 := Aside0.mk (blk_below Q4.out H4.out.2)
    have B6 : Aside0 (Below w.heap.size w w4) := ⟨KS.out.2.2.trans ((B4.out.trans (H4.out.2.mono B4.out.size)).mono KS.out.2.2.size)⟩
    clear q0 q1
    have e0 : w4.cell? ⟨p5, 0, none⟩ = some (.int .i64 (n : Int)) := (blk_cell Q6.out 0).trans rfl
    have e1 : w4.cell? ⟨p5, 1, none⟩ = some (.slice (some ⟨g, 0, none⟩) q cc) := (blk_cell Q6.out 1).trans rfl
    have e2 : ∀ j, w4.frozen? ⟨p5, j, none⟩ = false := fun j => blk_frozen Q6.out j
    obtain ⟨nw, hnw⟩ : ∃ q, q = ws4.length := ⟨_, rfl⟩
    have N1 : Aside0 (∃ (g q cc : Nat), ((w4.setCell ⟨p5, 0, none⟩ (.int .i64 (n : Int))).setCell ⟨p5, 1, none⟩ (.slice (some ⟨g4, 0, none⟩) ws4.length c4)).heap[p5]? = some (.cells #[.int .i64 (n : Int), .slice (some ⟨g, 0, none⟩) q cc] 197 (0, 0)) ∧ BS ((w4.setCell ⟨p5, 0, none⟩ (.int .i64 (n : Int))).setCell ⟨p5, 1, none⟩ (.slice (some ⟨g4, 0, none⟩) ws4.length c4)) (.agg #[.int .i64 (n : Int), .slice (some ⟨g, 0, none⟩) q cc]) n (inP (xs.take (j + 1)) n) ∧ Below w.heap.size w ((w4.setCell ⟨p5, 0, none⟩ (.int .i64 (n : Int))).setCell ⟨p5, 1, none⟩ (.slice (some ⟨g4, 0, none⟩) ws4.length c4))) :=
     ⟨g4, ws4.length, c4, blk_set (blk_set Q6.out 0 _) 1 _, (((BS.set (v := .agg #[.int .i64 (n : Int), .slice (some ⟨g4, 0, none⟩) ws4.length c4]) ⟨g4, c4, ws4, rfl, o4, d4⟩ Q6.out (by decide) 0 _).set (blk_set Q6.out 0 _) (by decide) 1 _)).same (fun k => by
      have hl : j < xs.length := by rw [HL.out]; exact hlt
      show (inP (xs.take j) n k || (decide (0 ≤ z) && decide (z < (n : Int)) && decide (k = z.toNat))) = inP (xs.take (j + 1)) n k
      rw [take_snoc hl 0, ← HZ.out]
      exact inP_snoc _ _ _ _), (B6.out.setCell (p := ⟨p5, 0, none⟩) G5.out _).setCell (p := ⟨p5, 1, none⟩) G5.out _⟩
    rw [← hnw] at N1 ⊢
    clear o4 d4 H4 hnw
    go_wp2_with fail
    exact ⟨⟨j + 1, by omega, by go_num, N1⟩, by simp [intOf]; omega⟩
  ·obtain rfl : m = j := by omega
   have hall : xs.take m = xs := List.take_of_length_le (by rw [HL.out]; exact Nat.le_refl _)
   obtain ⟨ct, hct⟩ : ∃ ct, ct = (List.range n).countP (inP (xs.take m) n) := ⟨_, rfl⟩
   have HCT := Aside0.mk hct
   have RF : Aside0 (r = (decide (m = n) && decide (ct = n))) := ⟨by
    rw [HR.out]
    unfold ordB
    rw [HL.out]
    congr 1
    rw [Bool.eq_iff_iff, decide_eq_true_eq, hct, hall, count_in]⟩
   clear hall hct
   by_cases hmn : m = n
   ·subst hmn
    go_wp2_with fail
    refine (count_any wr _ m _ KS.out.2.1 hn).mono ?_
    rintro _ w3 ⟨rfl, hb3⟩
    have B4 := Aside0.mk hb3
    rw [← HCT.out]
    clear hb3 q0 q1
    by_cases hc : ct = m
    ·have g : ((ct : Int) == (m : Int)) = true := beq_iff_eq.2 (by omega)
     have N1 : Aside0 (r = true) := ⟨by rw [RF.out]; simp [hc]⟩
     go_wp2_with fail
     go_ret
     exact ⟨by rw [N1.out]; rfl, ⟨KS.out.2.2.trans (B4.out.mono KS.out.2.2.size)⟩⟩
    ·have g : ((ct : Int) == (m : Int)) = false := beq_eq_false_iff_ne.2 (by omega)
     have N1 : Aside0 (r = false) := ⟨by rw [RF.out]; simp [hc]⟩
     go_wp2_with fail
     go_ret
     exact ⟨by rw [N1.out]; rfl, ⟨KS.out.2.2.trans (B4.out.mono KS.out.2.2.size)⟩⟩
   ·have g : ((m : Int) == (n : Int)) = false := beq_eq_false_iff_ne.2 (by omega)
    have N1 : Aside0 (r = false) := ⟨by rw [RF.out]; simp [hmn]⟩
    go_wp2_with fail
    go_ret
    exact ⟨by rw [N1.out]; rfl, ⟨KS.out.2.2⟩⟩
end Go.Proofs.Ytelabmhhnpfegaa.Hand
end
section
namespace Go.Proofs.Ytelabmhhnpfegaa.Hand
def sumTo (n : Nat) (f : Nat → Int) : Int := ((List.range n).map f).sum
theorem sumTo_succ (n : Nat) (f : Nat → Int) : sumTo (n + 1) f = sumTo n f + f n := by
 unfold sumTo
 rw [List.range_succ, List.map_append, List.sum_append]
 simp
theorem sumTo_add (n : Nat) (f g : Nat → Int) : sumTo n (fun i => f i + g i) = sumTo n f + sumTo n g := by
 induction n with
 | zero => rfl
 | succ n ih => rw [sumTo_succ, sumTo_succ, sumTo_succ, ih]; omega
theorem sumTo_congr {n : Nat} {f g : Nat → Int} (h : ∀ i, i < n → f i = g i) : sumTo n f = sumTo n g := by
 induction n with
 | zero => rfl
 | succ n ih => rw [sumTo_succ, sumTo_succ, ih (fun i hi => h i (by omega)), h n (by omega)]
theorem sumTo_le {n : Nat} {f g : Nat → Int} (h : ∀ i, i < n → f i ≤ g i) : sumTo n f ≤ sumTo n g := by
 induction n with
 | zero => exact Int.le_refl _
 | succ n ih =>
  rw [sumTo_succ, sumTo_succ]
  have := ih (fun i hi => h i (by omega))
  have := h n (by omega)
  omega
theorem sumTo_abs {n : Nat} {f : Nat → Int} {B : Int} (h : ∀ i, i < n → -B ≤ f i ∧ f i ≤ B) : -(n * B) ≤ sumTo n f ∧ sumTo n f ≤ n * B := by
 induction n with
 | zero => simp [sumTo]
 | succ n ih =>
  have h1 := ih (fun i hi => h i (by omega))
  have h2 := h n (by omega)
  rw [sumTo_succ]
  have e : ((n + 1 : Nat) : Int) * B = n * B + B := by rw [Int.natCast_add, Int.add_mul]; simp
  rw [e]
  omega
theorem perm_sum {l m : List Int} (h : l.Perm m) : l.sum = m.sum := by
 induction h with
 | nil => rfl
 | cons x _ ih => simp [ih]
 | swap x y l => simp only [List.sum_cons]; omega
 | trans _ _ ih1 ih2 => rw [ih1, ih2]
theorem pigeon (n : Nat) : ∀ l : List Nat, l.Nodup → (∀ x ∈ l, x < n) → l.length ≤ n := by
 induction n with
 | zero =>
  intro l _ h
  cases l with
  | nil => simp
  | cons x l => exact absurd (h x List.mem_cons_self) (Nat.not_lt_zero _)
 | succ n ih =>
  intro l hn h
  by_cases hm : n ∈ l
  ·have h1 := ih (l.erase n) (hn.erase n) (fun x hx => by
    have h2 := h x (List.mem_of_mem_erase hx)
    have h3 : x ≠ n := fun e => by
     subst e
     exact (hn.not_mem_erase) hx
    omega)
   rw [List.length_erase_of_mem hm] at h1
   omega
  ·have := ih l hn (fun x hx => by
    have h2 := h x hx
    have h3 : x ≠ n := fun e => hm (e ▸ hx)
    omega)
   omega
theorem perm_range (n : Nat) : ∀ l : List Nat, l.Nodup → (∀ x ∈ l, x < n) → l.length = n → l.Perm (List.range n) := by
 induction n with
 | zero =>
  intro l _ _ h
  obtain rfl := List.eq_nil_of_length_eq_zero h
  exact .nil
 | succ n ih =>
  intro l hn h hl
  have hm : n ∈ l := by
   refine Classical.byContradiction fun hm => ?_
   have := pigeon n l hn (fun x hx => by
    have h2 := h x hx
    have h3 : x ≠ n := fun e => hm (e ▸ hx)
    omega)
   omega
  have h1 := ih (l.erase n) (hn.erase n) (fun x hx => by
   have h2 := h x (List.mem_of_mem_erase hx)
   have h3 : x ≠ n := fun e => by
    subst e
    exact (hn.not_mem_erase) hx
   omega) (by rw [List.length_erase_of_mem hm]; omega)
  rw [List.range_succ]
  exact (List.perm_cons_erase hm).trans ((h1.cons n).trans (List.perm_append_comm (l₁ := [n])))
structure Inj (n : Nat) (σ : Nat → Nat) : Prop where
 lt : ∀ i, i < n → σ i < n
 inj : ∀ i j, i < n → j < n → σ i = σ j → i = j
theorem nodup_map {n : Nat} {σ : Nat → Nat} (h : ∀ i j, i < n → j < n → σ i = σ j → i = j) : ((List.range n).map σ).Nodup := by
 induction n with
 | zero => simp
 | succ n ih =>
  rw [List.range_succ, List.map_append, List.nodup_append]
  refine ⟨ih (fun i j hi hj => h i j (by omega) (by omega)), by simp, fun a ha b hb => ?_⟩
  obtain ⟨i, hi, rfl⟩ := List.mem_map.1 ha
  simp at hb
  subst hb
  intro e
  have := h i n (by have := List.mem_range.1 hi; omega) (by omega) e
  have := List.mem_range.1 hi
  omega
theorem Inj.perm {n : Nat} {σ : Nat → Nat} (h : Inj n σ) : ((List.range n).map σ).Perm (List.range n) :=
 perm_range n _ (nodup_map h.inj) (fun x hx => by
  obtain ⟨i, hi, rfl⟩ := List.mem_map.1 hx
  exact h.lt i (List.mem_range.1 hi)) (by simp)
theorem Inj.sum {n : Nat} {σ : Nat → Nat} (h : Inj n σ) (f : Nat → Int) : sumTo n (fun i => f (σ i)) = sumTo n f := by
 have := perm_sum (h.perm.map f)
 rw [List.map_map] at this
 exact this
theorem Inj.onto {n : Nat} {σ : Nat → Nat} (h : Inj n σ) {k : Nat} (hk : k < n) : ∃ i, i < n ∧ σ i = k := by
 have : k ∈ (List.range n).map σ := (h.perm.mem_iff).2 (List.mem_range.2 hk)
 obtain ⟨i, hi, e⟩ := List.mem_map.1 this
 exact ⟨i, List.mem_range.1 hi, e⟩
structure PM (n : Nat) (no : Nat → Nat → Bool) (σ : Nat → Nat) : Prop where
 inj : Inj n σ
 may : ∀ i, i < n → no i (σ i) = false
def cost (n : Nat) (c : Nat → Nat → Int) (σ : Nat → Nat) : Int := sumTo n (fun i => c i (σ i))
structure Fair (n : Nat) (c : Nat → Nat → Int) (no : Nat → Nat → Bool) (u v : Nat → Int) : Prop where
 le : ∀ i k, i < n → k < n → no i k = false → u i + v k ≤ c i k
theorem dual_le {n : Nat} {c : Nat → Nat → Int} {no : Nat → Nat → Bool} {u v : Nat → Int} {σ : Nat → Nat} (hf : Fair n c no u v) (h : PM n no σ) : sumTo n u + sumTo n v ≤ cost n c σ := by
 rw [← h.inj.sum v, ← sumTo_add]
 exact sumTo_le (fun i hi => hf.le i (σ i) hi (h.inj.lt i hi) (h.may i hi))
def IsLeast (n : Nat) (c : Nat → Nat → Int) (no : Nat → Nat → Bool) : Option Int → Prop
 | none => ∀ σ, ¬ PM n no σ
 | some x => (∃ σ, PM n no σ ∧ cost n c σ = x) ∧ ∀ σ, PM n no σ → x ≤ cost n c σ
theorem IsLeast.uniq {n : Nat} {c : Nat → Nat → Int} {no : Nat → Nat → Bool} {a b : Option Int} (ha : IsLeast n c no a) (hb : IsLeast n c no b) : a = b := by
 cases a with
 | none =>
  cases b with
  | none => rfl
  | some y => exact absurd hb.1.choose_spec.1 (ha _)
 | some x =>
  cases b with
  | none => exact absurd ha.1.choose_spec.1 (hb _)
  | some y =>
   obtain ⟨⟨σ, h1, h2⟩, h3⟩ := ha
   obtain ⟨⟨τ, k1, k2⟩, k3⟩ := hb
   have := h3 τ k1
   have := k3 σ h1
   congr 1
   omega
end Go.Proofs.Ytelabmhhnpfegaa.Hand
namespace Go.Proofs.Ytelabmhhnpfegaa.Hand
structure Tb where
 n : Nat
 c : Nat → Nat → Int
 no : Nat → Nat → Bool
structure TbOk (t : Tb) : Prop where
 n64 : t.n ≤ 64
 mag : ∀ i k, i < t.n → k < t.n → -2147483648 ≤ t.c i k ∧ t.c i k ≤ 2147483648
structure St where
 u : Nat → Int
 v : Nat → Int
 of : Nat → Int
 least : Nat → Int
 far : Nat → Bool
 from_ : Nat → Int
 seen : Nat → Bool
def spreadC (t : Tb) (s : St) (row k : Nat) : Bool := !s.seen k && !t.no row k && (s.far k || decide (t.c row k - s.u row - s.v k < s.least k))
def spreadL (t : Tb) (s : St) (row : Nat) (m : Nat) : Nat → Int := fun k => if k < m ∧ spreadC t s row k = true then t.c row k - s.u row - s.v k else s.least k
def spreadF (t : Tb) (s : St) (row : Nat) (m : Nat) : Nat → Bool := fun k => if k < m ∧ spreadC t s row k = true then false else s.far k
def spreadB (t : Tb) (s : St) (row : Nat) (by_ : Int) (m : Nat) : Nat → Int := fun k => if k < m ∧ spreadC t s row k = true then by_ else s.from_ k
def spread (t : Tb) (s : St) (row : Nat) (by_ : Int) : St := { s with least := spreadL t s row t.n, far := spreadF t s row t.n, from_ := spreadB t s row by_ t.n }
def nearC (s : St) (b : Int) (k : Nat) : Bool := !s.seen k && !s.far k && (decide (b < 0) || decide (s.least k < s.least b.toNat))
def near (s : St) : Nat → Int
 | 0 => -1
 | k + 1 => if nearC s (near s k) k = true then (k : Int) else near s k
def shiftU (s : St) (first : Nat) (d : Int) : Nat → (Nat → Int)
 | 0 => upd s.u first (s.u first + d)
 | k + 1 => if s.seen k = true then upd (shiftU s first d k) (s.of k).toNat (shiftU s first d k (s.of k).toNat + d) else shiftU s first d k
def shiftV (s : St) (d : Int) (m : Nat) : Nat → Int := fun k => if k < m ∧ s.seen k = true then s.v k - d else s.v k
def shiftL (s : St) (d : Int) (m : Nat) : Nat → Int := fun k => if k < m ∧ s.seen k = false ∧ s.far k = false then s.least k - d else s.least k
def shift (n : Nat) (s : St) (first : Nat) (d : Int) : St := { s with u := shiftU s first d n, v := shiftV s d n, least := shiftL s d n }
def turnF (first : Nat) : List Nat → (Nat → Int) → (Nat → Int)
 | [], o => o
 | [k], o => upd o k (first : Int)
 | k :: k' :: l, o => turnF first (k' :: l) (upd o k (o k'))
def Way (s : St) : List Nat → Prop
 | [] => True
 | [k] => s.from_ k = -1
 | k :: k' :: l => s.from_ k = (k' : Int) ∧ Way s (k' :: l)
def noneSeen (u v of : Nat → Int) : St := ⟨u, v, of, fun _ => 0, fun _ => true, fun _ => -1, fun _ => false⟩
abbrev M : Int := 2147483648
structure Inv (t : Tb) (r : Nat) (u v of : Nat → Int) : Prop where
 range : ∀ k, k < t.n → of k = -1 ∨ ∃ i : Nat, of k = (i : Int) ∧ i < r
 onto : ∀ i, i < r → ∃ k, k < t.n ∧ of k = (i : Int)
 inj : ∀ k k', k < t.n → k' < t.n → of k = of k' → 0 ≤ of k → k = k'
 tight : ∀ k (i : Nat), k < t.n → of k = (i : Int) → t.no i k = false ∧ u i + v k = t.c i k
 fair : ∀ i k, i < r → k < t.n → t.no i k = false → u i + v k ≤ t.c i k
 free : ∀ k, k < t.n → of k = -1 → v k = 0
 vb : ∀ k, k < t.n → -(254 * M) ≤ v k ∧ v k ≤ 254 * M
 rest : ∀ i, r ≤ i → u i = 0
theorem Inv.ub {t : Tb} (ht : TbOk t) {r : Nat} {u v of : Nat → Int} (h : Inv t r u v of) (hr : r ≤ t.n) : ∀ i, i < r → -(255 * M) ≤ u i ∧ u i ≤ 255 * M := fun i hi => by
 obtain ⟨k, hk, e⟩ := h.onto i hi
 have h1 := (h.tight k i hk e).2
 have h2 := h.vb k hk
 have h3 := ht.mag i k (by omega) hk
 unfold M at *
 omega
theorem inv_start (t : Tb) : Inv t 0 (fun _ => 0) (fun _ => 0) (fun _ => -1) :=
 ⟨fun _ _ => .inl rfl, fun i h => absurd h (Nat.not_lt_zero _), fun _ _ _ _ _ h => by simp at h, fun _ i _ h => by omega, fun i _ h => absurd h (Nat.not_lt_zero _), fun _ _ _ => rfl, fun _ _ => by unfold M; omega, fun _ _ => rfl⟩
def rowOf (of : Nat → Int) (r : Nat) (b : Int) : Nat := if b < 0 then r else (of b.toNat).toNat
structure Look (t : Tb) (r : Nat) (s : St) (L : List Nat) : Prop where
 rlt : r < t.n
 range : ∀ k, k < t.n → s.of k = -1 ∨ ∃ i : Nat, s.of k = (i : Int) ∧ i < r
 onto : ∀ i, i < r → ∃ k, k < t.n ∧ s.of k = (i : Int)
 inj : ∀ k k', k < t.n → k' < t.n → s.of k = s.of k' → 0 ≤ s.of k → k = k'
 tight : ∀ k (i : Nat), k < t.n → s.of k = (i : Int) → t.no i k = false ∧ s.u i + s.v k = t.c i k
 fair : ∀ i k, i < r → k < t.n → t.no i k = false → s.u i + s.v k ≤ t.c i k
 free : ∀ k, k < t.n → s.of k = -1 → s.v k = 0
 rest : ∀ i, r < i → s.u i = 0
 nodup : L.Nodup
 sees : ∀ k, k < t.n → (s.seen k = true ↔ k ∈ L)
 lin : ∀ k ∈ L, k < t.n ∧ 0 ≤ s.of k
 vb : ∀ k, k < t.n → k ∉ L → -(254 * M) ≤ s.v k ∧ s.v k ≤ 254 * M
 sb : ∀ k ∈ L, -((2 * (L.length : Int) - 1) * M) ≤ s.v k + s.u r ∧ s.v k + s.u r ≤ (2 * (L.length : Int) - 1) * M
 rb : -(400 * M) ≤ s.u r ∧ s.u r ≤ 400 * M
 way : ∀ (l1 : List Nat) (k : Nat) (l2 : List Nat), L = l1 ++ k :: l2 → s.from_ k = -1 ∨ ∃ b ∈ l2, s.from_ k = (b : Int)
 edge : ∀ k ∈ L, t.no (rowOf s.of r (s.from_ k)) k = false ∧ s.u (rowOf s.of r (s.from_ k)) + s.v k = t.c (rowOf s.of r (s.from_ k)) k
def Tree (s : St) (r : Nat) (L : List Nat) (i : Nat) : Prop := i = r ∨ ∃ k ∈ L, s.of k = (i : Int)
structure Spread (t : Tb) (r : Nat) (s : St) (L : List Nat) : Prop extends Look t r s L where
 fbnd : ∀ k, k < t.n → k ∉ L → s.far k = true → s.least k = 0
 fars : ∀ k, k < t.n → k ∉ L → (s.far k = true ↔ ∀ i, Tree s r L i → t.no i k = true)
 comes : ∀ k, k < t.n → k ∉ L → s.far k = false → (s.from_ k = -1 ∨ ∃ b ∈ L, s.from_ k = (b : Int)) ∧ t.no (rowOf s.of r (s.from_ k)) k = false ∧ s.least k = t.c (rowOf s.of r (s.from_ k)) k - s.u (rowOf s.of r (s.from_ k)) - s.v k
 min : ∀ k, k < t.n → k ∉ L → ∀ i, Tree s r L i → t.no i k = false → s.least k ≤ t.c i k - s.u i - s.v k
 lb : ∀ k, k < t.n → k ∉ L → s.far k = false → -((2 * (L.length : Int) + 1) * M) ≤ s.least k + s.v k + s.u r ∧ s.least k + s.v k + s.u r ≤ (2 * (L.length : Int) + 1) * M
 own : L ≠ [] → ∀ k, k < t.n → t.no r k = false → s.u r + s.v k ≤ t.c r k
structure Ahead (t : Tb) (r : Nat) (s : St) (L : List Nat) : Prop extends Look t r s L where
 fbnd : ∀ k, k < t.n → k ∉ L → s.far k = true → s.least k = 0
 fars : ∀ k, k < t.n → k ∉ L → (s.far k = true ↔ ∀ i, L ≠ [] → Tree s r L.tail i → t.no i k = true)
 comes : ∀ k, k < t.n → k ∉ L → s.far k = false → (s.from_ k = -1 ∨ ∃ b ∈ L.tail, s.from_ k = (b : Int)) ∧ t.no (rowOf s.of r (s.from_ k)) k = false ∧ s.least k = t.c (rowOf s.of r (s.from_ k)) k - s.u (rowOf s.of r (s.from_ k)) - s.v k
 min : ∀ k, k < t.n → k ∉ L → ∀ i, L ≠ [] → Tree s r L.tail i → t.no i k = false → s.least k ≤ t.c i k - s.u i - s.v k
 lb : ∀ k, k < t.n → k ∉ L → s.far k = false → -((2 * (L.length : Int) - 1) * M) ≤ s.least k + s.v k + s.u r ∧ s.least k + s.v k + s.u r ≤ (2 * (L.length : Int) - 1) * M
 own : L ≠ [] → ∀ k, k < t.n → t.no r k = false → s.u r + s.v k ≤ t.c r k
def nextRow (s : St) (r : Nat) : List Nat → Nat
 | [] => r
 | k :: _ => (s.of k).toNat
def nextBy : List Nat → Int
 | [] => -1
 | k :: _ => (k : Int)
theorem look_start {t : Tb} {r : Nat} {u v of : Nat → Int} (h : Inv t r u v of) (hr : r < t.n) : Ahead t r (noneSeen u v of) [] := by
 refine ⟨⟨hr, h.range, h.onto, h.inj, h.tight, h.fair, h.free, fun i hi => h.rest i (by omega), by simp, ?_, by simp, fun k hk _ => h.vb k hk, by simp, ?_, ?_, by simp⟩, fun _ _ _ _ => rfl, ?_, ?_, fun k _ _ i hL => absurd rfl hL, ?_, fun hL => absurd rfl hL⟩
 ·intro k _; simp [noneSeen]
 ·have := h.rest r (Nat.le_refl _)
  show -(400 * M) ≤ u r ∧ u r ≤ 400 * M
  rw [this]; unfold M; omega
 ·intro l1 k l2 e
  have := congrArg List.length e
  simp at this
 ·intro k _ _
  exact ⟨fun _ i hL => absurd rfl hL, fun _ => rfl⟩
 ·intro k _ _ hf; simp [noneSeen] at hf
 ·intro k _ _ hf; simp [noneSeen] at hf
theorem Look.len {t : Tb} {r : Nat} {s : St} {L : List Nat} (h : Look t r s L) : L.length ≤ r := by
 have hn : (L.map fun k => (s.of k).toNat).Nodup := by
  have : ∀ l : List Nat, l.Nodup → (∀ k ∈ l, k < t.n ∧ 0 ≤ s.of k) → (l.map fun k => (s.of k).toNat).Nodup := by
   intro l
   induction l with
   | nil => intro _ _; simp
   | cons a l ih =>
    intro hn hl
    rw [List.nodup_cons] at hn
    rw [List.map_cons, List.nodup_cons]
    refine ⟨fun hm => ?_, ih hn.2 (fun k hk => hl k (List.mem_cons_of_mem _ hk))⟩
    obtain ⟨b, hb, e⟩ := List.mem_map.1 hm
    have h1 := hl a List.mem_cons_self
    have h2 := hl b (List.mem_cons_of_mem _ hb)
    have e2 := h.inj a b h1.1 h2.1 (by omega) h1.2
    exact hn.1 (e2 ▸ hb)
  exact this L h.nodup h.lin
 have := pigeon r _ hn (fun x hx => by
  obtain ⟨k, hk, rfl⟩ := List.mem_map.1 hx
  obtain ⟨h1, h2⟩ := h.lin k hk
  rcases h.range k h1 with e | ⟨i, e, hi⟩
  ·rw [e] at h2; omega
  ·rw [e]; simpa using hi)
 simpa using this
end Go.Proofs.Ytelabmhhnpfegaa.Hand
end
