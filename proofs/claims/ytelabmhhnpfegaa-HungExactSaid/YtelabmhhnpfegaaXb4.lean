/- Texts Va, cut to what is used. -/
import Derived.Test.YtelabmhhnpfegaaXa0
import Derived.Test.YtelabmhhnpfegaaXa3
set_option linter.unusedVariables false
set_option linter.unusedSimpArgs false
section
namespace Go.Proofs.Ytelabmhhnpfegaa.Hand
open Go.RowKit Go.Proofs.YtelabmhhnpfegaaW.PrintWords Go.Proofs.YtelabmhhnpfegaaW.PrintLast Go.Proofs.YtelabmhhnpfegaaW.PrintMore Go.Proofs.Ytelabmhhnpfegaa.PDynCells
attribute [local go_sem] max2_int min2_int
theorem mag_any9 (x : Int) (w : World) : Calls Try.prog 63 #[.int .i64 x] w fun e w' => e = .returned (.int .i64 (mag x)) ∧ w = w' := by
 go_enter Try.func63, Try.ntmps63
 go_wp2
 all_goals
  go_ret
  refine ⟨congrArg (fun z => Ending.returned (.int .i64 z)) ?_, rfl⟩
  unfold mag
  split <;> split <;> omega
namespace R1
variable {α : Type} {d : Kd α} {e : Nat} {w W6 : World} {p t : Nat} {cs cs' : Array Value} {N : Nat} {wc w1 : World} {v : Value} {xs : List α}
end R1
end Go.Proofs.Ytelabmhhnpfegaa.Hand
namespace Go.Proofs.Ytelabmhhnpfegaa.Hand
open Go.RowKit Go.Proofs.YtelabmhhnpfegaaW.PrintWords Go.Proofs.YtelabmhhnpfegaaW.PrintLast Go.Proofs.YtelabmhhnpfegaaW.PrintMore Go.Proofs.Ytelabmhhnpfegaa.PDynCells
attribute [local go_sem] max2_int min2_int
set_option maxHeartbeats 4000000 in
set_option maxRecDepth 100000 in
theorem insts_any9 (w : World) (x : PI) (v : Value) (h : InstC w x v) (hx : PIok x) : Calls Try.prog 31 #[v] w fun e w' => ∃ va vb, e = .returned (.tuple #[va, vb]) ∧ Aside0 (InstC w' (cutI x) va ∧ InstC w' (cutI x) vb ∧ Below w.heap.size w w') := by
 obtain ⟨A2, c2, A3, c3, A5, c5, rfl, h2, l2, h3, l3, h5, l5⟩ := h
 obtain ⟨n2, hn2⟩ : ∃ n, n = x.items.length := ⟨_, rfl⟩
 obtain ⟨n3, hn3⟩ : ∃ n, n = x.cost.length := ⟨_, rfl⟩
 obtain ⟨n5, hn5⟩ : ∃ n, n = x.sets.length := ⟨_, rfl⟩
 obtain ⟨kd, hkd⟩ : ∃ n, n = x.kind := ⟨_, rfl⟩
 obtain ⟨cap, hcap⟩ : ∃ n, n = x.cap := ⟨_, rfl⟩
 obtain ⟨sz, hsz⟩ : ∃ n, n = x.size := ⟨_, rfl⟩
 have b2 := hx.items
 have b3 := hx.cost
 have b5 := hx.sets
 rw [← hn2] at h2 l2 b2 ⊢
 rw [← hn3] at h3 l3 b3 ⊢
 rw [← hn5] at h5 l5 b5 ⊢
 rw [← hkd, ← hcap, ← hsz]
 obtain ⟨m2, hm2⟩ : ∃ m, m = min n2 40 := ⟨_, rfl⟩
 obtain ⟨m3, hm3⟩ : ∃ m, m = min n3 70 := ⟨_, rfl⟩
 obtain ⟨m5, hm5⟩ : ∃ m, m = min n5 40 := ⟨_, rfl⟩
 have e2 : (if 40 < (n2 : Int) then 40 else (n2 : Int)) = (m2 : Int) := by split <;> omega
 have e3 : (if 70 < (n3 : Int) then 70 else (n3 : Int)) = (m3 : Int) := by split <;> omega
 have e5 : (if 40 < (n5 : Int) then 40 else (n5 : Int)) = (m5 : Int) := by split <;> omega
 have k2 : m2 ≤ c2 := by omega
 have k3 : m3 ≤ c3 := by omega
 have k5 : m5 ≤ c5 := by omega
 have HF := Aside0.mk (And.intro hkd (And.intro hcap hsz))
 have HN2 := Aside0.mk (And.intro hn2 hm2)
 have HN3 := Aside0.mk (And.intro hn3 hm3)
 have HN5 := Aside0.mk (And.intro hn5 hm5)
 have H2 := Aside0.mk h2
 have H3 := Aside0.mk h3
 have H5 := Aside0.mk h5
 have HX := Aside0.mk hx
 clear hkd hcap hsz hn2 hn3 hn5 hm2 hm3 hm5 h2 h3 h5 hx
 have hu47 := Try.underlying80
 have hu54 := Try.underlying54
 have hu57 := Try.underlying57
 have hu68 := Try.underlying68
 have hu99 := Try.underlying121
 have hu101 := Try.underlying101
 have hu102 := Try.underlying102
 have hu103 := Try.underlying103
 go_enter Try.func31, Try.ntmps31
 go_wp2_with fail
 obtain ⟨W5, hW5⟩ : ∃ W5, W5 = ((((w.alloc (.cells #[.int .i64 kd, .int .i64 cap, .slice A2 n2 c2, .slice A3 n3 c3, .int .i64 sz, .slice A5 n5 c5] 80)).alloc (.cells #[.int .i64 0, .int .i64 0, .slice none 0 0, .slice none 0 0, .int .i64 0, .slice none 0 0] 54)).alloc (.cells #[.int .i64 0, .int .i64 0, .slice none 0 0, .slice none 0 0, .int .i64 0, .slice none 0 0] 57)).alloc (.cells #[.int .i64 kd, .int .i64 cap, .slice none 0 0, .slice none 0 0, .int .i64 sz, .slice none 0 0] 54)).alloc (.cells #[.int .i64 kd, .int .i64 cap, .slice none 0 0, .slice none 0 0, .int .i64 sz, .slice none 0 0] 57) := ⟨_, rfl⟩
 rw [← hW5]
 obtain ⟨p1, hp1⟩ : ∃ p, p = w.heap.size := ⟨_, rfl⟩
 rw [← hp1]
 have B5 : Aside0 (Below w.heap.size w W5) := ⟨by rw [hW5]; exact below_alloc (below_alloc (below_alloc (below_alloc (below_alloc (Below.refl _ _) _) _) _) _) _⟩
 have Q1 : Aside0 (W5.heap[p1]? = some (.cells #[.int .i64 kd, .int .i64 cap, .slice A2 n2 c2, .slice A3 n3 c3, .int .i64 sz, .slice A5 n5 c5] 80 (0, 0))) := ⟨by rw [hW5, hp1]; simp only [al_get, al_size]; repeat (first | rw [if_pos trivial] | rw [if_neg (by omega)])⟩
 have Q2 : Aside0 (W5.heap[p1 + 1]? = some (.cells #[.int .i64 0, .int .i64 0, .slice none 0 0, .slice none 0 0, .int .i64 0, .slice none 0 0] 54 (0, 0))) := ⟨by rw [hW5, hp1]; simp only [al_get, al_size]; repeat (first | rw [if_pos trivial] | rw [if_neg (by omega)])⟩
 have Q3 : Aside0 (W5.heap[p1 + 1 + 1]? = some (.cells #[.int .i64 0, .int .i64 0, .slice none 0 0, .slice none 0 0, .int .i64 0, .slice none 0 0] 57 (0, 0))) := ⟨by rw [hW5, hp1]; simp only [al_get, al_size]; repeat (first | rw [if_pos trivial] | rw [if_neg (by omega)])⟩
 have P4 : Aside0 (W5.heap[p1 + 1 + 1 + 1]? = some (.cells #[.int .i64 kd, .int .i64 cap, .slice none 0 0, .slice none 0 0, .int .i64 sz, .slice none 0 0] 54 (0, 0))) := ⟨by rw [hW5, hp1]; simp only [al_get, al_size]; repeat (first | rw [if_pos trivial] | rw [if_neg (by omega)])⟩
 have P5 : Aside0 (W5.heap[p1 + 1 + 1 + 1 + 1]? = some (.cells #[.int .i64 kd, .int .i64 cap, .slice none 0 0, .slice none 0 0, .int .i64 sz, .slice none 0 0] 57 (0, 0))) := ⟨by rw [hW5, hp1]; simp only [al_get, al_size]; repeat (first | rw [if_pos trivial] | rw [if_neg (by omega)])⟩
 have Z5 : Aside0 (W5.heap.size = p1 + 5) := ⟨by rw [hW5, hp1]; simp only [al_size]⟩
 obtain ⟨p4, hp4⟩ : ∃ p, p = p1 + 1 + 1 + 1 := ⟨_, rfl⟩
 obtain ⟨p5, hp5⟩ : ∃ p, p = p1 + 1 + 1 + 1 + 1 := ⟨_, rfl⟩
 rw [← hp5, ← hp4]
 rw [← hp4] at P4
 rw [← hp5] at P5
 have HP := Aside0.mk (And.intro hp1 (And.intro hp4 hp5))
 clear hW5 hp1 hp4 hp5
 have K0 : Aside0 (∃ AA cA AB cB, L1 W5 W5 p4 p5 kd cap sz 0 AA AB cA cB (x.items.take 0)) := ⟨none, 0, none, 0, World.ownsRow_nil _ _ _ _, World.ownsRow_nil _ _ _ _, P4.out, P5.out, Chg.refl _ _⟩
 clear P4 P5
 go_loopw [35] (fun v35 wr => ∃ i : Nat, i ≤ m2 ∧ v35 = .int .i64 i ∧ Aside0 (∃ AA cA AB cB, L1 W5 wr p4 p5 kd cap sz i AA AB cA cB (x.items.take i))) (fun v _ => m2 - (intOf v).toNat)
 case atStart => exact ⟨0, Nat.zero_le _, rfl, K0⟩
 case round =>
  clear K0
  obtain ⟨i, hi, rfl, ⟨AA, cA, AB, cB, K1⟩⟩ := hrel
  have KK := Aside0.mk K1
  clear K1
  by_cases hlt : i < m2
  ·have BW : Aside0 (Below w.heap.size w wr) := ⟨chg_below B5.out KK.out.c (fun k hk => by have := HP.out; omega)⟩
   obtain ⟨ad, rfl, a0, a1⟩ := at_T101 (Kd.C_below H2.out BW.out) (i : Int) (by omega) (by have := HN2.out; omega)
   rw [Int.toNat_natCast] at a0 a1
   have hrd : rd_T101 x.items (i : Int) = x.items.getD i z101 := by unfold rd_T101; rw [Int.toNat_natCast]
   have hnx := take_snoc (l := x.items) (i := i) (by have := HN2.out; omega) z101
   rw [hrd] at a0 a1
   obtain ⟨s, hs⟩ : ∃ s, s = x.items.getD i z101 := ⟨_, rfl⟩
   rw [← hs] at a0 a1 hnx
   have NX := Aside0.mk hnx
   clear hrd hs hnx
   go_upto_region 6 with fail
   obtain ⟨V, hV⟩ : ∃ V, V = wr.alloc (.cells #[.int .i64 s.f0, .int .i64 s.f1] 68) := ⟨_, rfl⟩
   rw [← hV]
   have BS : Aside0 (W5.heap.size ≤ V.heap.size) := ⟨by rw [hV, al_size]; have := KK.out.c.size; omega⟩
   have OC : Aside0 (V.ownsRow W5.heap.size 101 2 (.slice AA i cA) i (itC (x.items.take i))) := ⟨by rw [hV]; exact World.ownsRow.alloc KK.out.oa _⟩
   have ON : Aside0 (V.ownsRow W5.heap.size 68 2 (.slice AB i cB) i (itC (x.items.take i))) := ⟨by rw [hV]; exact World.ownsRow.alloc KK.out.ob _⟩
   have X4 : Aside0 (V.heap[p4]? = some (.cells #[.int .i64 kd, .int .i64 cap, .slice AA i cA, .slice none 0 0, .int .i64 sz, .slice none 0 0] 54 (0, 0))) := ⟨by rw [hV]; exact blk_alloc KK.out.h4 _⟩
   have X5 : Aside0 (V.heap[p5]? = some (.cells #[.int .i64 kd, .int .i64 cap, .slice AB i cB, .slice none 0 0, .int .i64 sz, .slice none 0 0] 57 (0, 0))) := ⟨by rw [hV]; exact blk_alloc KK.out.h5 _⟩
   have X7 : Aside0 (V.heap[wr.heap.size]? = some (.cells #[.int .i64 s.f0, .int .i64 s.f1] 68 (0, 0))) := ⟨by rw [hV]; exact heap_alloc_new _ _⟩
   have NA4 : Aside0 (some p4 ≠ (Value.slice AA i cA).ownBlock) := ⟨blk_apart X4.out OC.out (by decide)⟩
   have NB4 : Aside0 (some p4 ≠ (Value.slice AB i cB).ownBlock) := ⟨blk_apart X4.out ON.out (by decide)⟩
   have NA5 : Aside0 (some p5 ≠ (Value.slice AA i cA).ownBlock) := ⟨blk_apart X5.out OC.out (by decide)⟩
   have NB5 : Aside0 (some p5 ≠ (Value.slice AB i cB).ownBlock) := ⟨blk_apart X5.out ON.out (by decide)⟩
   have NA7 : Aside0 (some wr.heap.size ≠ (Value.slice AA i cA).ownBlock) := ⟨blk_apart X7.out OC.out (by decide)⟩
   have NB7 : Aside0 (some wr.heap.size ≠ (Value.slice AB i cB).ownBlock) := ⟨fun e => by have := own_lt KK.out.ob _ e.symm; omega⟩
   obtain ⟨i1, hi1, hz1a, hz1b, hz1c⟩ := info_parts info101
   obtain ⟨i2, hi2, hz2a, hz2b, hz2c⟩ := info_parts info68
   have HV := Aside0.mk hV
   clear hV a0 a1
   have hV := HV
   have q0 : V.drew.cell? ⟨p4, 2, none⟩ = some (.slice AA i cA) := (blk_cell X4.out 2).trans rfl
   have q1 : V.drew.cell? ⟨p5, 2, none⟩ = some (.slice AB i cB) := (blk_cell X5.out 2).trans rfl
   have q2 : V.drew.cell? ⟨wr.heap.size, 0, none⟩ = some (.int .i64 s.f0) := (blk_cell X7.out 0).trans rfl
   have q3 : V.drew.cell? ⟨wr.heap.size, 1, none⟩ = some (.int .i64 s.f1) := (blk_cell X7.out 1).trans rfl
   clear HV
   refine start_ (n := 18) (S := fun w' => w'.cell? ⟨p4, 2, none⟩ = some (.slice AA i cA) ∧ w'.cell? ⟨p5, 2, none⟩ = some (.slice AB i cB) ∧ w'.cell? ⟨wr.heap.size, 0, none⟩ = some (.int .i64 s.f0) ∧ w'.cell? ⟨wr.heap.size, 1, none⟩ = some (.int .i64 s.f1)) (ds := [15, 17]) #[false, false, false, false, false, false, false, false, false, false, false, false, false, false, false, false, false, false] (by kernel_rfl) rfl rfl ⟨q0, q1, q2, q3⟩ (fun hHeld => ?_)
   clear q0 q1 q2 q3
   refine puU 0 (some 39) ?_ rfl rfl (by kernel_rfl) (fun _ _ _ h => h) (Or.inl ⟨by rfl, ?_⟩) ?_ ?_ ?_
   rotate_left
   ·intro w'
    go_simp
    with_reducible rfl
   rotate_left
   ·simp only [Act.put, lsA, lsB, lsC]
    rfl
   refine taU 1 (some 40) ?_ rfl rfl (by kernel_rfl) (fun _ _ _ h => h) (Or.inl ⟨by rfl, ?_⟩) hHeld ?_ ?_ ?_
   rotate_left
   ·rintro w' ⟨s0, s1, s2, s3⟩
    go_simp
    with_reducible rfl
   rotate_left
   ·simp only [Act.put, lsA, lsB, lsC]
    rfl
   refine puU 2 (some 41) ?_ rfl rfl (by kernel_rfl) (fun _ _ _ h => h) (Or.inl ⟨by rfl, ?_⟩) ?_ ?_ ?_
   rotate_left
   ·intro w'
    go_simp
    with_reducible rfl
   rotate_left
   ·simp only [Act.put, lsA, lsB, lsC]
    rfl
   refine taU 3 (some 42) ?_ rfl rfl (by kernel_rfl) (fun _ _ _ h => h) (Or.inl ⟨by rfl, ?_⟩) hHeld ?_ ?_ ?_
   rotate_left
   ·rintro w' ⟨s0, s1, s2, s3⟩
    go_simp
    with_reducible rfl
   rotate_left
   ·simp only [Act.put, lsA, lsB, lsC]
    rfl
   refine puU 4 (some 43) ?_ rfl rfl (by kernel_rfl) (fun _ _ _ h => h) (Or.inl ⟨by rfl, ?_⟩) ?_ ?_ ?_
   rotate_left
   ·intro w'
    go_simp
    with_reducible rfl
   rotate_left
   ·simp only [Act.put, lsA, lsB, lsC]
    rfl
   refine taU 5 (some 44) ?_ rfl rfl (by kernel_rfl) (fun _ _ _ h => h) (Or.inl ⟨by rfl, ?_⟩) hHeld ?_ ?_ ?_
   rotate_left
   ·rintro w' ⟨s0, s1, s2, s3⟩
    go_simp
    with_reducible rfl
   rotate_left
   ·simp only [Act.put, lsA, lsB, lsC]
    rfl
   refine puU 6 (some 45) ?_ rfl rfl (by kernel_rfl) (fun _ _ _ h => h) (Or.inl ⟨by rfl, ?_⟩) ?_ ?_ ?_
   rotate_left
   ·intro w'
    go_simp
    with_reducible rfl
   rotate_left
   ·simp only [Act.put, lsA, lsB, lsC]
    rfl
   refine puU 9 (some 48) ?_ rfl rfl (by kernel_rfl) (fun _ _ _ h => h) (Or.inl ⟨by rfl, ?_⟩) ?_ ?_ ?_
   rotate_left
   ·intro w'
    go_simp
    with_reducible rfl
   rotate_left
   ·simp only [Act.put, lsA, lsB, lsC]
    rfl
   refine taU 10 (some 49) ?_ rfl rfl (by kernel_rfl) (fun _ _ _ h => h) (Or.inl ⟨by rfl, ?_⟩) hHeld ?_ ?_ ?_
   rotate_left
   ·rintro w' ⟨s0, s1, s2, s3⟩
    go_simp
    with_reducible rfl
   rotate_left
   ·simp only [Act.put, lsA, lsB, lsC]
    rfl
   refine taU 11 (some 50) ?_ rfl rfl (by kernel_rfl) (fun _ _ _ h => h) (Or.inl ⟨by rfl, ?_⟩) hHeld ?_ ?_ ?_
   rotate_left
   ·rintro w' ⟨s0, s1, s2, s3⟩
    go_simp
    with_reducible rfl
   rotate_left
   ·simp only [Act.put, lsA, lsB, lsC]
    rfl
   have TT0 := Aside0.mk (Tw.start OC.out ON.out BS.out)
   clear hHeld
   refine join_ (σ := Value × Value × (Nat × Nat) × Nat × Nat) 3 #[true, true, true, true, true, true, true, true, true, true, true, true, true, true, true, false, false, false] (fun jj => [(46, jj.1), (51, jj.2.1), (47, .slice (some ⟨jj.2.2.1.1, 0, none⟩) (i + 1) jj.2.2.1.2), (52, .slice (some ⟨jj.2.2.2.1, 0, none⟩) (i + 1) jj.2.2.2.2), (53, .pointer (some ⟨p4, 2, none⟩))]) (fun jj w' => Tw W5.heap.size 2 2 101 68 (.slice AA i cA) (.slice AB i cB) V w' (.slice (some ⟨jj.2.2.1.1, 0, none⟩) (i + 1) jj.2.2.1.2) (i + 1) (itC (x.items.take i) ++ [.int .i64 s.f0, .int .i64 s.f1]) (.slice (some ⟨jj.2.2.2.1, 0, none⟩) (i + 1) jj.2.2.2.2) (i + 1) (itC (x.items.take i) ++ [.int .i64 s.f0, .int .i64 s.f1])) ?_ ?_
   ·rintro ⟨y1, y2, ⟨g1, c1⟩, g2, c2⟩ w5 HT5
    have T5 := Aside0.mk HT5
    clear HT5
    refine norm_ (a' := ?_) ?_ ?_
    rotate_left
    ·simp only [putAll, Act.put, lsA, lsB, lsC]
     rfl
    refine last_ (i := 15) (N := none) #[true, true, true, true, true, true, true, true, true, true, true, true, true, true, true, true, false, false] rfl rfl (by kernel_rfl) (by decide) (fun K hK => ?_)
    have L5 := Aside0.mk (T5.out.keep X4.out NA4.out NB4.out)
    have h0 := (blk_cell L5.out 2).trans rfl
    have h1 := blk_frozen L5.out 2
    refine skip_ (w1 := ?_) (by rfl) rfl ?_ ?_
    rotate_left
    ·go_simp
     rfl
    refine hK.out _ _ ?_
    clear hK K h0 h1
    refine puU 16 (some 54) ?_ rfl rfl (by kernel_rfl) (fun _ _ _ h => h) (Or.inl ⟨by rfl, ?_⟩) ?_ ?_ ?_
    rotate_left
    ·intro w'
     go_simp
     with_reducible rfl
    rotate_left
    ·simp only [Act.put, lsA, lsB, lsC]
     rfl
    refine last_ (i := 17) (N := none) #[true, true, true, true, true, true, true, true, true, true, true, true, true, true, true, true, true, true] rfl rfl (by kernel_rfl) (by decide) (fun K hK => ?_)
    have L6 := Aside0.mk (blk_far (T5.out.keep X5.out NA5.out NB5.out) (p := ⟨p4, 2, none⟩) (show p5 ≠ p4 by have := HP.out; omega) (.slice (some ⟨g1, 0, none⟩) (i + 1) c1))
    have h0 := (blk_cell L6.out 2).trans rfl
    have h1 := blk_frozen L6.out 2
    refine skip_ (w1 := ?_) (by rfl) rfl ?_ ?_
    rotate_left
    ·go_simp
     rfl
    refine hK.out _ _ ?_
    clear hK K h0 h1
    refine done_ (by kernel_rfl) ?_
    have t5 := T5.out
    rw [hV.out] at t5
    dsimp only at t5
    have N9 := Aside0.mk (KK.out.next (by have := HP.out; omega) s t5)
    clear t5
    rw [← NX.out] at N9
    go_wp2_with fail
    go_roundw
    case measure => simp [intOf]; omega
    case rel => exact ⟨i + 1, by omega, by go_num, ⟨_, _, _, _, N9.out⟩⟩
   ·intro hJ
    have HJ := fun (y1 y2 : Value) (g1 c1 g2 c2 : Nat) w' h => hJ ⟨y1, y2, ⟨g1, c1⟩, g2, c2⟩ w' h
    clear hJ
    simp only [putAll, Act.put, lsA, lsB, lsC] at HJ
    refine two_ (i := 7) (j := 12) (Ni := some 46) (Nj := some 51) #[true, true, true, true, true, true, true, true, false, true, true, true, false, false, false, false, false, false] #[true, true, true, true, true, true, true, false, false, true, true, true, true, false, false, false, false, false] rfl rfl rfl rfl (by kernel_rfl) (by decide) (by decide) (fun K hK => ?_) (fun K hK => ?_)
    ·refine value_ (v := .slice (some ⟨(V.drew).heap.size, 0, none⟩) 1 1) (w1 := (V.drew).alloc (.cells #[.int .i64 s.f0, .int .i64 s.f1] 101)) (by rfl) rfl ?_ ?_
     ·go_simp
     ·have TT1 := Aside0.mk (TT0.out.alloc (.cells #[.int .i64 s.f0, .int .i64 s.f1] 101))
      have B1 := Aside0.mk (heap_alloc_new (V.drew) (.cells #[.int .i64 s.f0, .int .i64 s.f1] 101))
      refine hK.out _ _ ⟨(blk_cell (TT1.out.keep X4.out NA4.out NB4.out) 2).trans rfl, (blk_cell (TT1.out.keep X5.out NA5.out NB5.out) 2).trans rfl, (blk_cell (TT1.out.keep X7.out NA7.out NB7.out) 0).trans rfl, (blk_cell (TT1.out.keep X7.out NA7.out NB7.out) 1).trans rfl⟩ (fun hHeld => ?_)
      clear hK hHeld K
      refine norm_ (a' := ?_) ?_ ?_
      rotate_left
      ·show Act.put _ (some 46) _ = _
       simp only [Act.put, lsA, lsB, lsC]
       rfl
      refine two_ (i := 8) (j := 12) (Ni := some 47) (Nj := some 51) #[true, true, true, true, true, true, true, true, true, true, true, true, false, false, false, false, false, false] #[true, true, true, true, true, true, true, true, false, true, true, true, true, false, false, false, false, false] rfl rfl rfl rfl (by kernel_rfl) (by decide) (by decide) (fun K hK => ?_) (fun K hK => ?_)
      ·refine step_append_lies _ (by rfl) _ _ _ (by rfl) W5.heap.size 101 i1 _ 2 16 Try.underlying51 hi1 hz1a hz1b hz1c rfl (by omega) _ i (itC (x.items.take i)) (by rfl) TT1.out.o1 _ 1 1 [.int .i64 s.f0, .int .i64 s.f1] (by rfl) (by rfl) (World.news_of_block (cs := #[.int .i64 s.f0, .int .i64 s.f1]) (t := 101) (fr := (0, 0)) B1.out) (by simp [Value.oneCell']) (by omega) (by unfold maxLen; omega) (by omega) TT1.out.base_le _ rfl ?_
       intro g1 c1 w2 oo gg aa _
       have TT2 := Aside0.mk (Tw.grow1 (by decide) TT1.out oo gg aa)
       clear oo gg aa
       refine hK.out _ _ ⟨(blk_cell (TT2.out.keep X4.out NA4.out NB4.out) 2).trans rfl, (blk_cell (TT2.out.keep X5.out NA5.out NB5.out) 2).trans rfl, (blk_cell (TT2.out.keep X7.out NA7.out NB7.out) 0).trans rfl, (blk_cell (TT2.out.keep X7.out NA7.out NB7.out) 1).trans rfl⟩ (fun hHeld => ?_)
       clear hK hHeld K
       refine norm_ (a' := ?_) ?_ ?_
       rotate_left
       ·show Act.put _ (some 47) _ = _
        simp only [Act.put, lsA, lsB, lsC]
        rfl
       refine puU 14 (some 53) ?_ rfl rfl (by kernel_rfl) (fun _ _ _ h => h) (Or.inl ⟨by rfl, ?_⟩) ?_ ?_ ?_
       rotate_left
       ·intro w'
        go_simp
        with_reducible rfl
       rotate_left
       ·simp only [Act.put, lsA, lsB, lsC]
        rfl
       refine one_ (i := 12) (N := some 51) #[true, true, true, true, true, true, true, true, true, true, true, true, true, false, true, false, false, false] rfl rfl (by kernel_rfl) (by decide) (fun K hK => ?_)
       refine value_ (v := .slice (some ⟨(w2).heap.size, 0, none⟩) 1 1) (w1 := (w2).alloc (.cells #[.int .i64 s.f0, .int .i64 s.f1] 68)) (by rfl) rfl ?_ ?_
       ·go_simp
       ·have TT3 := Aside0.mk (TT2.out.alloc (.cells #[.int .i64 s.f0, .int .i64 s.f1] 68))
        have B3 := Aside0.mk (heap_alloc_new (w2) (.cells #[.int .i64 s.f0, .int .i64 s.f1] 68))
        refine hK.out _ _ ⟨(blk_cell (TT3.out.keep X4.out NA4.out NB4.out) 2).trans rfl, (blk_cell (TT3.out.keep X5.out NA5.out NB5.out) 2).trans rfl, (blk_cell (TT3.out.keep X7.out NA7.out NB7.out) 0).trans rfl, (blk_cell (TT3.out.keep X7.out NA7.out NB7.out) 1).trans rfl⟩ (fun hHeld => ?_)
        clear hK hHeld K
        refine norm_ (a' := ?_) ?_ ?_
        rotate_left
        ·show Act.put _ (some 51) _ = _
         simp only [Act.put, lsA, lsB, lsC]
         rfl
        refine one_ (i := 13) (N := some 52) #[true, true, true, true, true, true, true, true, true, true, true, true, true, true, true, false, false, false] rfl rfl (by kernel_rfl) (by decide) (fun K hK => ?_)
        refine step_append_lies _ (by rfl) _ _ _ (by rfl) W5.heap.size 68 i2 _ 2 16 Try.underlying44 hi2 hz2a hz2b hz2c rfl (by omega) _ i (itC (x.items.take i)) (by rfl) TT3.out.o2 _ 1 1 [.int .i64 s.f0, .int .i64 s.f1] (by rfl) (by rfl) (World.news_of_block (cs := #[.int .i64 s.f0, .int .i64 s.f1]) (t := 68) (fr := (0, 0)) B3.out) (by simp [Value.oneCell']) (by omega) (by unfold maxLen; omega) (by omega) TT3.out.base_le _ rfl ?_
        intro g2 c2 w4 oo gg aa _
        have TT4 := Aside0.mk (Tw.grow2 (by decide) TT3.out oo gg aa)
        clear oo gg aa
        refine hK.out _ _ ⟨(blk_cell (TT4.out.keep X4.out NA4.out NB4.out) 2).trans rfl, (blk_cell (TT4.out.keep X5.out NA5.out NB5.out) 2).trans rfl, (blk_cell (TT4.out.keep X7.out NA7.out NB7.out) 0).trans rfl, (blk_cell (TT4.out.keep X7.out NA7.out NB7.out) 1).trans rfl⟩ (fun hHeld => ?_)
        clear hK hHeld K
        refine norm_ (a' := ?_) ?_ ?_
        rotate_left
        ·show Act.put _ (some 52) _ = _
         simp only [Act.put, lsA, lsB, lsC]
         rfl
        exact HJ _ _ _ _ _ _ _ TT4.out
      ·refine value_ (v := .slice (some ⟨((V.drew).alloc (.cells #[.int .i64 s.f0, .int .i64 s.f1] 101)).heap.size, 0, none⟩) 1 1) (w1 := ((V.drew).alloc (.cells #[.int .i64 s.f0, .int .i64 s.f1] 101)).alloc (.cells #[.int .i64 s.f0, .int .i64 s.f1] 68)) (by rfl) rfl ?_ ?_
       ·go_simp
       ·have TT5 := Aside0.mk (TT1.out.alloc (.cells #[.int .i64 s.f0, .int .i64 s.f1] 68))
        have B5 := Aside0.mk (heap_alloc_new ((V.drew).alloc (.cells #[.int .i64 s.f0, .int .i64 s.f1] 101)) (.cells #[.int .i64 s.f0, .int .i64 s.f1] 68))
        have C5 := Aside0.mk (blk_alloc B1.out (.cells #[.int .i64 s.f0, .int .i64 s.f1] 68))
        refine hK.out _ _ ⟨(blk_cell (TT5.out.keep X4.out NA4.out NB4.out) 2).trans rfl, (blk_cell (TT5.out.keep X5.out NA5.out NB5.out) 2).trans rfl, (blk_cell (TT5.out.keep X7.out NA7.out NB7.out) 0).trans rfl, (blk_cell (TT5.out.keep X7.out NA7.out NB7.out) 1).trans rfl⟩ (fun hHeld => ?_)
        clear hK hHeld K
        refine norm_ (a' := ?_) ?_ ?_
        rotate_left
        ·show Act.put _ (some 51) _ = _
         simp only [Act.put, lsA, lsB, lsC]
         rfl
        refine one_ (i := 8) (N := some 47) #[true, true, true, true, true, true, true, true, true, true, true, true, true, false, false, false, false, false] rfl rfl (by kernel_rfl) (by decide) (fun K hK => ?_)
        refine step_append_lies _ (by rfl) _ _ _ (by rfl) W5.heap.size 101 i1 _ 2 16 Try.underlying51 hi1 hz1a hz1b hz1c rfl (by omega) _ i (itC (x.items.take i)) (by rfl) TT5.out.o1 _ 1 1 [.int .i64 s.f0, .int .i64 s.f1] (by rfl) (by rfl) (World.news_of_block (cs := #[.int .i64 s.f0, .int .i64 s.f1]) (t := 101) (fr := (0, 0)) C5.out) (by simp [Value.oneCell']) (by omega) (by unfold maxLen; omega) (by omega) TT5.out.base_le _ rfl ?_
        intro g1 c1 w6 oo gg aa _
        have TT6 := Aside0.mk (Tw.grow1 (by decide) TT5.out oo gg aa)
        have C6 := Aside0.mk (Tw.blk2 (by decide) TT5.out B5.out gg)
        clear oo gg aa
        refine hK.out _ _ ⟨(blk_cell (TT6.out.keep X4.out NA4.out NB4.out) 2).trans rfl, (blk_cell (TT6.out.keep X5.out NA5.out NB5.out) 2).trans rfl, (blk_cell (TT6.out.keep X7.out NA7.out NB7.out) 0).trans rfl, (blk_cell (TT6.out.keep X7.out NA7.out NB7.out) 1).trans rfl⟩ (fun hHeld => ?_)
        clear hK hHeld K
        refine norm_ (a' := ?_) ?_ ?_
        rotate_left
        ·show Act.put _ (some 47) _ = _
         simp only [Act.put, lsA, lsB, lsC]
         rfl
        refine puU 14 (some 53) ?_ rfl rfl (by kernel_rfl) (fun _ _ _ h => h) (Or.inl ⟨by rfl, ?_⟩) ?_ ?_ ?_
        rotate_left
        ·intro w'
         go_simp
         with_reducible rfl
        rotate_left
        ·simp only [Act.put, lsA, lsB, lsC]
         rfl
        refine one_ (i := 13) (N := some 52) #[true, true, true, true, true, true, true, true, true, true, true, true, true, true, true, false, false, false] rfl rfl (by kernel_rfl) (by decide) (fun K hK => ?_)
        refine step_append_lies _ (by rfl) _ _ _ (by rfl) W5.heap.size 68 i2 _ 2 16 Try.underlying44 hi2 hz2a hz2b hz2c rfl (by omega) _ i (itC (x.items.take i)) (by rfl) TT6.out.o2 _ 1 1 [.int .i64 s.f0, .int .i64 s.f1] (by rfl) (by rfl) (World.news_of_block (cs := #[.int .i64 s.f0, .int .i64 s.f1]) (t := 68) (fr := (0, 0)) C6.out) (by simp [Value.oneCell']) (by omega) (by unfold maxLen; omega) (by omega) TT6.out.base_le _ rfl ?_
        intro g2 c2 w7 oo gg aa _
        have TT7 := Aside0.mk (Tw.grow2 (by decide) TT6.out oo gg aa)
        clear oo gg aa
        refine hK.out _ _ ⟨(blk_cell (TT7.out.keep X4.out NA4.out NB4.out) 2).trans rfl, (blk_cell (TT7.out.keep X5.out NA5.out NB5.out) 2).trans rfl, (blk_cell (TT7.out.keep X7.out NA7.out NB7.out) 0).trans rfl, (blk_cell (TT7.out.keep X7.out NA7.out NB7.out) 1).trans rfl⟩ (fun hHeld => ?_)
        clear hK hHeld K
        refine norm_ (a' := ?_) ?_ ?_
        rotate_left
        ·show Act.put _ (some 52) _ = _
         simp only [Act.put, lsA, lsB, lsC]
         rfl
        exact HJ _ _ _ _ _ _ _ TT7.out
    ·refine value_ (v := .slice (some ⟨(V.drew).heap.size, 0, none⟩) 1 1) (w1 := (V.drew).alloc (.cells #[.int .i64 s.f0, .int .i64 s.f1] 68)) (by rfl) rfl ?_ ?_
     ·go_simp
     ·have TT8 := Aside0.mk (TT0.out.alloc (.cells #[.int .i64 s.f0, .int .i64 s.f1] 68))
      have B8 := Aside0.mk (heap_alloc_new (V.drew) (.cells #[.int .i64 s.f0, .int .i64 s.f1] 68))
      refine hK.out _ _ ⟨(blk_cell (TT8.out.keep X4.out NA4.out NB4.out) 2).trans rfl, (blk_cell (TT8.out.keep X5.out NA5.out NB5.out) 2).trans rfl, (blk_cell (TT8.out.keep X7.out NA7.out NB7.out) 0).trans rfl, (blk_cell (TT8.out.keep X7.out NA7.out NB7.out) 1).trans rfl⟩ (fun hHeld => ?_)
      clear hK hHeld K
      refine norm_ (a' := ?_) ?_ ?_
      rotate_left
      ·show Act.put _ (some 51) _ = _
       simp only [Act.put, lsA, lsB, lsC]
       rfl
      refine one_ (i := 7) (N := some 46) #[true, true, true, true, true, true, true, true, false, true, true, true, true, false, false, false, false, false] rfl rfl (by kernel_rfl) (by decide) (fun K hK => ?_)
      refine value_ (v := .slice (some ⟨((V.drew).alloc (.cells #[.int .i64 s.f0, .int .i64 s.f1] 68)).heap.size, 0, none⟩) 1 1) (w1 := ((V.drew).alloc (.cells #[.int .i64 s.f0, .int .i64 s.f1] 68)).alloc (.cells #[.int .i64 s.f0, .int .i64 s.f1] 101)) (by rfl) rfl ?_ ?_
      ·go_simp
      ·have TT9 := Aside0.mk (TT8.out.alloc (.cells #[.int .i64 s.f0, .int .i64 s.f1] 101))
       have B9 := Aside0.mk (heap_alloc_new ((V.drew).alloc (.cells #[.int .i64 s.f0, .int .i64 s.f1] 68)) (.cells #[.int .i64 s.f0, .int .i64 s.f1] 101))
       have C9 := Aside0.mk (blk_alloc B8.out (.cells #[.int .i64 s.f0, .int .i64 s.f1] 101))
       refine hK.out _ _ ⟨(blk_cell (TT9.out.keep X4.out NA4.out NB4.out) 2).trans rfl, (blk_cell (TT9.out.keep X5.out NA5.out NB5.out) 2).trans rfl, (blk_cell (TT9.out.keep X7.out NA7.out NB7.out) 0).trans rfl, (blk_cell (TT9.out.keep X7.out NA7.out NB7.out) 1).trans rfl⟩ (fun hHeld => ?_)
       clear hK hHeld K
       refine norm_ (a' := ?_) ?_ ?_
       rotate_left
       ·show Act.put _ (some 46) _ = _
        simp only [Act.put, lsA, lsB, lsC]
        rfl
       refine one_ (i := 8) (N := some 47) #[true, true, true, true, true, true, true, true, true, true, true, true, true, false, false, false, false, false] rfl rfl (by kernel_rfl) (by decide) (fun K hK => ?_)
       refine step_append_lies _ (by rfl) _ _ _ (by rfl) W5.heap.size 101 i1 _ 2 16 Try.underlying51 hi1 hz1a hz1b hz1c rfl (by omega) _ i (itC (x.items.take i)) (by rfl) TT9.out.o1 _ 1 1 [.int .i64 s.f0, .int .i64 s.f1] (by rfl) (by rfl) (World.news_of_block (cs := #[.int .i64 s.f0, .int .i64 s.f1]) (t := 101) (fr := (0, 0)) B9.out) (by simp [Value.oneCell']) (by omega) (by unfold maxLen; omega) (by omega) TT9.out.base_le _ rfl ?_
       intro g1 c1 w10 oo gg aa _
       have TT10 := Aside0.mk (Tw.grow1 (by decide) TT9.out oo gg aa)
       have C10 := Aside0.mk (Tw.blk2 (by decide) TT9.out C9.out gg)
       clear oo gg aa
       refine hK.out _ _ ⟨(blk_cell (TT10.out.keep X4.out NA4.out NB4.out) 2).trans rfl, (blk_cell (TT10.out.keep X5.out NA5.out NB5.out) 2).trans rfl, (blk_cell (TT10.out.keep X7.out NA7.out NB7.out) 0).trans rfl, (blk_cell (TT10.out.keep X7.out NA7.out NB7.out) 1).trans rfl⟩ (fun hHeld => ?_)
       clear hK hHeld K
       refine norm_ (a' := ?_) ?_ ?_
       rotate_left
       ·show Act.put _ (some 47) _ = _
        simp only [Act.put, lsA, lsB, lsC]
        rfl
       refine puU 14 (some 53) ?_ rfl rfl (by kernel_rfl) (fun _ _ _ h => h) (Or.inl ⟨by rfl, ?_⟩) ?_ ?_ ?_
       rotate_left
       ·intro w'
        go_simp
        with_reducible rfl
       rotate_left
       ·simp only [Act.put, lsA, lsB, lsC]
        rfl
       refine one_ (i := 13) (N := some 52) #[true, true, true, true, true, true, true, true, true, true, true, true, true, true, true, false, false, false] rfl rfl (by kernel_rfl) (by decide) (fun K hK => ?_)
       refine step_append_lies _ (by rfl) _ _ _ (by rfl) W5.heap.size 68 i2 _ 2 16 Try.underlying44 hi2 hz2a hz2b hz2c rfl (by omega) _ i (itC (x.items.take i)) (by rfl) TT10.out.o2 _ 1 1 [.int .i64 s.f0, .int .i64 s.f1] (by rfl) (by rfl) (World.news_of_block (cs := #[.int .i64 s.f0, .int .i64 s.f1]) (t := 68) (fr := (0, 0)) C10.out) (by simp [Value.oneCell']) (by omega) (by unfold maxLen; omega) (by omega) TT10.out.base_le _ rfl ?_
       intro g2 c2 w11 oo gg aa _
       have TT11 := Aside0.mk (Tw.grow2 (by decide) TT10.out oo gg aa)
       clear oo gg aa
       refine hK.out _ _ ⟨(blk_cell (TT11.out.keep X4.out NA4.out NB4.out) 2).trans rfl, (blk_cell (TT11.out.keep X5.out NA5.out NB5.out) 2).trans rfl, (blk_cell (TT11.out.keep X7.out NA7.out NB7.out) 0).trans rfl, (blk_cell (TT11.out.keep X7.out NA7.out NB7.out) 1).trans rfl⟩ (fun hHeld => ?_)
       clear hK hHeld K
       refine norm_ (a' := ?_) ?_ ?_
       rotate_left
       ·show Act.put _ (some 52) _ = _
        simp only [Act.put, lsA, lsB, lsC]
        rfl
       exact HJ _ _ _ _ _ _ _ TT11.out
  ·obtain rfl : m2 = i := by omega
   clear hlt hi
   obtain ⟨W6, hW6⟩ : ∃ W, W = wr := ⟨_, rfl⟩
   rw [← hW6] at KK ⊢
   clear hW6
   have q3 : W6.cell? ⟨p1, 3, none⟩ = some (.slice A3 n3 c3) := (blk_cell (KK.out.c.blk Q1.out (by have := HP.out; omega)) 3).trans rfl
   go_wp2_with fail
   clear q3
   have B6 : Aside0 (Below w.heap.size w W6) := ⟨chg_below B5.out KK.out.c (fun k hk => by have := HP.out; omega)⟩
   have K0 : Aside0 (∃ vA vB, L2 (Kd.slice 2 (Kd.int .i64)) 30 30 w W6 W6 p4 p5 (fun v => #[.int .i64 kd, .int .i64 cap, .slice AA m2 cA, v, .int .i64 sz, .slice none 0 0]) (fun v => #[.int .i64 kd, .int .i64 cap, .slice AB m2 cB, v, .int .i64 sz, .slice none 0 0]) 0 vA vB ((x.cost.take 0).map (·.take 70))) := ⟨.slice none 0 0, .slice none 0 0, ⟨P2.nil _ _ _ _ _ _, Nat.le_refl _, Nat.le_refl _, KK.out.h4, KK.out.h5, B6.out, B6.out.size, Chg.refl _ _⟩, ⟨none, 0, rfl⟩, ⟨none, 0, rfl⟩⟩
   go_loopw [64] (fun v64 wr => ∃ i : Nat, i ≤ m3 ∧ v64 = .int .i64 i ∧ Aside0 (∃ vA vB, L2 (Kd.slice 2 (Kd.int .i64)) 30 30 w W6 wr p4 p5 (fun v => #[.int .i64 kd, .int .i64 cap, .slice AA m2 cA, v, .int .i64 sz, .slice none 0 0]) (fun v => #[.int .i64 kd, .int .i64 cap, .slice AB m2 cB, v, .int .i64 sz, .slice none 0 0]) i vA vB ((x.cost.take i).map (·.take 70)))) (fun v _ => m3 - (intOf v).toNat)
   case atStart => exact ⟨0, Nat.zero_le _, rfl, K0⟩
   case round =>
    clear K0
    obtain ⟨i, hi, rfl, ⟨vA, vB, K2⟩⟩ := hrel
    obtain ⟨⟨FA, fA, rfl⟩, FB, fB, rfl⟩ := And.intro K2.a K2.b
    have KK2 := Aside0.mk K2
    clear K2
    by_cases hlt : i < m3
    ·obtain ⟨ad, AY, cY, rfl, a0', ly, hy⟩ := at_L2 H3.out (i : Int) (by omega) (by have := HN3.out; omega)
     have hrd : rd_L2 x.cost (i : Int) = x.cost.getD i [] := by unfold rd_L2; rw [Int.toNat_natCast]
     have a0 := pw_cell_below KK2.out.s.bw a0'
     rw [Int.toNat_natCast, hrd] at a0
     rw [hrd] at ly hy
     have hl : i < x.cost.length := by have := HN3.out; omega
     have hnx := take_snoc (l := x.cost) hl []
     have hyl : (x.cost.getD i []).length ≤ 17592186044416 := HX.out.rows _ (by
      rw [List.getD_eq_getElem?_getD, List.getElem?_eq_getElem hl]
      exact List.getElem_mem hl)
     obtain ⟨y, hy1⟩ : ∃ y, y = x.cost.getD i [] := ⟨_, rfl⟩
     rw [← hy1] at a0 ly hy hnx hyl
     obtain ⟨ym, hym⟩ : ∃ z, z = y.take 70 := ⟨_, rfl⟩
     obtain ⟨nY, hnY⟩ : ∃ n, n = y.length := ⟨_, rfl⟩
     obtain ⟨mY, hmY⟩ : ∃ n, n = ym.length := ⟨_, rfl⟩
     have hmin : mY = min nY 70 := by rw [hmY, hym, List.length_take, hnY, Nat.min_comm]
     have ey : (if 70 < (nY : Int) then 70 else (nY : Int)) = (mY : Int) := by split <;> omega
     have HY : Aside0 ((Kd.int .i64).C w AY ym.length ym) := ⟨by rw [hym]; exact C_take hy 70⟩
     have LY : Aside0 (ym.length ≤ 17592186044416) := ⟨by rw [← hmY, hmin]; omega⟩
     obtain ⟨l0, hl0⟩ : ∃ l, l = (x.cost.take i).map (·.take 70) := ⟨_, rfl⟩
     have LL : Aside0 (l0.length = i ∧ i ≤ 70) := ⟨by rw [hl0, List.length_map, List.length_take]; have := HN3.out; omega⟩
     have NX : Aside0 ((x.cost.take (i + 1)).map (·.take 70) = l0 ++ [ym]) := ⟨by rw [hnx, List.map_append, ← hl0, hym]; rfl⟩
     have EM := Aside0.mk hmY
     rw [← hl0] at KK2
     rw [← hnY] at a0 ly
     have kY : mY ≤ cY := by omega
     clear hrd hnx hy1 hym hnY hmY hy hyl hl0 a0' hl hmin
     go_upto_region 12 with fail
     obtain rfl := EM.out
     clear ey kY a0 ly EM
     have q0 : wr.drew.cell? ⟨p4, 3, none⟩ = some (.slice FA i fA) := (blk_cell KK2.out.s.h4 3).trans rfl
     have q1 : wr.drew.cell? ⟨p5, 3, none⟩ = some (.slice FB i fB) := (blk_cell KK2.out.s.h5 3).trans rfl
     have KK := KK2
     refine start_ (n := 16) (S := fun w' => w'.cell? ⟨p4, 3, none⟩ = some (.slice FA i fA) ∧ w'.cell? ⟨p5, 3, none⟩ = some (.slice FB i fB)) (ds := [13, 15]) #[false, false, false, false, false, false, false, false, false, false, false, false, false, false, false, false] (by kernel_rfl) rfl rfl ⟨q0, q1⟩ (fun hHeld => ?_)
     clear q0 q1
     refine puU 0 (some 73) ?_ rfl rfl (by kernel_rfl) (fun _ _ _ h => h) (Or.inl ⟨by rfl, ?_⟩) ?_ ?_ ?_
     rotate_left
     ·intro w'
      go_simp
      with_reducible rfl
     rotate_left
     ·simp only [Act.put, lsA, lsB, lsC]
      rfl
     refine taU 1 (some 74) ?_ rfl rfl (by kernel_rfl) (fun _ _ _ h => h) (Or.inl ⟨by rfl, ?_⟩) hHeld ?_ ?_ ?_
     rotate_left
     ·rintro w' ⟨s0, s1⟩
      go_simp
      with_reducible rfl
     rotate_left
     ·simp only [Act.put, lsA, lsB, lsC]
      rfl
     refine puU 2 (some 75) ?_ rfl rfl (by kernel_rfl) (fun _ _ _ h => h) (Or.inl ⟨by rfl, ?_⟩) ?_ ?_ ?_
     rotate_left
     ·intro w'
      go_simp
      with_reducible rfl
     rotate_left
     ·simp only [Act.put, lsA, lsB, lsC]
      rfl
     refine puU 6 (some 79) ?_ rfl rfl (by kernel_rfl) (fun _ _ _ h => h) (Or.inl ⟨by rfl, ?_⟩) ?_ ?_ ?_
     rotate_left
     ·intro w'
      go_simp
      with_reducible rfl
     rotate_left
     ·simp only [Act.put, lsA, lsB, lsC]
      rfl
     refine taU 7 (some 80) ?_ rfl rfl (by kernel_rfl) (fun _ _ _ h => h) (Or.inl ⟨by rfl, ?_⟩) hHeld ?_ ?_ ?_
     rotate_left
     ·rintro w' ⟨s0, s1⟩
      go_simp
      with_reducible rfl
     rotate_left
     ·simp only [Act.put, lsA, lsB, lsC]
      rfl
     refine puU 8 (some 81) ?_ rfl rfl (by kernel_rfl) (fun _ _ _ h => h) (Or.inl ⟨by rfl, ?_⟩) ?_ ?_ ?_
     rotate_left
     ·intro w'
      go_simp
      with_reducible rfl
     rotate_left
     ·simp only [Act.put, lsA, lsB, lsC]
      rfl
     have R0 := Aside0.mk (KK.out.s.drew)
     clear hHeld
     refine one_ (i := 3) (N := some 76) #[true, true, true, true, false, false, true, true, true, false, false, false, false, false, false, false] rfl rfl (by kernel_rfl) (by decide) (fun K hK => ?_)
     refine copy_row (base := W6.heap.size) (Nat.le_trans R0.out.b6 R0.out.nn) (by rfl) _ _ 30 2 (by rfl) Try.underlying30 infoR2 ym AY cY (by rfl) (by rfl) (Kd.C_below HY.out R0.out.bw) LY.out ?_
     intro vA1 wcA RR bb
     obtain ⟨XAA, qA, rfl⟩ := Kd.R_slice RR
     have YA := Aside0.mk (Kd.R_mono RR (fun k (hk : _ ≤ k) => Nat.le_trans R0.out.nn hk))
     have RA1 := Aside0.mk (R0.out.new bb)
     refine hK.out _ _ ⟨(blk_cell RA1.out.h4 3).trans rfl, (blk_cell RA1.out.h5 3).trans rfl⟩ (fun hHeld => ?_)
     clear hK hHeld K RR bb
     refine norm_ (a' := ?_) ?_ ?_
     rotate_left
     ·show Act.put _ (some 76) _ = _
      simp only [Act.put, lsA, lsB, lsC]
      rfl
     refine one_ (i := 4) (N := some 77) #[true, true, true, true, true, false, true, true, true, false, false, false, false, false, false, false] rfl rfl (by kernel_rfl) (by decide) (fun K hK => ?_)
     refine value_ (v := .slice (some ⟨wcA.heap.size, 0, none⟩) 1 1) (w1 := wcA.alloc (.cells #[.slice XAA ym.length qA] 30)) (by rfl) rfl ?_ ?_
     ·go_simp
     have RA2 := Aside0.mk (RA1.out.new (below_alloc (Below.refl _ _) (.cells #[.slice XAA ym.length qA] 30)))
     refine hK.out _ _ ⟨(blk_cell RA2.out.h4 3).trans rfl, (blk_cell RA2.out.h5 3).trans rfl⟩ (fun hHeld => ?_)
     clear hK hHeld K
     refine norm_ (a' := ?_) ?_ ?_
     rotate_left
     ·show Act.put _ (some 77) _ = _
      simp only [Act.put, lsA, lsB, lsC]
      rfl
     refine one_ (i := 5) (N := some 78) #[true, true, true, true, true, true, true, true, true, false, false, false, false, false, false, false] rfl rfl (by kernel_rfl) (by decide) (fun K hK => ?_)
     refine p2_appA RA1.out.pp RA1.out.nn RA1.out.b6 (by rfl) _ _ 22 (.slice none 0 0) 24 (by rfl) Try.underlying22 infoR30 (by rfl) (by decide) (by omega) ym [.slice XAA ym.length qA] (by rfl) (by rfl) ⟨_, rfl, YA.out⟩ (by have := LL.out; omega) ?_
     intro uA wnA PQ ue gg ty
     have RA3 := Aside0.mk (RA1.out.grow (e := 30) (by decide) (by decide) PQ gg ty)
     obtain ⟨EA, rA, rfl⟩ := ue
     refine hK.out _ _ ⟨(blk_cell RA3.out.h4 3).trans rfl, (blk_cell RA3.out.h5 3).trans rfl⟩ (fun hHeld => ?_)
     clear hK hHeld K PQ gg ty
     refine norm_ (a' := ?_) ?_ ?_
     rotate_left
     ·show Act.put _ (some 78) _ = _
      simp only [Act.put, lsA, lsB, lsC]
      rfl
     refine puU 12 (some 85) ?_ rfl rfl (by kernel_rfl) (fun _ _ _ h => h) (Or.inl ⟨by rfl, ?_⟩) ?_ ?_ ?_
     rotate_left
     ·intro w'
      go_simp
      with_reducible rfl
     rotate_left
     ·simp only [Act.put, lsA, lsB, lsC]
      rfl
     refine one_ (i := 9) (N := some 82) #[true, true, true, true, true, true, true, true, true, true, false, false, true, false, false, false] rfl rfl (by kernel_rfl) (by decide) (fun K hK => ?_)
     refine copy_row (base := W6.heap.size) (Nat.le_trans RA3.out.b6 RA3.out.nn) (by rfl) _ _ 30 2 (by rfl) Try.underlying30 infoR2 ym AY cY (by rfl) (by rfl) (Kd.C_below HY.out RA3.out.bw) LY.out ?_
     intro vB1 wcB RR bb
     obtain ⟨XAB, qB, rfl⟩ := Kd.R_slice RR
     have YB := Aside0.mk (Kd.R_mono RR (fun k (hk : _ ≤ k) => Nat.le_trans RA3.out.nn hk))
     have RB1 := Aside0.mk (RA3.out.new bb)
     refine hK.out _ _ ⟨(blk_cell RB1.out.h4 3).trans rfl, (blk_cell RB1.out.h5 3).trans rfl⟩ (fun hHeld => ?_)
     clear hK hHeld K RR bb
     refine norm_ (a' := ?_) ?_ ?_
     rotate_left
     ·show Act.put _ (some 82) _ = _
      simp only [Act.put, lsA, lsB, lsC]
      rfl
     refine one_ (i := 10) (N := some 83) #[true, true, true, true, true, true, true, true, true, true, true, false, true, false, false, false] rfl rfl (by kernel_rfl) (by decide) (fun K hK => ?_)
     refine value_ (v := .slice (some ⟨wcB.heap.size, 0, none⟩) 1 1) (w1 := wcB.alloc (.cells #[.slice XAB ym.length qB] 30)) (by rfl) rfl ?_ ?_
     ·go_simp
     have RB2 := Aside0.mk (RB1.out.new (below_alloc (Below.refl _ _) (.cells #[.slice XAB ym.length qB] 30)))
     refine hK.out _ _ ⟨(blk_cell RB2.out.h4 3).trans rfl, (blk_cell RB2.out.h5 3).trans rfl⟩ (fun hHeld => ?_)
     clear hK hHeld K
     refine norm_ (a' := ?_) ?_ ?_
     rotate_left
     ·show Act.put _ (some 83) _ = _
      simp only [Act.put, lsA, lsB, lsC]
      rfl
     refine one_ (i := 11) (N := some 84) #[true, true, true, true, true, true, true, true, true, true, true, true, true, false, false, false] rfl rfl (by kernel_rfl) (by decide) (fun K hK => ?_)
     refine p2_appB RB1.out.pp RB1.out.nn RB1.out.b6 (by rfl) _ _ 22 (.slice none 0 0) 24 (by rfl) Try.underlying22 infoR30 (by rfl) (by decide) (by omega) ym [.slice XAB ym.length qB] (by rfl) (by rfl) ⟨_, rfl, YB.out⟩ (by have := LL.out; omega) ?_
     intro uB wnB PQ ue gg ty
     have RB3 := Aside0.mk (RB1.out.grow (e := 30) (by decide) (by decide) PQ gg ty)
     obtain ⟨EB, rB, rfl⟩ := ue
     refine hK.out _ _ ⟨(blk_cell RB3.out.h4 3).trans rfl, (blk_cell RB3.out.h5 3).trans rfl⟩ (fun hHeld => ?_)
     clear hK hHeld K PQ gg ty
     refine norm_ (a' := ?_) ?_ ?_
     rotate_left
     ·show Act.put _ (some 84) _ = _
      simp only [Act.put, lsA, lsB, lsC]
      rfl
     refine last_ (i := 13) (N := none) #[true, true, true, true, true, true, true, true, true, true, true, true, true, true, false, false] rfl rfl (by kernel_rfl) (by decide) (fun K hK => ?_)
     have h0 := (blk_cell RB3.out.h4 3).trans rfl
     have h1 := blk_frozen RB3.out.h4 3
     refine skip_ (w1 := ?_) (by rfl) rfl ?_ ?_
     rotate_left
     ·go_simp
      rfl
     refine hK.out _ _ ?_
     clear hK K h0 h1
     refine puU 14 (some 86) ?_ rfl rfl (by kernel_rfl) (fun _ _ _ h => h) (Or.inl ⟨by rfl, ?_⟩) ?_ ?_ ?_
     rotate_left
     ·intro w'
      go_simp
      with_reducible rfl
     rotate_left
     ·simp only [Act.put, lsA, lsB, lsC]
      rfl
     refine last_ (i := 15) (N := none) #[true, true, true, true, true, true, true, true, true, true, true, true, true, true, true, true] rfl rfl (by kernel_rfl) (by decide) (fun K hK => ?_)
     have L6 := Aside0.mk (blk_far RB3.out.h5 (p := ⟨p4, 3, none⟩) (show p5 ≠ p4 by have := HP.out; omega) (.slice EA (l0.length + 1) rA))
     have h0 := (blk_cell L6.out 3).trans rfl
     have h1 := blk_frozen L6.out 3
     refine skip_ (w1 := ?_) (by rfl) rfl ?_ ?_
     rotate_left
     ·go_simp
      rfl
     refine hK.out _ _ ?_
     clear hK K h0 h1 L6
     refine done_ (by kernel_rfl) ?_
     have K9 := Aside0.mk (L2.next RB3.out (by have := HP.out; omega) (by have := HP.out; omega) (by have := HP.out; omega) (by decide) (by decide) 3 (c4' := #[.int .i64 kd, .int .i64 cap, .slice AA m2 cA, .slice EA (l0.length + 1) rA, .int .i64 sz, .slice none 0 0]) (c5' := #[.int .i64 kd, .int .i64 cap, .slice AB m2 cB, .slice EB (l0.length + 1) rB, .int .i64 sz, .slice none 0 0]) rfl rfl)
     rw [LL.out.1] at K9
     have hll := LL.out.1
     rw [hll]
     clear hll
     go_wp2_with fail
     go_roundw
     case measure => simp [intOf]; omega
     case rel => exact ⟨i + 1, by omega, by go_num, ⟨_, _, by rw [NX.out]; exact ⟨K9.out, ⟨_, _, rfl⟩, _, _, rfl⟩⟩⟩
    ·obtain rfl : m3 = i := by omega
     clear hlt hi
     obtain ⟨W7, hW7⟩ : ∃ W, W = wr := ⟨_, rfl⟩
     rw [← hW7] at KK2 ⊢
     clear hW7
     have C57 : Aside0 (Chg (fun k => k = p4 ∨ k = p5) W5 W7) := ⟨KK.out.c.trans KK2.out.s.c⟩
     have q5 : W7.cell? ⟨p1, 5, none⟩ = some (.slice A5 n5 c5) := (blk_cell (C57.out.blk Q1.out (by have := HP.out; omega)) 5).trans rfl
     go_wp2_with fail
     clear q5
     have K0 : Aside0 (∃ vA vB, L2 k102 102 103 w W7 W7 p4 p5 (fun v => #[.int .i64 kd, .int .i64 cap, .slice AA m2 cA, .slice FA m3 fA, .int .i64 sz, v]) (fun v => #[.int .i64 kd, .int .i64 cap, .slice AB m2 cB, .slice FB m3 fB, .int .i64 sz, v]) 0 vA vB ((x.sets.take 0).map cutS)) := ⟨.slice none 0 0, .slice none 0 0, ⟨P2.nil _ _ _ _ _ _, Nat.le_refl _, Nat.le_refl _, KK2.out.s.h4, KK2.out.s.h5, KK2.out.s.bw, KK2.out.s.bw.size, Chg.refl _ _⟩, ⟨none, 0, rfl⟩, ⟨none, 0, rfl⟩⟩
     go_loopw [96] (fun v96 wr => ∃ i : Nat, i ≤ m5 ∧ v96 = .int .i64 i ∧ Aside0 (∃ vA vB, L2 k102 102 103 w W7 wr p4 p5 (fun v => #[.int .i64 kd, .int .i64 cap, .slice AA m2 cA, .slice FA m3 fA, .int .i64 sz, v]) (fun v => #[.int .i64 kd, .int .i64 cap, .slice AB m2 cB, .slice FB m3 fB, .int .i64 sz, v]) i vA vB ((x.sets.take i).map cutS))) (fun v _ => m5 - (intOf v).toNat)
     case atStart => exact ⟨0, Nat.zero_le _, rfl, K0⟩
     case round =>
      clear K0
      obtain ⟨i, hi, rfl, ⟨vA, vB, K3⟩⟩ := hrel
      obtain ⟨⟨HA, hA, rfl⟩, HB, hB, rfl⟩ := And.intro K3.a K3.b
      have KK3 := Aside0.mk K3
      clear K3
      by_cases hlt : i < m5
      ·obtain ⟨ad, AY, cY, rfl, b0, b1, ly, hy⟩ := at_T102 H5.out (i : Int) (by omega) (by have := HN5.out; omega)
       have hrd : rd_T102 x.sets (i : Int) = x.sets.getD i z102 := by unfold rd_T102; rw [Int.toNat_natCast]
       have a0 := pw_cell_below KK3.out.s.bw b0
       have a1 := pw_cell_below KK3.out.s.bw b1
       rw [Int.toNat_natCast, hrd] at a0 a1
       rw [hrd] at ly hy
       have hl : i < x.sets.length := by have := HN5.out; omega
       have hnx := take_snoc (l := x.sets) hl z102
       have hyl : (x.sets.getD i z102).f1.length ≤ 17592186044416 := HX.out.els _ (by
        rw [List.getD_eq_getElem?_getD, List.getElem?_eq_getElem hl]
        exact List.getElem_mem hl)
       obtain ⟨se, hse⟩ : ∃ y, y = x.sets.getD i z102 := ⟨_, rfl⟩
       rw [← hse] at a0 a1 ly hy hnx hyl
       obtain ⟨cz, hcz⟩ : ∃ z, z = se.f0 := ⟨_, rfl⟩
       obtain ⟨ym, hym⟩ : ∃ z, z = se.f1.take 40 := ⟨_, rfl⟩
       obtain ⟨nY, hnY⟩ : ∃ n, n = se.f1.length := ⟨_, rfl⟩
       obtain ⟨mY, hmY⟩ : ∃ n, n = ym.length := ⟨_, rfl⟩
       have hmin : mY = min nY 40 := by rw [hmY, hym, List.length_take, hnY, Nat.min_comm]
       have ey : (if 40 < (nY : Int) then 40 else (nY : Int)) = (mY : Int) := by split <;> omega
       have HY : Aside0 ((Kd.int .i64).C w AY ym.length ym) := ⟨by rw [hym]; exact C_take hy 40⟩
       have LY : Aside0 (ym.length ≤ 17592186044416) := ⟨by rw [← hmY, hmin]; omega⟩
       obtain ⟨l0, hl0⟩ : ∃ l, l = (x.sets.take i).map cutS := ⟨_, rfl⟩
       have LL : Aside0 (l0.length = i ∧ i ≤ 40) := ⟨by rw [hl0, List.length_map, List.length_take]; have := HN5.out; omega⟩
       have NX : Aside0 ((x.sets.take (i + 1)).map cutS = l0 ++ [⟨cz, ym⟩]) := ⟨by rw [hnx, List.map_append, ← hl0, hym, hcz]; rfl⟩
       have EM := Aside0.mk hmY
       rw [← hl0] at KK3
       rw [← hnY] at a1 ly
       rw [← hcz] at a0
       have kY : mY ≤ cY := by omega
       clear hrd hnx hse hym hnY hmY hy hyl hl0 b0 b1 hl hmin hcz
       go_upto_region 18 with fail
       obtain ⟨V, hV0⟩ : ∃ V, V = wr.alloc (.cells #[.int .i64 cz, .slice AY nY cY] 121) := ⟨_, rfl⟩
       rw [← hV0]
       have hV := Aside0.mk hV0
       have X11 : Aside0 (V.heap[wr.heap.size]? = some (.cells #[.int .i64 cz, .slice AY nY cY] 121 (0, 0))) := ⟨by rw [hV0]; exact heap_alloc_new _ _⟩
       have V4 := Aside0.mk (blk_alloc KK3.out.s.h4 (.cells #[.int .i64 cz, .slice AY nY cY] 121))
       have V5 := Aside0.mk (blk_alloc KK3.out.s.h5 (.cells #[.int .i64 cz, .slice AY nY cY] 121))
       rw [← hV0] at V4 V5
       obtain rfl := EM.out
       clear ey kY a0 a1 ly EM hV0
       have q0 : V.drew.cell? ⟨p4, 5, none⟩ = some (.slice HA i hA) := (blk_cell V4.out 5).trans rfl
       have q1 : V.drew.cell? ⟨p5, 5, none⟩ = some (.slice HB i hB) := (blk_cell V5.out 5).trans rfl
       have q2 : V.drew.cell? ⟨wr.heap.size, 0, none⟩ = some (.int .i64 cz) := (blk_cell X11.out 0).trans rfl
       have KK := KK3
       refine start_ (n := 22) (S := fun w' => w'.cell? ⟨p4, 5, none⟩ = some (.slice HA i hA) ∧ w'.cell? ⟨p5, 5, none⟩ = some (.slice HB i hB) ∧ w'.cell? ⟨wr.heap.size, 0, none⟩ = some (.int .i64 cz)) (ds := [19, 21]) #[false, false, false, false, false, false, false, false, false, false, false, false, false, false, false, false, false, false, false, false, false, false] (by kernel_rfl) rfl rfl ⟨q0, q1, q2⟩ (fun hHeld => ?_)
       clear q0 q1 q2
       refine puU 0 (some 107) ?_ rfl rfl (by kernel_rfl) (fun _ _ _ h => h) (Or.inl ⟨by rfl, ?_⟩) ?_ ?_ ?_
       rotate_left
       ·intro w'
        go_simp
        with_reducible rfl
       rotate_left
       ·simp only [Act.put, lsA, lsB, lsC]
        rfl
       refine taU 1 (some 108) ?_ rfl rfl (by kernel_rfl) (fun _ _ _ h => h) (Or.inl ⟨by rfl, ?_⟩) hHeld ?_ ?_ ?_
       rotate_left
       ·rintro w' ⟨s0, s1, s2⟩
        go_simp
        with_reducible rfl
       rotate_left
       ·simp only [Act.put, lsA, lsB, lsC]
        rfl
       refine puU 2 (some 109) ?_ rfl rfl (by kernel_rfl) (fun _ _ _ h => h) (Or.inl ⟨by rfl, ?_⟩) ?_ ?_ ?_
       rotate_left
       ·intro w'
        go_simp
        with_reducible rfl
       rotate_left
       ·simp only [Act.put, lsA, lsB, lsC]
        rfl
       refine taU 3 (some 110) ?_ rfl rfl (by kernel_rfl) (fun _ _ _ h => h) (Or.inl ⟨by rfl, ?_⟩) hHeld ?_ ?_ ?_
       rotate_left
       ·rintro w' ⟨s0, s1, s2⟩
        go_simp
        with_reducible rfl
       rotate_left
       ·simp only [Act.put, lsA, lsB, lsC]
        rfl
       refine puU 4 (some 111) ?_ rfl rfl (by kernel_rfl) (fun _ _ _ h => h) (Or.inl ⟨by rfl, ?_⟩) ?_ ?_ ?_
       rotate_left
       ·intro w'
        go_simp
        with_reducible rfl
       rotate_left
       ·simp only [Act.put, lsA, lsB, lsC]
        rfl
       refine puU 9 (some 116) ?_ rfl rfl (by kernel_rfl) (fun _ _ _ h => h) (Or.inl ⟨by rfl, ?_⟩) ?_ ?_ ?_
       rotate_left
       ·intro w'
        go_simp
        with_reducible rfl
       rotate_left
       ·simp only [Act.put, lsA, lsB, lsC]
        rfl
       refine taU 10 (some 117) ?_ rfl rfl (by kernel_rfl) (fun _ _ _ h => h) (Or.inl ⟨by rfl, ?_⟩) hHeld ?_ ?_ ?_
       rotate_left
       ·rintro w' ⟨s0, s1, s2⟩
        go_simp
        with_reducible rfl
       rotate_left
       ·simp only [Act.put, lsA, lsB, lsC]
        rfl
       refine puU 11 (some 118) ?_ rfl rfl (by kernel_rfl) (fun _ _ _ h => h) (Or.inl ⟨by rfl, ?_⟩) ?_ ?_ ?_
       rotate_left
       ·intro w'
        go_simp
        with_reducible rfl
       rotate_left
       ·simp only [Act.put, lsA, lsB, lsC]
        rfl
       refine taU 12 (some 119) ?_ rfl rfl (by kernel_rfl) (fun _ _ _ h => h) (Or.inl ⟨by rfl, ?_⟩) hHeld ?_ ?_ ?_
       rotate_left
       ·rintro w' ⟨s0, s1, s2⟩
        go_simp
        with_reducible rfl
       rotate_left
       ·simp only [Act.put, lsA, lsB, lsC]
        rfl
       refine puU 13 (some 120) ?_ rfl rfl (by kernel_rfl) (fun _ _ _ h => h) (Or.inl ⟨by rfl, ?_⟩) ?_ ?_ ?_
       rotate_left
       ·intro w'
        go_simp
        with_reducible rfl
       rotate_left
       ·simp only [Act.put, lsA, lsB, lsC]
        rfl
       have R0 := Aside0.mk ((KK.out.s.new (w1 := V) (by rw [hV.out]; exact below_alloc (Below.refl _ _) _)).drew)
       clear hHeld
       refine one_ (i := 5) (N := some 112) #[true, true, true, true, true, true, false, false, false, true, true, true, true, true, false, false, false, false, false, false, false, false] rfl rfl (by kernel_rfl) (by decide) (fun K hK => ?_)
       refine copy_row (base := W7.heap.size) (Nat.le_trans R0.out.b6 R0.out.nn) (by rfl) _ _ 29 3 (by rfl) Try.underlying29 infoR3 ym AY cY (by rfl) (by rfl) (Kd.C_below HY.out R0.out.bw) LY.out ?_
       intro vA1 wcA RR bb
       obtain ⟨XAA, qA, rfl⟩ := Kd.R_slice RR
       have YA := Aside0.mk (Kd.R_mono RR (fun k (hk : _ ≤ k) => Nat.le_trans R0.out.nn hk))
       have RA1 := Aside0.mk (R0.out.new bb)
       have XA1 := Aside0.mk (blk_below (w := V.drew) X11.out bb)
       refine hK.out _ _ ⟨(blk_cell RA1.out.h4 5).trans rfl, (blk_cell RA1.out.h5 5).trans rfl, (blk_cell XA1.out 0).trans rfl⟩ (fun hHeld => ?_)
       clear hK hHeld K RR bb
       refine norm_ (a' := ?_) ?_ ?_
       rotate_left
       ·show Act.put _ (some 112) _ = _
        simp only [Act.put, lsA, lsB, lsC]
        rfl
       refine puU 6 (some 113) ?_ rfl rfl (by kernel_rfl) (fun _ _ _ h => h) (Or.inl ⟨by rfl, ?_⟩) ?_ ?_ ?_
       rotate_left
       ·intro w'
        go_simp
        with_reducible rfl
       rotate_left
       ·simp only [Act.put, lsA, lsB, lsC]
        rfl
       refine one_ (i := 7) (N := some 114) #[true, true, true, true, true, true, true, true, false, true, true, true, true, true, false, false, false, false, false, false, false, false] rfl rfl (by kernel_rfl) (by decide) (fun K hK => ?_)
       refine value_ (v := .slice (some ⟨wcA.heap.size, 0, none⟩) 1 1) (w1 := wcA.alloc (.cells #[.int .i64 cz, .slice XAA ym.length qA] 102)) (by rfl) rfl ?_ ?_
       ·go_simp
       have RA2 := Aside0.mk (RA1.out.new (below_alloc (Below.refl _ _) (.cells #[.int .i64 cz, .slice XAA ym.length qA] 102)))
       have XA2 := Aside0.mk (blk_alloc XA1.out (.cells #[.int .i64 cz, .slice XAA ym.length qA] 102))
       refine hK.out _ _ ⟨(blk_cell RA2.out.h4 5).trans rfl, (blk_cell RA2.out.h5 5).trans rfl, (blk_cell XA2.out 0).trans rfl⟩ (fun hHeld => ?_)
       clear hK hHeld K
       refine norm_ (a' := ?_) ?_ ?_
       rotate_left
       ·show Act.put _ (some 114) _ = _
        simp only [Act.put, lsA, lsB, lsC]
        rfl
       refine one_ (i := 8) (N := some 115) #[true, true, true, true, true, true, true, true, true, true, true, true, true, true, false, false, false, false, false, false, false, false] rfl rfl (by kernel_rfl) (by decide) (fun K hK => ?_)
       refine p2_appA RA1.out.pp RA1.out.nn RA1.out.b6 (by rfl) _ _ 52 (.agg #[.int .i64 0, .slice none 0 0]) 32 (by rfl) Try.underlying52 infoR102 (by rfl) (by decide) (by omega) (⟨cz, ym⟩ : S102) [.int .i64 cz, .slice XAA ym.length qA] (by rfl) (by rfl) (k102_mkM _ _ _ ⟨cz, ym⟩ YA.out) (by have := LL.out; omega) ?_
       intro uA wnA PQ ue gg ty
       have RA3 := Aside0.mk (RA1.out.grow (e := 102) (by decide) (by decide) PQ gg ty)
       obtain ⟨EA, rA, rfl⟩ := ue
       have XA3 := Aside0.mk (blk_grown XA1.out gg (fun e => by
        obtain ⟨_, cells, hc⟩ := ty _ e.symm
        exact ty_ne XA1.out hc (by decide) rfl))
       refine hK.out _ _ ⟨(blk_cell RA3.out.h4 5).trans rfl, (blk_cell RA3.out.h5 5).trans rfl, (blk_cell XA3.out 0).trans rfl⟩ (fun hHeld => ?_)
       clear hK hHeld K PQ gg ty
       refine norm_ (a' := ?_) ?_ ?_
       rotate_left
       ·show Act.put _ (some 115) _ = _
        simp only [Act.put, lsA, lsB, lsC]
        rfl
       refine puU 18 (some 125) ?_ rfl rfl (by kernel_rfl) (fun _ _ _ h => h) (Or.inl ⟨by rfl, ?_⟩) ?_ ?_ ?_
       rotate_left
       ·intro w'
        go_simp
        with_reducible rfl
       rotate_left
       ·simp only [Act.put, lsA, lsB, lsC]
        rfl
       refine one_ (i := 14) (N := some 121) #[true, true, true, true, true, true, true, true, true, true, true, true, true, true, true, false, false, false, true, false, false, false] rfl rfl (by kernel_rfl) (by decide) (fun K hK => ?_)
       refine copy_row (base := W7.heap.size) (Nat.le_trans RA3.out.b6 RA3.out.nn) (by rfl) _ _ 29 3 (by rfl) Try.underlying29 infoR3 ym AY cY (by rfl) (by rfl) (Kd.C_below HY.out RA3.out.bw) LY.out ?_
       intro vB1 wcB RR bb
       obtain ⟨XAB, qB, rfl⟩ := Kd.R_slice RR
       have YB := Aside0.mk (Kd.R_mono RR (fun k (hk : _ ≤ k) => Nat.le_trans RA3.out.nn hk))
       have RB1 := Aside0.mk (RA3.out.new bb)
       have XB1 := Aside0.mk (blk_below XA3.out bb)
       refine hK.out _ _ ⟨(blk_cell RB1.out.h4 5).trans rfl, (blk_cell RB1.out.h5 5).trans rfl, (blk_cell XB1.out 0).trans rfl⟩ (fun hHeld => ?_)
       clear hK hHeld K RR bb
       refine norm_ (a' := ?_) ?_ ?_
       rotate_left
       ·show Act.put _ (some 121) _ = _
        simp only [Act.put, lsA, lsB, lsC]
        rfl
       refine puU 15 (some 122) ?_ rfl rfl (by kernel_rfl) (fun _ _ _ h => h) (Or.inl ⟨by rfl, ?_⟩) ?_ ?_ ?_
       rotate_left
       ·intro w'
        go_simp
        with_reducible rfl
       rotate_left
       ·simp only [Act.put, lsA, lsB, lsC]
        rfl
       refine one_ (i := 16) (N := some 123) #[true, true, true, true, true, true, true, true, true, true, true, true, true, true, true, true, true, false, true, false, false, false] rfl rfl (by kernel_rfl) (by decide) (fun K hK => ?_)
       refine value_ (v := .slice (some ⟨wcB.heap.size, 0, none⟩) 1 1) (w1 := wcB.alloc (.cells #[.int .i64 cz, .slice XAB ym.length qB] 103)) (by rfl) rfl ?_ ?_
       ·go_simp
       have RB2 := Aside0.mk (RB1.out.new (below_alloc (Below.refl _ _) (.cells #[.int .i64 cz, .slice XAB ym.length qB] 103)))
       have XB2 := Aside0.mk (blk_alloc XB1.out (.cells #[.int .i64 cz, .slice XAB ym.length qB] 103))
       refine hK.out _ _ ⟨(blk_cell RB2.out.h4 5).trans rfl, (blk_cell RB2.out.h5 5).trans rfl, (blk_cell XB2.out 0).trans rfl⟩ (fun hHeld => ?_)
       clear hK hHeld K
       refine norm_ (a' := ?_) ?_ ?_
       rotate_left
       ·show Act.put _ (some 123) _ = _
        simp only [Act.put, lsA, lsB, lsC]
        rfl
       refine one_ (i := 17) (N := some 124) #[true, true, true, true, true, true, true, true, true, true, true, true, true, true, true, true, true, true, true, false, false, false] rfl rfl (by kernel_rfl) (by decide) (fun K hK => ?_)
       refine p2_appB RB1.out.pp RB1.out.nn RB1.out.b6 (by rfl) _ _ 55 (.agg #[.int .i64 0, .slice none 0 0]) 32 (by rfl) Try.underlying55 infoR103 (by rfl) (by decide) (by omega) (⟨cz, ym⟩ : S102) [.int .i64 cz, .slice XAB ym.length qB] (by rfl) (by rfl) (k102_mkM _ _ _ ⟨cz, ym⟩ YB.out) (by have := LL.out; omega) ?_
       intro uB wnB PQ ue gg ty
       have RB3 := Aside0.mk (RB1.out.grow (e := 103) (by decide) (by decide) PQ gg ty)
       obtain ⟨EB, rB, rfl⟩ := ue
       have XB3 := Aside0.mk (blk_grown XB1.out gg (fun e => by
        obtain ⟨_, cells, hc⟩ := ty _ e.symm
        exact ty_ne XB1.out hc (by decide) rfl))
       refine hK.out _ _ ⟨(blk_cell RB3.out.h4 5).trans rfl, (blk_cell RB3.out.h5 5).trans rfl, (blk_cell XB3.out 0).trans rfl⟩ (fun hHeld => ?_)
       clear hK hHeld K PQ gg ty
       refine norm_ (a' := ?_) ?_ ?_
       rotate_left
       ·show Act.put _ (some 124) _ = _
        simp only [Act.put, lsA, lsB, lsC]
        rfl
       refine last_ (i := 19) (N := none) #[true, true, true, true, true, true, true, true, true, true, true, true, true, true, true, true, true, true, true, true, false, false] rfl rfl (by kernel_rfl) (by decide) (fun K hK => ?_)
       have h0 := (blk_cell RB3.out.h4 5).trans rfl
       have h1 := blk_frozen RB3.out.h4 5
       refine skip_ (w1 := ?_) (by rfl) rfl ?_ ?_
       rotate_left
       ·go_simp
        rfl
       refine hK.out _ _ ?_
       clear hK K h0 h1
       refine puU 20 (some 126) ?_ rfl rfl (by kernel_rfl) (fun _ _ _ h => h) (Or.inl ⟨by rfl, ?_⟩) ?_ ?_ ?_
       rotate_left
       ·intro w'
        go_simp
        with_reducible rfl
       rotate_left
       ·simp only [Act.put, lsA, lsB, lsC]
        rfl
       refine last_ (i := 21) (N := none) #[true, true, true, true, true, true, true, true, true, true, true, true, true, true, true, true, true, true, true, true, true, true] rfl rfl (by kernel_rfl) (by decide) (fun K hK => ?_)
       have L6 := Aside0.mk (blk_far RB3.out.h5 (p := ⟨p4, 5, none⟩) (show p5 ≠ p4 by have := HP.out; omega) (.slice EA (l0.length + 1) rA))
       have h0 := (blk_cell L6.out 5).trans rfl
       have h1 := blk_frozen L6.out 5
       refine skip_ (w1 := ?_) (by rfl) rfl ?_ ?_
       rotate_left
       ·go_simp
        rfl
       refine hK.out _ _ ?_
       clear hK K h0 h1 L6
       refine done_ (by kernel_rfl) ?_
       have K9 := Aside0.mk (L2.next RB3.out (by have := HP.out; omega) (by have := HP.out; omega) (by have := HP.out; omega) (by decide) (by decide) 5 (c4' := #[.int .i64 kd, .int .i64 cap, .slice AA m2 cA, .slice FA m3 fA, .int .i64 sz, .slice EA (l0.length + 1) rA]) (c5' := #[.int .i64 kd, .int .i64 cap, .slice AB m2 cB, .slice FB m3 fB, .int .i64 sz, .slice EB (l0.length + 1) rB]) rfl rfl)
       rw [LL.out.1] at K9
       have hll := LL.out.1
       rw [hll]
       clear hll
       go_wp2_with fail
       go_roundw
       case measure => simp [intOf]; omega
       case rel => exact ⟨i + 1, by omega, by go_num, ⟨_, _, by rw [NX.out]; exact ⟨K9.out, ⟨_, _, rfl⟩, _, _, rfl⟩⟩⟩
      ·obtain rfl : m5 = i := by omega
       clear hlt hi
       obtain ⟨W8, hW8⟩ : ∃ W, W = wr := ⟨_, rfl⟩
       rw [← hW8] at KK3 ⊢
       clear hW8
       have C58 : Aside0 (Chg (fun k => k = p4 ∨ k = p5) W5 W8) := ⟨C57.out.trans KK3.out.s.c⟩
       have D4 : Aside0 (W8.heap[p4]? = some (.cells #[.int .i64 kd, .int .i64 cap, .slice AA m2 cA, .slice FA m3 fA, .int .i64 sz, .slice HA m5 hA] 54 (0, 0))) := ⟨KK3.out.s.h4⟩
       have D5 : Aside0 (W8.heap[p5]? = some (.cells #[.int .i64 kd, .int .i64 cap, .slice AB m2 cB, .slice FB m3 fB, .int .i64 sz, .slice HB m5 hB] 57 (0, 0))) := ⟨KK3.out.s.h5⟩
       have D2 : Aside0 (W8.heap[p1 + 1]? = some (.cells #[.int .i64 0, .int .i64 0, .slice none 0 0, .slice none 0 0, .int .i64 0, .slice none 0 0] 54 (0, 0))) := ⟨C58.out.blk Q2.out (by have := HP.out; omega)⟩
       have D3 : Aside0 (W8.heap[p1 + 1 + 1]? = some (.cells #[.int .i64 0, .int .i64 0, .slice none 0 0, .slice none 0 0, .int .i64 0, .slice none 0 0] 57 (0, 0))) := ⟨C58.out.blk Q3.out (by have := HP.out; omega)⟩
       go_upto_region 20 with fail
       have a0 : W8.drew.cell? ⟨p4, 0, none⟩ = some (.int .i64 kd) := (blk_cell D4.out 0).trans rfl
       have a1 : W8.drew.cell? ⟨p4, 1, none⟩ = some (.int .i64 cap) := (blk_cell D4.out 1).trans rfl
       have a2 : W8.drew.cell? ⟨p4, 2, none⟩ = some (.slice AA m2 cA) := (blk_cell D4.out 2).trans rfl
       have a3 : W8.drew.cell? ⟨p4, 3, none⟩ = some (.slice FA m3 fA) := (blk_cell D4.out 3).trans rfl
       have a4 : W8.drew.cell? ⟨p4, 4, none⟩ = some (.int .i64 sz) := (blk_cell D4.out 4).trans rfl
       have a5 : W8.drew.cell? ⟨p4, 5, none⟩ = some (.slice HA m5 hA) := (blk_cell D4.out 5).trans rfl
       have b0 : W8.drew.cell? ⟨p5, 0, none⟩ = some (.int .i64 kd) := (blk_cell D5.out 0).trans rfl
       have b1 : W8.drew.cell? ⟨p5, 1, none⟩ = some (.int .i64 cap) := (blk_cell D5.out 1).trans rfl
       have b2 : W8.drew.cell? ⟨p5, 2, none⟩ = some (.slice AB m2 cB) := (blk_cell D5.out 2).trans rfl
       have b3 : W8.drew.cell? ⟨p5, 3, none⟩ = some (.slice FB m3 fB) := (blk_cell D5.out 3).trans rfl
       have b4 : W8.drew.cell? ⟨p5, 4, none⟩ = some (.int .i64 sz) := (blk_cell D5.out 4).trans rfl
       have b5 : W8.drew.cell? ⟨p5, 5, none⟩ = some (.slice HB m5 hB) := (blk_cell D5.out 5).trans rfl
       refine start_ (n := 4) (S := fun w' => w'.cell? ⟨p4, 0, none⟩ = some (.int .i64 kd) ∧ w'.cell? ⟨p4, 1, none⟩ = some (.int .i64 cap) ∧ w'.cell? ⟨p4, 2, none⟩ = some (.slice AA m2 cA) ∧ w'.cell? ⟨p4, 3, none⟩ = some (.slice FA m3 fA) ∧ w'.cell? ⟨p4, 4, none⟩ = some (.int .i64 sz) ∧ w'.cell? ⟨p4, 5, none⟩ = some (.slice HA m5 hA) ∧ w'.cell? ⟨p5, 0, none⟩ = some (.int .i64 kd) ∧ w'.cell? ⟨p5, 1, none⟩ = some (.int .i64 cap) ∧ w'.cell? ⟨p5, 2, none⟩ = some (.slice AB m2 cB) ∧ w'.cell? ⟨p5, 3, none⟩ = some (.slice FB m3 fB) ∧ w'.cell? ⟨p5, 4, none⟩ = some (.int .i64 sz) ∧ w'.cell? ⟨p5, 5, none⟩ = some (.slice HB m5 hB)) (ds := []) #[false, false, false, false] (by kernel_rfl) rfl rfl ⟨a0, a1, a2, a3, a4, a5, b0, b1, b2, b3, b4, b5⟩ (fun hHeld => ?_)
       clear a0 a1 a2 a3 a4 a5 b0 b1 b2 b3 b4 b5
       refine taU 0 (some 128) ?_ rfl rfl (by kernel_rfl) (fun _ _ _ h => h) (Or.inl ⟨by rfl, ?_⟩) hHeld ?_ ?_ ?_
       rotate_left
       ·rintro w' ⟨s0, s1, s2, s3, s4, s5, s6, s7, s8, s9, s10, s11⟩
        go_simp
        with_reducible rfl
       rotate_left
       ·simp only [Act.put, lsA, lsB, lsC]
        rfl
       refine taU 1 (some 129) ?_ rfl rfl (by kernel_rfl) (fun _ _ _ h => h) (Or.inl ⟨by rfl, ?_⟩) hHeld ?_ ?_ ?_
       rotate_left
       ·rintro w' ⟨s0, s1, s2, s3, s4, s5, s6, s7, s8, s9, s10, s11⟩
        go_simp
        with_reducible rfl
       rotate_left
       ·simp only [Act.put, lsA, lsB, lsC]
        rfl
       clear hHeld
       refine one_ (i := 2) (N := none) #[true, true, true, false] rfl rfl (by kernel_rfl) (by decide) (fun K hK => ?_)
       have h0 : W8.cell? ⟨p1 + 1, 0, none⟩ = some (.int .i64 0) := (blk_cell D2.out 0).trans rfl
       have h1 : W8.cell? ⟨p1 + 1, 1, none⟩ = some (.int .i64 0) := (blk_cell D2.out 1).trans rfl
       have h2 : W8.cell? ⟨p1 + 1, 2, none⟩ = some (.slice none 0 0) := (blk_cell D2.out 2).trans rfl
       have h3 : W8.cell? ⟨p1 + 1, 3, none⟩ = some (.slice none 0 0) := (blk_cell D2.out 3).trans rfl
       have h4 : W8.cell? ⟨p1 + 1, 4, none⟩ = some (.int .i64 0) := (blk_cell D2.out 4).trans rfl
       have h5 : W8.cell? ⟨p1 + 1, 5, none⟩ = some (.slice none 0 0) := (blk_cell D2.out 5).trans rfl
       have hz : ∀ j, W8.frozen? ⟨p1 + 1, j, none⟩ = false := blk_frozen D2.out
       obtain ⟨W9, hW9⟩ : ∃ W, W = ((((((W8.setCell ⟨p1 + 1, 0, none⟩ (.int .i64 kd)).setCell ⟨p1 + 1, 1, none⟩ (.int .i64 cap)).setCell ⟨p1 + 1, 2, none⟩ (.slice AA m2 cA)).setCell ⟨p1 + 1, 3, none⟩ (.slice FA m3 fA)).setCell ⟨p1 + 1, 4, none⟩ (.int .i64 sz)).setCell ⟨p1 + 1, 5, none⟩ (.slice HA m5 hA)).drew := ⟨_, rfl⟩
       have HW9 := Aside0.mk hW9
       clear hW9
       refine skip_ (w1 := W9) (by rfl) rfl ?_ ?_
       ·go_simp
        rw [HW9.out]
       clear h0 h1 h2 h3 h4 h5 hz
       have D42 : Aside0 (W9.heap[p4]? = some (.cells #[.int .i64 kd, .int .i64 cap, .slice AA m2 cA, .slice FA m3 fA, .int .i64 sz, .slice HA m5 hA] 54 (0, 0))) := ⟨by rw [HW9.out, dr_heap]; exact far6 D4.out (p := p1 + 1) (by have := HP.out; omega) (.int .i64 kd) (.int .i64 cap) (.slice AA m2 cA) (.slice FA m3 fA) (.int .i64 sz) (.slice HA m5 hA)⟩
       have D52 : Aside0 (W9.heap[p5]? = some (.cells #[.int .i64 kd, .int .i64 cap, .slice AB m2 cB, .slice FB m3 fB, .int .i64 sz, .slice HB m5 hB] 57 (0, 0))) := ⟨by rw [HW9.out, dr_heap]; exact far6 D5.out (p := p1 + 1) (by have := HP.out; omega) (.int .i64 kd) (.int .i64 cap) (.slice AA m2 cA) (.slice FA m3 fA) (.int .i64 sz) (.slice HA m5 hA)⟩
       refine hK.out _ _ ⟨(blk_cell D42.out 0).trans rfl, (blk_cell D42.out 1).trans rfl, (blk_cell D42.out 2).trans rfl, (blk_cell D42.out 3).trans rfl, (blk_cell D42.out 4).trans rfl, (blk_cell D42.out 5).trans rfl, (blk_cell D52.out 0).trans rfl, (blk_cell D52.out 1).trans rfl, (blk_cell D52.out 2).trans rfl, (blk_cell D52.out 3).trans rfl, (blk_cell D52.out 4).trans rfl, (blk_cell D52.out 5).trans rfl⟩ (fun hHeld => ?_)
       clear hK hHeld K
       have D22 : Aside0 (W9.heap[p1 + 1]? = some (.cells #[.int .i64 kd, .int .i64 cap, .slice AA m2 cA, .slice FA m3 fA, .int .i64 sz, .slice HA m5 hA] 54 (0, 0))) := ⟨by rw [HW9.out, dr_heap]; exact put6 D2.out (.int .i64 kd) (.int .i64 cap) (.slice AA m2 cA) (.slice FA m3 fA) (.int .i64 sz) (.slice HA m5 hA)⟩
       have D32 : Aside0 (W9.heap[p1 + 1 + 1]? = some (.cells #[.int .i64 0, .int .i64 0, .slice none 0 0, .slice none 0 0, .int .i64 0, .slice none 0 0] 57 (0, 0))) := ⟨by rw [HW9.out, dr_heap]; exact far6 D3.out (p := p1 + 1) (by omega) (.int .i64 kd) (.int .i64 cap) (.slice AA m2 cA) (.slice FA m3 fA) (.int .i64 sz) (.slice HA m5 hA)⟩
       refine one_ (i := 3) (N := none) #[true, true, true, true] rfl rfl (by kernel_rfl) (by decide) (fun K hK => ?_)
       have h0 : W9.cell? ⟨p1 + 1 + 1, 0, none⟩ = some (.int .i64 0) := (blk_cell D32.out 0).trans rfl
       have h1 : W9.cell? ⟨p1 + 1 + 1, 1, none⟩ = some (.int .i64 0) := (blk_cell D32.out 1).trans rfl
       have h2 : W9.cell? ⟨p1 + 1 + 1, 2, none⟩ = some (.slice none 0 0) := (blk_cell D32.out 2).trans rfl
       have h3 : W9.cell? ⟨p1 + 1 + 1, 3, none⟩ = some (.slice none 0 0) := (blk_cell D32.out 3).trans rfl
       have h4 : W9.cell? ⟨p1 + 1 + 1, 4, none⟩ = some (.int .i64 0) := (blk_cell D32.out 4).trans rfl
       have h5 : W9.cell? ⟨p1 + 1 + 1, 5, none⟩ = some (.slice none 0 0) := (blk_cell D32.out 5).trans rfl
       have hz : ∀ j, W9.frozen? ⟨p1 + 1 + 1, j, none⟩ = false := blk_frozen D32.out
       obtain ⟨Wz, hWz⟩ : ∃ W, W = ((((((W9.setCell ⟨p1 + 1 + 1, 0, none⟩ (.int .i64 kd)).setCell ⟨p1 + 1 + 1, 1, none⟩ (.int .i64 cap)).setCell ⟨p1 + 1 + 1, 2, none⟩ (.slice AB m2 cB)).setCell ⟨p1 + 1 + 1, 3, none⟩ (.slice FB m3 fB)).setCell ⟨p1 + 1 + 1, 4, none⟩ (.int .i64 sz)).setCell ⟨p1 + 1 + 1, 5, none⟩ (.slice HB m5 hB)) := ⟨_, rfl⟩
       have HWz := Aside0.mk hWz
       clear hWz
       refine skip_ (w1 := Wz) (by rfl) rfl ?_ ?_
       ·go_simp
        rw [HWz.out]
       clear h0 h1 h2 h3 h4 h5 hz
       have D43 : Aside0 (Wz.heap[p4]? = some (.cells #[.int .i64 kd, .int .i64 cap, .slice AA m2 cA, .slice FA m3 fA, .int .i64 sz, .slice HA m5 hA] 54 (0, 0))) := ⟨by rw [HWz.out]; exact far6 D42.out (p := p1 + 1 + 1) (by have := HP.out; omega) (.int .i64 kd) (.int .i64 cap) (.slice AB m2 cB) (.slice FB m3 fB) (.int .i64 sz) (.slice HB m5 hB)⟩
       have D53 : Aside0 (Wz.heap[p5]? = some (.cells #[.int .i64 kd, .int .i64 cap, .slice AB m2 cB, .slice FB m3 fB, .int .i64 sz, .slice HB m5 hB] 57 (0, 0))) := ⟨by rw [HWz.out]; exact far6 D52.out (p := p1 + 1 + 1) (by have := HP.out; omega) (.int .i64 kd) (.int .i64 cap) (.slice AB m2 cB) (.slice FB m3 fB) (.int .i64 sz) (.slice HB m5 hB)⟩
       refine hK.out _ _ ⟨(blk_cell D43.out 0).trans rfl, (blk_cell D43.out 1).trans rfl, (blk_cell D43.out 2).trans rfl, (blk_cell D43.out 3).trans rfl, (blk_cell D43.out 4).trans rfl, (blk_cell D43.out 5).trans rfl, (blk_cell D53.out 0).trans rfl, (blk_cell D53.out 1).trans rfl, (blk_cell D53.out 2).trans rfl, (blk_cell D53.out 3).trans rfl, (blk_cell D53.out 4).trans rfl, (blk_cell D53.out 5).trans rfl⟩ (fun hHeld => ?_)
       clear hK hHeld K
       have D23 : Aside0 (Wz.heap[p1 + 1]? = some (.cells #[.int .i64 kd, .int .i64 cap, .slice AA m2 cA, .slice FA m3 fA, .int .i64 sz, .slice HA m5 hA] 54 (0, 0))) := ⟨by rw [HWz.out]; exact far6 D22.out (p := p1 + 1 + 1) (by omega) (.int .i64 kd) (.int .i64 cap) (.slice AB m2 cB) (.slice FB m3 fB) (.int .i64 sz) (.slice HB m5 hB)⟩
       have D33 : Aside0 (Wz.heap[p1 + 1 + 1]? = some (.cells #[.int .i64 kd, .int .i64 cap, .slice AB m2 cB, .slice FB m3 fB, .int .i64 sz, .slice HB m5 hB] 57 (0, 0))) := ⟨by rw [HWz.out]; exact put6 D32.out (.int .i64 kd) (.int .i64 cap) (.slice AB m2 cB) (.slice FB m3 fB) (.int .i64 sz) (.slice HB m5 hB)⟩
       refine done_ (by kernel_rfl) ?_
       clear D4 D5 D2 D3 D42 D52 D22 D32 D43 D53
       have MV : Aside0 (∀ (g : Nat) (cs : Array Value) (t : Nat), t ≠ 54 → t ≠ 57 → W8.heap[g]? = some (.cells cs t (0, 0)) → Wz.heap[g]? = some (.cells cs t (0, 0))) := ⟨fun g cs t h1 h2 h => by
        have e1 : g ≠ p1 + 1 := fun e => by
         have h3 : W8.heap[g]? = some (.cells #[.int .i64 0, .int .i64 0, .slice none 0 0, .slice none 0 0, .int .i64 0, .slice none 0 0] 54 (0, 0)) := by rw [e]; exact C58.out.blk Q2.out (by have := HP.out; omega)
         rw [h3] at h
         injection h with h
         injection h with _ h _
         exact h1 h.symm
        have e2 : g ≠ p1 + 1 + 1 := fun e => by
         have h3 : W8.heap[g]? = some (.cells #[.int .i64 0, .int .i64 0, .slice none 0 0, .slice none 0 0, .int .i64 0, .slice none 0 0] 57 (0, 0)) := by rw [e]; exact C58.out.blk Q3.out (by have := HP.out; omega)
         rw [h3] at h
         injection h with h
         injection h with _ h _
         exact h2 h.symm
        rw [HWz.out]
        refine far6 ?_ e2 _ _ _ _ _ _
        rw [HW9.out, dr_heap]
        exact far6 h e1 _ _ _ _ _ _⟩
       have M78 : Aside0 (∀ (g : Nat) (cs : Array Value) (t : Nat), t ≠ 54 → t ≠ 57 → W7.heap[g]? = some (.cells cs t (0, 0)) → W8.heap[g]? = some (.cells cs t (0, 0))) := ⟨fun g cs t h1 h2 h => KK3.out.s.c.blk h (fun e => by
        rcases e with rfl | rfl
        ·exact ty_ne h KK2.out.s.h4 h1 rfl
        ·exact ty_ne h KK2.out.s.h5 h2 rfl)⟩
       have M68 : Aside0 (∀ (g : Nat) (cs : Array Value) (t : Nat), t ≠ 54 → t ≠ 57 → W6.heap[g]? = some (.cells cs t (0, 0)) → W8.heap[g]? = some (.cells cs t (0, 0))) := ⟨fun g cs t h1 h2 h => M78.out g cs t h1 h2 (KK2.out.s.c.blk h (fun e => by
        rcases e with rfl | rfl
        ·exact ty_ne h KK.out.h4 h1 rfl
        ·exact ty_ne h KK.out.h5 h2 rfl))⟩
       have BZ : Aside0 (Below w.heap.size w Wz) := ⟨by
        have hb : ∀ (p j : Nat) (W : World) (v : Value), w.heap.size ≤ p → Below w.heap.size w W → Below w.heap.size w (W.setCell ⟨p, j, none⟩ v) := fun p j W v hp h => h.setCell hp v
        rw [HWz.out, HW9.out]
        have h1 : w.heap.size ≤ p1 + 1 := by have := HP.out; omega
        have h2 : w.heap.size ≤ p1 + 1 + 1 := by have := HP.out; omega
        exact hb _ _ _ _ h2 (hb _ _ _ _ h2 (hb _ _ _ _ h2 (hb _ _ _ _ h2 (hb _ _ _ _ h2 (hb _ _ _ _ h2 (below_drew (hb _ _ _ _ h1 (hb _ _ _ _ h1 (hb _ _ _ _ h1 (hb _ _ _ _ h1 (hb _ _ _ _ h1 (hb _ _ _ _ h1 KK3.out.s.bw))))))))))))⟩
       have IA : Aside0 (k101.C Wz AA (x.items.take m2).length (x.items.take m2) ∧ k101.C Wz AB (x.items.take m2).length (x.items.take m2) ∧ (x.items.take m2).length = m2 ∧ m2 ≤ cA ∧ m2 ≤ cB) := ⟨by
        have hl : (x.items.take m2).length = m2 := by rw [List.length_take]; have := HN2.out; omega
        have oa := own_move (w1 := Wz) KK.out.oa (fun q hq => by
         obtain ⟨cs, hcs⟩ := own_typed KK.out.oa q hq
         rw [MV.out q cs 101 (by decide) (by decide) (M68.out q cs 101 (by decide) (by decide) hcs), hcs])
        have ob := own_move (w1 := Wz) KK.out.ob (fun q hq => by
         obtain ⟨cs, hcs⟩ := own_typed KK.out.ob q hq
         rw [MV.out q cs 68 (by decide) (by decide) (M68.out q cs 68 (by decide) (by decide) hcs), hcs])
        exact ⟨own_it oa hl, own_it ob hl, hl, own_cap oa, own_cap ob⟩⟩
       have ICo : Aside0 (((Kd.slice 2 (Kd.int .i64)).C Wz FA m3 ((x.cost.take m3).map (·.take 70)) ∧ ((x.cost.take m3).map (·.take 70)).length = m3 ∧ m3 ≤ fA) ∧ ((Kd.slice 2 (Kd.int .i64)).C Wz FB m3 ((x.cost.take m3).map (·.take 70)) ∧ ((x.cost.take m3).map (·.take 70)).length = m3 ∧ m3 ≤ fB)) := ⟨by
        obtain ⟨okA, okB, _, _, _, r1, r2⟩ := KK2.out.s.pp
        have mm : ∀ (k q : Nat) (cells : Array Value), q ∈ 30 :: (Kd.slice 2 (Kd.int .i64)).E → W7.heap[k]? = some (.cells cells q (0, 0)) → Wz.heap[k]? = some (.cells cells q (0, 0)) := fun k q cells hq h => by
         have h54 : q ≠ 54 := fun e => by subst e; revert hq; decide
         have h57 : q ≠ 57 := fun e => by subst e; revert hq; decide
         exact MV.out k cells q h54 h57 (M78.out k cells q h54 h57 h)
        exact ⟨R_C (R_final r1 mm), R_C (R_final r2 mm)⟩⟩
       have ISe : Aside0 ((k102.C Wz HA m5 ((x.sets.take m5).map cutS) ∧ ((x.sets.take m5).map cutS).length = m5 ∧ m5 ≤ hA) ∧ (k102.C Wz HB m5 ((x.sets.take m5).map cutS) ∧ ((x.sets.take m5).map cutS).length = m5 ∧ m5 ≤ hB)) := ⟨by
        obtain ⟨okA, okB, _, _, _, r1, r2⟩ := KK3.out.s.pp
        have m1 : ∀ (k q : Nat) (cells : Array Value), q ∈ 102 :: k102.E → W8.heap[k]? = some (.cells cells q (0, 0)) → Wz.heap[k]? = some (.cells cells q (0, 0)) := fun k q cells hq h => by
         have h54 : q ≠ 54 := fun e => by subst e; revert hq; decide
         have h57 : q ≠ 57 := fun e => by subst e; revert hq; decide
         exact MV.out k cells q h54 h57 h
        have m2 : ∀ (k q : Nat) (cells : Array Value), q ∈ 103 :: k102.E → W8.heap[k]? = some (.cells cells q (0, 0)) → Wz.heap[k]? = some (.cells cells q (0, 0)) := fun k q cells hq h => by
         have h54 : q ≠ 54 := fun e => by subst e; revert hq; decide
         have h57 : q ≠ 57 := fun e => by subst e; revert hq; decide
         exact MV.out k cells q h54 h57 h
        exact ⟨R_C (R_final r1 m1), R_C (R_final r2 m2)⟩⟩
       clear MV M78 M68 KK KK2 KK3 C57 C58 HW9 HWz Q1 Q2 Q3 B5 B6
       have r00 : Wz.cell? ⟨p1 + 1, 0, none⟩ = some (.int .i64 kd) := (blk_cell D23.out 0).trans rfl
       have r01 : Wz.cell? ⟨p1 + 1, 1, none⟩ = some (.int .i64 cap) := (blk_cell D23.out 1).trans rfl
       have r02 : Wz.cell? ⟨p1 + 1, 2, none⟩ = some (.slice AA m2 cA) := (blk_cell D23.out 2).trans rfl
       have r03 : Wz.cell? ⟨p1 + 1, 3, none⟩ = some (.slice FA m3 fA) := (blk_cell D23.out 3).trans rfl
       have r04 : Wz.cell? ⟨p1 + 1, 4, none⟩ = some (.int .i64 sz) := (blk_cell D23.out 4).trans rfl
       have r05 : Wz.cell? ⟨p1 + 1, 5, none⟩ = some (.slice HA m5 hA) := (blk_cell D23.out 5).trans rfl
       have r10 : Wz.cell? ⟨p1 + 1 + 1, 0, none⟩ = some (.int .i64 kd) := (blk_cell D33.out 0).trans rfl
       have r11 : Wz.cell? ⟨p1 + 1 + 1, 1, none⟩ = some (.int .i64 cap) := (blk_cell D33.out 1).trans rfl
       have r12 : Wz.cell? ⟨p1 + 1 + 1, 2, none⟩ = some (.slice AB m2 cB) := (blk_cell D33.out 2).trans rfl
       have r13 : Wz.cell? ⟨p1 + 1 + 1, 3, none⟩ = some (.slice FB m3 fB) := (blk_cell D33.out 3).trans rfl
       have r14 : Wz.cell? ⟨p1 + 1 + 1, 4, none⟩ = some (.int .i64 sz) := (blk_cell D33.out 4).trans rfl
       have r15 : Wz.cell? ⟨p1 + 1 + 1, 5, none⟩ = some (.slice HB m5 hB) := (blk_cell D33.out 5).trans rfl
       go_wp2_with fail
       refine bodyPost_ret (v := .tuple #[.agg #[.int .i64 kd, .int .i64 cap, .slice AA m2 cA, .slice FA m3 fA, .int .i64 sz, .slice HA m5 hA], .agg #[.int .i64 kd, .int .i64 cap, .slice AB m2 cB, .slice FB m3 fB, .int .i64 sz, .slice HB m5 hB]]) (by simp [results, Try.results31, go_sem, r00, r01, r02, r03, r04, r05, r10, r11, r12, r13, r14, r15]) rfl ?_
       have t2 : x.items.take m2 = x.items.take 40 := by rw [HN2.out.2, HN2.out.1]; exact take_min _ _
       have t3 : (x.cost.take m3).map (·.take 70) = (x.cost.take 70).map (·.take 70) := by rw [HN3.out.2, HN3.out.1, take_min]
       have t5 : (x.sets.take m5).map cutS = (x.sets.take 40).map cutS := by rw [HN5.out.2, HN5.out.1, take_min]
       have i1 := IA.out
       have i2 := ICo.out
       have i3 := ISe.out
       rw [t2] at i1
       rw [t3] at i2
       rw [t5] at i3
       obtain ⟨f1, f2, f3⟩ := HF.out
       refine ⟨_, _, rfl, ⟨⟨AA, cA, FA, fA, HA, hA, ?_, i1.1, ?_, ?_, ?_, ?_, ?_⟩, ⟨AB, cB, FB, fB, HB, hB, ?_, i1.2.1, ?_, ?_, ?_, ?_, ?_⟩, BZ.out⟩⟩
       ·show _ = Value.agg #[.int .i64 x.kind, .int .i64 x.cap, .slice AA (x.items.take 40).length cA, .slice FA ((x.cost.take 70).map (·.take 70)).length fA, .int .i64 x.size, .slice HA ((x.sets.take 40).map cutS).length hA]
        rw [i1.2.2.1, i2.1.2.1, i3.1.2.1, f1, f2, f3]
       ·show (x.items.take 40).length ≤ cA
        rw [i1.2.2.1]; exact i1.2.2.2.1
       ·show (Kd.slice 2 (Kd.int .i64)).C Wz FA ((x.cost.take 70).map (·.take 70)).length ((x.cost.take 70).map (·.take 70))
        rw [i2.1.2.1]; exact i2.1.1
       ·show ((x.cost.take 70).map (·.take 70)).length ≤ fA
        rw [i2.1.2.1]; exact i2.1.2.2
       ·show k102.C Wz HA ((x.sets.take 40).map cutS).length ((x.sets.take 40).map cutS)
        rw [i3.1.2.1]; exact i3.1.1
       ·show ((x.sets.take 40).map cutS).length ≤ hA
        rw [i3.1.2.1]; exact i3.1.2.2
       ·show _ = Value.agg #[.int .i64 x.kind, .int .i64 x.cap, .slice AB (x.items.take 40).length cB, .slice FB ((x.cost.take 70).map (·.take 70)).length fB, .int .i64 x.size, .slice HB ((x.sets.take 40).map cutS).length hB]
        rw [i1.2.2.1, i2.2.2.1, i3.2.2.1, f1, f2, f3]
       ·show (x.items.take 40).length ≤ cB
        rw [i1.2.2.1]; exact i1.2.2.2.2
       ·show (Kd.slice 2 (Kd.int .i64)).C Wz FB ((x.cost.take 70).map (·.take 70)).length ((x.cost.take 70).map (·.take 70))
        rw [i2.2.2.1]; exact i2.2.1
       ·show ((x.cost.take 70).map (·.take 70)).length ≤ fB
        rw [i2.2.2.1]; exact i2.2.2.2
       ·show k102.C Wz HB ((x.sets.take 40).map cutS).length ((x.sets.take 40).map cutS)
        rw [i3.2.2.1]; exact i3.2.1
       ·show ((x.sets.take 40).map cutS).length ≤ hB
        rw [i3.2.2.1]; exact i3.2.2.2
end Go.Proofs.Ytelabmhhnpfegaa.Hand
namespace Go.Proofs.Ytelabmhhnpfegaa.Hand
open Go.RowKit Go.Proofs.YtelabmhhnpfegaaW.PrintWords Go.Proofs.YtelabmhhnpfegaaW.PrintLast Go.Proofs.YtelabmhhnpfegaaW.PrintMore Go.Proofs.Ytelabmhhnpfegaa.PDynCells
attribute [local go_sem] max2_int min2_int
def InstO9 (base : Nat) (w : World) (x : PI) (v : Value) : Prop := ∃ A2 n2 c2 A3 n3 c3 A5 n5 c5, v = .agg #[.int .i64 x.kind, .int .i64 x.cap, .slice A2 n2 c2, .slice A3 n3 c3, .int .i64 x.size, .slice A5 n5 c5] ∧
 k101.R 68 w base (fun _ => True) (.slice A2 n2 c2) x.items ∧ (Kd.slice 2 (Kd.int .i64)).R 30 w base (fun _ => True) (.slice A3 n3 c3) x.cost ∧ k102.R 121 w base (fun _ => True) (.slice A5 n5 c5) x.sets
theorem InstO9.c {base : Nat} {w : World} {x : PI} {v : Value} (h : InstO9 base w x v) : InstC w x v := by
 obtain ⟨A2, n2, c2, A3, n3, c3, A5, n5, c5, e, h1, h2, h3⟩ := h
 obtain ⟨r1, e1, l1⟩ := R_C h1
 obtain ⟨r2, e2, l2⟩ := R_C h2
 obtain ⟨r3, e3, l3⟩ := R_C h3
 subst e1
 subst e2
 subst e3
 exact ⟨A2, c2, A3, c3, A5, c5, e, r1, l1, r2, l2, r3, l3⟩
theorem fin_R9 {α : Type} {d : Kd α} {e base base' N q : Nat} {wr : World} {v : Value} {xs : List α} {cs : Array Value} (h : d.R e wr base (fun k => k < N) v xs) (hb : base' ≤ base) (h2 : wr.heap[q]? = some (.cells cs 80 (0, 0))) (ht : 80 ∉ e :: d.E) (v0 v1 v2 v3 v4 v5 : Value) :
  d.R e ((((((wr.setCell ⟨q, 0, none⟩ v0).setCell ⟨q, 1, none⟩ v1).setCell ⟨q, 2, none⟩ v2).setCell ⟨q, 3, none⟩ v3).setCell ⟨q, 4, none⟩ v4).setCell ⟨q, 5, none⟩ v5) base' (fun _ => True) v xs :=
 Kd.R_mono (Kd.R_lower (base' := base') (R_final h (fun k t cells hq hc => far6 hc (ty_ne hc h2 (fun e' => ht (by rw [← e']; exact hq))) v0 v1 v2 v3 v4 v5)) hb) (fun _ _ => trivial)
theorem infoR999 : (Try.prog.info? 121).map (fun i => (i.zero, i.size, i.bytes)) = some (some (.agg #[.int .i64 0, .slice none 0 0]), 2, 32) := by kernel_rfl
set_option maxHeartbeats 4000000 in
set_option maxRecDepth 100000 in
theorem tame_any9 (w : World) (x : PI) (v : Value) (most : Nat) (h : InstC w x v) (hx : PIok x) (hm : 1 ≤ most) (hm2 : most ≤ 64) : Calls Try.prog 33 #[v, .int .i64 most] w fun e w' => ∃ va, e = .returned va ∧ Aside0 (∃ x', InstO9 w.heap.size w' x' va ∧ TameP most x.kind x' ∧ Below w.heap.size w w') := by
 obtain ⟨A2, c2, A3, c3, A5, c5, rfl, h2, l2, h3, l3, h5, l5⟩ := h
 obtain ⟨n2, hn2⟩ : ∃ n, n = x.items.length := ⟨_, rfl⟩
 obtain ⟨n3, hn3⟩ : ∃ n, n = x.cost.length := ⟨_, rfl⟩
 obtain ⟨n5, hn5⟩ : ∃ n, n = x.sets.length := ⟨_, rfl⟩
 obtain ⟨kd, hkd⟩ : ∃ n, n = x.kind := ⟨_, rfl⟩
 obtain ⟨cap, hcap⟩ : ∃ n, n = x.cap := ⟨_, rfl⟩
 obtain ⟨sz, hsz⟩ : ∃ n, n = x.size := ⟨_, rfl⟩
 have b2 := hx.items
 have b3 := hx.cost
 have b5 := hx.sets
 rw [← hn2] at h2 l2 b2 ⊢
 rw [← hn3] at h3 l3 b3 ⊢
 rw [← hn5] at h5 l5 b5 ⊢
 rw [← hkd, ← hcap, ← hsz]
 have HF := Aside0.mk (And.intro hkd (And.intro hcap hsz))
 have HN2 := Aside0.mk hn2
 have HN3 := Aside0.mk hn3
 have HN5 := Aside0.mk hn5
 have H2 := Aside0.mk h2
 have H3 := Aside0.mk h3
 have H5 := Aside0.mk h5
 have HX := Aside0.mk hx
 clear hkd hcap hsz hn2 hn3 hn5 h2 h3 h5 hx
 have hu22 := Try.underlying22
 have hu29 := Try.underlying29
 have hu30 := Try.underlying30
 have hu44 := Try.underlying44
 have hu45 := Try.underlying78
 have hu47 := Try.underlying80
 have hu68 := Try.underlying68
 have hu99 := Try.underlying121
 have HK : (kd.tmod 4 + 4).tmod 4 = kindT kd := rfl
 have hwr : wrap64 (kd.tmod 4 + 4) = kd.tmod 4 + 4 := by
  have h1 := Int.tmod_lt_of_pos kd (b := 4) (by omega)
  have h2 := Int.lt_tmod_of_pos kd (b := 4) (by omega)
  unfold wrap64
  omega
 have hKb : 0 ≤ kindT kd ∧ kindT kd ≤ 3 := by
  unfold kindT
  have h1 := Int.lt_tmod_of_pos kd (b := 4) (by omega)
  have h2 := Int.tmod_lt_of_pos (kd.tmod 4 + 4) (b := 4) (by omega)
  have h3 := Int.tmod_nonneg (a := kd.tmod 4 + 4) 4 (by omega)
  omega
 obtain ⟨K, hK⟩ : ∃ K, K = kindT kd := ⟨_, rfl⟩
 rw [← hK] at HK hKb
 have HKK := Aside0.mk hK
 clear hK
 obtain ⟨m2, hm2'⟩ : ∃ m, m = min n2 most := ⟨_, rfl⟩
 obtain ⟨m5, hm5'⟩ : ∃ m, m = min n5 most := ⟨_, rfl⟩
 have e2 : (if most < n2 then (most : Int) else (n2 : Int)) = (m2 : Int) := by split <;> omega
 have e5 : (if most < n5 then (most : Int) else (n5 : Int)) = (m5 : Int) := by split <;> omega
 have k2 : m2 ≤ c2 := by omega
 have k5 : m5 ≤ c5 := by omega
 have HM2 := Aside0.mk hm2'
 have HM5 := Aside0.mk hm5'
 clear hm2' hm5'
 by_cases hK0 : K = 0
 ·have hb0 : (K == 0) = true := by simpa using hK0
  go_enter Try.func33, Try.ntmps33
  go_wp2_with fail
  refine (mag_any9 cap _).mono ?_
  rintro _ _ ⟨rfl, rfl⟩
  have eC : (if 0 < mag cap then mag cap else 0) = pos (mag cap) := rfl
  go_wp2_with fail
  clear eC e5 k5
  obtain ⟨M, hM⟩ : ∃ M, M = pos (mag cap) := ⟨_, rfl⟩
  rw [← hM]
  have MB : Aside0 (0 ≤ M ∧ M ≤ 2147483648) := ⟨by rw [hM]; exact pos_mag cap⟩
  clear hM
  obtain ⟨W6, hW6⟩ : ∃ W, W = ((w.alloc (.cells #[.int .i64 kd, .int .i64 cap, .slice A2 n2 c2, .slice A3 n3 c3, .int .i64 sz, .slice A5 n5 c5] 80)).alloc (.cells #[.int .i64 0, .int .i64 0, .slice none 0 0, .slice none 0 0, .int .i64 0, .slice none 0 0] 80)).alloc (.cells #[.int .i64 0, .int .i64 M, .slice none 0 0, .slice none 0 0, .int .i64 0, .slice none 0 0] 80) := ⟨_, rfl⟩
  rw [← hW6]
  obtain ⟨p1, hp1⟩ : ∃ p, p = w.heap.size := ⟨_, rfl⟩
  rw [← hp1]
  have B6 : Aside0 (Below w.heap.size w W6) := ⟨by rw [hW6]; exact below_alloc (below_alloc (below_alloc (Below.refl _ _) _) _) _⟩
  have Q1 : Aside0 (W6.heap[p1]? = some (.cells #[.int .i64 kd, .int .i64 cap, .slice A2 n2 c2, .slice A3 n3 c3, .int .i64 sz, .slice A5 n5 c5] 80 (0, 0))) := ⟨by rw [hW6, hp1]; simp only [al_get, al_size]; repeat (first | rw [if_pos trivial] | rw [if_neg (by omega)])⟩
  have Q2 : Aside0 (W6.heap[p1 + 1]? = some (.cells #[.int .i64 0, .int .i64 0, .slice none 0 0, .slice none 0 0, .int .i64 0, .slice none 0 0] 80 (0, 0))) := ⟨by rw [hW6, hp1]; simp only [al_get, al_size]; repeat (first | rw [if_pos trivial] | rw [if_neg (by omega)])⟩
  have Q3 : Aside0 (W6.heap[p1 + 1 + 1]? = some (.cells #[.int .i64 0, .int .i64 M, .slice none 0 0, .slice none 0 0, .int .i64 0, .slice none 0 0] 80 (0, 0))) := ⟨by rw [hW6, hp1]; simp only [al_get, al_size]; repeat (first | rw [if_pos trivial] | rw [if_neg (by omega)])⟩
  have Z6 : Aside0 (W6.heap.size = p1 + 3) := ⟨by rw [hW6, hp1]; simp only [al_size]⟩
  obtain ⟨p6, hp6⟩ : ∃ p, p = p1 + 1 + 1 := ⟨_, rfl⟩
  rw [← hp6] at Q3 ⊢
  have HP := Aside0.mk (And.intro hp1 hp6)
  clear hW6 hp1 hp6
  have K0 : Aside0 (∃ A c l, R1 k101 68 w W6 p6 80 #[.int .i64 0, .int .i64 M, .slice A 0 c, .slice none 0 0, .int .i64 0, .slice none 0 0] W6.heap.size W6 (.slice A 0 c) l ∧ l.length = 0 ∧ ∀ s ∈ l, (0 ≤ s.f0 ∧ s.f0 ≤ 2147483648) ∧ 0 ≤ s.f1 ∧ s.f1 ≤ 2147483648) := ⟨none, 0, [], R1.start _ _ Q3.out B6.out, rfl, by simp⟩
  go_loopw [108] (fun v wr => ∃ i : Nat, i ≤ m2 ∧ v = .int .i64 i ∧ Aside0 (∃ A c l, R1 k101 68 w W6 p6 80 #[.int .i64 0, .int .i64 M, .slice A i c, .slice none 0 0, .int .i64 0, .slice none 0 0] wr.heap.size wr (.slice A i c) l ∧ l.length = i ∧ ∀ s ∈ l, (0 ≤ s.f0 ∧ s.f0 ≤ 2147483648) ∧ 0 ≤ s.f1 ∧ s.f1 ≤ 2147483648)) (fun v _ => m2 - (intOf v).toNat)
  case atStart => exact ⟨0, Nat.zero_le _, rfl, K0⟩
  case round =>
   clear K0
   obtain ⟨i, hi, rfl, ⟨A, c, l, K1, K2, K3⟩⟩ := hrel
   have KK := Aside0.mk K1
   have KB := Aside0.mk (And.intro K2 K3)
   clear K1 K2 K3
   by_cases hlt : i < m2
   ·obtain ⟨ad, rfl, a0, a1⟩ := at_T101 (Kd.C_below H2.out KK.out.bw) (i : Int) (by omega) (by have := HN2.out; have := HM2.out; omega)
    rw [Int.toNat_natCast] at a0 a1
    obtain ⟨s, hs⟩ : ∃ s, s = rd_T101 x.items (i : Int) := ⟨_, rfl⟩
    rw [← hs] at a0 a1
    clear hs
    go_upto_region 22 with fail
    obtain ⟨V, hV⟩ : ∃ V, V = wr.alloc (.cells #[.int .i64 s.f0, .int .i64 s.f1] 68) := ⟨_, rfl⟩
    rw [← hV]
    have K1 : Aside0 (R1 k101 68 w W6 p6 80 #[.int .i64 0, .int .i64 M, .slice A i c, .slice none 0 0, .int .i64 0, .slice none 0 0] wr.heap.size V (.slice A i c) l) := ⟨by rw [hV]; exact KK.out.new (below_alloc (Below.refl _ _) _)⟩
    have X7 : Aside0 (V.heap[wr.heap.size]? = some (.cells #[.int .i64 s.f0, .int .i64 s.f1] 68 (0, 0))) := ⟨by rw [hV]; exact heap_alloc_new _ _⟩
    clear hV a0 a1
    have q0 : V.drew.cell? ⟨p6, 2, none⟩ = some (.slice A i c) := (blk_cell K1.out.hp 2).trans rfl
    have q1 : V.drew.cell? ⟨wr.heap.size, 0, none⟩ = some (.int .i64 s.f0) := (blk_cell X7.out 0).trans rfl
    have q2 : V.drew.cell? ⟨wr.heap.size, 1, none⟩ = some (.int .i64 s.f1) := (blk_cell X7.out 1).trans rfl
    obtain ⟨u0, hu0⟩ : ∃ z, z = pos (mag s.f0) := ⟨_, rfl⟩
    obtain ⟨u1, hu1⟩ : ∃ z, z = pos (mag s.f1) := ⟨_, rfl⟩
    have U0 : Aside0 ((0 ≤ u0 ∧ u0 ≤ 2147483648) ∧ 0 ≤ u1 ∧ u1 ≤ 2147483648) := ⟨by rw [hu0, hu1]; exact ⟨pos_mag _, pos_mag _⟩⟩
    have v0 : (if 0 < mag s.f0 then mag s.f0 else 0) = u0 := by rw [hu0]; rfl
    have v1 : (if 0 < mag s.f1 then mag s.f1 else 0) = u1 := by rw [hu1]; rfl
    clear hu0 hu1
    refine start_ (n := 17) (S := fun w' => w'.cell? ⟨p6, 2, none⟩ = some (.slice A i c) ∧ w'.cell? ⟨wr.heap.size, 0, none⟩ = some (.int .i64 s.f0) ∧ w'.cell? ⟨wr.heap.size, 1, none⟩ = some (.int .i64 s.f1)) (ds := [16]) #[false, false, false, false, false, false, false, false, false, false, false, false, false, false, false, false, false] (by kernel_rfl) rfl rfl ⟨q0, q1, q2⟩ (fun hHeld => ?_)
    clear q0 q1 q2
    refine puU 0 (some 112) ?_ rfl rfl (by kernel_rfl) (fun _ _ _ h => h) (Or.inl ⟨by rfl, ?_⟩) ?_ ?_ ?_
    rotate_left
    ·intro w'
     go_simp
     with_reducible rfl
    rotate_left
    ·simp only [Act.put, lsA, lsB, lsC]
     rfl
    refine taU 1 (some 113) ?_ rfl rfl (by kernel_rfl) (fun _ _ _ h => h) (Or.inl ⟨by rfl, ?_⟩) hHeld ?_ ?_ ?_
    rotate_left
    ·rintro w' ⟨s0, s1, s2⟩
     go_simp
     with_reducible rfl
    rotate_left
    ·simp only [Act.put, lsA, lsB, lsC]
     rfl
    refine puU 2 (some 114) ?_ rfl rfl (by kernel_rfl) (fun _ _ _ h => h) (Or.inl ⟨by rfl, ?_⟩) ?_ ?_ ?_
    rotate_left
    ·intro w'
     go_simp
     with_reducible rfl
    rotate_left
    ·simp only [Act.put, lsA, lsB, lsC]
     rfl
    refine puU 3 (some 115) ?_ rfl rfl (by kernel_rfl) (fun _ _ _ h => h) (Or.inl ⟨by rfl, ?_⟩) ?_ ?_ ?_
    rotate_left
    ·intro w'
     go_simp
     with_reducible rfl
    rotate_left
    ·simp only [Act.put, lsA, lsB, lsC]
     rfl
    refine taU 4 (some 116) ?_ rfl rfl (by kernel_rfl) (fun _ _ _ h => h) (Or.inl ⟨by rfl, ?_⟩) hHeld ?_ ?_ ?_
    rotate_left
    ·rintro w' ⟨s0, s1, s2⟩
     go_simp
     with_reducible rfl
    rotate_left
    ·simp only [Act.put, lsA, lsB, lsC]
     rfl
    refine puU 7 (some 119) ?_ rfl rfl (by kernel_rfl) (fun _ _ _ h => h) (Or.inl ⟨by rfl, ?_⟩) ?_ ?_ ?_
    rotate_left
    ·intro w'
     go_simp
     with_reducible rfl
    rotate_left
    ·simp only [Act.put, lsA, lsB, lsC]
     rfl
    refine puU 8 (some 120) ?_ rfl rfl (by kernel_rfl) (fun _ _ _ h => h) (Or.inl ⟨by rfl, ?_⟩) ?_ ?_ ?_
    rotate_left
    ·intro w'
     go_simp
     with_reducible rfl
    rotate_left
    ·simp only [Act.put, lsA, lsB, lsC]
     rfl
    refine taU 9 (some 121) ?_ rfl rfl (by kernel_rfl) (fun _ _ _ h => h) (Or.inl ⟨by rfl, ?_⟩) hHeld ?_ ?_ ?_
    rotate_left
    ·rintro w' ⟨s0, s1, s2⟩
     go_simp
     with_reducible rfl
    rotate_left
    ·simp only [Act.put, lsA, lsB, lsC]
     rfl
    refine one_ (i := 5) (N := some 117) #[true, true, true, true, true, true, false, true, true, true, false, false, false, false, false, false, false] rfl rfl (by kernel_rfl) (by decide) (fun K hK => ?_)
    refine call_ 63 #[.int .i64 (s.f0)] (by rfl) rfl ?_ ?_
    ·go_simp
    refine (mag_any9 (s.f0) _).mono ?_
    rintro _ _ ⟨rfl, rfl⟩
    refine ⟨_, rfl, ?_⟩
    refine hK.out _ _ ⟨(blk_cell K1.out.hp 2).trans rfl, (blk_cell X7.out 0).trans rfl, (blk_cell X7.out 1).trans rfl⟩ (fun hHeld => ?_)
    clear hK hHeld K
    refine norm_ (a' := ?_) ?_ ?_
    rotate_left
    ·show Act.put _ (some 117) _ = _
     simp only [Act.put, lsA, lsB, lsC]
     rfl
    refine puU 6 (some 118) ?_ rfl rfl (by kernel_rfl) (fun _ _ _ h => h) (Or.inl ⟨by rfl, ?_⟩) ?_ ?_ ?_
    rotate_left
    ·intro w'
     go_simp
     with_reducible rfl
    rotate_left
    ·simp only [Act.put, lsA, lsB, lsC]
     rfl
    refine one_ (i := 10) (N := some 122) #[true, true, true, true, true, true, true, true, true, true, true, false, false, false, false, false, false] rfl rfl (by kernel_rfl) (by decide) (fun K hK => ?_)
    refine call_ 63 #[.int .i64 (s.f1)] (by rfl) rfl ?_ ?_
    ·go_simp
    refine (mag_any9 (s.f1) _).mono ?_
    rintro _ _ ⟨rfl, rfl⟩
    refine ⟨_, rfl, ?_⟩
    refine hK.out _ _ ⟨(blk_cell K1.out.hp 2).trans rfl, (blk_cell X7.out 0).trans rfl, (blk_cell X7.out 1).trans rfl⟩ (fun hHeld => ?_)
    clear hK hHeld K
    refine norm_ (a' := ?_) ?_ ?_
    rotate_left
    ·show Act.put _ (some 122) _ = _
     simp only [Act.put, lsA, lsB, lsC]
     rfl
    refine puU 11 (some 123) ?_ rfl rfl (by kernel_rfl) (fun _ _ _ h => h) (Or.inl ⟨by rfl, ?_⟩) ?_ ?_ ?_
    rotate_left
    ·intro w'
     go_simp
     with_reducible rfl
    rotate_left
    ·simp only [Act.put, lsA, lsB, lsC]
     rfl
    refine puU 12 (some 124) ?_ rfl rfl (by kernel_rfl) (fun _ _ _ h => h) (Or.inl ⟨by rfl, ?_⟩) ?_ ?_ ?_
    rotate_left
    ·intro w'
     go_simp
     with_reducible rfl
    rotate_left
    ·simp only [Act.put, lsA, lsB, lsC]
     rfl
    refine one_ (i := 13) (N := some 125) #[true, true, true, true, true, true, true, true, true, true, true, true, true, true, false, false, false] rfl rfl (by kernel_rfl) (by decide) (fun K hK => ?_)
    refine value_ (v := .slice (some ⟨V.heap.size, 0, none⟩) 1 1) (w1 := V.drew.alloc (.cells #[.int .i64 u0, .int .i64 u1] 68)) (by rfl) rfl ?_ ?_
    ·go_simp
    refine hK.out _ _ ⟨(blk_cell (blk_alloc K1.out.drew.hp _) 2).trans rfl, (blk_cell (blk_alloc (w := V.drew) X7.out _) 0).trans rfl, (blk_cell (blk_alloc (w := V.drew) X7.out _) 1).trans rfl⟩ (fun hHeld => ?_)
    clear hK hHeld K
    refine norm_ (a' := ?_) ?_ ?_
    rotate_left
    ·show Act.put _ (some 125) _ = _
     simp only [Act.put, lsA, lsB, lsC]
     rfl
    refine one_ (i := 14) (N := some 126) #[true, true, true, true, true, true, true, true, true, true, true, true, true, true, true, false, false] rfl rfl (by kernel_rfl) (by decide) (fun K hK => ?_)
    refine R1.app K1.out.drew (by decide) (by rfl) _ _ 44 (.agg #[.int .i64 0, .int .i64 0]) 16 (by rfl) Try.underlying44 info68 (by rfl) (by decide) (by omega) ⟨u0, u1⟩ [.int .i64 u0, .int .i64 u1] (by rfl) (by rfl) (k101_mkM _ _ _ ⟨u0, u1⟩) (by have := KB.out.1; have := HM2.out; omega) ?_
    rintro _ w5 K5 ⟨A7, c7, rfl⟩ hk
    have K5 := Aside0.mk K5
    have X8 : Aside0 (w5.heap[wr.heap.size]? = some (.cells #[.int .i64 s.f0, .int .i64 s.f1] 68 (0, 0))) := ⟨(hk _ (Nat.le_refl _) (blk_lt X7.out)).trans X7.out⟩
    clear hk
    refine hK.out _ _ ⟨(blk_cell K5.out.hp 2).trans rfl, (blk_cell X8.out 0).trans rfl, (blk_cell X8.out 1).trans rfl⟩ (fun hHeld => ?_)
    clear hK hHeld K
    refine norm_ (a' := ?_) ?_ ?_
    rotate_left
    ·show Act.put _ (some 126) _ = _
     simp only [Act.put, lsA, lsB, lsC]
     rfl
    clear X7 X8
    refine puU 15 (some 127) ?_ rfl rfl (by kernel_rfl) (fun _ _ _ h => h) (Or.inl ⟨by rfl, ?_⟩) ?_ ?_ ?_
    rotate_left
    ·intro w'
     go_simp
     with_reducible rfl
    rotate_left
    ·simp only [Act.put, lsA, lsB, lsC]
     rfl
    refine last_ (i := 16) (N := none) #[true, true, true, true, true, true, true, true, true, true, true, true, true, true, true, true, true] rfl rfl (by kernel_rfl) (by decide) (fun K hK => ?_)
    have h0 := (blk_cell K5.out.hp 2).trans rfl
    have h1 := blk_frozen K5.out.hp 2
    refine skip_ (w1 := ?_) (by rfl) rfl ?_ ?_
    rotate_left
    ·go_simp
     rfl
    refine hK.out _ _ ?_
    clear hK K h0 h1
    refine done_ (by kernel_rfl) ?_
    clear hHeld v0 v1
    have K9 := Aside0.mk (K5.out.put (by have := HP.out; omega) (by decide) 2 _ (cs' := #[.int .i64 0, .int .i64 M, .slice A7 (l.length + 1) c7, .slice none 0 0, .int .i64 0, .slice none 0 0]) rfl).le
    have hll := KB.out.1
    rw [hll] at K9 ⊢
    have NB : Aside0 ((l ++ [(⟨u0, u1⟩ : S101)]).length = i + 1 ∧ ∀ s ∈ l ++ [(⟨u0, u1⟩ : S101)], (0 ≤ s.f0 ∧ s.f0 ≤ 2147483648) ∧ 0 ≤ s.f1 ∧ s.f1 ≤ 2147483648) := ⟨by rw [List.length_append, hll]; rfl, fun s hs => (List.mem_append.1 hs).elim (KB.out.2 s) (fun h => by
     have e : s = ⟨u0, u1⟩ := by simpa using h
     rw [e]
     exact U0.out)⟩
    clear hll
    go_wp2_with fail
    go_roundw
    case measure => simp [intOf]; omega
    case rel => exact ⟨i + 1, by omega, by go_num, ⟨_, _, _, K9.out, NB.out⟩⟩
   ·obtain rfl : m2 = i := by omega
    clear hlt hi
    have E6 := Aside0.mk KK.out.hp
    have E2 : Aside0 (wr.heap[p1 + 1]? = some (.cells #[.int .i64 0, .int .i64 0, .slice none 0 0, .slice none 0 0, .int .i64 0, .slice none 0 0] 80 (0, 0))) := ⟨KK.out.c.blk Q2.out (by have := HP.out; omega)⟩
    have r0 : wr.cell? ⟨p6, 0, none⟩ = some (.int .i64 0) := (blk_cell E6.out 0).trans rfl
    have r1 : wr.cell? ⟨p6, 1, none⟩ = some (.int .i64 M) := (blk_cell E6.out 1).trans rfl
    have r2 : wr.cell? ⟨p6, 2, none⟩ = some (.slice A m2 c) := (blk_cell E6.out 2).trans rfl
    have r3 : wr.cell? ⟨p6, 3, none⟩ = some (.slice none 0 0) := (blk_cell E6.out 3).trans rfl
    have r4 : wr.cell? ⟨p6, 4, none⟩ = some (.int .i64 0) := (blk_cell E6.out 4).trans rfl
    have r5 : wr.cell? ⟨p6, 5, none⟩ = some (.slice none 0 0) := (blk_cell E6.out 5).trans rfl
    have h0 : wr.cell? ⟨p1 + 1, 0, none⟩ = some (.int .i64 0) := (blk_cell E2.out 0).trans rfl
    have h1 : wr.cell? ⟨p1 + 1, 1, none⟩ = some (.int .i64 0) := (blk_cell E2.out 1).trans rfl
    have h2 : wr.cell? ⟨p1 + 1, 2, none⟩ = some (.slice none 0 0) := (blk_cell E2.out 2).trans rfl
    have h3 : wr.cell? ⟨p1 + 1, 3, none⟩ = some (.slice none 0 0) := (blk_cell E2.out 3).trans rfl
    have h4 : wr.cell? ⟨p1 + 1, 4, none⟩ = some (.int .i64 0) := (blk_cell E2.out 4).trans rfl
    have h5 : wr.cell? ⟨p1 + 1, 5, none⟩ = some (.slice none 0 0) := (blk_cell E2.out 5).trans rfl
    have hz : ∀ j, wr.frozen? ⟨p1 + 1, j, none⟩ = false := blk_frozen E2.out
    go_upto_region 42 with fail
    go_wp2_with fail
    clear r0 r1 r2 r3 r4 r5 h0 h1 h2 h3 h4 h5 hz
    obtain ⟨Wz, hWz⟩ : ∃ W, W = ((((((wr).setCell ⟨p1 + 1, 0, none⟩ (.int .i64 0)).setCell ⟨p1 + 1, 1, none⟩ (.int .i64 M)).setCell ⟨p1 + 1, 2, none⟩ (.slice A m2 c)).setCell ⟨p1 + 1, 3, none⟩ (.slice none 0 0)).setCell ⟨p1 + 1, 4, none⟩ (.int .i64 0)).setCell ⟨p1 + 1, 5, none⟩ (.slice none 0 0) := ⟨_, rfl⟩
    rw [← hWz]
    have HWz := Aside0.mk hWz
    clear hWz
    have EZ : Aside0 (Wz.heap[p1 + 1]? = some (.cells #[.int .i64 0, .int .i64 M, .slice A m2 c, .slice none 0 0, .int .i64 0, .slice none 0 0] 80 (0, 0))) := ⟨by rw [HWz.out]; exact put6 E2.out (.int .i64 0) (.int .i64 M) (.slice A m2 c) (.slice none 0 0) (.int .i64 0) (.slice none 0 0)⟩
    have r0 : Wz.cell? ⟨p1 + 1, 0, none⟩ = some (.int .i64 0) := (blk_cell EZ.out 0).trans rfl
    have r1 : Wz.cell? ⟨p1 + 1, 1, none⟩ = some (.int .i64 M) := (blk_cell EZ.out 1).trans rfl
    have r2 : Wz.cell? ⟨p1 + 1, 2, none⟩ = some (.slice A m2 c) := (blk_cell EZ.out 2).trans rfl
    have r3 : Wz.cell? ⟨p1 + 1, 3, none⟩ = some (.slice none 0 0) := (blk_cell EZ.out 3).trans rfl
    have r4 : Wz.cell? ⟨p1 + 1, 4, none⟩ = some (.int .i64 0) := (blk_cell EZ.out 4).trans rfl
    have r5 : Wz.cell? ⟨p1 + 1, 5, none⟩ = some (.slice none 0 0) := (blk_cell EZ.out 5).trans rfl
    refine bodyPost_ret (v := .agg #[.int .i64 0, .int .i64 M, .slice A m2 c, .slice none 0 0, .int .i64 0, .slice none 0 0]) (by simp [results, Try.results33, go_sem, r0, r1, r2, r3, r4, r5]) rfl ?_
    clear r0 r1 r2 r3 r4 r5
    rw [HWz.out]
    have hb : w.heap.size ≤ W6.heap.size := KK.out.ww
    refine ⟨_, rfl, ⟨(⟨0, M, l, [], 0, []⟩ : PI), ⟨_, _, _, _, _, _, _, _, _, rfl, fin_R9 KK.out.r hb E2.out (by decide) (.int .i64 0) (.int .i64 M) (.slice A m2 c) (.slice none 0 0) (.int .i64 0) (.slice none 0 0), Kd.R_nil _ _ _ _ _, Kd.R_nil _ _ _ _ _⟩, ?_, fin_B KK.out.bw (by have := HP.out; omega) (.int .i64 0) (.int .i64 M) (.slice A m2 c) (.slice none 0 0) (.int .i64 0) (.slice none 0 0)⟩⟩
    exact ⟨hK0.symm.trans HKK.out, MB.out, ⟨by have h1 := KB.out.1; have h2 := HM2.out; show l.length ≤ most; omega, KB.out.2⟩, by show (0:Int) ≤ 0 ∧ (0:Int) ≤ 8; omega, ⟨Nat.zero_le _, fun _ h => absurd h List.not_mem_nil⟩, ⟨Nat.zero_le _, fun _ h => absurd h List.not_mem_nil⟩, fun h => absurd h (by show (0:Int) ≠ 2; omega), fun _ => ⟨rfl, rfl, rfl⟩, fun h => absurd h (by show (0:Int) ≠ 3; omega), fun h => absurd rfl h⟩
 ·have hb0 : (K == 0) = false := by simpa using hK0
  by_cases hK3 : K = 3
  ·have hb3 : (K == 3) = true := by simpa using hK3
   clear e2 k2
   obtain ⟨S, hS⟩ : ∃ S, S = (pos sz).tmod 9 := ⟨_, rfl⟩
   have eS : (if 0 < sz then sz else 0) = pos sz := rfl
   have eT : (pos sz).tmod 9 = S := hS.symm
   have SB : 0 ≤ S ∧ S ≤ 8 := by rw [hS]; exact posmod sz
   obtain ⟨sN, hsN⟩ : ∃ n : Nat, S = n := ⟨S.toNat, by omega⟩
   have SN : sN ≤ 8 := by omega
   have hm64 : m5 ≤ 64 := by have := HM5.out; omega
   clear hS
   subst hsN
   go_enter Try.func33, Try.ntmps33
   go_wp2_with fail
   clear eS eT e5 hwr
   obtain ⟨W6, hW6⟩ : ∃ W, W = ((w.alloc (.cells #[.int .i64 kd, .int .i64 cap, .slice A2 n2 c2, .slice A3 n3 c3, .int .i64 sz, .slice A5 n5 c5] 80)).alloc (.cells #[.int .i64 0, .int .i64 0, .slice none 0 0, .slice none 0 0, .int .i64 0, .slice none 0 0] 80)).alloc (.cells #[.int .i64 3, .int .i64 0, .slice none 0 0, .slice none 0 0, .int .i64 (sN : Int), .slice none 0 0] 80) := ⟨_, rfl⟩
   rw [← hW6]
   obtain ⟨p1, hp1⟩ : ∃ p, p = w.heap.size := ⟨_, rfl⟩
   rw [← hp1]
   have B6 : Aside0 (Below w.heap.size w W6) := ⟨by rw [hW6]; exact below_alloc (below_alloc (below_alloc (Below.refl _ _) _) _) _⟩
   have Q1 : Aside0 (W6.heap[p1]? = some (.cells #[.int .i64 kd, .int .i64 cap, .slice A2 n2 c2, .slice A3 n3 c3, .int .i64 sz, .slice A5 n5 c5] 80 (0, 0))) := ⟨by rw [hW6, hp1]; simp only [al_get, al_size]; repeat (first | rw [if_pos trivial] | rw [if_neg (by omega)])⟩
   have Q2 : Aside0 (W6.heap[p1 + 1]? = some (.cells #[.int .i64 0, .int .i64 0, .slice none 0 0, .slice none 0 0, .int .i64 0, .slice none 0 0] 80 (0, 0))) := ⟨by rw [hW6, hp1]; simp only [al_get, al_size]; repeat (first | rw [if_pos trivial] | rw [if_neg (by omega)])⟩
   have Q3 : Aside0 (W6.heap[p1 + 1 + 1]? = some (.cells #[.int .i64 3, .int .i64 0, .slice none 0 0, .slice none 0 0, .int .i64 (sN : Int), .slice none 0 0] 80 (0, 0))) := ⟨by rw [hW6, hp1]; simp only [al_get, al_size]; repeat (first | rw [if_pos trivial] | rw [if_neg (by omega)])⟩
   have Z6 : Aside0 (W6.heap.size = p1 + 3) := ⟨by rw [hW6, hp1]; simp only [al_size]⟩
   obtain ⟨p6, hp6⟩ : ∃ p, p = p1 + 1 + 1 := ⟨_, rfl⟩
   rw [← hp6] at Q3 ⊢
   have HP := Aside0.mk (And.intro hp1 hp6)
   clear hW6 hp1 hp6
   have K0 : Aside0 (∃ A c l, R1 k102 121 w W6 p6 80 #[.int .i64 3, .int .i64 0, .slice none 0 0, .slice none 0 0, .int .i64 (sN : Int), .slice A 0 c] W6.heap.size W6 (.slice A 0 c) l ∧ l.length = 0 ∧ ∀ s ∈ l, (0 ≤ s.f0 ∧ s.f0 ≤ 2147483648) ∧ s.f1.Pairwise (· < ·) ∧ ∀ e ∈ s.f1, 0 ≤ e ∧ e < (sN : Int)) := ⟨none, 0, [], R1.start _ _ Q3.out B6.out, rfl, by simp⟩
   go_loopw [145] (fun v wr => ∃ i : Nat, i ≤ m5 ∧ v = .int .i64 i ∧ Aside0 (∃ A c l, R1 k102 121 w W6 p6 80 #[.int .i64 3, .int .i64 0, .slice none 0 0, .slice none 0 0, .int .i64 (sN : Int), .slice A i c] wr.heap.size wr (.slice A i c) l ∧ l.length = i ∧ ∀ s ∈ l, (0 ≤ s.f0 ∧ s.f0 ≤ 2147483648) ∧ s.f1.Pairwise (· < ·) ∧ ∀ e ∈ s.f1, 0 ≤ e ∧ e < (sN : Int))) (fun v _ => m5 - (intOf v).toNat)
   case atStart => exact ⟨0, Nat.zero_le _, rfl, K0⟩
   case round =>
    clear K0
    obtain ⟨i, hi, rfl, ⟨A, c, l, K1, K2, K3⟩⟩ := hrel
    have KK := Aside0.mk K1
    have KB := Aside0.mk (And.intro K2 K3)
    clear K1 K2 K3
    by_cases hlt : i < m5
    ·obtain ⟨wo, hwo⟩ : ∃ wo : World, wo = wr := ⟨_, rfl⟩
     rw [← hwo] at KK ⊢
     clear hwo
     obtain ⟨ad, AE, cE, rfl, a0', a1', lE', hE'⟩ := at_T102 H5.out (i : Int) (by omega) (by have := HN5.out; have := HM5.out; omega)
     have a0 := pw_cell_below KK.out.bw a0'
     have a1 := pw_cell_below KK.out.bw a1'
     have hel : (rd_T102 x.sets (i : Int)).f1.length ≤ 17592186044416 := HX.out.els _ (by
      unfold rd_T102
      rw [Int.toNat_natCast, List.getD_eq_getElem?_getD, List.getElem?_eq_getElem (by rw [← HN5.out]; have := HM5.out; omega)]
      exact List.getElem_mem _)
     rw [Int.toNat_natCast] at a0 a1
     obtain ⟨f0, hf0⟩ : ∃ z, z = (rd_T102 x.sets (i : Int)).f0 := ⟨_, rfl⟩
     obtain ⟨el, hl0⟩ : ∃ z, z = (rd_T102 x.sets (i : Int)).f1 := ⟨_, rfl⟩
     rw [← hf0] at a0
     rw [← hl0] at a1 hel hE' lE'
     obtain ⟨nE, hnE⟩ : ∃ n, n = el.length := ⟨_, rfl⟩
     rw [← hnE] at a1 hel hE' lE'
     have HE := Aside0.mk hE'
     have lE := lE'
     clear a0' a1' hf0 hl0 hnE hE' lE'
     obtain ⟨q, hq⟩ : ∃ q, q = min nE 40 := ⟨_, rfl⟩
     have eq1 : (if 40 < (nE : Int) then 40 else (nE : Int)) = (q : Int) := by split <;> omega
     have kq : q ≤ cE := by omega
     have QN : Aside0 (q ≤ nE) := ⟨by omega⟩
     clear hq
     go_wp2_with fail
     refine (mag_any9 f0 _).mono ?_
     rintro _ _ ⟨rfl, rfl⟩
     obtain ⟨u, hu⟩ : ∃ z, z = pos (mag f0) := ⟨_, rfl⟩
     have UB : Aside0 (0 ≤ u ∧ u ≤ 2147483648) := ⟨by rw [hu]; exact pos_mag _⟩
     have eu : (if 0 < mag f0 then mag f0 else 0) = u := by rw [hu]; rfl
     clear hu
     have b4 : wo.cell? ⟨p6, 4, none⟩ = some (.int .i64 (sN : Int)) := (blk_cell KK.out.hp 4).trans rfl
     go_upto_region 30 with fail
     clear eu b4 a0 a1
     obtain ⟨X, hX⟩ : ∃ X, X = (wo.alloc (.cells #[.int .i64 f0, .slice AE nE cE] 121)).alloc (.cells #[.int .i64 u, .slice none 0 0] 121) := ⟨_, rfl⟩
     rw [← hX]
     obtain ⟨g10, hg10⟩ : ∃ g, g = wo.heap.size := ⟨_, rfl⟩
     rw [← hg10]
     obtain ⟨g11, hg11⟩ : ∃ g, g = g10 + 1 := ⟨_, rfl⟩
     rw [← hg11]
     have X10 : Aside0 (X.heap[g10]? = some (.cells #[.int .i64 f0, .slice AE nE cE] 121 (0, 0))) := ⟨by rw [hX, hg10]; simp only [al_get, al_size]; repeat (first | rw [if_pos trivial] | rw [if_neg (by omega)])⟩
     have X11 : Aside0 (X.heap[g11]? = some (.cells #[.int .i64 u, .slice none 0 0] 121 (0, 0))) := ⟨by rw [hX, hg11, hg10]; simp only [al_get, al_size]; repeat (first | rw [if_pos trivial] | rw [if_neg (by omega)])⟩
     have XB : Aside0 (Below wo.heap.size wo X) := ⟨by rw [hX]; exact below_alloc (below_alloc (Below.refl _ _) _) _⟩
     have XS : Aside0 (X.heap.size = g10 + 2) := ⟨by rw [hX, hg10]; simp only [al_size]⟩
     have HG := Aside0.mk (And.intro hg10 hg11)
     clear hX hg10 hg11
     have X6 : Aside0 (X.heap[p6]? = some (.cells #[.int .i64 3, .int .i64 0, .slice none 0 0, .slice none 0 0, .int .i64 (sN : Int), .slice A i c] 80 (0, 0))) := ⟨blk_below KK.out.hp XB.out⟩
     have b4 : X.cell? ⟨p6, 4, none⟩ = some (.int .i64 (sN : Int)) := (blk_cell X6.out 4).trans rfl
     go_wp2_with fail
     clear b4
     have WX : Aside0 (Below w.heap.size w X) := ⟨KK.out.bw.trans (XB.out.mono KK.out.bw.size)⟩
     have J0 : Aside0 (∃ (A : Option Addr) (n c : Nat) (xs : List Int), R1 (Kd.int .i64) 3 w X g11 121 #[.int .i64 u, .slice A n c] X.heap.size X (.slice A n c) xs ∧ xs.Pairwise (· < ·) ∧ (∀ y ∈ xs, 0 ≤ y ∧ y < (0 : Int)) ∧ xs.length ≤ 0) := ⟨none, 0, 0, [], R1.start _ _ X11.out WX.out, List.Pairwise.nil, by simp, Nat.le_refl _⟩
     go_loopw [157] (fun v wr => ∃ e : Nat, e ≤ sN ∧ v = .int .i64 e ∧ Aside0 (∃ (A : Option Addr) (n c : Nat) (xs : List Int), R1 (Kd.int .i64) 3 w X g11 121 #[.int .i64 u, .slice A n c] wr.heap.size wr (.slice A n c) xs ∧ xs.Pairwise (· < ·) ∧ (∀ y ∈ xs, 0 ≤ y ∧ y < (e : Int)) ∧ xs.length ≤ e)) (fun v _ => sN - (intOf v).toNat)
     case atStart => exact ⟨0, Nat.zero_le _, rfl, J0⟩
     case round =>
      clear J0
      obtain ⟨e, he, rfl, ⟨A1, n1, c1, xs, J1, J2, J3, J4⟩⟩ := hrel
      have JJ := Aside0.mk J1
      have JB := Aside0.mk (And.intro J2 (And.intro J3 J4))
      clear J1 J2 J3 J4
      by_cases hlt2 : e < sN
      ·have Y10 : Aside0 (wr.heap[g10]? = some (.cells #[.int .i64 f0, .slice AE nE cE] 121 (0, 0))) := ⟨JJ.out.c.blk X10.out (by have := HG.out; omega)⟩
       have b1 : wr.cell? ⟨g10, 1, none⟩ = some (.slice AE nE cE) := (blk_cell Y10.out 1).trans rfl
       go_wp2_with fail
       clear b1
       go_loopw [168] (fun v w' => ∃ j : Nat, j ≤ q ∧ v = .int .i64 j ∧ w' = wr) (fun v _ => q - (intOf v).toNat)
       case atStart => exact ⟨0, Nat.zero_le _, rfl, rfl⟩
       case round =>
        obtain ⟨j, hj, rfl, rfl⟩ := hrel
        by_cases hlt3 : j < q
        ·obtain ⟨ae, rfl, hx'⟩ := at_Int HE.out j (by have := QN.out; omega)
         have hx := pw_cell_below JJ.out.bw hx'
         clear hx'
         obtain ⟨z, hz⟩ : ∃ z, z = el.getD j 0 := ⟨_, rfl⟩
         rw [← hz] at hx
         clear hz
         obtain ⟨Z, hZ⟩ : ∃ Z, Z = (pos z).tmod 9 := ⟨_, rfl⟩
         have ez : (if 0 < z then z else 0) = pos z := rfl
         have eZ : (pos z).tmod 9 = Z := hZ.symm
         clear hZ
         by_cases hZe : Z = (e : Int)
         ·have hbz : (Z == (e : Int)) = true := by simpa using hZe
          clear hZe
          have b2 : wr.cell? ⟨g11, 1, none⟩ = some (.slice A1 n1 c1) := (blk_cell JJ.out.hp 1).trans rfl
          have LL : Aside0 ((xs.length + 1) * 8 ≤ 140737488355328) := ⟨by have := JB.out.2.2; omega⟩
          go_wp2_with (at_builtin; refine R1.appL JJ.out (by decide) rfl _ _ 29 (.int .i64 0) 8 rfl Try.underlying29 infoR3 rfl (by decide) (by omega) (e : Int) [.int .i64 e] rfl rfl rfl LL.out ?_; rintro _ w5 K5' ⟨A7, c7, rfl⟩ _; have K5 := Aside0.mk K5'; clear K5'; have h3 := (blk_cell K5.out.hp 1).trans rfl; have h4 := blk_frozen K5.out.hp 1)
          have K9 := Aside0.mk (K5.out.put (by have := HG.out; have := KK.out.bw.size; omega) (by decide) 1 _ (cs' := #[.int .i64 u, .slice A7 (xs.length + 1) c7]) rfl).le
          have NB := Aside0.mk (pw_snoc JB.out.1 JB.out.2.1 (by omega))
          go_roundw
          case measure => simp [intOf]; omega
          case rel => exact ⟨e + 1, by omega, by go_num, ⟨_, _, _, _, K9.out, NB.out.1, by have := NB.out.2; simpa using this, by rw [List.length_append]; have := JB.out.2.2; show xs.length + 1 ≤ e + 1; omega⟩⟩
         ·have hbz : (Z == (e : Int)) = false := by simpa using hZe
          clear hZe
          go_wp2_with fail
          go_roundw
          case measure => simp [intOf]; omega
          case rel => exact ⟨j + 1, by omega, by go_num, trivial⟩
        ·obtain rfl : q = j := by omega
         go_wp2_with fail
         go_roundw
         case measure => simp [intOf]; omega
         case rel => exact ⟨e + 1, by omega, by go_num, ⟨_, _, _, _, JJ.out, JB.out.1, fun y hy => by have := JB.out.2.1 y hy; omega, by have := JB.out.2.2; omega⟩⟩
      ·obtain rfl : sN = e := by omega
       clear hlt2 he
       have C1 := Aside0.mk (JJ.out.c)
       have BX : Aside0 (Below wo.heap.size wo wr) := ⟨XB.out.trans ⟨C1.out.os, C1.out.tape, C1.out.output, C1.out.size, fun k hk => C1.out.block k (Nat.lt_of_lt_of_le hk XB.out.size) (by have := HG.out; omega)⟩⟩
       have K1 : Aside0 (R1 k102 121 w W6 p6 80 #[.int .i64 3, .int .i64 0, .slice none 0 0, .slice none 0 0, .int .i64 (sN : Int), .slice A i c] wo.heap.size wr (.slice A i c) l) := ⟨KK.out.new BX.out⟩
       obtain ⟨hn1, _, _⟩ := R_C JJ.out.r
       have RR : Aside0 (k102.M wr W6.heap.size (fun k => wo.heap.size ≤ k) (⟨u, xs⟩ : S102) [.int .i64 u, .slice A1 n1 c1]) := ⟨k102_mkM _ _ _ ⟨u, xs⟩ (Kd.R_mono (Kd.R_bound (Kd.R_lower (base' := wo.heap.size) JJ.out.r XB.out.size) |> fun h => Kd.R_lower (base' := W6.heap.size) h KK.out.c.size) (fun k hk => hk.2.1))⟩
       have q0 : wr.cell? ⟨p6, 5, none⟩ = some (.slice A i c) := (blk_cell K1.out.hp 5).trans rfl
       have q1 : wr.cell? ⟨g11, 0, none⟩ = some (.int .i64 u) := (blk_cell JJ.out.hp 0).trans rfl
       have q2 : wr.cell? ⟨g11, 1, none⟩ = some (.slice A1 n1 c1) := (blk_cell JJ.out.hp 1).trans rfl
       have LL : Aside0 ((l.length + 1) * 32 ≤ 140737488355328) := ⟨by have := KB.out.1; have := HM5.out; omega⟩
       go_upto_region 40 with fail
       clear hn1
       go_wp2_with (at_builtin; refine R1.appL K1.out (by decide) rfl _ _ 78 (.agg #[.int .i64 0, .slice none 0 0]) 32 rfl Try.underlying78 infoR999 rfl (by decide) (by omega) (⟨u, xs⟩ : S102) [.int .i64 u, .slice A1 n1 c1] rfl rfl RR.out LL.out ?_; rintro _ w5 K5' ⟨A7, c7, rfl⟩ _; have K5 := Aside0.mk K5'; clear K5'; have h3 := (blk_cell K5.out.hp 5).trans rfl; have h4 := blk_frozen K5.out.hp 5)
       have K9 := Aside0.mk (K5.out.put (by have := HP.out; omega) (by decide) 5 _ (cs' := #[.int .i64 3, .int .i64 0, .slice none 0 0, .slice none 0 0, .int .i64 (sN : Int), .slice A7 (l.length + 1) c7]) rfl).le
       have hll := KB.out.1
       rw [hll] at K9
       have NB : Aside0 ((l ++ [(⟨u, xs⟩ : S102)]).length = i + 1 ∧ ∀ s ∈ l ++ [(⟨u, xs⟩ : S102)], (0 ≤ s.f0 ∧ s.f0 ≤ 2147483648) ∧ s.f1.Pairwise (· < ·) ∧ ∀ e ∈ s.f1, 0 ≤ e ∧ e < (sN : Int)) := ⟨by rw [List.length_append, hll]; rfl, fun s hs => (List.mem_append.1 hs).elim (KB.out.2 s) (fun h => by
         have e : s = ⟨u, xs⟩ := by simpa using h
         rw [e]
         exact ⟨UB.out, JB.out.1, JB.out.2.1⟩)⟩
       rw [hll]
       clear hll q0 q1 q2 h3 h4
       go_roundw
       case measure => simp [intOf]; omega
       case rel => exact ⟨i + 1, by omega, by go_num, ⟨_, _, _, K9.out, NB.out⟩⟩
    ·obtain rfl : m5 = i := by omega
     clear hlt hi
     have E6 := Aside0.mk KK.out.hp
     have E2 : Aside0 (wr.heap[p1 + 1]? = some (.cells #[.int .i64 0, .int .i64 0, .slice none 0 0, .slice none 0 0, .int .i64 0, .slice none 0 0] 80 (0, 0))) := ⟨KK.out.c.blk Q2.out (by have := HP.out; omega)⟩
     have r0 : wr.cell? ⟨p6, 0, none⟩ = some (.int .i64 3) := (blk_cell E6.out 0).trans rfl
     have r1 : wr.cell? ⟨p6, 1, none⟩ = some (.int .i64 0) := (blk_cell E6.out 1).trans rfl
     have r2 : wr.cell? ⟨p6, 2, none⟩ = some (.slice none 0 0) := (blk_cell E6.out 2).trans rfl
     have r3 : wr.cell? ⟨p6, 3, none⟩ = some (.slice none 0 0) := (blk_cell E6.out 3).trans rfl
     have r4 : wr.cell? ⟨p6, 4, none⟩ = some (.int .i64 (sN : Int)) := (blk_cell E6.out 4).trans rfl
     have r5 : wr.cell? ⟨p6, 5, none⟩ = some (.slice A m5 c) := (blk_cell E6.out 5).trans rfl
     have h0 : wr.cell? ⟨p1 + 1, 0, none⟩ = some (.int .i64 0) := (blk_cell E2.out 0).trans rfl
     have h1 : wr.cell? ⟨p1 + 1, 1, none⟩ = some (.int .i64 0) := (blk_cell E2.out 1).trans rfl
     have h2 : wr.cell? ⟨p1 + 1, 2, none⟩ = some (.slice none 0 0) := (blk_cell E2.out 2).trans rfl
     have h3 : wr.cell? ⟨p1 + 1, 3, none⟩ = some (.slice none 0 0) := (blk_cell E2.out 3).trans rfl
     have h4 : wr.cell? ⟨p1 + 1, 4, none⟩ = some (.int .i64 0) := (blk_cell E2.out 4).trans rfl
     have h5 : wr.cell? ⟨p1 + 1, 5, none⟩ = some (.slice none 0 0) := (blk_cell E2.out 5).trans rfl
     have hz : ∀ j, wr.frozen? ⟨p1 + 1, j, none⟩ = false := blk_frozen E2.out
     go_upto_region 42 with fail
     go_wp2_with fail
     clear r0 r1 r2 r3 r4 r5 h0 h1 h2 h3 h4 h5 hz
     obtain ⟨Wz, hWz⟩ : ∃ W, W = ((((((wr).setCell ⟨p1 + 1, 0, none⟩ (.int .i64 3)).setCell ⟨p1 + 1, 1, none⟩ (.int .i64 0)).setCell ⟨p1 + 1, 2, none⟩ (.slice none 0 0)).setCell ⟨p1 + 1, 3, none⟩ (.slice none 0 0)).setCell ⟨p1 + 1, 4, none⟩ (.int .i64 (sN : Int))).setCell ⟨p1 + 1, 5, none⟩ (.slice A m5 c) := ⟨_, rfl⟩
     rw [← hWz]
     have HWz := Aside0.mk hWz
     clear hWz
     have EZ : Aside0 (Wz.heap[p1 + 1]? = some (.cells #[.int .i64 3, .int .i64 0, .slice none 0 0, .slice none 0 0, .int .i64 (sN : Int), .slice A m5 c] 80 (0, 0))) := ⟨by rw [HWz.out]; exact put6 E2.out (.int .i64 3) (.int .i64 0) (.slice none 0 0) (.slice none 0 0) (.int .i64 (sN : Int)) (.slice A m5 c)⟩
     have r0 : Wz.cell? ⟨p1 + 1, 0, none⟩ = some (.int .i64 3) := (blk_cell EZ.out 0).trans rfl
     have r1 : Wz.cell? ⟨p1 + 1, 1, none⟩ = some (.int .i64 0) := (blk_cell EZ.out 1).trans rfl
     have r2 : Wz.cell? ⟨p1 + 1, 2, none⟩ = some (.slice none 0 0) := (blk_cell EZ.out 2).trans rfl
     have r3 : Wz.cell? ⟨p1 + 1, 3, none⟩ = some (.slice none 0 0) := (blk_cell EZ.out 3).trans rfl
     have r4 : Wz.cell? ⟨p1 + 1, 4, none⟩ = some (.int .i64 (sN : Int)) := (blk_cell EZ.out 4).trans rfl
     have r5 : Wz.cell? ⟨p1 + 1, 5, none⟩ = some (.slice A m5 c) := (blk_cell EZ.out 5).trans rfl
     refine bodyPost_ret (v := .agg #[.int .i64 3, .int .i64 0, .slice none 0 0, .slice none 0 0, .int .i64 (sN : Int), .slice A m5 c]) (by simp [results, Try.results33, go_sem, r0, r1, r2, r3, r4, r5]) rfl ?_
     clear r0 r1 r2 r3 r4 r5
     rw [HWz.out]
     have hb : w.heap.size ≤ W6.heap.size := KK.out.ww
     refine ⟨_, rfl, ⟨(⟨3, 0, [], [], sN, l⟩ : PI), ⟨_, _, _, _, _, _, _, _, _, rfl, Kd.R_nil _ _ _ _ _, Kd.R_nil _ _ _ _ _, fin_R9 KK.out.r hb E2.out (by decide) (.int .i64 3) (.int .i64 0) (.slice none 0 0) (.slice none 0 0) (.int .i64 (sN : Int)) (.slice A m5 c)⟩, ?_, fin_B KK.out.bw (by have := HP.out; omega) (.int .i64 3) (.int .i64 0) (.slice none 0 0) (.slice none 0 0) (.int .i64 (sN : Int)) (.slice A m5 c)⟩⟩
     have hll := KB.out.1
     exact ⟨hK3.symm.trans HKK.out, by show (0:Int) ≤ 0 ∧ (0:Int) ≤ 2147483648; omega, ⟨Nat.zero_le _, fun _ h => absurd h List.not_mem_nil⟩, by show (0:Int) ≤ (sN : Int) ∧ (sN : Int) ≤ 8; omega, ⟨by show l.length ≤ most; rw [hll]; have := HM5.out; omega, KB.out.2⟩, ⟨Nat.zero_le _, fun _ h => absurd h List.not_mem_nil⟩, fun h => absurd h (by show (3:Int) ≠ 2; omega), fun h => absurd h (by show (3:Int) ≠ 0; omega), fun _ => ⟨rfl, rfl, rfl⟩, fun _ h => absurd rfl h⟩
  ·have hb3 : (K == 3) = false := by simpa using hK3
   clear e2 e5 k2 k5
   obtain ⟨mm, hmm⟩ : ∃ mm, mm = most - 1 := ⟨_, rfl⟩
   obtain ⟨q, hq⟩ : ∃ q, q = min n3 mm := ⟨_, rfl⟩
   obtain ⟨n, hn⟩ : ∃ n, n = max 1 q := ⟨_, rfl⟩
   have e1 : (most : Int) - 1 = (mm : Int) := by omega
   have e3 : (if mm < n3 then (mm : Int) else (n3 : Int)) = (q : Int) := by split <;> omega
   have e4 : (if 1 < (q : Int) then (q : Int) else 1) = (n : Int) := by split <;> omega
   have hn1 : 1 ≤ n := by omega
   have hn2 : n ≤ 64 := by omega
   have m1 := mk30 n hn2
   have NM : Aside0 (n ≤ max 1 (most - 1)) := ⟨by omega⟩
   clear hn hq hmm
   go_enter Try.func33, Try.ntmps33
   go_wp2_with fail
   clear e1 e3 e4 hwr
   obtain ⟨W6, hW6⟩ : ∃ W, W = ((w.alloc (.cells #[.int .i64 kd, .int .i64 cap, .slice A2 n2 c2, .slice A3 n3 c3, .int .i64 sz, .slice A5 n5 c5] 80)).alloc (.cells #[.int .i64 0, .int .i64 0, .slice none 0 0, .slice none 0 0, .int .i64 0, .slice none 0 0] 80)).alloc (.cells #[.int .i64 K, .int .i64 0, .slice none 0 0, .slice none 0 0, .int .i64 0, .slice none 0 0] 80) := ⟨_, rfl⟩
   rw [← hW6]
   obtain ⟨p1, hp1⟩ : ∃ p, p = w.heap.size := ⟨_, rfl⟩
   rw [← hp1]
   have B6 : Aside0 (Below w.heap.size w W6) := ⟨by rw [hW6]; exact below_alloc (below_alloc (below_alloc (Below.refl _ _) _) _) _⟩
   have Q1 : Aside0 (W6.heap[p1]? = some (.cells #[.int .i64 kd, .int .i64 cap, .slice A2 n2 c2, .slice A3 n3 c3, .int .i64 sz, .slice A5 n5 c5] 80 (0, 0))) := ⟨by rw [hW6, hp1]; simp only [al_get, al_size]; repeat (first | rw [if_pos trivial] | rw [if_neg (by omega)])⟩
   have Q2 : Aside0 (W6.heap[p1 + 1]? = some (.cells #[.int .i64 0, .int .i64 0, .slice none 0 0, .slice none 0 0, .int .i64 0, .slice none 0 0] 80 (0, 0))) := ⟨by rw [hW6, hp1]; simp only [al_get, al_size]; repeat (first | rw [if_pos trivial] | rw [if_neg (by omega)])⟩
   have Q3 : Aside0 (W6.heap[p1 + 1 + 1]? = some (.cells #[.int .i64 K, .int .i64 0, .slice none 0 0, .slice none 0 0, .int .i64 0, .slice none 0 0] 80 (0, 0))) := ⟨by rw [hW6, hp1]; simp only [al_get, al_size]; repeat (first | rw [if_pos trivial] | rw [if_neg (by omega)])⟩
   have Z6 : Aside0 (W6.heap.size = p1 + 3) := ⟨by rw [hW6, hp1]; simp only [al_size]⟩
   obtain ⟨p6, hp6⟩ : ∃ p, p = p1 + 1 + 1 := ⟨_, rfl⟩
   rw [← hp6] at Q3 ⊢
   have HP := Aside0.mk (And.intro hp1 hp6)
   clear hW6 hp1 hp6
   have K0 : Aside0 (∃ A c l, R1 (Kd.slice 2 (Kd.int .i64)) 30 w W6 p6 80 #[.int .i64 K, .int .i64 0, .slice none 0 0, .slice A 0 c, .int .i64 0, .slice none 0 0] W6.heap.size W6 (.slice A 0 c) l ∧ l.length = 0 ∧ (∀ r ∈ l, r.length = n ∧ ∀ y ∈ r, -2147483648 ≤ y ∧ y ≤ 2147483648) ∧ (K = 2 → ∀ j, j < 0 → (l.getD j []).getD j 0 = 0)) := ⟨none, 0, [], R1.start _ _ Q3.out B6.out, rfl, by simp, fun _ j hj => absurd hj (Nat.not_lt_zero _)⟩
   go_loopw [35] (fun v wr => ∃ i : Nat, i ≤ n ∧ v = .int .i64 i ∧ Aside0 (∃ A c l, R1 (Kd.slice 2 (Kd.int .i64)) 30 w W6 p6 80 #[.int .i64 K, .int .i64 0, .slice none 0 0, .slice A i c, .int .i64 0, .slice none 0 0] wr.heap.size wr (.slice A i c) l ∧ l.length = i ∧ (∀ r ∈ l, r.length = n ∧ ∀ y ∈ r, -2147483648 ≤ y ∧ y ≤ 2147483648) ∧ (K = 2 → ∀ j, j < i → (l.getD j []).getD j 0 = 0))) (fun v _ => n - (intOf v).toNat)
   case atStart => exact ⟨0, Nat.zero_le _, rfl, K0⟩
   case round =>
    clear K0
    obtain ⟨i, hi, rfl, ⟨A, c, l, K1, K2, K3, K4⟩⟩ := hrel
    have KK := Aside0.mk K1
    have KB := Aside0.mk (And.intro K2 (And.intro K3 K4))
    clear K1 K2 K3 K4
    by_cases hlt : i < n
    ·obtain ⟨wo, hwo⟩ : ∃ wo : World, wo = wr := ⟨_, rfl⟩
     rw [← hwo] at KK ⊢
     clear hwo
     go_upto_region 9 with fail
     obtain ⟨B, hB⟩ : ∃ B, B = wo.heap.size := ⟨_, rfl⟩
     have J0 : Aside0 (∃ f, IB (wo.alloc (.cells (tabI n fun _ => 0) 2)) B 2 n f ∧ (∀ j, j < n → -2147483648 ≤ f j ∧ f j ≤ 2147483648) ∧ (K = 2 → f i = 0) ∧ Below wo.heap.size wo (wo.alloc (.cells (tabI n fun _ => 0) 2))) := ⟨fun _ => 0, by rw [hB]; exact heap_alloc_new _ _, fun _ _ => by show -2147483648 ≤ (0:Int) ∧ (0:Int) ≤ 2147483648; omega, fun _ => rfl, below_alloc (Below.refl _ _) _⟩
     have HB := Aside0.mk hB
     rw [← hB]
     clear hB
     have QB : Aside0 (wo.heap[p1]? = some (.cells #[.int .i64 kd, .int .i64 cap, .slice A2 n2 c2, .slice A3 n3 c3, .int .i64 sz, .slice A5 n5 c5] 80 (0, 0))) := ⟨KK.out.c.blk Q1.out (by have := HP.out; omega)⟩
     go_wp2_with fail
     clear m1
     go_loopw [41] (fun v wr => ∃ k : Nat, k ≤ n ∧ v = .int .i64 k ∧ Aside0 (∃ f, IB wr B 2 n f ∧ (∀ j, j < n → -2147483648 ≤ f j ∧ f j ≤ 2147483648) ∧ (K = 2 → f i = 0) ∧ Below wo.heap.size wo wr)) (fun v _ => n - (intOf v).toNat)
     case atStart => exact ⟨0, Nat.zero_le _, rfl, J0⟩
     case round =>
      clear J0
      obtain ⟨k, hk, rfl, ⟨f, f1, f2, f3, f4⟩⟩ := hrel
      have FF := Aside0.mk (And.intro f1 (And.intro f2 (And.intro f3 f4)))
      clear f1 f2 f3 f4
      by_cases hlt2 : k < n
      ·have b3 : wr.cell? ⟨p1, 3, none⟩ = some (.slice A3 n3 c3) := (blk_cell (blk_below QB.out FF.out.2.2.2) 3).trans rfl
       have KP : Aside0 (wr.heap[p6]? = some (.cells #[.int .i64 K, .int .i64 0, .slice none 0 0, .slice A i c, .int .i64 0, .slice none 0 0] 80 (0, 0))) := ⟨blk_below KK.out.hp FF.out.2.2.2⟩
       have b6 : wr.cell? ⟨p6, 0, none⟩ = some (.int .i64 K) := (blk_cell KP.out 0).trans rfl
       by_cases h1 : i < n3
       ·obtain ⟨ad, AY, cY, rfl, a0', ly, hy⟩ := at_L2 H3.out (i : Int) (by omega) (by have := HN3.out; omega)
        have BW : Aside0 (Below w.heap.size w wr) := ⟨KK.out.bw.trans (FF.out.2.2.2.mono KK.out.bw.size)⟩
        have a0 := pw_cell_below BW.out a0'
        rw [Int.toNat_natCast] at a0
        have hyl : (rd_L2 x.cost (i : Int)).length ≤ 17592186044416 := HX.out.rows _ (by
         unfold rd_L2
         rw [Int.toNat_natCast, List.getD_eq_getElem?_getD, List.getElem?_eq_getElem (by rw [← HN3.out]; exact h1)]
         exact List.getElem_mem _)
        obtain ⟨y, hy1⟩ : ∃ y, y = rd_L2 x.cost (i : Int) := ⟨_, rfl⟩
        rw [← hy1] at a0 ly hy hyl
        obtain ⟨nY, hnY⟩ : ∃ m, m = y.length := ⟨_, rfl⟩
        rw [← hnY] at a0 ly hyl hy
        clear hy1 a0' hnY
        have HY := Aside0.mk hy
        clear hy
        by_cases h2 : k < nY
        ·by_cases h3 : K = 2 ∧ i = k
         ·obtain ⟨hK2, rfl⟩ := h3
          have hb2 : (K == 2) = true := by simpa using hK2
          clear hK2
          go_wp2_with fail
          exact ⟨⟨i + 1, by omega, by simp, ⟨f, FF.out.1, FF.out.2.1, FF.out.2.2.1, FF.out.2.2.2⟩⟩, by simp [intOf]; omega⟩
         ·obtain ⟨ar, rfl, hx'⟩ := at_Int HY.out k h2
          have hx := pw_cell_below BW.out hx'
          clear hx'
          obtain ⟨z, hz⟩ : ∃ z, z = y.getD k 0 := ⟨_, rfl⟩
          rw [← hz] at hx
          clear hz
          have er := FF.out.1.c hlt2
          have zr := FF.out.1.z k
          have DD : Aside0 (∃ f', IB (wr.setCell ⟨B, k, none⟩ (.int .i64 (mag z))) B 2 n f' ∧ (∀ j, j < n → -2147483648 ≤ f' j ∧ f' j ≤ 2147483648) ∧ (K = 2 → f' i = 0) ∧ Below wo.heap.size wo (wr.setCell ⟨B, k, none⟩ (.int .i64 (mag z)))) := ⟨upd f k (mag z), FF.out.1.set k _, upd_bd FF.out.2.1 (mag_bd z), fun e => by
           unfold upd
           rw [if_neg (fun e' => h3 ⟨e, e'⟩)]
           exact FF.out.2.2.1 e, FF.out.2.2.2.setCell (by have := HB.out; show wo.heap.size ≤ B; omega) _⟩
          by_cases hK2 : K = 2
          ·have hik : ((i : Int) == (k : Int)) = false := by
            rw [beq_eq_false_iff_ne]
            exact fun e => h3 ⟨hK2, by omega⟩
           have hb2 : (K == 2) = true := by simpa using hK2
           clear hK2 h3
           go_wp2_with fail
           refine (mag_any9 z _).mono ?_
           rintro _ _ ⟨rfl, rfl⟩
           go_wp2_with fail
           exact ⟨⟨k + 1, by omega, by simp, DD⟩, by simp [intOf]; omega⟩
          ·have hb2 : (K == 2) = false := by simpa using hK2
           clear hK2 h3
           go_wp2_with fail
           refine (mag_any9 z _).mono ?_
           rintro _ _ ⟨rfl, rfl⟩
           go_wp2_with fail
           exact ⟨⟨k + 1, by omega, by simp, DD⟩, by simp [intOf]; omega⟩
        ·go_wp2_with fail
         exact ⟨⟨k + 1, by omega, by simp, ⟨f, FF.out.1, FF.out.2.1, FF.out.2.2.1, FF.out.2.2.2⟩⟩, by simp [intOf]; omega⟩
       ·go_wp2_with fail
        exact ⟨⟨k + 1, by omega, by simp, ⟨f, FF.out.1, FF.out.2.1, FF.out.2.2.1, FF.out.2.2.2⟩⟩, by simp [intOf]; omega⟩
      ·obtain rfl : n = k := by omega
       clear hlt2 hk
       have K1 : Aside0 (R1 (Kd.slice 2 (Kd.int .i64)) 30 w W6 p6 80 #[.int .i64 K, .int .i64 0, .slice none 0 0, .slice A i c, .int .i64 0, .slice none 0 0] wo.heap.size wr (.slice A i c) l) := ⟨KK.out.new FF.out.2.2.2⟩
       have RR : Aside0 ((Kd.slice 2 (Kd.int .i64)).M wr W6.heap.size (fun k => wo.heap.size ≤ k) ((List.range n).map f) [.slice (some ⟨B, 0, none⟩) n n]) := ⟨⟨_, rfl, R_IB FF.out.1 (by have := HB.out; have := KK.out.c.size; omega) (by have := HB.out; omega) (by omega)⟩⟩
       have q0 : wr.cell? ⟨p6, 3, none⟩ = some (.slice A i c) := (blk_cell K1.out.hp 3).trans rfl
       have LL : Aside0 ((l.length + 1) * 24 ≤ 140737488355328) := ⟨by have := KB.out.1; omega⟩
       go_upto_region 15 with fail
       go_wp2_with (at_builtin; refine R1.appL K1.out (by decide) rfl _ _ 22 (.slice none 0 0) 24 rfl Try.underlying22 infoR30 rfl (by decide) (by omega) ((List.range n).map f) [.slice (some ⟨B, 0, none⟩) n n] rfl rfl RR.out LL.out ?_; rintro _ w5 K5' ⟨A7, c7, rfl⟩ _; have K5 := Aside0.mk K5'; clear K5'; have h3 := (blk_cell K5.out.hp 3).trans rfl; have h4 := blk_frozen K5.out.hp 3)
       have K9 := Aside0.mk (K5.out.put (by have := HP.out; omega) (by decide) 3 _ (cs' := #[.int .i64 K, .int .i64 0, .slice none 0 0, .slice A7 (l.length + 1) c7, .int .i64 0, .slice none 0 0]) rfl).le
       have hll := KB.out.1
       rw [hll] at K9
       have NB : Aside0 ((l ++ [(List.range n).map f]).length = i + 1 ∧ (∀ r ∈ l ++ [(List.range n).map f], r.length = n ∧ ∀ y ∈ r, -2147483648 ≤ y ∧ y ≤ 2147483648) ∧ (K = 2 → ∀ j, j < i + 1 → ((l ++ [(List.range n).map f]).getD j []).getD j 0 = 0)) := ⟨by rw [List.length_append, hll]; rfl, fun r hr => (List.mem_append.1 hr).elim (KB.out.2.1 r) (fun h => by
         have e : r = (List.range n).map f := by simpa using h
         rw [e]
         exact ⟨by simp, mem_rng FF.out.2.1⟩), fun hK2 j hj => by
         rw [getD_snoc hll hj]
         split
         ·rename_i hji
          exact KB.out.2.2 hK2 j hji
         ·have e : j = i := by omega
          subst e
          rw [getD_map hlt]
          exact FF.out.2.2.1 hK2⟩
       rw [hll]
       clear hll q0 h3 h4
       go_roundw
       case measure => simp [intOf]; omega
       case rel => exact ⟨i + 1, by omega, by go_num, ⟨_, _, _, K9.out, NB.out⟩⟩
    ·obtain rfl : n = i := by omega
     clear hlt hi
     have E6 := Aside0.mk KK.out.hp
     have E2 : Aside0 (wr.heap[p1 + 1]? = some (.cells #[.int .i64 0, .int .i64 0, .slice none 0 0, .slice none 0 0, .int .i64 0, .slice none 0 0] 80 (0, 0))) := ⟨KK.out.c.blk Q2.out (by have := HP.out; omega)⟩
     have r0 : wr.cell? ⟨p6, 0, none⟩ = some (.int .i64 K) := (blk_cell E6.out 0).trans rfl
     have r1 : wr.cell? ⟨p6, 1, none⟩ = some (.int .i64 0) := (blk_cell E6.out 1).trans rfl
     have r2 : wr.cell? ⟨p6, 2, none⟩ = some (.slice none 0 0) := (blk_cell E6.out 2).trans rfl
     have r3 : wr.cell? ⟨p6, 3, none⟩ = some (.slice A n c) := (blk_cell E6.out 3).trans rfl
     have r4 : wr.cell? ⟨p6, 4, none⟩ = some (.int .i64 0) := (blk_cell E6.out 4).trans rfl
     have r5 : wr.cell? ⟨p6, 5, none⟩ = some (.slice none 0 0) := (blk_cell E6.out 5).trans rfl
     have h0 : wr.cell? ⟨p1 + 1, 0, none⟩ = some (.int .i64 0) := (blk_cell E2.out 0).trans rfl
     have h1 : wr.cell? ⟨p1 + 1, 1, none⟩ = some (.int .i64 0) := (blk_cell E2.out 1).trans rfl
     have h2 : wr.cell? ⟨p1 + 1, 2, none⟩ = some (.slice none 0 0) := (blk_cell E2.out 2).trans rfl
     have h3 : wr.cell? ⟨p1 + 1, 3, none⟩ = some (.slice none 0 0) := (blk_cell E2.out 3).trans rfl
     have h4 : wr.cell? ⟨p1 + 1, 4, none⟩ = some (.int .i64 0) := (blk_cell E2.out 4).trans rfl
     have h5 : wr.cell? ⟨p1 + 1, 5, none⟩ = some (.slice none 0 0) := (blk_cell E2.out 5).trans rfl
     have hz : ∀ j, wr.frozen? ⟨p1 + 1, j, none⟩ = false := blk_frozen E2.out
     go_upto_region 42 with fail
     go_wp2_with fail
     clear r0 r1 r2 r3 r4 r5 h0 h1 h2 h3 h4 h5 hz
     obtain ⟨Wz, hWz⟩ : ∃ W, W = ((((((wr).setCell ⟨p1 + 1, 0, none⟩ (.int .i64 K)).setCell ⟨p1 + 1, 1, none⟩ (.int .i64 0)).setCell ⟨p1 + 1, 2, none⟩ (.slice none 0 0)).setCell ⟨p1 + 1, 3, none⟩ (.slice A n c)).setCell ⟨p1 + 1, 4, none⟩ (.int .i64 0)).setCell ⟨p1 + 1, 5, none⟩ (.slice none 0 0) := ⟨_, rfl⟩
     rw [← hWz]
     have HWz := Aside0.mk hWz
     clear hWz
     have EZ : Aside0 (Wz.heap[p1 + 1]? = some (.cells #[.int .i64 K, .int .i64 0, .slice none 0 0, .slice A n c, .int .i64 0, .slice none 0 0] 80 (0, 0))) := ⟨by rw [HWz.out]; exact put6 E2.out (.int .i64 K) (.int .i64 0) (.slice none 0 0) (.slice A n c) (.int .i64 0) (.slice none 0 0)⟩
     have r0 : Wz.cell? ⟨p1 + 1, 0, none⟩ = some (.int .i64 K) := (blk_cell EZ.out 0).trans rfl
     have r1 : Wz.cell? ⟨p1 + 1, 1, none⟩ = some (.int .i64 0) := (blk_cell EZ.out 1).trans rfl
     have r2 : Wz.cell? ⟨p1 + 1, 2, none⟩ = some (.slice none 0 0) := (blk_cell EZ.out 2).trans rfl
     have r3 : Wz.cell? ⟨p1 + 1, 3, none⟩ = some (.slice A n c) := (blk_cell EZ.out 3).trans rfl
     have r4 : Wz.cell? ⟨p1 + 1, 4, none⟩ = some (.int .i64 0) := (blk_cell EZ.out 4).trans rfl
     have r5 : Wz.cell? ⟨p1 + 1, 5, none⟩ = some (.slice none 0 0) := (blk_cell EZ.out 5).trans rfl
     refine bodyPost_ret (v := .agg #[.int .i64 K, .int .i64 0, .slice none 0 0, .slice A n c, .int .i64 0, .slice none 0 0]) (by simp [results, Try.results33, go_sem, r0, r1, r2, r3, r4, r5]) rfl ?_
     clear r0 r1 r2 r3 r4 r5
     rw [HWz.out]
     have hb : w.heap.size ≤ W6.heap.size := KK.out.ww
     refine ⟨_, rfl, ⟨(⟨K, 0, [], l, 0, []⟩ : PI), ⟨_, _, _, _, _, _, _, _, _, rfl, Kd.R_nil _ _ _ _ _, fin_R9 KK.out.r hb E2.out (by decide) (.int .i64 K) (.int .i64 0) (.slice none 0 0) (.slice A n c) (.int .i64 0) (.slice none 0 0), Kd.R_nil _ _ _ _ _⟩, ?_, fin_B KK.out.bw (by have := HP.out; omega) (.int .i64 K) (.int .i64 0) (.slice none 0 0) (.slice A n c) (.int .i64 0) (.slice none 0 0)⟩⟩
     have hll := KB.out.1
     exact ⟨HKK.out, by show (0:Int) ≤ 0 ∧ (0:Int) ≤ 2147483648; omega, ⟨Nat.zero_le _, fun _ h => absurd h List.not_mem_nil⟩, by show (0:Int) ≤ 0 ∧ (0:Int) ≤ 8; omega, ⟨Nat.zero_le _, fun _ h => absurd h List.not_mem_nil⟩, ⟨by show l.length ≤ _; rw [hll]; exact NM.out, fun r hr => by show r.length = l.length ∧ _; rw [hll]; exact KB.out.2.1 r hr⟩, fun h j hj => KB.out.2.2 h j (by rw [← hll]; exact hj), fun h => absurd h hK0, fun h => absurd h hK3, fun _ _ => ⟨by show 1 ≤ l.length; omega, rfl, rfl, rfl, rfl⟩⟩
end Go.Proofs.Ytelabmhhnpfegaa.Hand
end
