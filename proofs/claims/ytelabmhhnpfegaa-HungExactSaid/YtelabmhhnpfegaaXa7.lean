/- Texts Ks Kh, cut to what is used. -/
import Derived.Laws.Externs
import Derived.Lib.EndianBits
import Derived.Test.YtelabmhhnpfegaaXa0
import Derived.Test.YtelabmhhnpfegaaXa4
import Derived.Test.YtelabmhhnpfegaaXa5
import Derived.Test.YtelabmhhnpfegaaXa6
set_option linter.unusedVariables false
set_option linter.unusedSimpArgs false
section
namespace Go.Proofs.Ytelabmhhnpfegaa.Hand
open Go.RowKit Go.Proofs.YtelabmhhnpfegaaW.PrintWords Go.Proofs.YtelabmhhnpfegaaW.PrintLast Go.Proofs.YtelabmhhnpfegaaW.PrintMore Go.Proofs.Ytelabmhhnpfegaa.PDynCells
def sub64Entry : Array Value → Sem Value := fun args => do
 let (x, y, b) ← Extern.MathBitsCarry.three "Sub64" args
 pure (Extern.MathBitsCarry.pair ((x + Extern.MathBitsCarry.m64 - y - b) % Extern.MathBitsCarry.m64) (if x < y + b then 1 else 0))
theorem run168 (x y : Int) (hx : 0 ≤ x) (hy : 0 ≤ y) (h : x + y < 18446744073709551616) (w : World) : (callFunc 168 #[.int .u64 x, .int .u64 y, .int .u64 0]).run Try.prog w = .ok (.value (.tuple #[.int .u64 (x + y), .int .u64 0])) w := by
 rw [run_callFunc_extern (e := add64Entry) Try.func168 (by kernel_rfl) (by kernel_rfl) (by kernel_rfl) (by rfl), run_add64 x y 0 hx hy (by omega) (by omega)]
 rw [show (x + y + 0) % 18446744073709551616 = x + y by omega, show (x + y + 0) / 18446744073709551616 = 0 by omega]
 rfl
theorem run169 (x y : Int) (hx : 0 ≤ y) (hy : y ≤ x) (h : x < 18446744073709551616) (w : World) : (callFunc 169 #[.int .u64 x, .int .u64 y, .int .u64 0]).run Try.prog w = .ok (.value (.tuple #[.int .u64 (x - y), .int .u64 0])) w := by
 rw [run_callFunc_extern (e := sub64Entry) Try.func169 (by kernel_rfl) (by kernel_rfl) (by kernel_rfl) (by rfl)]
 obtain ⟨X, rfl⟩ := Int.eq_ofNat_of_zero_le (show 0 ≤ x by omega)
 obtain ⟨Y, rfl⟩ := Int.eq_ofNat_of_zero_le hx
 have e : (sub64Entry #[.int .u64 (X : Int), .int .u64 (Y : Int), .int .u64 0]).run Try.prog w = .ok (Extern.MathBitsCarry.pair ((X + Extern.MathBitsCarry.m64 - Y - 0) % Extern.MathBitsCarry.m64) (if X < Y + 0 then 1 else 0)) w := rfl
 rw [e, if_neg (by omega)]
 have e2 : Int.ofNat ((X + Extern.MathBitsCarry.m64 - Y - 0) % Extern.MathBitsCarry.m64) = (X : Int) - (Y : Int) := by
  show (((X + 18446744073709551616 - Y - 0) % 18446744073709551616 : Nat) : Int) = _
  omega
 simp only [Extern.MathBitsCarry.pair]
 rw [e2]
 rfl
def ab (z : Int) : Int := if z < 0 then -z else z
theorem ab_neg {z : Int} (h : z < 0) : ab z = -z := if_pos h
theorem ab_pos {z : Int} (h : ¬ z < 0) : ab z = z := if_neg h
def wideV (z : Int) : Value := .agg #[.bool (decide (z < 0)), .int .u64 0, .int .u64 (ab z)]
theorem plus_any (n n' : Bool) (x y : Int) (hx : 0 ≤ x) (hy : 0 ≤ y) (h : x + y < 18446744073709551616) (w : World) :
  Calls Try.prog 159 #[.agg #[.bool n, .int .u64 0, .int .u64 x], .agg #[.bool n', .int .u64 0, .int .u64 y]] w fun e w' => e = .returned (.agg #[.bool n, .int .u64 0, .int .u64 (x + y)]) ∧ Below w.heap.size w w' := by
 have hu := Try.underlying179
 have r1 := run168 x y hx hy h
 have r2 := run168 0 0 (by omega) (by omega) (by omega)
 rw [show (0 : Int) + 0 = 0 from rfl] at r2
 go_enter Try.func159, Try.ntmps159
 go_wp2_with fail
 exact bodyPost_ret (v := .agg #[.bool n, .int .u64 0, .int .u64 (x + y)]) (by simp [results, Try.results159, go_sem]) rfl ⟨rfl, below_alloc (below_alloc (below_alloc (Below.refl _ _) _) _) _⟩
theorem less_any (n n' : Bool) (x y : Int) (hy : 0 ≤ y) (hx : y ≤ x) (h : x < 18446744073709551616) (w : World) :
  Calls Try.prog 161 #[.agg #[.bool n, .int .u64 0, .int .u64 x], .agg #[.bool n', .int .u64 0, .int .u64 y]] w fun e w' => e = .returned (.agg #[.bool n, .int .u64 0, .int .u64 (x - y)]) ∧ Below w.heap.size w w' := by
 have hu := Try.underlying179
 have r1 := run169 x y hy hx h
 have r2 := run169 0 0 (by omega) (by omega) (by omega)
 rw [show (0 : Int) - 0 = 0 from rfl] at r2
 go_enter Try.func161, Try.ntmps161
 go_wp2_with fail
 exact bodyPost_ret (v := .agg #[.bool n, .int .u64 0, .int .u64 (x - y)]) (by simp [results, Try.results161, go_sem]) rfl ⟨rfl, below_alloc (below_alloc (below_alloc (Below.refl _ _) _) _) _⟩
theorem bits_or0 (y : Int) (h0 : 0 ≤ y) (h : y < 18446744073709551616) : Go.bits .or .u64 0 y = y := by
 have := bits_join_low .u64 64 (by decide) wraps_u64 0 0 y (by omega) (by decide) (by decide) h0 (by omega) (by omega)
 omega
def RowI (w : World) (A : Option Addr) (n : Nat) (c : Nat → Int) : Prop := ∀ k, k < n → ∃ ad, A = some ad ∧ w.cell? (ad.add k) = some (.int .i64 (c k))
theorem size_any (z : Int) (h : -9223372036854775807 ≤ z ∧ z ≤ 9223372036854775807) (w : World) : Calls Try.prog 142 #[.int .i64 z] w fun e w' => e = .returned (.int .u64 (ab z)) ∧ w = w' := by
 by_cases hz : z < 0
 ·have e1 : IntKind.u64.wrap z = z + 18446744073709551616 := by rw [IntKind.wrap_u64]; omega
  have e2 : IntKind.u64.wrap (-(z + 18446744073709551616)) = -z := by rw [IntKind.wrap_u64]; omega
  rw [ab_neg hz]
  have g1 : decide (z < 0) = true := decide_eq_true hz
  go_enter Try.func142, Try.ntmps142
  go_wp2
  go_ret
  exact ⟨rfl, rfl⟩
 ·have e1 : IntKind.u64.wrap z = z := by rw [IntKind.wrap_u64]; omega
  have g1 : decide (z < 0) = false := decide_eq_false hz
  rw [ab_pos hz]
  go_enter Try.func142, Try.ntmps142
  go_wp2
  go_ret
  exact ⟨rfl, rfl⟩
set_option maxHeartbeats 1000000 in
set_option maxRecDepth 100000 in
theorem of_any (z : Int) (h : -9223372036854775807 ≤ z ∧ z ≤ 9223372036854775807) (w : World) : Calls Try.prog 145 #[.int .i64 z] w fun e w' => e = .returned (wideV z) ∧ Below w.heap.size w w' := by
 have hu := Try.underlying179
 have HS := Aside0.mk (size_any z h)
 obtain ⟨a, ha⟩ : ∃ a, a = ab z := ⟨_, rfl⟩
 rw [← ha] at HS
 have HA := Aside0.mk ha
 obtain ⟨d, hd⟩ : ∃ d, decide (z < 0) = d := ⟨_, rfl⟩
 have HD := Aside0.mk hd
 clear ha h
 go_enter Try.func145, Try.ntmps145
 go_wp2_with (go_at_call 142; refine (HS.out _).mono ?_; rintro _ _ ⟨rfl, rfl⟩)
 refine bodyPost_ret (v := .agg #[.bool d, .int .u64 0, .int .u64 a]) (by simp [results, Try.results145, go_sem]) rfl ?_
 refine ⟨?_, below_alloc (Below.refl _ _) _⟩
 unfold wideV
 rw [HA.out, HD.out]
theorem nan_any (x : Int) (w : World) : Calls Try.prog 172 #[.int .u64 x] w fun e w' => e = .returned (.bool false) ∧ w = w' := by
 have h : (x != x) = false := by simp
 go_enter Try.func172, Try.ntmps172
 go_wp2
 go_ret
 exact ⟨rfl, rfl⟩
def cmpU (x y : Int) : Int := if x < y then -1 else if x > y then 1 else 0
set_option maxHeartbeats 1000000 in
theorem cmpu_any (x y : Int) (w : World) : Calls Try.prog 167 #[.int .u64 x, .int .u64 y] w fun e w' => e = .returned (.int .i64 (cmpU x y)) ∧ w = w' := by
 unfold cmpU
 by_cases h1 : x < y
 ·rw [if_pos h1]
  have g1 : decide (x < y) = true := decide_eq_true h1
  go_enter Try.func167, Try.ntmps167
  go_wp2_with (go_at_call 172; refine (nan_any _ _).mono ?_; rintro _ _ ⟨rfl, rfl⟩)
  go_ret
  exact ⟨rfl, rfl⟩
 ·have g1 : decide (x < y) = false := decide_eq_false h1
  by_cases h2 : x > y
  ·rw [if_neg h1, if_pos h2]
   have g2 : decide (y < x) = true := decide_eq_true h2
   go_enter Try.func167, Try.ntmps167
   go_wp2_with (go_at_call 172; refine (nan_any _ _).mono ?_; rintro _ _ ⟨rfl, rfl⟩)
   go_ret
   exact ⟨rfl, rfl⟩
  ·rw [if_neg h1, if_neg h2]
   have g2 : decide (y < x) = false := decide_eq_false h2
   go_enter Try.func167, Try.ntmps167
   go_wp2_with (go_at_call 172; refine (nan_any _ _).mono ?_; rintro _ _ ⟨rfl, rfl⟩)
   go_ret
   exact ⟨rfl, rfl⟩
set_option maxHeartbeats 1000000 in
set_option maxRecDepth 100000 in
theorem or_any (g : Nat) (z : Int) (w : World) (h0 : w.cell? ⟨g, 0, none⟩ = some (.int .i64 0)) (h1 : w.cell? ⟨g, 1, none⟩ = some (.int .i64 z)) : Calls Try.prog 166 #[.slice (some ⟨g, 0, none⟩) 2 2] w fun e w' => e = .returned (.int .i64 z) ∧ Below w.heap.size w w' := by
 have HB : Aside0 (Below w.heap.size w w) := ⟨Below.refl _ _⟩
 go_enter Try.func166, Try.ntmps166
 go_wp2_with fail
 refine wp_loop_rounds 3 ?_
 rw [rounds_succ]
 by_cases hz : z = 0
 ·subst hz
  go_wp2_with fail
  rw [rounds_succ]
  go_wp2_with fail
  rw [rounds_succ]
  go_wp2_with fail
  go_ret
  exact ⟨rfl, HB.out⟩
 ·have g : (z != 0) = true := by rw [bne_iff_ne]; exact hz
  go_wp2_with fail
  rw [rounds_succ]
  go_wp2_with fail
  go_ret
  exact ⟨rfl, HB.out⟩
set_option maxHeartbeats 1000000 in
set_option maxRecDepth 100000 in
theorem dist_any (n n' : Bool) (x y : Int) (w : World) : Calls Try.prog 157 #[.agg #[.bool n, .int .u64 0, .int .u64 x], .agg #[.bool n', .int .u64 0, .int .u64 y]] w fun e w' => e = .returned (.int .i64 (cmpU x y)) ∧ Below w.heap.size w w' := by
 have hu := Try.underlying179
 go_enter Try.func157, Try.ntmps157
 go_upto_region 1 with fail
 obtain ⟨W1, hW1⟩ : ∃ W, W = (w.alloc (.cells #[.bool n, .int .u64 0, .int .u64 x] 179)).alloc (.cells #[.bool n', .int .u64 0, .int .u64 y] 179) := ⟨_, rfl⟩
 rw [← hW1]
 have B1 : Aside0 (Below w.heap.size w W1) := ⟨by rw [hW1]; exact below_alloc (below_alloc (Below.refl _ _) _) _⟩
 obtain ⟨p1, hp1⟩ : ∃ p, p = w.heap.size := ⟨_, rfl⟩
 have Q1 : W1.heap[p1]? = some (.cells #[.bool n, .int .u64 0, .int .u64 x] 179 (0, 0)) := by rw [hW1, hp1]; simp only [al_get, al_size]; rw [if_neg (by omega), if_pos trivial]
 have Q2 : W1.heap[p1 + 1]? = some (.cells #[.bool n', .int .u64 0, .int .u64 y] 179 (0, 0)) := by rw [hW1, hp1]; simp only [al_get, al_size]; rw [if_pos trivial]
 rw [← hp1]
 clear hW1 hp1
 have z0 : W1.drew.cell? ⟨p1, 1, none⟩ = some (.int .u64 0) := (blk_cell Q1 1).trans rfl
 have z1 : W1.drew.cell? ⟨p1, 2, none⟩ = some (.int .u64 x) := (blk_cell Q1 2).trans rfl
 have z2 : W1.drew.cell? ⟨p1 + 1, 1, none⟩ = some (.int .u64 0) := (blk_cell Q2 1).trans rfl
 have z3 : W1.drew.cell? ⟨p1 + 1, 2, none⟩ = some (.int .u64 y) := (blk_cell Q2 2).trans rfl
 clear Q1 Q2
 have Z := Aside0.mk (And.intro z0 (And.intro z1 (And.intro z2 z3)))
 refine start_ (n := 13) (S := fun w' => w'.cell? ⟨p1, 1, none⟩ = some (.int .u64 0) ∧ w'.cell? ⟨p1, 2, none⟩ = some (.int .u64 x) ∧ w'.cell? ⟨p1 + 1, 1, none⟩ = some (.int .u64 0) ∧ w'.cell? ⟨p1 + 1, 2, none⟩ = some (.int .u64 y)) (ds := []) #[false, false, false, false, false, false, false, false, false, false, false, false, false] (by kernel_rfl) rfl rfl ⟨z0, z1, z2, z3⟩ (fun hHeld => ?_)
 clear z0 z1 z2 z3
 refine puU 0 (some 5) ?_ rfl rfl (by kernel_rfl) (fun _ _ _ h => h) (Or.inl ⟨by rfl, ?_⟩) ?_ ?_ ?_
 rotate_left
 ·intro w'
  go_simp
  with_reducible rfl
 rotate_left
 ·simp only [Act.put, lsA, lsB, lsC]
  rfl
 refine taU 1 (some 6) ?_ rfl rfl (by kernel_rfl) (fun _ _ _ h => h) (Or.inl ⟨by rfl, ?_⟩) hHeld ?_ ?_ ?_
 rotate_left
 ·rintro w' ⟨s0, s1, s2, s3⟩
  go_simp
  with_reducible rfl
 rotate_left
 ·simp only [Act.put, lsA, lsB, lsC]
  rfl
 refine puU 2 (some 7) ?_ rfl rfl (by kernel_rfl) (fun _ _ _ h => h) (Or.inl ⟨by rfl, ?_⟩) ?_ ?_ ?_
 rotate_left
 ·intro w'
  go_simp
  with_reducible rfl
 rotate_left
 ·simp only [Act.put, lsA, lsB, lsC]
  rfl
 refine taU 3 (some 8) ?_ rfl rfl (by kernel_rfl) (fun _ _ _ h => h) (Or.inl ⟨by rfl, ?_⟩) hHeld ?_ ?_ ?_
 rotate_left
 ·rintro w' ⟨s0, s1, s2, s3⟩
  go_simp
  with_reducible rfl
 rotate_left
 ·simp only [Act.put, lsA, lsB, lsC]
  rfl
 refine puU 5 (some 10) ?_ rfl rfl (by kernel_rfl) (fun _ _ _ h => h) (Or.inl ⟨by rfl, ?_⟩) ?_ ?_ ?_
 rotate_left
 ·intro w'
  go_simp
  with_reducible rfl
 rotate_left
 ·simp only [Act.put, lsA, lsB, lsC]
  rfl
 refine taU 6 (some 11) ?_ rfl rfl (by kernel_rfl) (fun _ _ _ h => h) (Or.inl ⟨by rfl, ?_⟩) hHeld ?_ ?_ ?_
 rotate_left
 ·rintro w' ⟨s0, s1, s2, s3⟩
  go_simp
  with_reducible rfl
 rotate_left
 ·simp only [Act.put, lsA, lsB, lsC]
  rfl
 refine puU 7 (some 12) ?_ rfl rfl (by kernel_rfl) (fun _ _ _ h => h) (Or.inl ⟨by rfl, ?_⟩) ?_ ?_ ?_
 rotate_left
 ·intro w'
  go_simp
  with_reducible rfl
 rotate_left
 ·simp only [Act.put, lsA, lsB, lsC]
  rfl
 refine taU 8 (some 13) ?_ rfl rfl (by kernel_rfl) (fun _ _ _ h => h) (Or.inl ⟨by rfl, ?_⟩) hHeld ?_ ?_ ?_
 rotate_left
 ·rintro w' ⟨s0, s1, s2, s3⟩
  go_simp
  with_reducible rfl
 rotate_left
 ·simp only [Act.put, lsA, lsB, lsC]
  rfl
 refine one_ (i := 4) (N := some 9) #[true, true, true, true, true, true, true, true, true, false, false, false, false] rfl rfl (by kernel_rfl) (by decide) (fun K hK => ?_)
 refine goes_ Try.func167 (by kernel_rfl) rfl #[.int .u64 0, .int .u64 0] (by rfl) rfl rfl (by (try simp only [List.map_toArray, List.map_cons, List.map_nil]); first | done | rfl) ?_
 refine (cmpu_any 0 0 W1.drew).mono ?_
 rintro _ _ ⟨rfl, rfl⟩
 refine ⟨_, rfl, ?_⟩
 refine hK.out _ _ Z.out (fun _ => ?_)
 clear hK K
 refine norm_ (a' := ?_) ?_ ?_
 rotate_left
 ·show Act.put _ (some 9) _ = _
  simp only [Act.put, lsA, lsB, lsC]
  rfl
 refine one_ (i := 9) (N := some 14) #[true, true, true, true, true, true, true, true, true, true, false, false, false] rfl rfl (by kernel_rfl) (by decide) (fun K hK => ?_)
 refine goes_ Try.func167 (by kernel_rfl) rfl #[.int .u64 x, .int .u64 y] (by rfl) rfl rfl (by (try simp only [List.map_toArray, List.map_cons, List.map_nil]); first | done | rfl) ?_
 refine (cmpu_any x y W1.drew).mono ?_
 rintro _ _ ⟨rfl, rfl⟩
 refine ⟨_, rfl, ?_⟩
 refine hK.out _ _ Z.out (fun _ => ?_)
 clear hK K
 refine norm_ (a' := ?_) ?_ ?_
 rotate_left
 ·show Act.put _ (some 14) _ = _
  simp only [Act.put, lsA, lsB, lsC]
  rfl
 refine one_ (i := 10) (N := some 15) #[true, true, true, true, true, true, true, true, true, true, true, false, false] rfl rfl (by kernel_rfl) (by decide) (fun K hK => ?_)
 refine value_ (v := .slice (some ⟨W1.heap.size, 0, none⟩) 2 2) (w1 := (W1.alloc (.cells #[.int .i64 0, .int .i64 (cmpU x y)] 3)).drew) (by rfl) rfl ?_ ?_
 ·go_simp
  rfl
 have BA : Aside0 (Below W1.drew.heap.size W1.drew ((W1.alloc (.cells #[.int .i64 0, .int .i64 (cmpU x y)] 3)).drew)) := ⟨⟨rfl, rfl, rfl, (below_alloc (Below.refl _ W1) _).size, fun k hk => (below_alloc (Below.refl _ W1) _).block k hk⟩⟩
 have QA : Aside0 (((W1.alloc (.cells #[.int .i64 0, .int .i64 (cmpU x y)] 3)).drew).heap[W1.heap.size]? = some (.cells #[.int .i64 0, .int .i64 (cmpU x y)] 3 (0, 0))) := ⟨heap_alloc_new W1 _⟩
 refine hK.out _ _ ⟨pw_cell_below BA.out Z.out.1, pw_cell_below BA.out Z.out.2.1, pw_cell_below BA.out Z.out.2.2.1, pw_cell_below BA.out Z.out.2.2.2⟩ (fun _ => ?_)
 clear hK K
 refine norm_ (a' := ?_) ?_ ?_
 rotate_left
 ·show Act.put _ (some 15) _ = _
  simp only [Act.put, lsA, lsB, lsC]
  rfl
 refine one_ (i := 11) (N := some 16) #[true, true, true, true, true, true, true, true, true, true, true, true, false] rfl rfl (by kernel_rfl) (by decide) (fun K hK => ?_)
 refine goes_ Try.func166 (by kernel_rfl) rfl #[.slice (some ⟨W1.heap.size, 0, none⟩) 2 2] (by rfl) rfl rfl (by (try simp only [List.map_toArray, List.map_cons, List.map_nil]); first | done | rfl) ?_
 refine (or_any W1.heap.size (cmpU x y) _ ((blk_cell QA.out 0).trans rfl) ((blk_cell QA.out 1).trans rfl)).mono ?_
 rintro _ w3 ⟨rfl, hb3⟩
 have BC := Aside0.mk hb3
 refine ⟨_, rfl, ?_⟩
 refine hK.out _ _ ⟨pw_cell_below hb3 (pw_cell_below BA.out Z.out.1), pw_cell_below hb3 (pw_cell_below BA.out Z.out.2.1), pw_cell_below hb3 (pw_cell_below BA.out Z.out.2.2.1), pw_cell_below hb3 (pw_cell_below BA.out Z.out.2.2.2)⟩ (fun _ => ?_)
 clear hK K hb3
 refine norm_ (a' := ?_) ?_ ?_
 rotate_left
 ·show Act.put _ (some 16) _ = _
  simp only [Act.put, lsA, lsB, lsC]
  rfl
 refine puU 12 (some 4) ?_ rfl rfl (by kernel_rfl) (fun _ _ _ h => h) (Or.inl ⟨by rfl, ?_⟩) ?_ ?_ ?_
 rotate_left
 ·intro w'
  go_simp
  with_reducible rfl
 rotate_left
 ·simp only [Act.put, lsA, lsB, lsC]
  rfl
 refine done_ (by kernel_rfl) ?_
 go_wp2_with fail
 go_ret
 exact ⟨rfl, B1.out.trans ((below_drew (Below.refl _ W1)).trans ((BA.out.trans (BC.out.mono BA.out.size))) |>.mono B1.out.size)⟩
set_option maxHeartbeats 1000000 in
set_option maxRecDepth 100000 in
theorem normal_any (n : Bool) (x : Int) (h0 : 0 ≤ x) (h : x < 18446744073709551616) (w : World) : Calls Try.prog 160 #[.agg #[.bool n, .int .u64 0, .int .u64 x]] w fun e w' => e = .returned (.agg #[.bool (n && decide (x ≠ 0)), .int .u64 0, .int .u64 x]) ∧ Below w.heap.size w w' := by
 have hu := Try.underlying179
 have ho := bits_or0 x h0 h
 have hd : (x != 0) = decide (x ≠ 0) := by by_cases e : x = 0 <;> simp [e]
 cases n with
 | false =>
  clear ho hd
  go_enter Try.func160, Try.ntmps160
  go_wp2_with fail
  refine bodyPost_ret (v := .agg #[.bool false, .int .u64 0, .int .u64 x]) (by simp [results, Try.results160, go_sem]) rfl ?_
  exact ⟨rfl, below_alloc (below_alloc (Below.refl _ _) _) _⟩
 | true =>
  obtain ⟨b, hb⟩ : ∃ b, b = decide (x ≠ 0) := ⟨_, rfl⟩
  rw [← hb] at hd ⊢
  clear hb
  go_enter Try.func160, Try.ntmps160
  go_wp2_with fail
  refine bodyPost_ret (v := .agg #[.bool b, .int .u64 0, .int .u64 x]) (by simp [results, Try.results160, go_sem]) rfl ?_
  exact ⟨rfl, below_alloc (below_alloc (Below.refl _ _) _) _⟩
set_option maxHeartbeats 1000000 in
set_option maxRecDepth 100000 in
theorem nshort_any (z : Int) (h : -9223372036854775807 ≤ z ∧ z ≤ 9223372036854775807) (w : World) : Calls Try.prog 119 #[.agg #[.bool (decide (z < 0)), .int .u64 0, .int .u64 (ab z)]] w fun e w' => e = .returned (.tuple #[.int .i64 z, .bool true]) ∧ Below w.heap.size w w' := by
 have hu := Try.underlying179
 by_cases hz : z < 0
 ·rw [decide_eq_true hz, ab_neg hz]
  have e1 : IntKind.u64.wrap z = z + 18446744073709551616 := by rw [IntKind.wrap_u64]; omega
  have e2 : wrap64 (z + 18446744073709551616) = z := by unfold wrap64; omega
  have g2 : decide (9223372036854775808 < -z) = false := decide_eq_false (by omega)
  go_enter Try.func119, Try.ntmps119
  go_wp2_with fail
  go_ret2
  exact ⟨by rw [e2]; rfl, below_alloc (Below.refl _ _) _⟩
 ·rw [decide_eq_false hz, ab_pos hz]
  have e2 : wrap64 z = z := by unfold wrap64; omega
  have g2 : decide (9223372036854775807 < z) = false := decide_eq_false (by omega)
  go_enter Try.func119, Try.ntmps119
  go_wp2_with fail
  go_ret2
  exact ⟨rfl, below_alloc (Below.refl _ _) _⟩
set_option maxHeartbeats 1000000 in
theorem wadd_any (a b : Int) (h : ab a + ab b ≤ 9223372036854775807) (w : World) : Calls Try.prog 144 #[wideV a, wideV b] w fun e w' => e = .returned (wideV (a + b)) ∧ Below w.heap.size w w' := by
 have hu := Try.underlying179
 have ha : 0 ≤ ab a := by unfold ab; split <;> omega
 have hb : 0 ≤ ab b := by unfold ab; split <;> omega
 obtain ⟨x, hx⟩ : ∃ x, x = ab a := ⟨_, rfl⟩
 obtain ⟨y, hy⟩ : ∃ y, y = ab b := ⟨_, rfl⟩
 obtain ⟨n, hn⟩ : ∃ n, n = decide (a < 0) := ⟨_, rfl⟩
 obtain ⟨m, hm⟩ : ∃ m, m = decide (b < 0) := ⟨_, rfl⟩
 unfold wideV
 rw [← hx, ← hy, ← hn, ← hm]
 rw [← hx] at h ha
 rw [← hy] at h hb
 obtain ⟨W0, hW0⟩ : ∃ W0, W0 = ((w.alloc (.cells #[.bool n, .int .u64 0, .int .u64 x] 179)).alloc (.cells #[.bool m, .int .u64 0, .int .u64 y] 179)).alloc (.cells #[.bool false, .int .u64 0, .int .u64 0] 179) := ⟨_, rfl⟩
 have HX := Aside0.mk hx
 have HY := Aside0.mk hy
 have HN := Aside0.mk hn
 have HM := Aside0.mk hm
 have HW := Aside0.mk hW0
 clear hx hy hn hm hW0
 have B0 : Aside0 (Below w.heap.size w W0) := ⟨by rw [HW.out]; exact below_alloc (below_alloc (below_alloc (Below.refl _ _) _) _) _⟩
 have Z4 : Aside0 (W0.heap[w.heap.size + 1 + 1]? = some (.cells #[.bool false, .int .u64 0, .int .u64 0] 179 (0, 0))) := ⟨by
  rw [HW.out]
  simp only [al_get, al_size]
  rw [if_pos trivial]⟩
 have Z2 : Aside0 (W0.heap[w.heap.size]? = some (.cells #[.bool n, .int .u64 0, .int .u64 x] 179 (0, 0))) := ⟨by
  rw [HW.out]
  simp only [al_get, al_size]
  rw [if_neg (by omega), if_neg (by omega), if_pos trivial]⟩
 have Z3 : Aside0 (W0.heap[w.heap.size + 1]? = some (.cells #[.bool m, .int .u64 0, .int .u64 y] 179 (0, 0))) := ⟨by
  rw [HW.out]
  simp only [al_get, al_size]
  rw [if_neg (by omega), if_pos trivial]⟩
 cases hnm : (n == m) with
 | true =>
  have hnm' : n = m := by simpa using hnm
  have HE : Aside0 (Value.agg #[.bool n, .int .u64 0, .int .u64 (x + y)] = .agg #[.bool (decide (a + b < 0)), .int .u64 0, .int .u64 (ab (a + b))]) := ⟨by
   rw [HX.out, HY.out]
   have h1 := HN.out
   have h2 := HM.out
   rw [hnm'] at h1
   rw [h2] at h1
   have hs : decide (a < 0) = decide (a + b < 0) ∧ ab a + ab b = ab (a + b) := by
    by_cases h3 : a < 0
    ·have h4 : b < 0 := by
      have := decide_eq_true h3
      rw [← h1] at this
      exact of_decide_eq_true this
     have h5 : a + b < 0 := by omega
     exact ⟨by rw [decide_eq_true h3, decide_eq_true h5], by rw [ab_neg h3, ab_neg h4, ab_neg h5]; omega⟩
    ·have h4 : ¬ b < 0 := by
      have := decide_eq_false h3
      rw [← h1] at this
      exact of_decide_eq_false this
     have h5 : ¬ a + b < 0 := by omega
     exact ⟨by rw [decide_eq_false h3, decide_eq_false h5], by rw [ab_pos h3, ab_pos h4, ab_pos h5]⟩
   rw [HN.out, hs.1, hs.2]⟩
  clear hnm'
  have HPL := Aside0.mk (fun W => plus_any n m x y ha hb (by omega) W)
  go_enter Try.func144, Try.ntmps144
  go_wp2_with fail
  rw [← HW.out]
  refine (HPL.out _).mono ?_
  rintro _ w1 ⟨rfl, b1⟩
  clear Z2 Z3 hnm
  have B := Aside0.mk (B0.out.trans (b1.mono B0.out.size))
  have R4 := Aside0.mk (blk_below Z4.out b1)
  clear b1 B0 Z4
  have r0 : w1.cell? ⟨w.heap.size + 1 + 1, 0, none⟩ = some (.bool false) := (blk_cell R4.out 0).trans rfl
  have r1 : w1.cell? ⟨w.heap.size + 1 + 1, 1, none⟩ = some (.int .u64 0) := (blk_cell R4.out 1).trans rfl
  have r2 : w1.cell? ⟨w.heap.size + 1 + 1, 2, none⟩ = some (.int .u64 0) := (blk_cell R4.out 2).trans rfl
  have y0 := fun j => blk_frozen R4.out j
  go_wp2_with fail
  refine bodyPost_ret (v := .agg #[.bool n, .int .u64 0, .int .u64 (x + y)]) (by simp [results, Try.results144, go_sem, r0, r1, r2]) rfl ⟨congrArg _ HE.out, ((B.out.setCell (by show w.heap.size ≤ w.heap.size + 1 + 1; omega) _).setCell (by show w.heap.size ≤ w.heap.size + 1 + 1; omega) _).setCell (by show w.heap.size ≤ w.heap.size + 1 + 1; omega) _⟩
 | false =>
  have hnm' : n ≠ m := by simpa using hnm
  have hs : (a < 0 ∧ ¬ b < 0) ∨ (¬ a < 0 ∧ b < 0) := by
   have h1 := HN.out
   have h2 := HM.out
   by_cases h3 : a < 0
   ·by_cases h4 : b < 0
    ·rw [decide_eq_true h3] at h1
     rw [decide_eq_true h4] at h2
     exact absurd (h1.trans h2.symm) hnm'
    ·exact .inl ⟨h3, h4⟩
   ·by_cases h4 : b < 0
    ·exact .inr ⟨h3, h4⟩
    ·rw [decide_eq_false h3] at h1
     rw [decide_eq_false h4] at h2
     exact absurd (h1.trans h2.symm) hnm'
  have HS := Aside0.mk hs
  clear hs hnm'
  have HD := Aside0.mk (fun W => dist_any n m x y W)
  go_enter Try.func144, Try.ntmps144
  go_wp2_with fail
  rw [← HW.out]
  refine (HD.out _).mono ?_
  rintro _ w1 ⟨rfl, b1⟩
  have B1 := Aside0.mk (B0.out.trans (b1.mono B0.out.size))
  have Y4 := Aside0.mk (blk_below Z4.out b1)
  have Y2 := Aside0.mk (blk_below Z2.out b1)
  have Y3 := Aside0.mk (blk_below Z3.out b1)
  clear b1 B0 Z4 Z2 Z3 hnm HW
  have c0 : w1.cell? ⟨w.heap.size, 0, none⟩ = some (.bool n) := (blk_cell Y2.out 0).trans rfl
  have c1 : w1.cell? ⟨w.heap.size, 1, none⟩ = some (.int .u64 0) := (blk_cell Y2.out 1).trans rfl
  have c2 : w1.cell? ⟨w.heap.size, 2, none⟩ = some (.int .u64 x) := (blk_cell Y2.out 2).trans rfl
  have d0 : w1.cell? ⟨w.heap.size + 1, 0, none⟩ = some (.bool m) := (blk_cell Y3.out 0).trans rfl
  have d1 : w1.cell? ⟨w.heap.size + 1, 1, none⟩ = some (.int .u64 0) := (blk_cell Y3.out 1).trans rfl
  have d2 : w1.cell? ⟨w.heap.size + 1, 2, none⟩ = some (.int .u64 y) := (blk_cell Y3.out 2).trans rfl
  by_cases hxy : x < y
  ·rw [show cmpU x y = (-1 : Int) from if_pos hxy]
   have HLE := Aside0.mk (fun W => less_any m n y x ha (by omega) (by omega) W)
   have HNO := Aside0.mk (fun W => normal_any m (y - x) (by omega) (by omega) W)
   have HE : Aside0 (Value.agg #[.bool (m && decide (y - x ≠ 0)), .int .u64 0, .int .u64 (y - x)] = .agg #[.bool (decide (a + b < 0)), .int .u64 0, .int .u64 (ab (a + b))]) := ⟨by
    have h1 := HX.out
    have h2 := HY.out
    rcases HS.out with ⟨h3, h4⟩ | ⟨h3, h4⟩
    ·rw [ab_neg h3] at h1
     rw [ab_pos (show ¬ b < 0 by omega)] at h2
     have h5 : ¬ a + b < 0 := by omega
     rw [HM.out, decide_eq_false (show ¬ b < 0 by omega), decide_eq_false h5, ab_pos h5, show y - x = a + b by omega]
     rfl
    ·rw [ab_pos (show ¬ a < 0 by omega)] at h1
     rw [ab_neg h4] at h2
     have h5 : a + b < 0 := by omega
     rw [HM.out, decide_eq_true h4, decide_eq_true h5, ab_neg h5, show y - x = -(a + b) by omega, decide_eq_true (show -(a + b) ≠ 0 by omega)]
     rfl⟩
   have HXY := Aside0.mk hxy
   clear hxy
   obtain ⟨z, hz⟩ : ∃ z, z = y - x := ⟨_, rfl⟩
   rw [← hz] at HLE HNO HE
   clear hz
   go_wp2_with fail
   refine (HLE.out _).mono ?_
   rintro _ w2 ⟨rfl, b2⟩
   go_wp2_with fail
   obtain ⟨q, hq⟩ : ∃ q, q = (m && decide (z ≠ 0)) := ⟨_, rfl⟩
   rw [← hq] at HNO HE
   clear hq
   refine (HNO.out _).mono ?_
   rintro _ w3 ⟨rfl, b3⟩
   have B := Aside0.mk (B1.out.trans ((b2.trans (b3.mono b2.size)).mono B1.out.size))
   have R4 := Aside0.mk (blk_below (blk_below Y4.out b2) b3)
   clear b2 b3 B1 Y4 Y2 Y3 c0 c1 c2 d0 d1 d2
   have r0 : w3.cell? ⟨w.heap.size + 1 + 1, 0, none⟩ = some (.bool false) := (blk_cell R4.out 0).trans rfl
   have r1 : w3.cell? ⟨w.heap.size + 1 + 1, 1, none⟩ = some (.int .u64 0) := (blk_cell R4.out 1).trans rfl
   have r2 : w3.cell? ⟨w.heap.size + 1 + 1, 2, none⟩ = some (.int .u64 0) := (blk_cell R4.out 2).trans rfl
   have y0 := fun j => blk_frozen R4.out j
   go_wp2_with fail
   refine bodyPost_ret (v := .agg #[.bool q, .int .u64 0, .int .u64 z]) (by simp [results, Try.results144, go_sem, r0, r1, r2]) rfl ⟨congrArg _ HE.out, ((B.out.setCell (by show w.heap.size ≤ w.heap.size + 1 + 1; omega) _).setCell (by show w.heap.size ≤ w.heap.size + 1 + 1; omega) _).setCell (by show w.heap.size ≤ w.heap.size + 1 + 1; omega) _⟩
  ·obtain ⟨r, hr⟩ : ∃ r : Int, r = cmpU x y := ⟨_, rfl⟩
   have hr0 : 0 ≤ r := by rw [hr]; unfold cmpU; rw [if_neg hxy]; split <;> omega
   rw [← hr]
   clear hr
   have HLE := Aside0.mk (fun W => less_any n m x y hb (by omega) (by omega) W)
   have HNO := Aside0.mk (fun W => normal_any n (x - y) (by omega) (by omega) W)
   have HE : Aside0 (Value.agg #[.bool (n && decide (x - y ≠ 0)), .int .u64 0, .int .u64 (x - y)] = .agg #[.bool (decide (a + b < 0)), .int .u64 0, .int .u64 (ab (a + b))]) := ⟨by
    have h1 := HX.out
    have h2 := HY.out
    rcases HS.out with ⟨h3, h4⟩ | ⟨h3, h4⟩
    ·rw [ab_neg h3] at h1
     rw [ab_pos (show ¬ b < 0 by omega)] at h2
     rw [HN.out, decide_eq_true h3]
     by_cases h6 : a + b < 0
     ·rw [decide_eq_true h6, ab_neg h6, show x - y = -(a + b) by omega, decide_eq_true (show -(a + b) ≠ 0 by omega)]
      rfl
     ·rw [decide_eq_false h6, ab_pos h6, show x - y = 0 by omega, show a + b = 0 by omega]
      rfl
    ·rw [ab_pos (show ¬ a < 0 by omega)] at h1
     rw [ab_neg h4] at h2
     have h6 : ¬ a + b < 0 := by omega
     rw [HN.out, decide_eq_false (show ¬ a < 0 by omega), decide_eq_false h6, ab_pos h6, show x - y = a + b by omega]
     rfl⟩
   have HXY := Aside0.mk hxy
   clear hxy
   obtain ⟨z, hz⟩ : ∃ z, z = x - y := ⟨_, rfl⟩
   rw [← hz] at HLE HNO HE
   clear hz
   go_wp2_with fail
   refine (HLE.out _).mono ?_
   rintro _ w2 ⟨rfl, b2⟩
   go_wp2_with fail
   obtain ⟨q, hq⟩ : ∃ q, q = (n && decide (z ≠ 0)) := ⟨_, rfl⟩
   rw [← hq] at HNO HE
   clear hq
   refine (HNO.out _).mono ?_
   rintro _ w3 ⟨rfl, b3⟩
   have B := Aside0.mk (B1.out.trans ((b2.trans (b3.mono b2.size)).mono B1.out.size))
   have R4 := Aside0.mk (blk_below (blk_below Y4.out b2) b3)
   clear b2 b3 B1 Y4 Y2 Y3 c0 c1 c2 d0 d1 d2
   have r0 : w3.cell? ⟨w.heap.size + 1 + 1, 0, none⟩ = some (.bool false) := (blk_cell R4.out 0).trans rfl
   have r1 : w3.cell? ⟨w.heap.size + 1 + 1, 1, none⟩ = some (.int .u64 0) := (blk_cell R4.out 1).trans rfl
   have r2 : w3.cell? ⟨w.heap.size + 1 + 1, 2, none⟩ = some (.int .u64 0) := (blk_cell R4.out 2).trans rfl
   have y0 := fun j => blk_frozen R4.out j
   go_wp2_with fail
   refine bodyPost_ret (v := .agg #[.bool q, .int .u64 0, .int .u64 z]) (by simp [results, Try.results144, go_sem, r0, r1, r2]) rfl ⟨congrArg _ HE.out, ((B.out.setCell (by show w.heap.size ≤ w.heap.size + 1 + 1; omega) _).setCell (by show w.heap.size ≤ w.heap.size + 1 + 1; omega) _).setCell (by show w.heap.size ≤ w.heap.size + 1 + 1; omega) _⟩
end Go.Proofs.Ytelabmhhnpfegaa.Hand
namespace Go.Proofs.Ytelabmhhnpfegaa.Hand
open Go.RowKit Go.Proofs.YtelabmhhnpfegaaW.PrintWords Go.Proofs.YtelabmhhnpfegaaW.PrintLast Go.Proofs.YtelabmhhnpfegaaW.PrintMore Go.Proofs.Ytelabmhhnpfegaa.PDynCells
theorem ab_le {z B : Int} (h : -B ≤ z ∧ z ≤ B) : ab z ≤ B := by
 unfold ab
 split <;> omega
set_option maxHeartbeats 1000000 in
set_option maxRecDepth 100000 in
theorem total_any (w : World) (A : Option Addr) (n c : Nat) (f : Nat → Int) (h : RowI w A n f) (hb : ∀ i, i < n → -549755813888 ≤ f i ∧ f i ≤ 549755813888) (hn : n ≤ 4096) :
  Calls Try.prog 120 #[.slice A n c] w fun e w' => e = .returned (wideV (sumTo n f)) ∧ Below w.heap.size w w' := by
 have hu := Try.underlying179
 have H := Aside0.mk h
 have HB := Aside0.mk hb
 clear h hb
 go_enter Try.func120, Try.ntmps120
 go_wp2_with fail
 obtain ⟨W, hW⟩ : ∃ W, W = (w.alloc (.cells #[.bool false, .int .u64 0, .int .u64 0] 179)).alloc (.cells #[.bool false, .int .u64 0, .int .u64 0] 179) := ⟨_, rfl⟩
 rw [← hW]
 have K0 : Aside0 (W.heap[w.heap.size + 1]? = some (.cells #[.bool (decide (sumTo 0 f < 0)), .int .u64 0, .int .u64 (ab (sumTo 0 f))] 179 (0, 0)) ∧ W.heap[w.heap.size]? = some (.cells #[.bool false, .int .u64 0, .int .u64 0] 179 (0, 0)) ∧ Below w.heap.size w W) := ⟨by
  rw [hW]
  refine ⟨?_, ?_, below_alloc (below_alloc (Below.refl _ _) _) _⟩
  ·simp only [al_get, al_size]
   rw [if_pos trivial]
   rfl
  ·simp only [al_get, al_size]
   rw [if_neg (by omega), if_pos trivial]⟩
 clear hW
 go_loopw [8] (fun v8 wr => ∃ k : Nat, k ≤ n ∧ v8 = .int .i64 k ∧ Aside0 (wr.heap[w.heap.size + 1]? = some (.cells #[.bool (decide (sumTo k f < 0)), .int .u64 0, .int .u64 (ab (sumTo k f))] 179 (0, 0)) ∧ wr.heap[w.heap.size]? = some (.cells #[.bool false, .int .u64 0, .int .u64 0] 179 (0, 0)) ∧ Below w.heap.size w wr)) (fun v _ => n - (intOf v).toNat)
 case atStart => exact ⟨0, Nat.zero_le _, rfl, K0⟩
 case round =>
  clear K0
  obtain ⟨k, hk, rfl, K1⟩ := hrel
  by_cases hlt : k < n
  ·obtain ⟨ad, rfl, hc⟩ := H.out k hlt
   have f1 := pw_cell_below K1.out.2.2 hc
   have hbx := HB.out k hlt
   have hbz := sumTo_abs (n := k) (f := f) (B := 549755813888) (fun i hi => HB.out i (by omega))
   have hs := sumTo_succ k f
   obtain ⟨x, hx⟩ : ∃ x, x = f k := ⟨_, rfl⟩
   obtain ⟨z, hz⟩ : ∃ z, z = sumTo k f := ⟨_, rfl⟩
   rw [← hx] at f1 hbx hs
   rw [← hz] at hbz hs K1
   have HS := Aside0.mk hs
   have HZ : Aside0 (ab z + ab x ≤ 9223372036854775807) := ⟨by
    have a1 := ab_le hbx
    have a2 := ab_le (B := 4096 * 549755813888) (z := z) (by omega)
    omega⟩
   clear hc hx hz hs hbz
   have p0 : wr.drew.cell? ⟨w.heap.size + 1, 0, none⟩ = some (.bool (decide (z < 0))) := (blk_cell K1.out.1 0).trans rfl
   have p1 : wr.drew.cell? ⟨w.heap.size + 1, 1, none⟩ = some (.int .u64 0) := (blk_cell K1.out.1 1).trans rfl
   have p2 : wr.drew.cell? ⟨w.heap.size + 1, 2, none⟩ = some (.int .u64 (ab z)) := (blk_cell K1.out.1 2).trans rfl
   go_upto_region 5 with fail
   refine start_ (n := 5) (S := fun w' => w'.cell? ⟨w.heap.size + 1, 0, none⟩ = some (.bool (decide (z < 0))) ∧ w'.cell? ⟨w.heap.size + 1, 1, none⟩ = some (.int .u64 0) ∧ w'.cell? ⟨w.heap.size + 1, 2, none⟩ = some (.int .u64 (ab z))) (ds := [4]) #[false, false, false, false, false] (by kernel_rfl) rfl rfl ⟨p0, p1, p2⟩ (fun hHeld => ?_)
   clear p0 p1 p2
   refine taU 0 (some 12) ?_ rfl rfl (by kernel_rfl) (fun _ _ _ h => h) (Or.inl ⟨by rfl, ?_⟩) hHeld ?_ ?_ ?_
   rotate_left
   ·rintro w' ⟨s0, s1, s2⟩
    go_simp
    with_reducible rfl
   rotate_left
   ·simp only [Act.put, lsA, lsB, lsC]
    rfl
   refine puU 1 (some 13) ?_ rfl rfl (by kernel_rfl) (fun _ _ _ h => h) (Or.inl ⟨by rfl, ?_⟩) ?_ ?_ ?_
   rotate_left
   ·intro w'
    go_simp
    with_reducible rfl
   rotate_left
   ·simp only [Act.put, lsA, lsB, lsC]
    rfl
   refine one_ (i := 2) (N := some 14) #[true, true, true, false, false] rfl rfl (by kernel_rfl) (by decide) (fun K hK => ?_)
   refine goes_ Try.func145 (by kernel_rfl) rfl #[.int .i64 x] (by rfl) rfl rfl (by (try simp only [List.map_toArray, List.map_cons, List.map_nil]); first | done | rfl) ?_
   have CL := Aside0.mk (of_any x (by omega) wr.drew)
   refine CL.out.mono ?_
   rintro e w2 ⟨rfl, b2⟩
   have Tw2 := Aside0.mk (blk_below (w := wr.drew) K1.out.1 b2)
   have Rw2 := Aside0.mk (blk_below (w := wr.drew) K1.out.2.1 b2)
   have Bw2 : Aside0 (Below w.heap.size w w2) := ⟨(below_drew K1.out.2.2).trans (b2.mono K1.out.2.2.size)⟩
   refine ⟨_, rfl, ?_⟩
   refine hK.out _ _ ⟨(blk_cell Tw2.out 0).trans rfl, (blk_cell Tw2.out 1).trans rfl, (blk_cell Tw2.out 2).trans rfl⟩ (fun hHeld => ?_)
   clear hK hHeld K CL
   refine norm_ (a' := ?_) ?_ ?_
   rotate_left
   ·show Act.put _ (some 14) _ = _
    simp only [Act.put, lsA, lsB, lsC]
    rfl
   refine one_ (i := 3) (N := some 15) #[true, true, true, true, false] rfl rfl (by kernel_rfl) (by decide) (fun K hK => ?_)
   refine goes_ Try.func144 (by kernel_rfl) rfl #[.agg #[.bool (decide (z < 0)), .int .u64 0, .int .u64 (ab z)], wideV x] (by rfl) rfl rfl (by (try simp only [List.map_toArray, List.map_cons, List.map_nil]); first | done | rfl) ?_
   have CL := Aside0.mk (wadd_any z x HZ.out w2)
   refine CL.out.mono ?_
   rintro e w3 ⟨rfl, b3⟩
   have Tw3 := Aside0.mk (blk_below Tw2.out b3)
   have Rw3 := Aside0.mk (blk_below Rw2.out b3)
   have Bw3 : Aside0 (Below w.heap.size w w3) := ⟨Bw2.out.trans (b3.mono Bw2.out.size)⟩
   refine ⟨_, rfl, ?_⟩
   refine hK.out _ _ ⟨(blk_cell Tw3.out 0).trans rfl, (blk_cell Tw3.out 1).trans rfl, (blk_cell Tw3.out 2).trans rfl⟩ (fun hHeld => ?_)
   clear hK hHeld K CL
   refine norm_ (a' := ?_) ?_ ?_
   rotate_left
   ·show Act.put _ (some 15) _ = _
    simp only [Act.put, lsA, lsB, lsC]
    rfl
   refine last_ (i := 4) (N := none) #[true, true, true, true, true] rfl rfl (by kernel_rfl) (by decide) (fun K hK => ?_)
   have h0 := (blk_cell Tw3.out 0).trans rfl
   have h1 := (blk_cell Tw3.out 1).trans rfl
   have h2 := (blk_cell Tw3.out 2).trans rfl
   have hz := fun j => blk_frozen Tw3.out j
   unfold wideV
   refine skip_ (w1 := ?_) (by rfl) rfl ?_ ?_
   rotate_left
   ·go_simp
    rfl
   refine hK.out _ _ ?_
   clear hK K h0 h1 h2 hz
   refine done_ (by kernel_rfl) ?_
   go_wp2_with fail
   go_roundw
   case measure => simp [intOf]; omega
   case rel =>
    refine ⟨k + 1, by omega, by go_num, ⟨?_, ?_, ?_⟩⟩
    ·rw [HS.out]
     exact blk_put (blk_put (blk_put Tw3.out 0 _ rfl) 1 _ rfl) 2 _ rfl
    ·exact blk_far (blk_far (blk_far Rw3.out (by show w.heap.size ≠ w.heap.size + 1; omega) _) (by show w.heap.size ≠ w.heap.size + 1; omega) _) (by show w.heap.size ≠ w.heap.size + 1; omega) _
    ·exact ((Bw3.out.setCell (Nat.le_succ _) _).setCell (Nat.le_succ _) _).setCell (Nat.le_succ _) _
  ·obtain rfl : n = k := by omega
   obtain ⟨z, hz⟩ : ∃ z, z = sumTo n f := ⟨_, rfl⟩
   rw [← hz] at K1
   have HZ := Aside0.mk hz
   have p0 : wr.cell? ⟨w.heap.size + 1, 0, none⟩ = some (.bool (decide (z < 0))) := (blk_cell K1.out.1 0).trans rfl
   have p1 : wr.cell? ⟨w.heap.size + 1, 1, none⟩ = some (.int .u64 0) := (blk_cell K1.out.1 1).trans rfl
   have p2 : wr.cell? ⟨w.heap.size + 1, 2, none⟩ = some (.int .u64 (ab z)) := (blk_cell K1.out.1 2).trans rfl
   have r0 : wr.cell? ⟨w.heap.size, 0, none⟩ = some (.bool false) := (blk_cell K1.out.2.1 0).trans rfl
   have r1 : wr.cell? ⟨w.heap.size, 1, none⟩ = some (.int .u64 0) := (blk_cell K1.out.2.1 1).trans rfl
   have r2 : wr.cell? ⟨w.heap.size, 2, none⟩ = some (.int .u64 0) := (blk_cell K1.out.2.1 2).trans rfl
   have y0 := fun j => blk_frozen K1.out.2.1 j
   clear hz hlt hk
   go_wp2_with fail
   refine bodyPost_ret (v := wideV z) (by simp [results, Try.results120, go_sem, r0, r1, r2, wideV]) rfl ⟨by rw [HZ.out], ?_⟩
   exact ((K1.out.2.2.setCell (Nat.le_refl _) _).setCell (Nat.le_refl _) _).setCell (Nat.le_refl _) _
theorem sum_any (w : World) (A : Option Addr) (n c : Nat) (f : Nat → Int) (h : RowI w A n f) (hb : ∀ i, i < n → -549755813888 ≤ f i ∧ f i ≤ 549755813888) (hn : n ≤ 4096) :
  Calls Try.prog 79 #[.slice A n c] w fun e w' => e = .returned (.tuple #[.int .i64 (sumTo n f), .bool true]) ∧ Below w.heap.size w w' := by
 have hbz := sumTo_abs (n := n) (f := f) (B := 549755813888) hb
 have HT := Aside0.mk (total_any w A n c f h hb hn)
 have HS := Aside0.mk (fun W => nshort_any (sumTo n f) (by omega) W)
 clear h hb hbz
 obtain ⟨z, hz⟩ : ∃ z, z = sumTo n f := ⟨_, rfl⟩
 rw [← hz] at HT HS ⊢
 clear hz
 go_enter Try.func79, Try.ntmps79
 go_wp2_with fail
 refine HT.out.mono ?_
 rintro _ w1 ⟨rfl, b1⟩
 have B1 := Aside0.mk b1
 clear b1
 unfold wideV
 go_wp2_with fail
 refine (HS.out _).mono ?_
 rintro _ w2 ⟨rfl, b2⟩
 have B2 := Aside0.mk b2
 clear b2
 go_wp2_with fail
 go_ret2
 exact ⟨rfl, B1.out.trans (B2.out.mono B1.out.size)⟩
end Go.Proofs.Ytelabmhhnpfegaa.Hand
end
section
namespace Go.Proofs.Ytelabmhhnpfegaa.Hand
open Go.RowKit Go.Proofs.YtelabmhhnpfegaaW.PrintWords Go.Proofs.YtelabmhhnpfegaaW.PrintLast Go.Proofs.YtelabmhhnpfegaaW.PrintMore Go.Proofs.Ytelabmhhnpfegaa.PDynCells
theorem getD_mem' {l : List Int} {i : Nat} (h : i < l.length) : l.getD i 0 ∈ l := by
 rw [List.getD_eq_getElem?_getD, List.getElem?_eq_getElem h, Option.getD_some]
 exact List.getElem_mem h
def elsC (x : PI) (k : Int) : List Int := (x.sets.getD k.toNat ⟨0, []⟩).f1
def covB (x : PI) (xs : List Int) : Bool := (List.range x.size.toNat).all fun e => decide ((e : Int) ∈ xs.flatMap (elsC x))
set_option maxHeartbeats 1000000 in
set_option maxRecDepth 100000 in
theorem covers_any (w : World) (x : PI) (v : Value) (h : InstC w x v) (hi : IOk x) (hx : PIok x) (A : Option Addr) (m c : Nat) (xs : List Int) (hC : (Kd.int .i64).C w A m xs) (hm : m ≤ 17592186044416) (hr : ∀ k ∈ xs, 0 ≤ k ∧ k < x.sets.length) (r : Bool) (RR : r = covB x xs) :
  Calls Try.prog 132 #[v, .slice A m c] w fun e w' => e = .returned (.bool r) ∧ Aside0 (Below w.heap.size w w') := by
 have HC := Aside0.mk hC
 have HL : Aside0 (xs.length = m) := ⟨hC.1⟩
 have HR := Aside0.mk RR
 have HX := Aside0.mk hx
 have HI := Aside0.mk hi
 have HE := Aside0.mk hr
 obtain ⟨n, hn⟩ : ∃ n : Nat, x.size = (n : Int) := ⟨x.size.toNat, by have := hi.size.1; omega⟩
 have hn5 : n ≤ 4096 := by have := hi.size.2; omega
 obtain ⟨A2, c2, A3, c3, A5, c5, rfl, h2, l2, h3, l3, h5, l5⟩ := h
 have H5 := Aside0.mk h5
 obtain ⟨K, hK1⟩ : ∃ K, K = x.sets.length := ⟨_, rfl⟩
 rw [← hK1] at H5 HE l5 ⊢
 rw [hn]
 have HN := Aside0.mk hn
 have HKK := Aside0.mk hK1
 clear h2 h3 h5 l2 l3 hi hx hr hC RR hn hK1
 have hu54 := Try.underlying54
 have hu197 := Try.underlying197
 have hu102 := Try.underlying102
 go_enter Try.func132, Try.ntmps132
 go_upto_region 1 with fail
 obtain ⟨W1, hW1⟩ : ∃ W, W = w.alloc (.cells #[.int .i64 x.kind, .int .i64 x.cap, .slice A2 x.items.length c2, .slice A3 x.cost.length c3, .int .i64 (n : Int), .slice A5 K c5] 54) := ⟨_, rfl⟩
 rw [← hW1]
 have B1 : Aside0 (Below w.heap.size w W1) := ⟨by rw [hW1]; exact below_alloc (Below.refl _ _) _⟩
 obtain ⟨p1, hp1⟩ : ∃ p, p = w.heap.size := ⟨_, rfl⟩
 have Q1 : Aside0 (W1.heap[p1]? = some (.cells #[.int .i64 x.kind, .int .i64 x.cap, .slice A2 x.items.length c2, .slice A3 x.cost.length c3, .int .i64 (n : Int), .slice A5 K c5] 54 (0, 0))) := ⟨by rw [hW1, hp1]; exact heap_alloc_new _ _⟩
 rw [← hp1]
 clear hW1 hp1
 have q4 : W1.cell? ⟨p1, 4, none⟩ = some (.int .i64 (n : Int)) := (blk_cell Q1.out 4).trans rfl
 go_wp2_with fail
 refine (new_any W1 n hn5).mono ?_
 rintro _ w2 ⟨vs, rfl, H2⟩
 obtain ⟨g0, cc, ws, rfl, hc0, hw0⟩ := H2.out.1
 clear q4
 go_upto_region 2 with fail
 obtain ⟨W3, hW3⟩ : ∃ W, W = w2.alloc (.cells #[.int .i64 (n : Int), .slice (some ⟨g0, 0, none⟩) ws.length cc] 197) := ⟨_, rfl⟩
 rw [← hW3]
 obtain ⟨p5, hp5⟩ : ∃ p, p = w2.heap.size := ⟨_, rfl⟩
 have B3 : Aside0 (Below W1.heap.size W1 W3) := ⟨by rw [hW3]; exact H2.out.2.alloc H2.out.2.size _⟩
 have G5 : Aside0 (W1.heap.size ≤ p5) := ⟨by rw [hp5]; exact H2.out.2.size⟩
 have K0 : Aside0 (∃ (g q cc : Nat), W3.heap[p5]? = some (.cells (#[.int .i64 (n : Int), .slice (some ⟨g, 0, none⟩) q cc]) 197 (0, 0)) ∧ BS W3 (.agg (#[.int .i64 (n : Int), .slice (some ⟨g, 0, none⟩) q cc])) n (inP ((xs.take 0).flatMap (elsC x)) n) ∧ Below W1.heap.size W1 W3) := ⟨g0, ws.length, cc, by rw [hW3, hp5]; exact heap_alloc_new _ _, by
  rw [hW3]
  exact (BS.below (v := .agg #[.int .i64 (n : Int), .slice (some ⟨g0, 0, none⟩) ws.length cc]) ⟨g0, cc, ws, rfl, hc0, hw0⟩ (below_alloc (Below.refl _ _) _)).same (fun k => by unfold inP; simp), B3.out⟩
 rw [← hp5]
 clear hW3 hp5 hc0 hw0 H2
 go_wp2_with fail
 go_loopw [19] (fun v19 wr => ∃ j : Nat, j ≤ m ∧ v19 = .int .i64 (j : Int) ∧ Aside0 (∃ (g q cc : Nat), wr.heap[p5]? = some (.cells (#[.int .i64 (n : Int), .slice (some ⟨g, 0, none⟩) q cc]) 197 (0, 0)) ∧ BS wr (.agg (#[.int .i64 (n : Int), .slice (some ⟨g, 0, none⟩) q cc])) n (inP ((xs.take j).flatMap (elsC x)) n) ∧ Below W1.heap.size W1 wr)) (fun v19 _ => m - (intOf v19).toNat)
 case atStart => exact ⟨0, Nat.zero_le _, rfl, K0⟩
 case round =>
  clear K0
  obtain ⟨j, hj, rfl, KK⟩ := hrel
  by_cases hlt : j < m
  ·have BR : Aside0 (Below W1.heap.size W1 wr) := ⟨by
    obtain ⟨g, q, cc, k1, k2, k3⟩ := KK.out
    exact k3⟩
   obtain ⟨ae, rfl, hx'⟩ := at_Int HC.out j hlt
   have hx := pw_cell_below (B1.out.trans (BR.out.mono B1.out.size)) hx'
   have hzr := HE.out (xs.getD j 0) (getD_mem' (by rw [HL.out]; exact hlt))
   obtain ⟨k, hk⟩ : ∃ k : Nat, (k : Int) = xs.getD j 0 := ⟨(xs.getD j 0).toNat, by omega⟩
   rw [← hk] at hx hzr
   have hkK : k < K := by omega
   have HK := Aside0.mk hk
   obtain ⟨ad, AE, cE, rfl, a0', a1', lE, hE⟩ := at_T102 H5.out (k : Int) (by omega) (by omega)
   have a1 := pw_cell_below (B1.out.trans (BR.out.mono B1.out.size)) a1'
   rw [Int.toNat_natCast] at a1
   have hkl : k < x.sets.length := by rw [← HKK.out]; exact hkK
   have hmk : rd_T102 x.sets (k : Int) = x.sets.getD k ⟨0, []⟩ := by
    unfold rd_T102
    rw [Int.toNat_natCast]
    rfl
   obtain ⟨el, hl0⟩ : ∃ z, z = (x.sets.getD k ⟨0, []⟩).f1 := ⟨_, rfl⟩
   rw [hmk, ← hl0] at a1 hE lE
   have HEL : Aside0 (el = elsC x (xs.getD j 0)) := ⟨by rw [hl0, ← hk]; rfl⟩
   obtain ⟨nE, hnE⟩ : ∃ n, n = el.length := ⟨_, rfl⟩
   rw [← hnE] at a1 hE lE
   have hEN : nE ≤ 17592186044416 := by
    rw [hnE, hl0]
    exact HX.out.els _ (by
     rw [List.getD_eq_getElem?_getD, List.getElem?_eq_getElem hkl]
     exact List.getElem_mem hkl)
   have HEE := Aside0.mk hE
   have HNE := Aside0.mk hnE
   have NX : Aside0 ((xs.take (j + 1)).flatMap (elsC x) = (xs.take j).flatMap (elsC x) ++ el) := ⟨by
    rw [take_snoc (show j < xs.length by rw [HL.out]; exact hlt) 0, List.flatMap_append, HEL.out]
    simp⟩
   clear hx' hzr hk a0' a1' hmk hl0 hnE hkl hE
   have q5 : wr.cell? ⟨p1, 5, none⟩ = some (.slice (some ad) K c5) := (blk_cell (blk_below Q1.out BR.out) 5).trans rfl
   go_wp2_with fail
   clear q5 hx a1
   have J0 : Aside0 (∃ (g q cc : Nat), wr.heap[p5]? = some (.cells (#[.int .i64 (n : Int), .slice (some ⟨g, 0, none⟩) q cc]) 197 (0, 0)) ∧ BS wr (.agg (#[.int .i64 (n : Int), .slice (some ⟨g, 0, none⟩) q cc])) n (inP ((xs.take j).flatMap (elsC x) ++ el.take 0) n) ∧ Below W1.heap.size W1 wr) := ⟨by
    rw [List.take_zero, List.append_nil]
    exact KK.out⟩
   clear KK BR
   go_loopw [30] (fun v30 wr => ∃ i : Nat, i ≤ nE ∧ v30 = .int .i64 (i : Int) ∧ Aside0 (∃ (g q cc : Nat), wr.heap[p5]? = some (.cells (#[.int .i64 (n : Int), .slice (some ⟨g, 0, none⟩) q cc]) 197 (0, 0)) ∧ BS wr (.agg (#[.int .i64 (n : Int), .slice (some ⟨g, 0, none⟩) q cc])) n (inP ((xs.take j).flatMap (elsC x) ++ el.take i) n) ∧ Below W1.heap.size W1 wr)) (fun v30 _ => nE - (intOf v30).toNat)
   case atStart => exact ⟨0, Nat.zero_le _, rfl, J0⟩
   case round =>
    clear J0
    obtain ⟨i, hi, rfl, KJ⟩ := hrel
    by_cases hli : i < nE
    ·obtain ⟨g, q, cc, k1, k2, k3⟩ := KJ.out
     have q0 : wr.cell? ⟨p5, 0, none⟩ = some (.int .i64 (n : Int)) := (blk_cell k1 0).trans rfl
     have q1 : wr.cell? ⟨p5, 1, none⟩ = some (.slice (some ⟨g, 0, none⟩) q cc) := (blk_cell k1 1).trans rfl
     have KS := Aside0.mk (And.intro k1 (And.intro k2 k3))
     clear k1 k2 k3 KJ
     obtain ⟨ae2, rfl, hy'⟩ := at_Int HEE.out i hli
     have hy := pw_cell_below (B1.out.trans (KS.out.2.2.mono B1.out.size)) hy'
     obtain ⟨z, hz⟩ : ∃ z, z = el.getD i 0 := ⟨_, rfl⟩
     rw [← hz] at hy
     have HZ := Aside0.mk hz
     clear hy' hz
     go_wp2_with fail
     refine (with_any wr _ n _ KS.out.2.1 hn5 z).mono ?_
     rintro _ w4 ⟨v4, rfl, H4⟩
     obtain ⟨g4, c4, ws4, rfl, o4, d4⟩ := H4.out.1
     have Q6 := Aside0.mk (blk_below KS.out.1 H4.out.2)
     have B6 : Aside0 (Below W1.heap.size W1 w4) := ⟨KS.out.2.2.trans (H4.out.2.mono KS.out.2.2.size)⟩
     clear q0 q1 hy
     have e0 : w4.cell? ⟨p5, 0, none⟩ = some (.int .i64 (n : Int)) := (blk_cell Q6.out 0).trans rfl
     have e1 : w4.cell? ⟨p5, 1, none⟩ = some (.slice (some ⟨g, 0, none⟩) q cc) := (blk_cell Q6.out 1).trans rfl
     have e2 : ∀ j, w4.frozen? ⟨p5, j, none⟩ = false := fun j => blk_frozen Q6.out j
     obtain ⟨nw, hnw⟩ : ∃ q, q = ws4.length := ⟨_, rfl⟩
     have N1 : Aside0 (∃ (g q cc : Nat), ((w4.setCell ⟨p5, 0, none⟩ (.int .i64 (n : Int))).setCell ⟨p5, 1, none⟩ (.slice (some ⟨g4, 0, none⟩) ws4.length c4)).heap[p5]? = some (.cells (#[.int .i64 (n : Int), .slice (some ⟨g, 0, none⟩) q cc]) 197 (0, 0)) ∧ BS ((w4.setCell ⟨p5, 0, none⟩ (.int .i64 (n : Int))).setCell ⟨p5, 1, none⟩ (.slice (some ⟨g4, 0, none⟩) ws4.length c4)) (.agg (#[.int .i64 (n : Int), .slice (some ⟨g, 0, none⟩) q cc])) n (inP ((xs.take j).flatMap (elsC x) ++ el.take (i + 1)) n) ∧ Below W1.heap.size W1 ((w4.setCell ⟨p5, 0, none⟩ (.int .i64 (n : Int))).setCell ⟨p5, 1, none⟩ (.slice (some ⟨g4, 0, none⟩) ws4.length c4))) :=
      ⟨g4, ws4.length, c4, blk_set (blk_set Q6.out 0 _) 1 _, (((BS.set (v := .agg #[.int .i64 (n : Int), .slice (some ⟨g4, 0, none⟩) ws4.length c4]) ⟨g4, c4, ws4, rfl, o4, d4⟩ Q6.out (by decide) 0 _).set (blk_set Q6.out 0 _) (by decide) 1 _)).same (fun k => by
       have hl : i < el.length := by rw [← HNE.out]; exact hli
       show (inP ((xs.take j).flatMap (elsC x) ++ el.take i) n k || (decide (0 ≤ z) && decide (z < (n : Int)) && decide (k = z.toNat))) = inP ((xs.take j).flatMap (elsC x) ++ el.take (i + 1)) n k
       rw [take_snoc hl 0, ← HZ.out, ← List.append_assoc]
       exact inP_snoc _ _ _ _), (B6.out.setCell (p := ⟨p5, 0, none⟩) G5.out _).setCell (p := ⟨p5, 1, none⟩) G5.out _⟩
     rw [← hnw] at N1 ⊢
     clear o4 d4 H4 hnw
     go_wp2_with fail
     exact ⟨⟨i + 1, by omega, by go_num, N1⟩, by simp [intOf]; omega⟩
    ·obtain rfl : nE = i := by omega
     have N1 : Aside0 (∃ (g q cc : Nat), wr.heap[p5]? = some (.cells (#[.int .i64 (n : Int), .slice (some ⟨g, 0, none⟩) q cc]) 197 (0, 0)) ∧ BS wr (.agg (#[.int .i64 (n : Int), .slice (some ⟨g, 0, none⟩) q cc])) n (inP ((xs.take (j + 1)).flatMap (elsC x)) n) ∧ Below W1.heap.size W1 wr) := ⟨by
      have h1 := KJ.out
      rw [List.take_of_length_le (l := el) (by rw [HNE.out]; exact Nat.le_refl _), ← NX.out] at h1
      exact h1⟩
     go_wp2_with fail
     exact ⟨⟨j + 1, by omega, by go_num, N1⟩, by simp [intOf]; omega⟩
  ·obtain rfl : m = j := by omega
   have hall : xs.take m = xs := List.take_of_length_le (by rw [HL.out]; exact Nat.le_refl _)
   obtain ⟨ct, hct⟩ : ∃ ct, ct = (List.range n).countP (inP ((xs.take m).flatMap (elsC x)) n) := ⟨_, rfl⟩
   have HCT := Aside0.mk hct
   have RF : Aside0 (r = ((ct : Int) == (n : Int))) := ⟨by
    have h1 : (ct = n) ↔ (List.range n).all (fun k => decide ((k : Int) ∈ xs.flatMap (elsC x))) = true := by rw [hct, hall]; exact count_in _ _
    rw [HR.out]
    unfold covB
    rw [HN.out, Int.toNat_natCast, Bool.eq_iff_iff, ← h1, beq_iff_eq]
    omega⟩
   clear hall hct
   obtain ⟨g, q, cc, k1, k2, k3⟩ := KK.out
   go_upto_region 11 with fail
   obtain ⟨wo, hwo⟩ : ∃ wo : World, wo = wr := ⟨_, rfl⟩
   rw [← hwo] at k1 k2 k3 ⊢
   clear hwo KK
   have z0 : wo.drew.cell? ⟨p5, 0, none⟩ = some (.int .i64 (n : Int)) := (blk_cell k1 0).trans rfl
   have z1 : wo.drew.cell? ⟨p5, 1, none⟩ = some (.slice (some ⟨g, 0, none⟩) q cc) := (blk_cell k1 1).trans rfl
   have z2 : wo.drew.cell? ⟨p1, 4, none⟩ = some (.int .i64 (n : Int)) := (blk_cell (blk_below Q1.out k3) 4).trans rfl
   have ZZ := Aside0.mk (And.intro z0 (And.intro z1 z2))
   have KS := Aside0.mk (And.intro k1 (And.intro k2 k3))
   clear k1 k2 k3
   refine start_ (n := 6) (S := fun w' => w'.cell? ⟨p5, 0, none⟩ = some (.int .i64 (n : Int)) ∧ w'.cell? ⟨p5, 1, none⟩ = some (.slice (some ⟨g, 0, none⟩) q cc) ∧ w'.cell? ⟨p1, 4, none⟩ = some (.int .i64 (n : Int))) (ds := []) #[false, false, false, false, false, false] (by kernel_rfl) rfl rfl ⟨z0, z1, z2⟩ (fun hHeld => ?_)
   clear z0 z1 z2
   refine taU 0 (some 39) ?_ rfl rfl (by kernel_rfl) (fun _ _ _ h => h) (Or.inl ⟨by rfl, ?_⟩) hHeld ?_ ?_ ?_
   rotate_left
   ·rintro w' ⟨s0, s1, s2⟩
    go_simp
    with_reducible rfl
   rotate_left
   ·simp only [Act.put, lsA, lsB, lsC]
    rfl
   refine puU 2 (some 41) ?_ rfl rfl (by kernel_rfl) (fun _ _ _ h => h) (Or.inl ⟨by rfl, ?_⟩) ?_ ?_ ?_
   rotate_left
   ·intro w'
    go_simp
    with_reducible rfl
   rotate_left
   ·simp only [Act.put, lsA, lsB, lsC]
    rfl
   refine taU 3 (some 42) ?_ rfl rfl (by kernel_rfl) (fun _ _ _ h => h) (Or.inl ⟨by rfl, ?_⟩) hHeld ?_ ?_ ?_
   rotate_left
   ·rintro w' ⟨s0, s1, s2⟩
    go_simp
    with_reducible rfl
   rotate_left
   ·simp only [Act.put, lsA, lsB, lsC]
    rfl
   refine one_ (i := 1) (N := some 40) #[true, true, true, true, false, false] rfl rfl (by kernel_rfl) (by decide) (fun K hK => ?_)
   refine goes_ Try.func152 (by kernel_rfl) rfl #[.agg #[.int .i64 (n : Int), .slice (some ⟨g, 0, none⟩) q cc]] (by rfl) rfl rfl (by (try simp only [List.map_toArray, List.map_cons, List.map_nil]); first | done | rfl) ?_
   refine (count_any wo.drew _ n _ (KS.out.2.1.below (below_drew (Below.refl _ _))) hn5).mono ?_
   rintro _ w7 ⟨rfl, hb7⟩
   rw [← HCT.out]
   have H7 := Aside0.mk hb7
   refine ⟨_, rfl, ?_⟩
   refine hK.out _ _ ⟨pw_cell_below hb7 ZZ.out.1, pw_cell_below hb7 ZZ.out.2.1, pw_cell_below hb7 ZZ.out.2.2⟩ (fun _ => ?_)
   clear hK K hb7
   refine norm_ (a' := ?_) ?_ ?_
   rotate_left
   ·show Act.put _ (some 40) _ = _
    simp only [Act.put, lsA, lsB, lsC]
    rfl
   refine puU 4 (some 43) ?_ rfl rfl (by kernel_rfl) (fun _ _ _ h => h) (Or.inl ⟨by rfl, ?_⟩) ?_ ?_ ?_
   rotate_left
   ·intro w'
    go_simp
    with_reducible rfl
   rotate_left
   ·simp only [Act.put, lsA, lsB, lsC]
    rfl
   refine puU 5 (some 4) ?_ rfl rfl (by kernel_rfl) (fun _ _ _ h => h) (Or.inl ⟨by rfl, ?_⟩) ?_ ?_ ?_
   rotate_left
   ·intro w'
    go_simp
    with_reducible rfl
   rotate_left
   ·simp only [Act.put, lsA, lsB, lsC]
    rfl
   refine done_ (by kernel_rfl) ?_
   go_wp2_with fail
   go_ret
   refine ⟨by rw [RF.out]; rfl, ⟨(B1.out.trans (KS.out.2.2.mono B1.out.size)).trans ?_⟩⟩
   exact ((below_drew (Below.refl _ wo)).trans H7.out).mono (Nat.le_trans B1.out.size KS.out.2.2.size)
end Go.Proofs.Ytelabmhhnpfegaa.Hand
end
