/- Sums of few numbers, as the program reckons them: walked. -/
import Derived.Laws.Externs
import Derived.Lib.EndianBits
import Derived.Test.YtofomlpdklhigaaGreatDoorKc
import Derived.Test.YtofomlpdklhigaaGreatDoorJb
namespace Go.Proofs.YtofomlpdklhigaaGreatDoor.Hand
open Go.RowKit Go.Proofs.YtofomlpdklhigaaGreatDoorW.PrintWords Go.Proofs.YtofomlpdklhigaaGreatDoorW.PrintLast Go.Proofs.YtofomlpdklhigaaGreatDoorW.PrintMore Go.Proofs.YtofomlpdklhigaaGreatDoor.PSigns
set_option linter.unusedVariables false
set_option linter.unusedSimpArgs false
def sub64Entry : Array Value → Sem Value := fun args => do
  let (x, y, b) ← Extern.MathBitsCarry.three "Sub64" args
  pure (Extern.MathBitsCarry.pair ((x + Extern.MathBitsCarry.m64 - y - b) % Extern.MathBitsCarry.m64) (if x < y + b then 1 else 0))
theorem run168 (x y : Int) (hx : 0 ≤ x) (hy : 0 ≤ y) (h : x + y < 18446744073709551616) (w : World) : (callFunc 166 #[.int .u64 x, .int .u64 y, .int .u64 0]).run Tryz.prog w = .ok (.value (.tuple #[.int .u64 (x + y), .int .u64 0])) w := by
  rw [run_callFunc_extern (e := add64Entry) Tryz.func166 (by kernel_rfl) (by kernel_rfl) (by kernel_rfl) (by rfl), run_add64 x y 0 hx hy (by omega) (by omega)]
  rw [show (x + y + 0) % 18446744073709551616 = x + y by omega, show (x + y + 0) / 18446744073709551616 = 0 by omega]
  rfl
theorem run169 (x y : Int) (hx : 0 ≤ y) (hy : y ≤ x) (h : x < 18446744073709551616) (w : World) : (callFunc 169 #[.int .u64 x, .int .u64 y, .int .u64 0]).run Tryz.prog w = .ok (.value (.tuple #[.int .u64 (x - y), .int .u64 0])) w := by
  rw [run_callFunc_extern (e := sub64Entry) Tryz.func169 (by kernel_rfl) (by kernel_rfl) (by kernel_rfl) (by rfl)]
  obtain ⟨X, rfl⟩ := Int.eq_ofNat_of_zero_le (show 0 ≤ x by omega)
  obtain ⟨Y, rfl⟩ := Int.eq_ofNat_of_zero_le hx
  have e : (sub64Entry #[.int .u64 (X : Int), .int .u64 (Y : Int), .int .u64 0]).run Tryz.prog w = .ok (Extern.MathBitsCarry.pair ((X + Extern.MathBitsCarry.m64 - Y - 0) % Extern.MathBitsCarry.m64) (if X < Y + 0 then 1 else 0)) w := rfl
  rw [e, if_neg (by omega)]
  have e2 : Int.ofNat ((X + Extern.MathBitsCarry.m64 - Y - 0) % Extern.MathBitsCarry.m64) = (X : Int) - (Y : Int) := by
    show (((X + 18446744073709551616 - Y - 0) % 18446744073709551616 : Nat) : Int) = _
    omega
  simp only [Extern.MathBitsCarry.pair]
  rw [e2]
  rfl
/-- A number's distance from 0. -/
def ab (z : Int) : Int := if z < 0 then -z else z
theorem ab_neg {z : Int} (h : z < 0) : ab z = -z := if_pos h
theorem ab_pos {z : Int} (h : ¬ z < 0) : ab z = z := if_neg h
def wideV (z : Int) : Value := .agg #[.bool (decide (z < 0)), .int .u64 0, .int .u64 (ab z)]
theorem plus_any (n n' : Bool) (x y : Int) (hx : 0 ≤ x) (hy : 0 ≤ y) (h : x + y < 18446744073709551616) (w : World) :
    Calls Tryz.prog 151 #[.agg #[.bool n, .int .u64 0, .int .u64 x], .agg #[.bool n', .int .u64 0, .int .u64 y]] w fun e w' => e = .returned (.agg #[.bool n, .int .u64 0, .int .u64 (x + y)]) ∧ Below w.heap.size w w' := by
  have hu := Tryz.underlying156
  have r1 := run168 x y hx hy h
  have r2 := run168 0 0 (by omega) (by omega) (by omega)
  rw [show (0 : Int) + 0 = 0 from rfl] at r2
  go_enter Tryz.func151, Tryz.ntmps151
  go_wp2_with fail
  exact bodyPost_ret (v := .agg #[.bool n, .int .u64 0, .int .u64 (x + y)]) (by simp [results, Tryz.results151, go_sem]) rfl ⟨rfl, below_alloc (below_alloc (below_alloc (Below.refl _ _) _) _) _⟩
theorem less_any (n n' : Bool) (x y : Int) (hy : 0 ≤ y) (hx : y ≤ x) (h : x < 18446744073709551616) (w : World) :
    Calls Tryz.prog 154 #[.agg #[.bool n, .int .u64 0, .int .u64 x], .agg #[.bool n', .int .u64 0, .int .u64 y]] w fun e w' => e = .returned (.agg #[.bool n, .int .u64 0, .int .u64 (x - y)]) ∧ Below w.heap.size w w' := by
  have hu := Tryz.underlying156
  have r1 := run169 x y hy hx h
  have r2 := run169 0 0 (by omega) (by omega) (by omega)
  rw [show (0 : Int) - 0 = 0 from rfl] at r2
  go_enter Tryz.func154, Tryz.ntmps154
  go_wp2_with fail
  exact bodyPost_ret (v := .agg #[.bool n, .int .u64 0, .int .u64 (x - y)]) (by simp [results, Tryz.results154, go_sem]) rfl ⟨rfl, below_alloc (below_alloc (below_alloc (Below.refl _ _) _) _) _⟩
theorem bits_or0 (y : Int) (h0 : 0 ≤ y) (h : y < 18446744073709551616) : Go.bits .or .u64 0 y = y := by
  have := bits_join_low .u64 64 (by decide) wraps_u64 0 0 y (by omega) (by decide) (by decide) h0 (by omega) (by omega)
  omega
theorem wrap64_in {z : Int} (h : -9223372036854775808 ≤ z ∧ z ≤ 9223372036854775807) : wrap64 z = z := by
  unfold wrap64
  omega
def RowI (w : World) (A : Option Addr) (n : Nat) (c : Nat → Int) : Prop := ∀ k, k < n → ∃ ad, A = some ad ∧ w.cell? (ad.add k) = some (.int .i64 (c k))
theorem size_any (z : Int) (h : -9223372036854775807 ≤ z ∧ z ≤ 9223372036854775807) (w : World) : Calls Tryz.prog 155 #[.int .i64 z] w fun e w' => e = .returned (.int .u64 (ab z)) ∧ w = w' := by
  by_cases hz : z < 0
  · have e1 : IntKind.u64.wrap z = z + 18446744073709551616 := by rw [IntKind.wrap_u64]; omega
    have e2 : IntKind.u64.wrap (-(z + 18446744073709551616)) = -z := by rw [IntKind.wrap_u64]; omega
    rw [ab_neg hz]
    have g1 : decide (z < 0) = true := decide_eq_true hz
    go_enter Tryz.func155, Tryz.ntmps155
    go_wp2
    go_ret
    exact ⟨rfl, rfl⟩
  · have e1 : IntKind.u64.wrap z = z := by rw [IntKind.wrap_u64]; omega
    have g1 : decide (z < 0) = false := decide_eq_false hz
    rw [ab_pos hz]
    go_enter Tryz.func155, Tryz.ntmps155
    go_wp2
    go_ret
    exact ⟨rfl, rfl⟩
set_option maxHeartbeats 1000000 in
set_option maxRecDepth 100000 in
theorem of_any (z : Int) (h : -9223372036854775807 ≤ z ∧ z ≤ 9223372036854775807) (w : World) : Calls Tryz.prog 132 #[.int .i64 z] w fun e w' => e = .returned (wideV z) ∧ Below w.heap.size w w' := by
  have hu := Tryz.underlying156
  have HS := Aside0.mk (size_any z h)
  obtain ⟨a, ha⟩ : ∃ a, a = ab z := ⟨_, rfl⟩
  rw [← ha] at HS
  have HA := Aside0.mk ha
  obtain ⟨d, hd⟩ : ∃ d, decide (z < 0) = d := ⟨_, rfl⟩
  have HD := Aside0.mk hd
  clear ha h
  go_enter Tryz.func132, Tryz.ntmps132
  go_wp2_with (go_at_call 155; refine (HS.out _).mono ?_; rintro _ _ ⟨rfl, rfl⟩)
  refine bodyPost_ret (v := .agg #[.bool d, .int .u64 0, .int .u64 a]) (by simp [results, Tryz.results132, go_sem]) rfl ?_
  refine ⟨?_, below_alloc (Below.refl _ _) _⟩
  unfold wideV
  rw [HA.out, HD.out]
theorem nan_any (x : Int) (w : World) : Calls Tryz.prog 173 #[.int .u64 x] w fun e w' => e = .returned (.bool false) ∧ w = w' := by
  have h : (x != x) = false := by simp
  go_enter Tryz.func173, Tryz.ntmps173
  go_wp2
  go_ret
  exact ⟨rfl, rfl⟩
def cmpU (x y : Int) : Int := if x < y then -1 else if x > y then 1 else 0
set_option maxHeartbeats 1000000 in
theorem cmpu_any (x y : Int) (w : World) : Calls Tryz.prog 168 #[.int .u64 x, .int .u64 y] w fun e w' => e = .returned (.int .i64 (cmpU x y)) ∧ w = w' := by
  unfold cmpU
  by_cases h1 : x < y
  · rw [if_pos h1]
    have g1 : decide (x < y) = true := decide_eq_true h1
    go_enter Tryz.func168, Tryz.ntmps168
    go_wp2_with (go_at_call 173; refine (nan_any _ _).mono ?_; rintro _ _ ⟨rfl, rfl⟩)
    go_ret
    exact ⟨rfl, rfl⟩
  · have g1 : decide (x < y) = false := decide_eq_false h1
    by_cases h2 : x > y
    · rw [if_neg h1, if_pos h2]
      have g2 : decide (y < x) = true := decide_eq_true h2
      go_enter Tryz.func168, Tryz.ntmps168
      go_wp2_with (go_at_call 173; refine (nan_any _ _).mono ?_; rintro _ _ ⟨rfl, rfl⟩)
      go_ret
      exact ⟨rfl, rfl⟩
    · rw [if_neg h1, if_neg h2]
      have g2 : decide (y < x) = false := decide_eq_false h2
      go_enter Tryz.func168, Tryz.ntmps168
      go_wp2_with (go_at_call 173; refine (nan_any _ _).mono ?_; rintro _ _ ⟨rfl, rfl⟩)
      go_ret
      exact ⟨rfl, rfl⟩
set_option maxHeartbeats 1000000 in
set_option maxRecDepth 100000 in
theorem or_any (g : Nat) (z : Int) (w : World) (h0 : w.cell? ⟨g, 0, none⟩ = some (.int .i64 0)) (h1 : w.cell? ⟨g, 1, none⟩ = some (.int .i64 z)) : Calls Tryz.prog 167 #[.slice (some ⟨g, 0, none⟩) 2 2] w fun e w' => e = .returned (.int .i64 z) ∧ Below w.heap.size w w' := by
  have HB : Aside0 (Below w.heap.size w w) := ⟨Below.refl _ _⟩
  go_enter Tryz.func167, Tryz.ntmps167
  go_wp2_with fail
  refine wp_loop_rounds 3 ?_
  rw [rounds_succ]
  by_cases hz : z = 0
  · subst hz
    go_wp2_with fail
    rw [rounds_succ]
    go_wp2_with fail
    rw [rounds_succ]
    go_wp2_with fail
    go_ret
    exact ⟨rfl, HB.out⟩
  · have g : (z != 0) = true := by rw [bne_iff_ne]; exact hz
    go_wp2_with fail
    rw [rounds_succ]
    go_wp2_with fail
    go_ret
    exact ⟨rfl, HB.out⟩
set_option maxHeartbeats 1000000 in
set_option maxRecDepth 100000 in
theorem dist_any (n n' : Bool) (x y : Int) (w : World) : Calls Tryz.prog 152 #[.agg #[.bool n, .int .u64 0, .int .u64 x], .agg #[.bool n', .int .u64 0, .int .u64 y]] w fun e w' => e = .returned (.int .i64 (cmpU x y)) ∧ Below w.heap.size w w' := by
  have hu := Tryz.underlying156
  go_enter Tryz.func152, Tryz.ntmps152
  go_upto_region 1 with fail
  obtain ⟨W1, hW1⟩ : ∃ W, W = (w.alloc (.cells #[.bool n, .int .u64 0, .int .u64 x] 156)).alloc (.cells #[.bool n', .int .u64 0, .int .u64 y] 156) := ⟨_, rfl⟩
  rw [← hW1]
  have B1 : Aside0 (Below w.heap.size w W1) := ⟨by rw [hW1]; exact below_alloc (below_alloc (Below.refl _ _) _) _⟩
  obtain ⟨p1, hp1⟩ : ∃ p, p = w.heap.size := ⟨_, rfl⟩
  have Q1 : W1.heap[p1]? = some (.cells #[.bool n, .int .u64 0, .int .u64 x] 156 (0, 0)) := by rw [hW1, hp1]; simp only [al_get, al_size]; rw [if_neg (by omega), if_pos trivial]
  have Q2 : W1.heap[p1 + 1]? = some (.cells #[.bool n', .int .u64 0, .int .u64 y] 156 (0, 0)) := by rw [hW1, hp1]; simp only [al_get, al_size]; rw [if_pos trivial]
  rw [← hp1]
  clear hW1 hp1
  have z0 : W1.drew.cell? ⟨p1, 1, none⟩ = some (.int .u64 0) := (blk_cell Q1 1).trans rfl
  have z1 : W1.drew.cell? ⟨p1, 2, none⟩ = some (.int .u64 x) := (blk_cell Q1 2).trans rfl
  have z2 : W1.drew.cell? ⟨p1 + 1, 1, none⟩ = some (.int .u64 0) := (blk_cell Q2 1).trans rfl
  have z3 : W1.drew.cell? ⟨p1 + 1, 2, none⟩ = some (.int .u64 y) := (blk_cell Q2 2).trans rfl
  clear Q1 Q2
  have Z := Aside0.mk (And.intro z0 (And.intro z1 (And.intro z2 z3)))
  refine start_ (n := 13) (S := fun w' => w'.cell? ⟨p1, 1, none⟩ = some (.int .u64 0) ∧ w'.cell? ⟨p1, 2, none⟩ = some (.int .u64 x) ∧ w'.cell? ⟨p1 + 1, 1, none⟩ = some (.int .u64 0) ∧ w'.cell? ⟨p1 + 1, 2, none⟩ = some (.int .u64 y)) (ds := []) #[false, false, false, false, false, false, false, false, false, false, false, false, false] (by kernel_rfl) rfl rfl ⟨z0, z1, z2, z3⟩ (fun hHeld => ?_)
  clear z0 z1 z2 z3
  refine pure_ (i := 0) (N := some 5) (v := ?_) (a' := ?_) #[true, false, false, false, false, false, false, false, false, false, false, false, false] rfl rfl (by kernel_rfl) (fun _ _ _ h => h) (Or.inl ⟨by rfl, ?_⟩) ?_ ?_
  rotate_left
  · intro w'
    go_simp
    with_reducible rfl
  rotate_left
  · simp only [Act.put, List.setIfInBounds_toArray, List.set_cons_zero, List.set_cons_succ]
    rfl
  refine take_ (i := 1) (N := some 6) (v := ?_) (a' := ?_) #[true, true, false, false, false, false, false, false, false, false, false, false, false] rfl rfl (by kernel_rfl) (fun _ _ _ h => h) (Or.inl ⟨by rfl, ?_⟩) hHeld ?_ ?_
  rotate_left
  · rintro w' ⟨s0, s1, s2, s3⟩
    go_simp
    with_reducible rfl
  rotate_left
  · simp only [Act.put, List.setIfInBounds_toArray, List.set_cons_zero, List.set_cons_succ]
    rfl
  refine pure_ (i := 2) (N := some 7) (v := ?_) (a' := ?_) #[true, true, true, false, false, false, false, false, false, false, false, false, false] rfl rfl (by kernel_rfl) (fun _ _ _ h => h) (Or.inl ⟨by rfl, ?_⟩) ?_ ?_
  rotate_left
  · intro w'
    go_simp
    with_reducible rfl
  rotate_left
  · simp only [Act.put, List.setIfInBounds_toArray, List.set_cons_zero, List.set_cons_succ]
    rfl
  refine take_ (i := 3) (N := some 8) (v := ?_) (a' := ?_) #[true, true, true, true, false, false, false, false, false, false, false, false, false] rfl rfl (by kernel_rfl) (fun _ _ _ h => h) (Or.inl ⟨by rfl, ?_⟩) hHeld ?_ ?_
  rotate_left
  · rintro w' ⟨s0, s1, s2, s3⟩
    go_simp
    with_reducible rfl
  rotate_left
  · simp only [Act.put, List.setIfInBounds_toArray, List.set_cons_zero, List.set_cons_succ]
    rfl
  refine pure_ (i := 5) (N := some 10) (v := ?_) (a' := ?_) #[true, true, true, true, false, true, false, false, false, false, false, false, false] rfl rfl (by kernel_rfl) (fun _ _ _ h => h) (Or.inl ⟨by rfl, ?_⟩) ?_ ?_
  rotate_left
  · intro w'
    go_simp
    with_reducible rfl
  rotate_left
  · simp only [Act.put, List.setIfInBounds_toArray, List.set_cons_zero, List.set_cons_succ]
    rfl
  refine take_ (i := 6) (N := some 11) (v := ?_) (a' := ?_) #[true, true, true, true, false, true, true, false, false, false, false, false, false] rfl rfl (by kernel_rfl) (fun _ _ _ h => h) (Or.inl ⟨by rfl, ?_⟩) hHeld ?_ ?_
  rotate_left
  · rintro w' ⟨s0, s1, s2, s3⟩
    go_simp
    with_reducible rfl
  rotate_left
  · simp only [Act.put, List.setIfInBounds_toArray, List.set_cons_zero, List.set_cons_succ]
    rfl
  refine pure_ (i := 7) (N := some 12) (v := ?_) (a' := ?_) #[true, true, true, true, false, true, true, true, false, false, false, false, false] rfl rfl (by kernel_rfl) (fun _ _ _ h => h) (Or.inl ⟨by rfl, ?_⟩) ?_ ?_
  rotate_left
  · intro w'
    go_simp
    with_reducible rfl
  rotate_left
  · simp only [Act.put, List.setIfInBounds_toArray, List.set_cons_zero, List.set_cons_succ]
    rfl
  refine take_ (i := 8) (N := some 13) (v := ?_) (a' := ?_) #[true, true, true, true, false, true, true, true, true, false, false, false, false] rfl rfl (by kernel_rfl) (fun _ _ _ h => h) (Or.inl ⟨by rfl, ?_⟩) hHeld ?_ ?_
  rotate_left
  · rintro w' ⟨s0, s1, s2, s3⟩
    go_simp
    with_reducible rfl
  rotate_left
  · simp only [Act.put, List.setIfInBounds_toArray, List.set_cons_zero, List.set_cons_succ]
    rfl
  refine one_ (i := 4) (N := some 9) #[true, true, true, true, true, true, true, true, true, false, false, false, false] rfl rfl (by kernel_rfl) (by decide) (fun K hK => ?_)
  refine goes_ Tryz.func168 (by kernel_rfl) rfl #[.int .u64 0, .int .u64 0] (by rfl) rfl rfl (by (try simp only [List.map_toArray, List.map_cons, List.map_nil]); first | done | rfl) ?_
  refine (cmpu_any 0 0 W1.drew).mono ?_
  rintro _ _ ⟨rfl, rfl⟩
  refine ⟨_, rfl, ?_⟩
  refine hK.out _ _ Z.out (fun _ => ?_)
  clear hK K
  refine norm_ (a' := ?_) ?_ ?_
  rotate_left
  · show Act.put _ (some 9) _ = _
    simp only [Act.put, List.setIfInBounds_toArray, List.set_cons_zero, List.set_cons_succ]
    rfl
  refine one_ (i := 9) (N := some 14) #[true, true, true, true, true, true, true, true, true, true, false, false, false] rfl rfl (by kernel_rfl) (by decide) (fun K hK => ?_)
  refine goes_ Tryz.func168 (by kernel_rfl) rfl #[.int .u64 x, .int .u64 y] (by rfl) rfl rfl (by (try simp only [List.map_toArray, List.map_cons, List.map_nil]); first | done | rfl) ?_
  refine (cmpu_any x y W1.drew).mono ?_
  rintro _ _ ⟨rfl, rfl⟩
  refine ⟨_, rfl, ?_⟩
  refine hK.out _ _ Z.out (fun _ => ?_)
  clear hK K
  refine norm_ (a' := ?_) ?_ ?_
  rotate_left
  · show Act.put _ (some 14) _ = _
    simp only [Act.put, List.setIfInBounds_toArray, List.set_cons_zero, List.set_cons_succ]
    rfl
  refine one_ (i := 10) (N := some 15) #[true, true, true, true, true, true, true, true, true, true, true, false, false] rfl rfl (by kernel_rfl) (by decide) (fun K hK => ?_)
  refine value_ (v := .slice (some ⟨W1.heap.size, 0, none⟩) 2 2) (w1 := (W1.alloc (.cells #[.int .i64 0, .int .i64 (cmpU x y)] 3)).drew) (by rfl) rfl ?_ ?_
  · go_simp
    rfl
  have BA : Aside0 (Below W1.drew.heap.size W1.drew ((W1.alloc (.cells #[.int .i64 0, .int .i64 (cmpU x y)] 3)).drew)) := ⟨⟨rfl, rfl, rfl, (below_alloc (Below.refl _ W1) _).size, fun k hk => (below_alloc (Below.refl _ W1) _).block k hk⟩⟩
  have QA : Aside0 (((W1.alloc (.cells #[.int .i64 0, .int .i64 (cmpU x y)] 3)).drew).heap[W1.heap.size]? = some (.cells #[.int .i64 0, .int .i64 (cmpU x y)] 3 (0, 0))) := ⟨heap_alloc_new W1 _⟩
  refine hK.out _ _ ⟨pw_cell_below BA.out Z.out.1, pw_cell_below BA.out Z.out.2.1, pw_cell_below BA.out Z.out.2.2.1, pw_cell_below BA.out Z.out.2.2.2⟩ (fun _ => ?_)
  clear hK K
  refine norm_ (a' := ?_) ?_ ?_
  rotate_left
  · show Act.put _ (some 15) _ = _
    simp only [Act.put, List.setIfInBounds_toArray, List.set_cons_zero, List.set_cons_succ]
    rfl
  refine one_ (i := 11) (N := some 16) #[true, true, true, true, true, true, true, true, true, true, true, true, false] rfl rfl (by kernel_rfl) (by decide) (fun K hK => ?_)
  refine goes_ Tryz.func167 (by kernel_rfl) rfl #[.slice (some ⟨W1.heap.size, 0, none⟩) 2 2] (by rfl) rfl rfl (by (try simp only [List.map_toArray, List.map_cons, List.map_nil]); first | done | rfl) ?_
  refine (or_any W1.heap.size (cmpU x y) _ ((blk_cell QA.out 0).trans rfl) ((blk_cell QA.out 1).trans rfl)).mono ?_
  rintro _ w3 ⟨rfl, hb3⟩
  have BC := Aside0.mk hb3
  refine ⟨_, rfl, ?_⟩
  refine hK.out _ _ ⟨pw_cell_below hb3 (pw_cell_below BA.out Z.out.1), pw_cell_below hb3 (pw_cell_below BA.out Z.out.2.1), pw_cell_below hb3 (pw_cell_below BA.out Z.out.2.2.1), pw_cell_below hb3 (pw_cell_below BA.out Z.out.2.2.2)⟩ (fun _ => ?_)
  clear hK K hb3
  refine norm_ (a' := ?_) ?_ ?_
  rotate_left
  · show Act.put _ (some 16) _ = _
    simp only [Act.put, List.setIfInBounds_toArray, List.set_cons_zero, List.set_cons_succ]
    rfl
  refine pure_ (i := 12) (N := some 4) (v := ?_) (a' := ?_) #[true, true, true, true, true, true, true, true, true, true, true, true, true] rfl rfl (by kernel_rfl) (fun _ _ _ h => h) (Or.inl ⟨by rfl, ?_⟩) ?_ ?_
  rotate_left
  · intro w'
    go_simp
    with_reducible rfl
  rotate_left
  · simp only [Act.put, List.setIfInBounds_toArray, List.set_cons_zero, List.set_cons_succ]
    rfl
  refine done_ (by kernel_rfl) ?_
  go_wp2_with fail
  go_ret
  exact ⟨rfl, B1.out.trans ((below_drew (Below.refl _ W1)).trans ((BA.out.trans (BC.out.mono BA.out.size))) |>.mono B1.out.size)⟩
set_option maxHeartbeats 1000000 in
set_option maxRecDepth 100000 in
theorem normal_any (n : Bool) (x : Int) (h0 : 0 ≤ x) (h : x < 18446744073709551616) (w : World) : Calls Tryz.prog 153 #[.agg #[.bool n, .int .u64 0, .int .u64 x]] w fun e w' => e = .returned (.agg #[.bool (n && decide (x ≠ 0)), .int .u64 0, .int .u64 x]) ∧ Below w.heap.size w w' := by
  have hu := Tryz.underlying156
  have ho := bits_or0 x h0 h
  have hd : (x != 0) = decide (x ≠ 0) := by by_cases e : x = 0 <;> simp [e]
  cases n with
  | false =>
    clear ho hd
    go_enter Tryz.func153, Tryz.ntmps153
    go_wp2_with fail
    refine bodyPost_ret (v := .agg #[.bool false, .int .u64 0, .int .u64 x]) (by simp [results, Tryz.results153, go_sem]) rfl ?_
    exact ⟨rfl, below_alloc (below_alloc (Below.refl _ _) _) _⟩
  | true =>
    obtain ⟨b, hb⟩ : ∃ b, b = decide (x ≠ 0) := ⟨_, rfl⟩
    rw [← hb] at hd ⊢
    clear hb
    go_enter Tryz.func153, Tryz.ntmps153
    go_wp2_with fail
    refine bodyPost_ret (v := .agg #[.bool b, .int .u64 0, .int .u64 x]) (by simp [results, Tryz.results153, go_sem]) rfl ?_
    exact ⟨rfl, below_alloc (below_alloc (Below.refl _ _) _) _⟩
set_option maxHeartbeats 1000000 in
set_option maxRecDepth 100000 in
theorem nshort_any (z : Int) (h : -9223372036854775807 ≤ z ∧ z ≤ 9223372036854775807) (w : World) : Calls Tryz.prog 96 #[.agg #[.bool (decide (z < 0)), .int .u64 0, .int .u64 (ab z)]] w fun e w' => e = .returned (.tuple #[.int .i64 z, .bool true]) ∧ Below w.heap.size w w' := by
  have hu := Tryz.underlying156
  by_cases hz : z < 0
  · rw [decide_eq_true hz, ab_neg hz]
    have e1 : IntKind.u64.wrap z = z + 18446744073709551616 := by rw [IntKind.wrap_u64]; omega
    have e2 : wrap64 (z + 18446744073709551616) = z := by unfold wrap64; omega
    have g2 : decide (9223372036854775808 < -z) = false := decide_eq_false (by omega)
    go_enter Tryz.func96, Tryz.ntmps96
    go_wp2_with fail
    go_ret2
    exact ⟨by rw [e2]; rfl, below_alloc (Below.refl _ _) _⟩
  · rw [decide_eq_false hz, ab_pos hz]
    have e2 : wrap64 z = z := by unfold wrap64; omega
    have g2 : decide (9223372036854775807 < z) = false := decide_eq_false (by omega)
    go_enter Tryz.func96, Tryz.ntmps96
    go_wp2_with fail
    go_ret2
    exact ⟨rfl, below_alloc (Below.refl _ _) _⟩
set_option maxHeartbeats 1000000 in
theorem wadd_any (a b : Int) (h : ab a + ab b ≤ 9223372036854775807) (w : World) : Calls Tryz.prog 131 #[wideV a, wideV b] w fun e w' => e = .returned (wideV (a + b)) ∧ Below w.heap.size w w' := by
  have hu := Tryz.underlying156
  have ha : 0 ≤ ab a := by unfold ab; split <;> omega
  have hb : 0 ≤ ab b := by unfold ab; split <;> omega
  obtain ⟨x, hx⟩ : ∃ x, x = ab a := ⟨_, rfl⟩
  obtain ⟨y, hy⟩ : ∃ y, y = ab b := ⟨_, rfl⟩
  obtain ⟨n, hn⟩ : ∃ n, n = decide (a < 0) := ⟨_, rfl⟩
  obtain ⟨m, hm⟩ : ∃ m, m = decide (b < 0) := ⟨_, rfl⟩
  unfold wideV
  rw [← hx, ← hy, ← hn, ← hm]
  rw [← hx] at h ha
  rw [← hy] at h hb
  obtain ⟨W0, hW0⟩ : ∃ W0, W0 = ((w.alloc (.cells #[.bool n, .int .u64 0, .int .u64 x] 156)).alloc (.cells #[.bool m, .int .u64 0, .int .u64 y] 156)).alloc (.cells #[.bool false, .int .u64 0, .int .u64 0] 156) := ⟨_, rfl⟩
  have HX := Aside0.mk hx
  have HY := Aside0.mk hy
  have HN := Aside0.mk hn
  have HM := Aside0.mk hm
  have HW := Aside0.mk hW0
  clear hx hy hn hm hW0
  have B0 : Aside0 (Below w.heap.size w W0) := ⟨by rw [HW.out]; exact below_alloc (below_alloc (below_alloc (Below.refl _ _) _) _) _⟩
  have Z4 : Aside0 (W0.heap[w.heap.size + 1 + 1]? = some (.cells #[.bool false, .int .u64 0, .int .u64 0] 156 (0, 0))) := ⟨by
    rw [HW.out]
    simp only [al_get, al_size]
    rw [if_pos trivial]⟩
  have Z2 : Aside0 (W0.heap[w.heap.size]? = some (.cells #[.bool n, .int .u64 0, .int .u64 x] 156 (0, 0))) := ⟨by
    rw [HW.out]
    simp only [al_get, al_size]
    rw [if_neg (by omega), if_neg (by omega), if_pos trivial]⟩
  have Z3 : Aside0 (W0.heap[w.heap.size + 1]? = some (.cells #[.bool m, .int .u64 0, .int .u64 y] 156 (0, 0))) := ⟨by
    rw [HW.out]
    simp only [al_get, al_size]
    rw [if_neg (by omega), if_pos trivial]⟩
  cases hnm : (n == m) with
  | true =>
    have hnm' : n = m := by simpa using hnm
    have HE : Aside0 (Value.agg #[.bool n, .int .u64 0, .int .u64 (x + y)] = .agg #[.bool (decide (a + b < 0)), .int .u64 0, .int .u64 (ab (a + b))]) := ⟨by
      rw [HX.out, HY.out]
      have h1 := HN.out
      have h2 := HM.out
      rw [hnm'] at h1
      rw [h2] at h1
      have hs : decide (a < 0) = decide (a + b < 0) ∧ ab a + ab b = ab (a + b) := by
        by_cases h3 : a < 0
        · have h4 : b < 0 := by
            have := decide_eq_true h3
            rw [← h1] at this
            exact of_decide_eq_true this
          have h5 : a + b < 0 := by omega
          exact ⟨by rw [decide_eq_true h3, decide_eq_true h5], by rw [ab_neg h3, ab_neg h4, ab_neg h5]; omega⟩
        · have h4 : ¬ b < 0 := by
            have := decide_eq_false h3
            rw [← h1] at this
            exact of_decide_eq_false this
          have h5 : ¬ a + b < 0 := by omega
          exact ⟨by rw [decide_eq_false h3, decide_eq_false h5], by rw [ab_pos h3, ab_pos h4, ab_pos h5]⟩
      rw [HN.out, hs.1, hs.2]⟩
    clear hnm'
    have HPL := Aside0.mk (fun W => plus_any n m x y ha hb (by omega) W)
    go_enter Tryz.func131, Tryz.ntmps131
    go_wp2_with fail
    rw [← HW.out]
    refine (HPL.out _).mono ?_
    rintro _ w1 ⟨rfl, b1⟩
    clear Z2 Z3 hnm
    have B := Aside0.mk (B0.out.trans (b1.mono B0.out.size))
    have R4 := Aside0.mk (blk_below Z4.out b1)
    clear b1 B0 Z4
    have r0 : w1.cell? ⟨w.heap.size + 1 + 1, 0, none⟩ = some (.bool false) := (blk_cell R4.out 0).trans rfl
    have r1 : w1.cell? ⟨w.heap.size + 1 + 1, 1, none⟩ = some (.int .u64 0) := (blk_cell R4.out 1).trans rfl
    have r2 : w1.cell? ⟨w.heap.size + 1 + 1, 2, none⟩ = some (.int .u64 0) := (blk_cell R4.out 2).trans rfl
    have y0 := fun j => blk_frozen R4.out j
    go_wp2_with fail
    refine bodyPost_ret (v := .agg #[.bool n, .int .u64 0, .int .u64 (x + y)]) (by simp [results, Tryz.results131, go_sem, r0, r1, r2]) rfl ⟨congrArg _ HE.out, ((B.out.setCell (by show w.heap.size ≤ w.heap.size + 1 + 1; omega) _).setCell (by show w.heap.size ≤ w.heap.size + 1 + 1; omega) _).setCell (by show w.heap.size ≤ w.heap.size + 1 + 1; omega) _⟩
  | false =>
    have hnm' : n ≠ m := by simpa using hnm
    have hs : (a < 0 ∧ ¬ b < 0) ∨ (¬ a < 0 ∧ b < 0) := by
      have h1 := HN.out
      have h2 := HM.out
      by_cases h3 : a < 0
      · by_cases h4 : b < 0
        · rw [decide_eq_true h3] at h1
          rw [decide_eq_true h4] at h2
          exact absurd (h1.trans h2.symm) hnm'
        · exact .inl ⟨h3, h4⟩
      · by_cases h4 : b < 0
        · exact .inr ⟨h3, h4⟩
        · rw [decide_eq_false h3] at h1
          rw [decide_eq_false h4] at h2
          exact absurd (h1.trans h2.symm) hnm'
    have HS := Aside0.mk hs
    clear hs hnm'
    have HD := Aside0.mk (fun W => dist_any n m x y W)
    go_enter Tryz.func131, Tryz.ntmps131
    go_wp2_with fail
    rw [← HW.out]
    refine (HD.out _).mono ?_
    rintro _ w1 ⟨rfl, b1⟩
    have B1 := Aside0.mk (B0.out.trans (b1.mono B0.out.size))
    have Y4 := Aside0.mk (blk_below Z4.out b1)
    have Y2 := Aside0.mk (blk_below Z2.out b1)
    have Y3 := Aside0.mk (blk_below Z3.out b1)
    clear b1 B0 Z4 Z2 Z3 hnm HW
    have c0 : w1.cell? ⟨w.heap.size, 0, none⟩ = some (.bool n) := (blk_cell Y2.out 0).trans rfl
    have c1 : w1.cell? ⟨w.heap.size, 1, none⟩ = some (.int .u64 0) := (blk_cell Y2.out 1).trans rfl
    have c2 : w1.cell? ⟨w.heap.size, 2, none⟩ = some (.int .u64 x) := (blk_cell Y2.out 2).trans rfl
    have d0 : w1.cell? ⟨w.heap.size + 1, 0, none⟩ = some (.bool m) := (blk_cell Y3.out 0).trans rfl
    have d1 : w1.cell? ⟨w.heap.size + 1, 1, none⟩ = some (.int .u64 0) := (blk_cell Y3.out 1).trans rfl
    have d2 : w1.cell? ⟨w.heap.size + 1, 2, none⟩ = some (.int .u64 y) := (blk_cell Y3.out 2).trans rfl
    by_cases hxy : x < y
    · rw [show cmpU x y = (-1 : Int) from if_pos hxy]
      have HLE := Aside0.mk (fun W => less_any m n y x ha (by omega) (by omega) W)
      have HNO := Aside0.mk (fun W => normal_any m (y - x) (by omega) (by omega) W)
      have HE : Aside0 (Value.agg #[.bool (m && decide (y - x ≠ 0)), .int .u64 0, .int .u64 (y - x)] = .agg #[.bool (decide (a + b < 0)), .int .u64 0, .int .u64 (ab (a + b))]) := ⟨by
        have h1 := HX.out
        have h2 := HY.out
        rcases HS.out with ⟨h3, h4⟩ | ⟨h3, h4⟩
        · rw [ab_neg h3] at h1
          rw [ab_pos (show ¬ b < 0 by omega)] at h2
          have h5 : ¬ a + b < 0 := by omega
          rw [HM.out, decide_eq_false (show ¬ b < 0 by omega), decide_eq_false h5, ab_pos h5, show y - x = a + b by omega]
          rfl
        · rw [ab_pos (show ¬ a < 0 by omega)] at h1
          rw [ab_neg h4] at h2
          have h5 : a + b < 0 := by omega
          rw [HM.out, decide_eq_true h4, decide_eq_true h5, ab_neg h5, show y - x = -(a + b) by omega, decide_eq_true (show -(a + b) ≠ 0 by omega)]
          rfl⟩
      have HXY := Aside0.mk hxy
      clear hxy
      obtain ⟨z, hz⟩ : ∃ z, z = y - x := ⟨_, rfl⟩
      rw [← hz] at HLE HNO HE
      clear hz
      go_wp2_with fail
      refine (HLE.out _).mono ?_
      rintro _ w2 ⟨rfl, b2⟩
      go_wp2_with fail
      obtain ⟨q, hq⟩ : ∃ q, q = (m && decide (z ≠ 0)) := ⟨_, rfl⟩
      rw [← hq] at HNO HE
      clear hq
      refine (HNO.out _).mono ?_
      rintro _ w3 ⟨rfl, b3⟩
      have B := Aside0.mk (B1.out.trans ((b2.trans (b3.mono b2.size)).mono B1.out.size))
      have R4 := Aside0.mk (blk_below (blk_below Y4.out b2) b3)
      clear b2 b3 B1 Y4 Y2 Y3 c0 c1 c2 d0 d1 d2
      have r0 : w3.cell? ⟨w.heap.size + 1 + 1, 0, none⟩ = some (.bool false) := (blk_cell R4.out 0).trans rfl
      have r1 : w3.cell? ⟨w.heap.size + 1 + 1, 1, none⟩ = some (.int .u64 0) := (blk_cell R4.out 1).trans rfl
      have r2 : w3.cell? ⟨w.heap.size + 1 + 1, 2, none⟩ = some (.int .u64 0) := (blk_cell R4.out 2).trans rfl
      have y0 := fun j => blk_frozen R4.out j
      go_wp2_with fail
      refine bodyPost_ret (v := .agg #[.bool q, .int .u64 0, .int .u64 z]) (by simp [results, Tryz.results131, go_sem, r0, r1, r2]) rfl ⟨congrArg _ HE.out, ((B.out.setCell (by show w.heap.size ≤ w.heap.size + 1 + 1; omega) _).setCell (by show w.heap.size ≤ w.heap.size + 1 + 1; omega) _).setCell (by show w.heap.size ≤ w.heap.size + 1 + 1; omega) _⟩
    · obtain ⟨r, hr⟩ : ∃ r : Int, r = cmpU x y := ⟨_, rfl⟩
      have hr0 : 0 ≤ r := by rw [hr]; unfold cmpU; rw [if_neg hxy]; split <;> omega
      rw [← hr]
      clear hr
      have HLE := Aside0.mk (fun W => less_any n m x y hb (by omega) (by omega) W)
      have HNO := Aside0.mk (fun W => normal_any n (x - y) (by omega) (by omega) W)
      have HE : Aside0 (Value.agg #[.bool (n && decide (x - y ≠ 0)), .int .u64 0, .int .u64 (x - y)] = .agg #[.bool (decide (a + b < 0)), .int .u64 0, .int .u64 (ab (a + b))]) := ⟨by
        have h1 := HX.out
        have h2 := HY.out
        rcases HS.out with ⟨h3, h4⟩ | ⟨h3, h4⟩
        · rw [ab_neg h3] at h1
          rw [ab_pos (show ¬ b < 0 by omega)] at h2
          rw [HN.out, decide_eq_true h3]
          by_cases h6 : a + b < 0
          · rw [decide_eq_true h6, ab_neg h6, show x - y = -(a + b) by omega, decide_eq_true (show -(a + b) ≠ 0 by omega)]
            rfl
          · rw [decide_eq_false h6, ab_pos h6, show x - y = 0 by omega, show a + b = 0 by omega]
            rfl
        · rw [ab_pos (show ¬ a < 0 by omega)] at h1
          rw [ab_neg h4] at h2
          have h6 : ¬ a + b < 0 := by omega
          rw [HN.out, decide_eq_false (show ¬ a < 0 by omega), decide_eq_false h6, ab_pos h6, show x - y = a + b by omega]
          rfl⟩
      have HXY := Aside0.mk hxy
      clear hxy
      obtain ⟨z, hz⟩ : ∃ z, z = x - y := ⟨_, rfl⟩
      rw [← hz] at HLE HNO HE
      clear hz
      go_wp2_with fail
      refine (HLE.out _).mono ?_
      rintro _ w2 ⟨rfl, b2⟩
      go_wp2_with fail
      obtain ⟨q, hq⟩ : ∃ q, q = (n && decide (z ≠ 0)) := ⟨_, rfl⟩
      rw [← hq] at HNO HE
      clear hq
      refine (HNO.out _).mono ?_
      rintro _ w3 ⟨rfl, b3⟩
      have B := Aside0.mk (B1.out.trans ((b2.trans (b3.mono b2.size)).mono B1.out.size))
      have R4 := Aside0.mk (blk_below (blk_below Y4.out b2) b3)
      clear b2 b3 B1 Y4 Y2 Y3 c0 c1 c2 d0 d1 d2
      have r0 : w3.cell? ⟨w.heap.size + 1 + 1, 0, none⟩ = some (.bool false) := (blk_cell R4.out 0).trans rfl
      have r1 : w3.cell? ⟨w.heap.size + 1 + 1, 1, none⟩ = some (.int .u64 0) := (blk_cell R4.out 1).trans rfl
      have r2 : w3.cell? ⟨w.heap.size + 1 + 1, 2, none⟩ = some (.int .u64 0) := (blk_cell R4.out 2).trans rfl
      have y0 := fun j => blk_frozen R4.out j
      go_wp2_with fail
      refine bodyPost_ret (v := .agg #[.bool q, .int .u64 0, .int .u64 z]) (by simp [results, Tryz.results131, go_sem, r0, r1, r2]) rfl ⟨congrArg _ HE.out, ((B.out.setCell (by show w.heap.size ≤ w.heap.size + 1 + 1; omega) _).setCell (by show w.heap.size ≤ w.heap.size + 1 + 1; omega) _).setCell (by show w.heap.size ≤ w.heap.size + 1 + 1; omega) _⟩
end Go.Proofs.YtofomlpdklhigaaGreatDoor.Hand
/- Sums of rows of few small numbers: walked. -/
namespace Go.Proofs.YtofomlpdklhigaaGreatDoor.Hand
open Go.RowKit Go.Proofs.YtofomlpdklhigaaGreatDoorW.PrintWords Go.Proofs.YtofomlpdklhigaaGreatDoorW.PrintLast Go.Proofs.YtofomlpdklhigaaGreatDoorW.PrintMore Go.Proofs.YtofomlpdklhigaaGreatDoor.PSigns
theorem ab_le {z B : Int} (h : -B ≤ z ∧ z ≤ B) : ab z ≤ B := by
  unfold ab
  split <;> omega
set_option maxHeartbeats 1000000 in
set_option maxRecDepth 100000 in
theorem total_any (w : World) (A : Option Addr) (n c : Nat) (f : Nat → Int) (h : RowI w A n f) (hb : ∀ i, i < n → -549755813888 ≤ f i ∧ f i ≤ 549755813888) (hn : n ≤ 4096) :
    Calls Tryz.prog 97 #[.slice A n c] w fun e w' => e = .returned (wideV (sumTo n f)) ∧ Below w.heap.size w w' := by
  have hu := Tryz.underlying156
  have H := Aside0.mk h
  have HB := Aside0.mk hb
  clear h hb
  go_enter Tryz.func97, Tryz.ntmps97
  go_wp2_with fail
  obtain ⟨W, hW⟩ : ∃ W, W = (w.alloc (.cells #[.bool false, .int .u64 0, .int .u64 0] 156)).alloc (.cells #[.bool false, .int .u64 0, .int .u64 0] 156) := ⟨_, rfl⟩
  rw [← hW]
  have K0 : Aside0 (W.heap[w.heap.size + 1]? = some (.cells #[.bool (decide (sumTo 0 f < 0)), .int .u64 0, .int .u64 (ab (sumTo 0 f))] 156 (0, 0)) ∧ W.heap[w.heap.size]? = some (.cells #[.bool false, .int .u64 0, .int .u64 0] 156 (0, 0)) ∧ Below w.heap.size w W) := ⟨by
    rw [hW]
    refine ⟨?_, ?_, below_alloc (below_alloc (Below.refl _ _) _) _⟩
    · simp only [al_get, al_size]
      rw [if_pos trivial]
      rfl
    · simp only [al_get, al_size]
      rw [if_neg (by omega), if_pos trivial]⟩
  clear hW
  go_loopw [8] (fun v8 wr => ∃ k : Nat, k ≤ n ∧ v8 = .int .i64 k ∧ Aside0 (wr.heap[w.heap.size + 1]? = some (.cells #[.bool (decide (sumTo k f < 0)), .int .u64 0, .int .u64 (ab (sumTo k f))] 156 (0, 0)) ∧ wr.heap[w.heap.size]? = some (.cells #[.bool false, .int .u64 0, .int .u64 0] 156 (0, 0)) ∧ Below w.heap.size w wr)) (fun v _ => n - (intOf v).toNat)
  case atStart => exact ⟨0, Nat.zero_le _, rfl, K0⟩
  case round =>
    clear K0
    obtain ⟨k, hk, rfl, K1⟩ := hrel
    by_cases hlt : k < n
    · obtain ⟨ad, rfl, hc⟩ := H.out k hlt
      have f1 := pw_cell_below K1.out.2.2 hc
      have hbx := HB.out k hlt
      have hbz := sumTo_abs (n := k) (f := f) (B := 549755813888) (fun i hi => HB.out i (by omega))
      have hs := sumTo_succ k f
      obtain ⟨x, hx⟩ : ∃ x, x = f k := ⟨_, rfl⟩
      obtain ⟨z, hz⟩ : ∃ z, z = sumTo k f := ⟨_, rfl⟩
      rw [← hx] at f1 hbx hs
      rw [← hz] at hbz hs K1
      have HS := Aside0.mk hs
      have HZ : Aside0 (ab z + ab x ≤ 9223372036854775807) := ⟨by
        have a1 := ab_le hbx
        have a2 := ab_le (B := 4096 * 549755813888) (z := z) (by omega)
        omega⟩
      clear hc hx hz hs hbz
      have p0 : wr.drew.cell? ⟨w.heap.size + 1, 0, none⟩ = some (.bool (decide (z < 0))) := (blk_cell K1.out.1 0).trans rfl
      have p1 : wr.drew.cell? ⟨w.heap.size + 1, 1, none⟩ = some (.int .u64 0) := (blk_cell K1.out.1 1).trans rfl
      have p2 : wr.drew.cell? ⟨w.heap.size + 1, 2, none⟩ = some (.int .u64 (ab z)) := (blk_cell K1.out.1 2).trans rfl
      go_upto_region 5 with fail
      refine start_ (n := 5) (S := fun w' => w'.cell? ⟨w.heap.size + 1, 0, none⟩ = some (.bool (decide (z < 0))) ∧ w'.cell? ⟨w.heap.size + 1, 1, none⟩ = some (.int .u64 0) ∧ w'.cell? ⟨w.heap.size + 1, 2, none⟩ = some (.int .u64 (ab z))) (ds := [4]) #[false, false, false, false, false] (by kernel_rfl) rfl rfl ⟨p0, p1, p2⟩ (fun hHeld => ?_)
      clear p0 p1 p2
      refine take_ (i := 0) (N := some 12) (v := ?_) (a' := ?_) #[true, false, false, false, false] rfl rfl (by kernel_rfl) (fun _ _ _ h => h) (Or.inl ⟨by rfl, ?_⟩) hHeld ?_ ?_
      rotate_left
      · rintro w' ⟨s0, s1, s2⟩
        go_simp
        with_reducible rfl
      rotate_left
      · simp only [Act.put, List.setIfInBounds_toArray, List.set_cons_zero, List.set_cons_succ]
        rfl
      refine pure_ (i := 1) (N := some 13) (v := ?_) (a' := ?_) #[true, true, false, false, false] rfl rfl (by kernel_rfl) (fun _ _ _ h => h) (Or.inl ⟨by rfl, ?_⟩) ?_ ?_
      rotate_left
      · intro w'
        go_simp
        with_reducible rfl
      rotate_left
      · simp only [Act.put, List.setIfInBounds_toArray, List.set_cons_zero, List.set_cons_succ]
        rfl
      refine one_ (i := 2) (N := some 14) #[true, true, true, false, false] rfl rfl (by kernel_rfl) (by decide) (fun K hK => ?_)
      refine goes_ Tryz.func132 (by kernel_rfl) rfl #[.int .i64 x] (by rfl) rfl rfl (by (try simp only [List.map_toArray, List.map_cons, List.map_nil]); first | done | rfl) ?_
      have CL := Aside0.mk (of_any x (by omega) wr.drew)
      refine CL.out.mono ?_
      rintro e w2 ⟨rfl, b2⟩
      have Tw2 := Aside0.mk (blk_below (w := wr.drew) K1.out.1 b2)
      have Rw2 := Aside0.mk (blk_below (w := wr.drew) K1.out.2.1 b2)
      have Bw2 : Aside0 (Below w.heap.size w w2) := ⟨(below_drew K1.out.2.2).trans (b2.mono K1.out.2.2.size)⟩
      refine ⟨_, rfl, ?_⟩
      refine hK.out _ _ ⟨(blk_cell Tw2.out 0).trans rfl, (blk_cell Tw2.out 1).trans rfl, (blk_cell Tw2.out 2).trans rfl⟩ (fun hHeld => ?_)
      clear hK hHeld K CL
      refine norm_ (a' := ?_) ?_ ?_
      rotate_left
      · show Act.put _ (some 14) _ = _
        simp only [Act.put, List.setIfInBounds_toArray, List.set_cons_zero, List.set_cons_succ]
        rfl
      refine one_ (i := 3) (N := some 15) #[true, true, true, true, false] rfl rfl (by kernel_rfl) (by decide) (fun K hK => ?_)
      refine goes_ Tryz.func131 (by kernel_rfl) rfl #[.agg #[.bool (decide (z < 0)), .int .u64 0, .int .u64 (ab z)], wideV x] (by rfl) rfl rfl (by (try simp only [List.map_toArray, List.map_cons, List.map_nil]); first | done | rfl) ?_
      have CL := Aside0.mk (wadd_any z x HZ.out w2)
      refine CL.out.mono ?_
      rintro e w3 ⟨rfl, b3⟩
      have Tw3 := Aside0.mk (blk_below Tw2.out b3)
      have Rw3 := Aside0.mk (blk_below Rw2.out b3)
      have Bw3 : Aside0 (Below w.heap.size w w3) := ⟨Bw2.out.trans (b3.mono Bw2.out.size)⟩
      refine ⟨_, rfl, ?_⟩
      refine hK.out _ _ ⟨(blk_cell Tw3.out 0).trans rfl, (blk_cell Tw3.out 1).trans rfl, (blk_cell Tw3.out 2).trans rfl⟩ (fun hHeld => ?_)
      clear hK hHeld K CL
      refine norm_ (a' := ?_) ?_ ?_
      rotate_left
      · show Act.put _ (some 15) _ = _
        simp only [Act.put, List.setIfInBounds_toArray, List.set_cons_zero, List.set_cons_succ]
        rfl
      refine last_ (i := 4) (N := none) #[true, true, true, true, true] rfl rfl (by kernel_rfl) (by decide) (fun K hK => ?_)
      have h0 := (blk_cell Tw3.out 0).trans rfl
      have h1 := (blk_cell Tw3.out 1).trans rfl
      have h2 := (blk_cell Tw3.out 2).trans rfl
      have hz := fun j => blk_frozen Tw3.out j
      unfold wideV
      refine skip_ (w1 := ?_) (by rfl) rfl ?_ ?_
      rotate_left
      · go_simp
        rfl
      refine hK.out _ _ ?_
      clear hK K h0 h1 h2 hz
      refine done_ (by kernel_rfl) ?_
      go_wp2_with fail
      go_roundw
      case measure => simp [intOf]; omega
      case rel =>
        refine ⟨k + 1, by omega, by go_num, ⟨?_, ?_, ?_⟩⟩
        · rw [HS.out]
          exact blk_put (blk_put (blk_put Tw3.out 0 _ rfl) 1 _ rfl) 2 _ rfl
        · exact blk_far (blk_far (blk_far Rw3.out (by show w.heap.size ≠ w.heap.size + 1; omega) _) (by show w.heap.size ≠ w.heap.size + 1; omega) _) (by show w.heap.size ≠ w.heap.size + 1; omega) _
        · exact ((Bw3.out.setCell (Nat.le_succ _) _).setCell (Nat.le_succ _) _).setCell (Nat.le_succ _) _
    · obtain rfl : n = k := by omega
      obtain ⟨z, hz⟩ : ∃ z, z = sumTo n f := ⟨_, rfl⟩
      rw [← hz] at K1
      have HZ := Aside0.mk hz
      have p0 : wr.cell? ⟨w.heap.size + 1, 0, none⟩ = some (.bool (decide (z < 0))) := (blk_cell K1.out.1 0).trans rfl
      have p1 : wr.cell? ⟨w.heap.size + 1, 1, none⟩ = some (.int .u64 0) := (blk_cell K1.out.1 1).trans rfl
      have p2 : wr.cell? ⟨w.heap.size + 1, 2, none⟩ = some (.int .u64 (ab z)) := (blk_cell K1.out.1 2).trans rfl
      have r0 : wr.cell? ⟨w.heap.size, 0, none⟩ = some (.bool false) := (blk_cell K1.out.2.1 0).trans rfl
      have r1 : wr.cell? ⟨w.heap.size, 1, none⟩ = some (.int .u64 0) := (blk_cell K1.out.2.1 1).trans rfl
      have r2 : wr.cell? ⟨w.heap.size, 2, none⟩ = some (.int .u64 0) := (blk_cell K1.out.2.1 2).trans rfl
      have y0 := fun j => blk_frozen K1.out.2.1 j
      clear hz hlt hk
      go_wp2_with fail
      refine bodyPost_ret (v := wideV z) (by simp [results, Tryz.results97, go_sem, r0, r1, r2, wideV]) rfl ⟨by rw [HZ.out], ?_⟩
      exact ((K1.out.2.2.setCell (Nat.le_refl _) _).setCell (Nat.le_refl _) _).setCell (Nat.le_refl _) _
theorem sum_any (w : World) (A : Option Addr) (n c : Nat) (f : Nat → Int) (h : RowI w A n f) (hb : ∀ i, i < n → -549755813888 ≤ f i ∧ f i ≤ 549755813888) (hn : n ≤ 4096) :
    Calls Tryz.prog 54 #[.slice A n c] w fun e w' => e = .returned (.tuple #[.int .i64 (sumTo n f), .bool true]) ∧ Below w.heap.size w w' := by
  have hbz := sumTo_abs (n := n) (f := f) (B := 549755813888) hb
  have HT := Aside0.mk (total_any w A n c f h hb hn)
  have HS := Aside0.mk (fun W => nshort_any (sumTo n f) (by omega) W)
  clear h hb hbz
  obtain ⟨z, hz⟩ : ∃ z, z = sumTo n f := ⟨_, rfl⟩
  rw [← hz] at HT HS ⊢
  clear hz
  go_enter Tryz.func54, Tryz.ntmps54
  go_wp2_with fail
  refine HT.out.mono ?_
  rintro _ w1 ⟨rfl, b1⟩
  have B1 := Aside0.mk b1
  clear b1
  unfold wideV
  go_wp2_with fail
  refine (HS.out _).mono ?_
  rintro _ w2 ⟨rfl, b2⟩
  have B2 := Aside0.mk b2
  clear b2
  go_wp2_with fail
  go_ret2
  exact ⟨rfl, B1.out.trans (B2.out.mono B1.out.size)⟩
end Go.Proofs.YtofomlpdklhigaaGreatDoor.Hand
