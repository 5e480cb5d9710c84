/- slices.Grow of nil, slices.Concat of two rows: walked. Few numbers alone. -/
import Derived.Test.YtelabmhhnpfegaaGa
import Derived.Lib.AppendZeros
namespace Go.Proofs.Ytelabmhhnpfegaa.Hand
open Go.RowKit Go.Proofs.YtelabmhhnpfegaaW.PrintWords Go.Proofs.YtelabmhhnpfegaaW.PrintLast Go.Proofs.YtelabmhhnpfegaaW.PrintMore
theorem info2c : (Try.prog.info? 2).map (fun i => (i.zero, i.size, i.bytes)) = some (some (.int .i64 0), 1, 8) := by kernel_rfl
set_option maxRecDepth 100000 in
theorem grow_any (n : Nat) (hn : n ≤ 4096) (w : World) : Calls Try.prog 116 #[.slice none 0 0, .int .i64 (n : Int)] w fun e w' => ∃ v, e = .returned v ∧ Aside0 (w'.ownsRow w.heap.size 2 1 v 0 [] ∧ Below w.heap.size w w') := by
  obtain ⟨i, hi, hz, hs, hb⟩ := info_parts info2c
  by_cases h0 : n = 0
  · subst h0
    go_enter Try.func116, Try.ntmps116
    go_wp2_with fail
    go_ret
    exact ⟨_, rfl, ⟨World.ownsRow_nil _ _ _ _, Below.refl _ _⟩⟩
  · have hr := Lib.run_append_nil_zeros (P := Try.prog) w 30 3 30 2 i (.int .i64 0) .i64 .i64 Try.underlying30 Try.underlying3 hi hz n (by omega) (by omega) (by omega) (by rw [hb]; omega)
    have hd1 : decide ((n : Int) > 0) = true := decide_eq_true (by omega)
    have hw : wrap64 (n : Int) = n := by unfold wrap64; omega
    have hd2 : decide (0 < (n : Int)) = true := decide_eq_true (by omega)
    obtain ⟨gc, hgc⟩ : ∃ g, g = grownCap w n 0 2 := ⟨_, rfl⟩
    have HG : Aside0 (n ≤ gc ∧ gc ≤ maxLen) := ⟨by rw [hgc]; exact ⟨grownCap_ge _ _ _ _, grownCap_le_maxLen _ _ _ _ (by unfold maxLen; omega)⟩⟩
    rw [← hgc] at hr
    obtain ⟨cs, hcs⟩ : ∃ cs, cs = Builtin.zeroCells (Value.int IntKind.i64 0).cells n ++ Builtin.zeroCells (Value.int IntKind.i64 0).cells (gc - n) := ⟨_, rfl⟩
    rw [← hcs] at hr
    have HC : Aside0 (cs.size = gc) := ⟨by rw [hcs, Array.size_append, size_zeroCells, size_zeroCells]; have := HG.out.1; show n * 1 + (gc - n) * 1 = gc; omega⟩
    have HN := Aside0.mk (And.intro h0 hn)
    clear hgc hcs
    clear h0 hn
    go_enter Try.func116, Try.ntmps116
    have hr2 : (Builtin.append_ #[30, 3] 30 #[.slice none 0 0, .int .i64 (wrap64 (n : Int))]).run Try.prog w = .ok (.slice (some ⟨w.heap.size, 0, none⟩) n gc) (w.drew.alloc (.cells cs 2)) := by rw [hw]; exact hr
    clear hr
    go_wp2_with (at_builtin; refine Lib.wpList_append_run w rfl _ _ 30 3 rfl (.slice none 0 0) (.int .i64 (wrap64 (n : Int))) rfl rfl (.slice (some ⟨w.heap.size, 0, none⟩) n gc) (w.drew.alloc (.cells cs 2)) hr2 ?_)
    all_goals
      go_ret
      first
        | exact ⟨_, rfl, ⟨World.ownsRow_nil _ _ _ _, Below.refl _ _⟩⟩
        | exact ⟨_, rfl, ⟨⟨rfl, .inr ⟨w.heap.size, gc, cs, rfl, Nat.le_refl _, heap_alloc_new _ _, Nat.zero_le _, HG.out.2, by rw [HC.out, Nat.mul_one], rfl⟩⟩, below_drew (below_alloc (Below.refl _ _) _)⟩⟩
def rowV (n : Nat) (f : Nat → Int) : List Value := (List.range n).map fun i => .int .i64 (f i)
theorem rowV_len {n : Nat} {f : Nat → Int} : (rowV n f).length = n := by simp [rowV]
theorem rowV_get {n i : Nat} {f : Nat → Int} (hi : i < n) : (rowV n f)[i]? = some (.int .i64 (f i)) := by simp [rowV, hi]
theorem rowV_one {n : Nat} {f : Nat → Int} : ∀ u ∈ rowV n f, u.oneCell' = true := fun u hu => by
  obtain ⟨i, _, rfl⟩ := List.mem_map.1 hu
  rfl
theorem ib_news {W : World} {r n : Nat} {f : Nat → Int} (h : IB W r 2 n f) : ∀ j u, (rowV n f)[j]? = some u → W.cell? ((⟨r, 0, none⟩ : Addr).add j) = some u := fun j u hu => by
  have hj : j < n := by
    have := (List.getElem?_eq_some_iff.1 hu).1
    rwa [rowV_len] at this
  rw [rowV_get hj] at hu
  have hadd : (⟨r, 0, none⟩ : Addr).add j = ⟨r, j, none⟩ := by unfold Addr.add; split <;> simp_all
  rw [hadd, h.c hj, hu]
/-- Where the second loop stands. -/
structure Cc (w wr : World) (v : Value) (m : Nat) (xs : List Value) : Prop where
  own : wr.ownsRow w.heap.size 2 1 v m xs
  below : Below w.heap.size w wr
set_option maxHeartbeats 1000000 in
set_option maxRecDepth 100000 in
theorem concat_any (w : World) (B r c n : Nat) (f g : Nat → Int) (hB : w.heap[B]? = some (.cells #[.slice (some ⟨r, 0, none⟩) n n, .slice (some ⟨c, 0, none⟩) n n] 30 (0, 0))) (h1 : IB w r 2 n f) (h2 : IB w c 2 n g) (hn : n ≤ 64) :
    Calls Try.prog 76 #[.slice (some ⟨B, 0, none⟩) 2 2] w fun e w' => ∃ A cp, e = .returned (.slice A (n + n) cp) ∧ Aside0 (w'.ownsRow w.heap.size 2 1 (.slice A (n + n) cp) (n + n) (rowV n f ++ rowV n g) ∧ Below w.heap.size w w') := by
  obtain ⟨i, hi, hz, hs, hb⟩ := info_parts info2c
  have HB := Aside0.mk hB
  have H1 := Aside0.mk h1
  have H2 := Aside0.mk h2
  have b0 : w.cell? ⟨B, 0, none⟩ = some (.slice (some ⟨r, 0, none⟩) n n) := (blk_cell hB 0).trans rfl
  have b1 : w.cell? ⟨B, 1, none⟩ = some (.slice (some ⟨c, 0, none⟩) n n) := (blk_cell hB 1).trans rfl
  clear hB h1 h2
  go_enter Try.func76, Try.ntmps76
  go_wp2_with fail
  go_loop [3, 11] (fun v3 v11 => ∃ k : Nat, k ≤ 2 ∧ v3 = .int .i64 ((k * n : Nat) : Int) ∧ v11 = .int .i64 k) (fun _ v => 2 - (intOf v).toNat)
  case atStart => exact ⟨0, by omega, by simp, rfl⟩
  case round =>
    obtain ⟨k, hk, rfl, rfl⟩ := hrel
    by_cases hlt : k < 2
    · rcases (show k = 0 ∨ k = 1 by omega) with rfl | rfl
      · go_wp2_with fail
        go_round
        case measure => simp [intOf]
        case rel => exact ⟨1, by omega, by first | rfl | (congr 1; omega), rfl⟩
      · go_wp2_with fail
        go_round
        case measure => simp [intOf]
        case rel => exact ⟨2, by omega, by first | rfl | (congr 1; omega), rfl⟩
    · obtain rfl : k = 2 := by omega
      clear hk hlt
      go_wp2_with fail
      refine (grow_any (2 * n) (by omega) _).mono ?_
      rintro _ w1 ⟨v, rfl, G1⟩
      have K0 : Aside0 (Cc w w1 v (0 * n) []) := ⟨by rw [Nat.zero_mul]; exact G1.out.1, G1.out.2⟩
      clear G1 b0 b1
      go_wp2_with fail
      go_loopw [6, 27] (fun v6 v27 wr => ∃ (k : Nat) (v : Value), k ≤ 2 ∧ v27 = .int .i64 k ∧ v6 = v ∧ Aside0 (Cc w wr v (k * n) (if k = 0 then [] else if k = 1 then rowV n f else rowV n f ++ rowV n g))) (fun _ v _ => 2 - (intOf v).toNat)
      case atStart => exact ⟨0, v, by omega, rfl, rfl, K0⟩
      case round =>
        clear K0
        obtain ⟨k, v, hk, rfl, rfl, K⟩ := hrel
        by_cases hlt : k < 2
        · have a0 : wr.cell? ⟨B, 0, none⟩ = some (.slice (some ⟨r, 0, none⟩) n n) := (blk_cell (blk_below HB.out K.out.below) 0).trans rfl
          have a1 : wr.cell? ⟨B, 1, none⟩ = some (.slice (some ⟨c, 0, none⟩) n n) := (blk_cell (blk_below HB.out K.out.below) 1).trans rfl
          have J1 : Aside0 (IB wr r 2 n f) := ⟨blk_below H1.out K.out.below⟩
          have J2 : Aside0 (IB wr c 2 n g) := ⟨blk_below H2.out K.out.below⟩
          rcases (show k = 0 ∨ k = 1 by omega) with rfl | rfl
          · go_wp2_with (at_builtin; refine wpList_append_own_at _ rfl _ _ 30 rfl w.heap.size 2 i (.int .i64 0) 1 8 Try.underlying30 hi hz hs hb rfl (by omega) _ _ _ rfl K.out.own ⟨r, 0, none⟩ n n (rowV n f) rfl (by rw [rowV_len, Nat.mul_one]) (ib_news J1.out) rowV_one (by unfold maxLen; omega) (by omega) K.out.below.size ?_; intro v1 w1 o1 g1 _ _)
            have K1 : Aside0 (Cc w w1 v1 (1 * n) (rowV n f)) := ⟨by
              rw [Nat.zero_mul, Nat.zero_add] at o1
              rw [Nat.one_mul]
              exact o1, K.out.below.trans ⟨g1.os, g1.tape, g1.output, g1.size, fun q hq => g1.block q (Nat.lt_of_lt_of_le hq K.out.below.size) (fun e => by
                have := own_base K.out.own q e.symm
                omega)⟩⟩
            clear o1 g1
            go_wp2_with fail
            go_roundw
            case measure => simp [intOf]
            case rel => exact ⟨1, _, by omega, rfl, rfl, K1⟩
          · go_wp2_with (at_builtin; refine wpList_append_own_at _ rfl _ _ 30 rfl w.heap.size 2 i (.int .i64 0) 1 8 Try.underlying30 hi hz hs hb rfl (by omega) _ _ _ rfl K.out.own ⟨c, 0, none⟩ n n (rowV n g) rfl (by rw [rowV_len, Nat.mul_one]) (ib_news J2.out) rowV_one (by unfold maxLen; omega) (by omega) K.out.below.size ?_; intro v1 w1 o1 g1 _ _)
            have K1 : Aside0 (Cc w w1 v1 (2 * n) (rowV n f ++ rowV n g)) := ⟨by
              rw [show 1 * n + n = 2 * n by omega] at o1
              exact o1, K.out.below.trans ⟨g1.os, g1.tape, g1.output, g1.size, fun q hq => g1.block q (Nat.lt_of_lt_of_le hq K.out.below.size) (fun e => by
                have := own_base K.out.own q e.symm
                omega)⟩⟩
            clear o1 g1
            go_wp2_with fail
            go_roundw
            case measure => simp [intOf]
            case rel => exact ⟨2, _, by omega, rfl, rfl, K1⟩
        · obtain rfl : k = 2 := by omega
          clear hk hlt
          go_wp2_with fail
          go_ret
          have o := K.out.own
          rw [Nat.two_mul] at o
          obtain ⟨A, cp, e, _⟩ := own_slice o
          rw [e] at o
          exact ⟨A, cp, by rw [e]; rfl, ⟨o, K.out.below⟩⟩
end Go.Proofs.Ytelabmhhnpfegaa.Hand
/- The prices' fairness: walked. -/
namespace Go.Proofs.Ytelabmhhnpfegaa.Hand
open Go.RowKit Go.Proofs.YtelabmhhnpfegaaW.PrintWords Go.Proofs.YtelabmhhnpfegaaW.PrintLast Go.Proofs.YtelabmhhnpfegaaW.PrintMore
def farW (x : Int) : Bool := decide (x < -549755813888) || decide (549755813888 < x)
theorem farw_any (x : Int) (w : World) : Calls Try.prog 41 #[.int .i64 x, .int .i64 549755813888] w fun e w' => e = .returned (.bool (farW x)) ∧ w = w' := by
  unfold farW
  cases h1 : decide (x < -549755813888) with
  | true =>
    go_enter Try.func41, Try.ntmps41
    go_wp2
    go_ret
    exact ⟨rfl, rfl⟩
  | false =>
    go_enter Try.func41, Try.ntmps41
    go_wp2
    go_ret
    exact ⟨rfl, rfl⟩
theorem clow_any (x : Int) (w : World) : Calls Try.prog 77 #[.int .i64 x] w fun e w' => e = .returned (.bool (farW x)) ∧ w = w' := by
  go_enter Try.func77, Try.ntmps77
  go_wp2_with (go_at_call 41; refine (farw_any _ _).mono ?_; rintro e w' ⟨rfl, rfl⟩)
  go_ret
  exact ⟨rfl, rfl⟩
def firstFarW (n : Nat) (c : Nat → Int) : Int := match (List.range n).find? (fun k => farW (c k)) with
  | some k => (k : Int)
  | none => -1
theorem firstFarW_yes {n k : Nat} {c : Nat → Int} (hk : k < n) (h : ∀ j, j < k → farW (c j) = false) (hb : farW (c k) = true) : firstFarW n c = (k : Int) := by
  have : (List.range n).find? (fun k => farW (c k)) = some k := by
    rw [List.find?_eq_some_iff_append]
    refine ⟨hb, List.range k, (List.range (n - k - 1)).map (· + (k + 1)), ?_, fun j hj => by rw [h j (List.mem_range.1 hj)]; rfl⟩
    have e1 : List.range n = List.range k ++ (List.range (n - k)).map (k + ·) := by
      have := List.range_add (n := k) (m := n - k)
      rwa [show k + (n - k) = n by omega] at this
    rw [e1, show n - k = (n - k - 1) + 1 by omega, List.range_succ_eq_map]
    simp [Function.comp_def]
    omega
  unfold firstFarW
  rw [this]
theorem firstFarW_no {n : Nat} {c : Nat → Int} (h : ∀ j, j < n → farW (c j) = false) : firstFarW n c = -1 := by
  have : (List.range n).find? (fun k => farW (c k)) = none := by
    rw [List.find?_eq_none]
    intro j hj
    rw [h j (List.mem_range.1 hj)]
    decide
  unfold firstFarW
  rw [this]
set_option maxHeartbeats 400000 in
theorem indexw_any (A : Option Addr) (n c : Nat) (f : Nat → Int) (w : World) (h : RowI w A n f) (hs : n ≤ 17592186044416) :
    Calls Try.prog 75 #[.slice A n c, .func (.func 77) #[] #[]] w fun e w' => e = .returned (.int .i64 (firstFarW n f)) ∧ w = w' := by
  have H := Aside0.mk h
  clear h
  go_enter Try.func75, Try.ntmps75
  go_wp2
  go_loop [8] (fun i => ∃ k : Nat, k ≤ n ∧ i = .int .i64 k ∧ Aside0 (∀ j, j < k → farW (f j) = false)) (fun i => n - (intOf i).toNat)
  case atStart => exact ⟨0, Nat.zero_le _, rfl, Aside0.mk (fun j hj => absurd hj (Nat.not_lt_zero _))⟩
  case round =>
    obtain ⟨k, hk, rfl, ho⟩ := hrel
    by_cases hlt : k < n
    · obtain ⟨ad, rfl, hc⟩ := H.out k hlt
      cases hb : farW (f k) with
      | true =>
        have HB := Aside0.mk hb
        clear hb
        go_wp2_with (go_at_call 77; refine (clow_any _ _).mono ?_; rintro e w' ⟨rfl, rfl⟩; rw [HB.out])
        go_ret
        exact ⟨by rw [firstFarW_yes hlt ho.out HB.out]; rfl, rfl⟩
      | false =>
        have HB := Aside0.mk hb
        clear hb
        go_wp2_with (go_at_call 77; refine (clow_any _ _).mono ?_; rintro e w' ⟨rfl, rfl⟩; rw [HB.out])
        go_round
        case rel => exact ⟨k + 1, by omega, by go_num, Aside0.mk (fun j hj => by
          rcases Nat.lt_succ_iff_lt_or_eq.1 hj with h1 | rfl
          · exact ho.out j h1
          · exact HB.out)⟩
        case measure => simp [intOf]; omega
    · obtain rfl : k = n := by omega
      go_wp2
      go_ret
      exact ⟨by rw [firstFarW_no ho.out]; rfl, rfl⟩
set_option maxHeartbeats 400000 in
theorem containsw_any (A : Option Addr) (n c : Nat) (f : Nat → Int) (w : World) (h : RowI w A n f) (hs : n ≤ 17592186044416) :
    Calls Try.prog 39 #[.slice A n c, .func (.func 77) #[] #[]] w fun e w' => e = .returned (.bool (decide (0 ≤ firstFarW n f))) ∧ w = w' := by
  go_enter Try.func39, Try.ntmps39
  go_wp2_with (go_at_call 75; refine (indexw_any A n c f _ h hs).mono ?_; rintro e w' ⟨rfl, rfl⟩)
  go_ret
  exact ⟨rfl, rfl⟩
set_option maxHeartbeats 1000000 in
set_option maxRecDepth 100000 in
theorem fclo_any (w : World) (p7 p4 p5 r c n i k : Nat) (x y z : Int) (hp : w.heap[p7]? = some (.cells #[.bool true] 4 (0, 0))) (f2 : w.cell? ⟨p4, 0, none⟩ = some (.slice (some ⟨r, 0, none⟩) n n)) (f3 : w.cell? ⟨p5, 0, none⟩ = some (.slice (some ⟨c, 0, none⟩) n n))
    (e1 : w.cell? ⟨r, i, none⟩ = some (.int .i64 x)) (e2 : w.cell? ⟨c, k, none⟩ = some (.int .i64 y)) (hi : i < n) (hk : k < n) (_hn : n ≤ 64) (hx : -549755813888 ≤ x ∧ x ≤ 549755813888) (hy : -549755813888 ≤ y ∧ y ≤ 549755813888) (hz : x + y ≤ z) :
    Calls Try.prog 118 #[.int .i64 (i : Int), .int .i64 (k : Int), .int .i64 z, .pointer (some ⟨p7, 0, none⟩), .pointer (some ⟨p4, 0, none⟩), .pointer (some ⟨p5, 0, none⟩)] w fun e w' => e = .returned (.tuple #[]) ∧ w'.heap[p7]? = some (.cells #[.bool true] 4 (0, 0)) ∧ Chg (fun q => q = p7) w w' := by
  have HP := Aside0.mk hp
  have f1 : w.cell? ⟨p7, 0, none⟩ = some (.bool true) := (blk_cell hp 0).trans rfl
  have hw : IntKind.i64.wrap (x + y) = x + y := IntWalk.i64_in _ (by omega)
  have hd : decide (x + y ≤ z) = true := decide_eq_true hz
  clear hp hz hx hy
  go_enter Try.func118, Try.ntmps118
  refine start_ (n := 15) (S := fun w' => w'.cell? ⟨p7, 0, none⟩ = some (.bool true) ∧ w'.cell? ⟨p4, 0, none⟩ = some (.slice (some ⟨r, 0, none⟩) n n) ∧ w'.cell? ⟨p5, 0, none⟩ = some (.slice (some ⟨c, 0, none⟩) n n) ∧ w'.cell? ⟨r, i, none⟩ = some (.int .i64 x) ∧ w'.cell? ⟨c, k, none⟩ = some (.int .i64 y)) (ds := [14]) #[false, false, false, false, false, false, false, false, false, false, false, false, false, false, false] (by kernel_rfl) rfl rfl ⟨f1, f2, f3, e1, e2⟩ (fun hHeld => ?_)
  clear f1 f2 f3 e1 e2
  refine take_ (i := 0) (N := some 9) (v := ?_) (a' := ?_) #[true, false, false, false, false, false, false, false, false, false, false, false, false, false, false] rfl rfl (by kernel_rfl) (fun _ _ _ h => h) (Or.inl ⟨by rfl, ?_⟩) hHeld ?_ ?_
  rotate_left
  · rintro w' ⟨s0, s1, s2, s3, s4⟩
    go_simp
    with_reducible rfl
  rotate_left
  · simp only [Act.put, List.setIfInBounds_toArray, List.set_cons_zero, List.set_cons_succ]
    rfl
  refine pure_ (i := 1) (N := some 10) (v := ?_) (a' := ?_) #[true, true, false, false, false, false, false, false, false, false, false, false, false, false, false] rfl rfl (by kernel_rfl) (fun _ _ _ h => h) (Or.inl ⟨by rfl, ?_⟩) ?_ ?_
  rotate_left
  · intro w'
    go_simp
    with_reducible rfl
  rotate_left
  · simp only [Act.put, List.setIfInBounds_toArray, List.set_cons_zero, List.set_cons_succ]
    rfl
  refine take_ (i := 2) (N := some 11) (v := ?_) (a' := ?_) #[true, true, true, false, false, false, false, false, false, false, false, false, false, false, false] rfl rfl (by kernel_rfl) (fun _ _ _ h => h) (Or.inl ⟨by rfl, ?_⟩) hHeld ?_ ?_
  rotate_left
  · rintro w' ⟨s0, s1, s2, s3, s4⟩
    go_simp
    with_reducible rfl
  rotate_left
  · simp only [Act.put, List.setIfInBounds_toArray, List.set_cons_zero, List.set_cons_succ]
    rfl
  refine pure_ (i := 3) (N := some 12) (v := ?_) (a' := ?_) #[true, true, true, true, false, false, false, false, false, false, false, false, false, false, false] rfl rfl (by kernel_rfl) (fun _ _ _ h => h) (Or.inl ⟨by rfl, ?_⟩) ?_ ?_
  rotate_left
  · intro w'
    go_simp
    with_reducible rfl
  rotate_left
  · simp only [Act.put, List.setIfInBounds_toArray, List.set_cons_zero, List.set_cons_succ]
    rfl
  refine pure_ (i := 4) (N := some 13) (v := ?_) (a' := ?_) #[true, true, true, true, true, false, false, false, false, false, false, false, false, false, false] rfl rfl (by kernel_rfl) (fun _ _ _ h => h) (Or.inl ⟨by rfl, ?_⟩) ?_ ?_
  rotate_left
  · intro w'
    go_simp
    with_reducible rfl
  rotate_left
  · simp only [Act.put, List.setIfInBounds_toArray, List.set_cons_zero, List.set_cons_succ]
    rfl
  refine take_ (i := 5) (N := some 14) (v := ?_) (a' := ?_) #[true, true, true, true, true, true, false, false, false, false, false, false, false, false, false] rfl rfl (by kernel_rfl) (fun _ _ _ h => h) (Or.inl ⟨by rfl, ?_⟩) hHeld ?_ ?_
  rotate_left
  · rintro w' ⟨s0, s1, s2, s3, s4⟩
    go_simp
    with_reducible rfl
  rotate_left
  · simp only [Act.put, List.setIfInBounds_toArray, List.set_cons_zero, List.set_cons_succ]
    rfl
  refine take_ (i := 6) (N := some 15) (v := ?_) (a' := ?_) #[true, true, true, true, true, true, true, false, false, false, false, false, false, false, false] rfl rfl (by kernel_rfl) (fun _ _ _ h => h) (Or.inl ⟨by rfl, ?_⟩) hHeld ?_ ?_
  rotate_left
  · rintro w' ⟨s0, s1, s2, s3, s4⟩
    go_simp
    with_reducible rfl
  rotate_left
  · simp only [Act.put, List.setIfInBounds_toArray, List.set_cons_zero, List.set_cons_succ]
    rfl
  refine pure_ (i := 7) (N := some 16) (v := ?_) (a' := ?_) #[true, true, true, true, true, true, true, true, false, false, false, false, false, false, false] rfl rfl (by kernel_rfl) (fun _ _ _ h => h) (Or.inl ⟨by rfl, ?_⟩) ?_ ?_
  rotate_left
  · intro w'
    go_simp
    with_reducible rfl
  rotate_left
  · simp only [Act.put, List.setIfInBounds_toArray, List.set_cons_zero, List.set_cons_succ]
    rfl
  refine pure_ (i := 8) (N := some 17) (v := ?_) (a' := ?_) #[true, true, true, true, true, true, true, true, true, false, false, false, false, false, false] rfl rfl (by kernel_rfl) (fun _ _ _ h => h) (Or.inl ⟨by rfl, ?_⟩) ?_ ?_
  rotate_left
  · intro w'
    go_simp
    with_reducible rfl
  rotate_left
  · simp only [Act.put, List.setIfInBounds_toArray, List.set_cons_zero, List.set_cons_succ]
    rfl
  refine take_ (i := 9) (N := some 18) (v := ?_) (a' := ?_) #[true, true, true, true, true, true, true, true, true, true, false, false, false, false, false] rfl rfl (by kernel_rfl) (fun _ _ _ h => h) (Or.inl ⟨by rfl, ?_⟩) hHeld ?_ ?_
  rotate_left
  · rintro w' ⟨s0, s1, s2, s3, s4⟩
    go_simp
    with_reducible rfl
  rotate_left
  · simp only [Act.put, List.setIfInBounds_toArray, List.set_cons_zero, List.set_cons_succ]
    rfl
  refine pure_ (i := 10) (N := some 19) (v := ?_) (a' := ?_) #[true, true, true, true, true, true, true, true, true, true, true, false, false, false, false] rfl rfl (by kernel_rfl) (fun _ _ _ h => h) (Or.inl ⟨by rfl, ?_⟩) ?_ ?_
  rotate_left
  · intro w'
    go_simp
    with_reducible rfl
  rotate_left
  · simp only [Act.put, List.setIfInBounds_toArray, List.set_cons_zero, List.set_cons_succ]
    rfl
  refine pure_ (i := 11) (N := some 20) (v := ?_) (a' := ?_) #[true, true, true, true, true, true, true, true, true, true, true, true, false, false, false] rfl rfl (by kernel_rfl) (fun _ _ _ h => h) (Or.inl ⟨by rfl, ?_⟩) ?_ ?_
  rotate_left
  · intro w'
    go_simp
    with_reducible rfl
  rotate_left
  · simp only [Act.put, List.setIfInBounds_toArray, List.set_cons_zero, List.set_cons_succ]
    rfl
  refine pure_ (i := 12) (N := some 21) (v := ?_) (a' := ?_) #[true, true, true, true, true, true, true, true, true, true, true, true, true, false, false] rfl rfl (by kernel_rfl) (fun _ _ _ h => h) (Or.inl ⟨by rfl, ?_⟩) ?_ ?_
  rotate_left
  · intro w'
    go_simp
    with_reducible rfl
  rotate_left
  · simp only [Act.put, List.setIfInBounds_toArray, List.set_cons_zero, List.set_cons_succ]
    rfl
  refine pure_ (i := 13) (N := some 22) (v := ?_) (a' := ?_) #[true, true, true, true, true, true, true, true, true, true, true, true, true, true, false] rfl rfl (by kernel_rfl) (fun _ _ _ h => h) (Or.inl ⟨by rfl, ?_⟩) ?_ ?_
  rotate_left
  · intro w'
    go_simp
    with_reducible rfl
  rotate_left
  · simp only [Act.put, List.setIfInBounds_toArray, List.set_cons_zero, List.set_cons_succ]
    rfl
  refine last_ (i := 14) (N := none) #[true, true, true, true, true, true, true, true, true, true, true, true, true, true, true] rfl rfl (by kernel_rfl) (by decide) (fun K hK => ?_)
  have h0 : w.cell? ⟨p7, 0, none⟩ = some (.bool true) := (blk_cell HP.out 0).trans rfl
  have h1 := blk_frozen HP.out 0
  refine skip_ (w1 := ?_) (by rfl) rfl ?_ ?_
  rotate_left
  · go_simp
    rfl
  refine hK.out _ _ ?_
  clear hK K h0 h1
  refine done_ (by kernel_rfl) ?_
  go_end0
  exact ⟨rfl, blk_put HP.out 0 _ rfl, (Chg.setCell (S := fun q => q = p7) (Chg.refl _ _) (p := ⟨p7, 0, none⟩) (.inl rfl) _).drew⟩
/-- What the closure's calls rest on. -/
structure Fx (w : World) (p7 p4 p5 r c n : Nat) (u v : Nat → Int) : Prop where
  p7 : w.heap[p7]? = some (.cells #[.bool true] 4 (0, 0))
  p4 : w.heap[p4]? = some (.cells #[.slice (some ⟨r, 0, none⟩) n n] 30 (0, 0))
  p5 : w.heap[p5]? = some (.cells #[.slice (some ⟨c, 0, none⟩) n n] 30 (0, 0))
  r : IB w r 2 n u
  c : IB w c 2 n v
theorem Fx.step {w w1 : World} {p7 p4 p5 r c n : Nat} {u v : Nat → Int} (h : Fx w p7 p4 p5 r c n u v) (hp : w1.heap[p7]? = some (.cells #[.bool true] 4 (0, 0))) (hc : Chg (fun q => q = p7) w w1) : Fx w1 p7 p4 p5 r c n u v := by
  have h1 := h.r
  have h2 := h.c
  unfold IB at h1 h2
  refine ⟨hp, hc.blk h.p4 (fun e => ty_ne h.p4 h.p7 (by decide) e), hc.blk h.p5 (fun e => ty_ne h.p5 h.p7 (by decide) e), ?_, ?_⟩
  · exact hc.blk h1 (fun e => ty_ne h1 h.p7 (by decide) e)
  · exact hc.blk h2 (fun e => ty_ne h2 h.p7 (by decide) e)
theorem Fx.alloc {w : World} {p7 p4 p5 r c n : Nat} {u v : Nat → Int} (h : Fx w p7 p4 p5 r c n u v) (o : Obj) : Fx (w.alloc o) p7 p4 p5 r c n u v :=
  ⟨blk_alloc h.p7 _, blk_alloc h.p4 _, blk_alloc h.p5 _, blk_alloc h.r _, blk_alloc h.c _⟩
theorem below_chg {w0 w w1 : World} {p : Nat} (h : Below w0.heap.size w0 w) (hc : Chg (fun q => q = p) w w1) (hp : w0.heap.size ≤ p) : Below w0.heap.size w0 w1 :=
  h.trans ⟨hc.os, hc.tape, hc.output, hc.size, fun q hq => hc.block q (Nat.lt_of_lt_of_le hq h.size) (fun e => by omega)⟩
set_option maxHeartbeats 1000000 in
set_option maxRecDepth 100000 in
theorem each_any (w0 w : World) (AC AN : Option Addr) (cC cN : Nat) (t : Tb) (h : TabR w0 AC AN t) (hb : Below w0.heap.size w0 w) (hn : t.n ≤ 64) (p7 p4 p5 r c : Nat) (u v : Nat → Int) (hx : Fx w p7 p4 p5 r c t.n u v) (hp : w0.heap.size ≤ p7)
    (hu : ∀ i, i < t.n → -549755813888 ≤ u i ∧ u i ≤ 549755813888) (hv : ∀ i, i < t.n → -549755813888 ≤ v i ∧ v i ≤ 549755813888) (hf : Fair t.n t.c t.no u v) :
    Calls Try.prog 117 #[.agg #[.slice AC t.n cC, .slice AN t.n cN], .func (.func 118) #[] #[.pointer (some ⟨p7, 0, none⟩), .pointer (some ⟨p4, 0, none⟩), .pointer (some ⟨p5, 0, none⟩)]] w fun e w' => e = .returned (.tuple #[]) ∧ Fx w' p7 p4 p5 r c t.n u v ∧ Chg (fun q => q = p7) w w' := by
  have hu27 := Try.underlying27
  have H := Aside0.mk h
  have HB := Aside0.mk hb
  have HX := Aside0.mk hx
  have HU := Aside0.mk hu
  have HV := Aside0.mk hv
  have HF := Aside0.mk hf
  have HP := Aside0.mk hp
  obtain ⟨n, hn1⟩ : ∃ n, n = t.n := ⟨_, rfl⟩
  have HN := Aside0.mk hn1
  rw [← hn1] at hn ⊢
  clear h hb hx hu hv hf hp hn1
  go_enter Try.func117, Try.ntmps117
  go_wp2_with fail
  obtain ⟨W, hW⟩ : ∃ W, W = w.alloc (.cells #[.slice AC n cC, .slice AN n cN] 27) := ⟨_, rfl⟩
  rw [← hW]
  have K0 : Aside0 (Fx W p7 p4 p5 r c t.n u v ∧ Chg (fun q => q = p7) w W ∧ W.heap[w.heap.size]? = some (.cells #[.slice AC n cC, .slice AN n cN] 27 (0, 0))) := ⟨by
    rw [hW]
    exact ⟨HX.out.alloc _, (Chg.refl _ _).alloc _, heap_alloc_new _ _⟩⟩
  clear hW
  go_loopw [11] (fun v11 wr => ∃ i : Nat, i ≤ n ∧ v11 = .int .i64 i ∧ Aside0 (Fx wr p7 p4 p5 r c t.n u v ∧ Chg (fun q => q = p7) w wr ∧ wr.heap[w.heap.size]? = some (.cells #[.slice AC n cC, .slice AN n cN] 27 (0, 0)))) (fun v _ => n - (intOf v).toNat)
  case atStart => exact ⟨0, Nat.zero_le _, rfl, K0⟩
  case round =>
    clear K0
    obtain ⟨i, hi, rfl, K⟩ := hrel
    by_cases hlt : i < n
    · have BW : Aside0 (Below w0.heap.size w0 wr) := ⟨below_chg HB.out K.out.2.1 HP.out⟩
      obtain ⟨ad, AR, cR, rfl, hc, hrow⟩ := H.out.cost i (by rw [← HN.out]; exact hlt)
      obtain ⟨bd, BR, dR, rfl, hd, hnow⟩ := H.out.no i (by rw [← HN.out]; exact hlt)
      have f1 := pw_cell_below BW.out hc
      rw [← HN.out] at f1
      have HD := Aside0.mk hd
      have HR := Aside0.mk hrow
      have HNO := Aside0.mk hnow
      clear hc hd hrow hnow
      go_wp2_with fail
      clear f1
      go_loopw [18] (fun v18 wr => ∃ k : Nat, k ≤ n ∧ v18 = .int .i64 k ∧ Aside0 (Fx wr p7 p4 p5 r c t.n u v ∧ Chg (fun q => q = p7) w wr ∧ wr.heap[w.heap.size]? = some (.cells #[.slice (some ad) n cC, .slice (some bd) n cN] 27 (0, 0)))) (fun v _ => n - (intOf v).toNat)
      case atStart => exact ⟨0, Nat.zero_le _, rfl, K⟩
      case round =>
        clear K BW
        obtain ⟨k, hk, rfl, K⟩ := hrel
        by_cases hlt2 : k < n
        · have BW : Aside0 (Below w0.heap.size w0 wr) := ⟨below_chg HB.out K.out.2.1 HP.out⟩
          have f2 := pw_cell_below BW.out (HR.out k (by rw [← HN.out]; exact hlt2))
          have f3 := pw_cell_below BW.out HD.out
          have f4 := pw_cell_below BW.out (HNO.out k (by rw [← HN.out]; exact hlt2))
          rw [← HN.out] at f3
          have g1 : wr.cell? ⟨w.heap.size, 1, none⟩ = some (.slice (some bd) n cN) := (blk_cell K.out.2.2 1).trans rfl
          cases hno : t.no i k with
          | true =>
            rw [hno] at f4
            clear hno
            go_wp2_with fail
            go_roundw
            case measure => simp [intOf]; omega
            case rel => exact ⟨k + 1, by omega, by go_num, K⟩
          | false =>
            rw [hno] at f4
            have hfair := HF.out.le i k (by rw [← HN.out]; exact hlt) (by rw [← HN.out]; exact hlt2) hno
            clear hno
            obtain ⟨z, hz⟩ : ∃ z, z = t.c i k := ⟨_, rfl⟩
            rw [← hz] at f2 hfair
            have CL := Aside0.mk (fclo_any wr p7 p4 p5 r c t.n i k (u i) (v k) z K.out.1.p7 ((blk_cell K.out.1.p4 0).trans rfl) ((blk_cell K.out.1.p5 0).trans rfl) (K.out.1.r.c (by rw [← HN.out]; exact hlt)) (K.out.1.c.c (by rw [← HN.out]; exact hlt2)) (by rw [← HN.out]; exact hlt) (by rw [← HN.out]; exact hlt2) (by rw [← HN.out]; exact hn) (HU.out i (by rw [← HN.out]; exact hlt)) (HV.out k (by rw [← HN.out]; exact hlt2)) hfair)
            clear hfair hz
            go_wp2_with (go_at_call 118; refine CL.out.mono ?_; rintro _ w2 ⟨rfl, q7, q8⟩)
            go_roundw
            case measure => simp [intOf]; omega
            case rel => exact ⟨k + 1, by omega, by go_num, ⟨K.out.1.step q7 q8, K.out.2.1.trans q8, q8.blk K.out.2.2 (fun e => ty_ne K.out.2.2 K.out.1.p7 (by decide) e)⟩⟩
        · obtain rfl : k = n := by omega
          go_wp2_with fail
          go_roundw
          case measure => simp [intOf]; omega
          case rel => exact ⟨i + 1, by omega, by go_num, K⟩
    · obtain rfl : n = i := by omega
      go_wp2_with fail
      go_end0
      exact ⟨rfl, by rw [HN.out]; exact K.out.1, K.out.2.1⟩
theorem farW_ok {x : Int} (h : -549755813888 ≤ x ∧ x ≤ 549755813888) : farW x = false := by
  unfold farW
  simp
  omega
set_option maxHeartbeats 1000000 in
set_option maxRecDepth 100000 in
theorem fair_any (w : World) (AC AN : Option Addr) (cC cN : Nat) (t : Tb) (h : TabR w AC AN t) (hn : t.n ≤ 64) (r c : Nat) (u v : Nat → Int) (hr : IB w r 2 t.n u) (hc : IB w c 2 t.n v)
    (hu : ∀ i, i < t.n → -549755813888 ≤ u i ∧ u i ≤ 549755813888) (hv : ∀ i, i < t.n → -549755813888 ≤ v i ∧ v i ≤ 549755813888) (hf : Fair t.n t.c t.no u v) :
    Calls Try.prog 78 #[.agg #[.slice AC t.n cC, .slice AN t.n cN], .slice (some ⟨r, 0, none⟩) t.n t.n, .slice (some ⟨c, 0, none⟩) t.n t.n] w fun e w' => e = .returned (.bool true) ∧ Below w.heap.size w w' := by
  have hu27 := Try.underlying27
  have E := Aside0.mk (fun (W : World) (p7 p4 p5 : Nat) (hb : Below w.heap.size w W) (hx : Fx W p7 p4 p5 r c t.n u v) (hp : w.heap.size ≤ p7) => each_any w W AC AN cC cN t h hb hn p7 p4 p5 r c u v hx hp hu hv hf)
  have HR := Aside0.mk hr
  have HC := Aside0.mk hc
  obtain ⟨n, hn1⟩ : ∃ n, n = t.n := ⟨_, rfl⟩
  rw [← hn1] at E HR HC ⊢
  clear h hn hr hc hu hv hf hn1
  go_enter Try.func78, Try.ntmps78
  go_wp2_with fail
  obtain ⟨W, hW⟩ : ∃ W, W = (((w.alloc (.cells #[.slice AC n cC, .slice AN n cN] 27)).alloc (.cells #[.slice (some ⟨r, 0, none⟩) n n] 30)).alloc (.cells #[.slice (some ⟨c, 0, none⟩) n n] 30)).alloc (.cells #[.bool true] 4) := ⟨_, rfl⟩
  have B : Aside0 (Below w.heap.size w W) := ⟨by rw [hW]; exact below_alloc (below_alloc (below_alloc (below_alloc (Below.refl _ _) _) _) _) _⟩
  have X : Aside0 (Fx W (w.heap.size + 1 + 1 + 1) (w.heap.size + 1) (w.heap.size + 1 + 1) r c n u v) := ⟨by
    rw [hW]
    refine ⟨?_, ?_, ?_, blk_alloc (blk_alloc (blk_alloc (blk_alloc HR.out _) _) _) _, blk_alloc (blk_alloc (blk_alloc (blk_alloc HC.out _) _) _) _⟩
    all_goals
      simp only [al_get, al_size]
      repeat (first | rw [if_pos trivial] | rw [if_neg (by omega)])⟩
  rw [← hW]
  clear hW
  refine (E.out W (w.heap.size + 1 + 1 + 1) (w.heap.size + 1) (w.heap.size + 1 + 1) B.out X.out (by omega)).mono ?_
  rintro _ w1 ⟨rfl, X1, C1⟩
  have q1 : w1.cell? ⟨w.heap.size + 1 + 1 + 1, 0, none⟩ = some (.bool true) := (blk_cell X1.p7 0).trans rfl
  have B1 : Aside0 (Below w.heap.size w w1) := ⟨below_chg B.out C1 (by omega)⟩
  clear X1 C1
  go_wp2_with fail
  go_ret
  exact ⟨rfl, B1.out⟩
end Go.Proofs.Ytelabmhhnpfegaa.Hand
