/- Texts Mc Af, cut to what is used. -/
import Derived.Test.YtlilfgfkedlbcaaDoorYa0
import Derived.Test.YtlilfgfkedlbcaaDoorYb0
import Derived.Test.YtlilfgfkedlbcaaDoorYb2
set_option linter.unusedVariables false
set_option linter.unusedSimpArgs false
section
namespace Go.Proofs.YtlilfgfkedlbcaaDoor.Hand
open Go.RowKit Go.Proofs.YtlilfgfkedlbcaaDoorW.PrintWords Go.Proofs.YtlilfgfkedlbcaaDoorW.PrintLast Go.Proofs.YtlilfgfkedlbcaaDoorW.PrintMore Go.Proofs.YtlilfgfkedlbcaaDoor.PEvalBetter
theorem rfeas_any (w : World) (x : PI) (v : Value) (h : InstC w x v) (hx : PIok x) (hc : chk x = 0) (A : Option Addr) (m c : Nat) (ys : List Int) (hC : (Kd.int .i64).C w A m ys) (hm : m ≤ 17592186044416) (r : Bool) (RR : r = mayP x ys) :
  Calls Tryd.prog 15 #[v, .slice A m c] w fun e w' => e = .returned (.bool r) ∧ Aside0 (Below w.heap.size w w') := by
 have hk := (iok.1 hc).kind
 have h4 : x.kind = 0 ∨ x.kind = 1 ∨ x.kind = 2 ∨ x.kind = 3 := by omega
 rcases h4 with hk | hk | hk | hk
 ·exact rfeas_0 w x v h hx hc hk A m c ys hC hm r RR
 ·exact rfeas_1 w x v h hx hc hk A m c ys hC hm r RR
 ·exact rfeas_2 w x v h hx hc hk A m c ys hC hm r RR
 ·exact rfeas_3 w x v h hx hc hk A m c ys hC hm r RR
set_option maxHeartbeats 2000000 in
set_option maxRecDepth 100000 in
theorem rvalue_0 (w : World) (x : PI) (v : Value) (h : InstC w x v) (hx : PIok x) (hc : chk x = 0) (hkk : x.kind = 0) (A : Option Addr) (m c : Nat) (ys : List Int) (hC : (Kd.int .i64).C w A m ys) (hm : m ≤ 17592186044416) (z er : Int) (hz : (z, er) = valP x ys) :
  Calls Tryd.prog 12 #[v, .slice A m c] w fun e w' => e = .returned (.tuple #[.int .i64 z, .int .i64 er]) ∧ Aside0 (Below w.heap.size w w') := by
 have HZ := Aside0.mk hz
 have hi := iok.1 hc
 have HCK := Aside0.mk hc
 have HKK := Aside0.mk hkk
 have HC := Aside0.mk hC
 have HL : Aside0 (ys.length = m) := ⟨hC.1⟩
 have HIN := Aside0.mk h
 have HI := Aside0.mk hi
 have HX := Aside0.mk hx
 obtain ⟨A2, c2, A3, c3, A5, c5, rfl, h2, l2, h3, l3, h5, l5⟩ := h
 obtain ⟨n2, hn2⟩ : ∃ n, n = x.items.length := ⟨_, rfl⟩
 obtain ⟨n3, hn3⟩ : ∃ n, n = x.cost.length := ⟨_, rfl⟩
 obtain ⟨n5, hn5⟩ : ∃ n, n = x.sets.length := ⟨_, rfl⟩
 obtain ⟨kd, hkd⟩ : ∃ n, n = x.kind := ⟨_, rfl⟩
 obtain ⟨cap, hcap⟩ : ∃ n, n = x.cap := ⟨_, rfl⟩
 obtain ⟨sz, hsz⟩ : ∃ n, n = x.size := ⟨_, rfl⟩
 rw [← hn2, ← hn3, ← hn5, ← hkd, ← hcap, ← hsz] at HIN
 rw [← hn2, ← hn3, ← hn5, ← hkd, ← hcap, ← hsz]
 have HN := Aside0.mk (And.intro hn2 (And.intro hn3 hn5))
 have HF := Aside0.mk (And.intro hkd (And.intro hcap hsz))
 have H2 := Aside0.mk h2
 have H3 := Aside0.mk h3
 have H5 := Aside0.mk h5
 rw [← hn2] at H2
 rw [← hn3] at H3
 rw [← hn5] at H5
 rw [hkk] at hkd
 subst hkd
 clear h2 h3 h5 l2 l3 l5 hn2 hn3 hn5 hcap hsz hi hx hC hz hc hkk
 have hu57 := Tryd.underlying35
 have hu68 := Tryd.underlying53
 have hu103 := Tryd.underlying60
 go_enter Tryd.func12, Tryd.ntmps12
 go_upto_region 1 with fail
 obtain ⟨W1, hW1⟩ : ∃ W, W = w.alloc (.cells #[.int .i64 0, .int .i64 cap, .slice A2 n2 c2, .slice A3 n3 c3, .int .i64 sz, .slice A5 n5 c5] 35) := ⟨_, rfl⟩
 rw [← hW1]
 have B1 : Aside0 (Below w.heap.size w W1) := ⟨by rw [hW1]; exact below_alloc (Below.refl _ _) _⟩
 obtain ⟨p1, hp1⟩ : ∃ p, p = w.heap.size := ⟨_, rfl⟩
 have Q1 : Aside0 (W1.heap[p1]? = some (.cells #[.int .i64 0, .int .i64 cap, .slice A2 n2 c2, .slice A3 n3 c3, .int .i64 sz, .slice A5 n5 c5] 35 (0, 0))) := ⟨by rw [hW1, hp1]; exact heap_alloc_new _ _⟩
 rw [← hp1]
 clear hW1 hp1
 have IW : Aside0 (InstC W1 x (.agg #[.int .i64 0, .int .i64 cap, .slice A2 n2 c2, .slice A3 n3 c3, .int .i64 sz, .slice A5 n5 c5])) := ⟨HIN.out.below B1.out⟩
 obtain ⟨q0, q1, q2, q3, q4, q5, _⟩ := six Q1.out (Below.refl _ _)
 go_wp2_with fail
 refine (rcheck_any W1 x _ IW.out HX.out).mono ?_
 rintro _ w2 ⟨rfl, hb2⟩
 rw [HCK.out]
 have B2 : Aside0 (Below W1.heap.size W1 w2) := ⟨hb2⟩
 have CW : Aside0 ((Kd.int .i64).C w2 A m ys) := ⟨Kd.C_below HC.out (B1.out.trans (B2.out.mono B1.out.size))⟩
 clear hb2 q0 q1 q2 q3 q4 q5
 obtain ⟨q0, q1, q2, q3, q4, q5, _⟩ := six Q1.out B2.out
 obtain ⟨b, hb⟩ : ∃ b, b = mayP x ys := ⟨_, rfl⟩
 have HB := Aside0.mk hb
 clear hb
 go_wp2_with fail
 refine (rfeas_any w2 x _ (IW.out.below B2.out) HX.out HCK.out A m c ys CW.out hm b HB.out).mono ?_
 rintro _ w3 ⟨rfl, H3'⟩
 have B3 : Aside0 (Below W1.heap.size W1 w3) := ⟨B2.out.trans (H3'.out.mono B2.out.size)⟩
 clear q0 q1 q2 q3 q4 q5
 cases b with
 | false =>
  have E : Aside0 (z = 0 ∧ er = 12) := ⟨by
   have h1 := HZ.out
   unfold valP at h1
   rw [if_pos HCK.out, ← HB.out] at h1
   simpa using h1⟩
  go_wp2_with fail
  go_ret2
  exact ⟨by rw [E.out.1, E.out.2]; rfl, ⟨B1.out.trans (B3.out.mono B1.out.size)⟩⟩
 | true =>
  have hm4 : m ≤ 4096 := by rw [← HL.out]; exact may_bd HI.out HB.out.symm
  have HE : Aside0 (∀ k ∈ ys, 0 ≤ k ∧ k < n2) := ⟨by
   have h1 := HB.out.symm
   unfold mayP at h1
   rw [if_pos HKK.out, Bool.and_eq_true] at h1
   rw [HN.out.1]
   exact (asc_len h1.1).2⟩
  have E : Aside0 (z = sumTo m (partC x ys) ∧ er = 0) := ⟨by
   have h1 := HZ.out
   unfold valP at h1
   rw [if_pos HCK.out, ← HB.out, if_pos rfl, HL.out] at h1
   injection h1 with h2 h3
   exact ⟨h2, h3⟩⟩
  have K0 : Aside0 ((0 : Int) = sumTo 0 (partC x ys) ∧ Below W1.heap.size W1 w3) := ⟨rfl, B3.out⟩
  clear B3
  go_wp2_with fail
  go_loopw [8, 9] (fun v8 v9 wr => ∃ (j : Nat) (s : Int), j ≤ m ∧ -(2147483648 * (j : Int)) ≤ s ∧ s ≤ 2147483648 * (j : Int) ∧ v8 = .int .i64 s ∧ v9 = .int .i64 (j : Int) ∧ Aside0 (s = sumTo j (partC x ys) ∧ Below W1.heap.size W1 wr)) (fun _ v9 _ => m - (intOf v9).toNat)
  case atStart => exact ⟨0, 0, Nat.zero_le _, Int.le_refl _, Int.le_refl _, rfl, rfl, K0⟩
  case round =>
   clear K0
   obtain ⟨j, s, hj, hs0, hs1, rfl, rfl, KK⟩ := hrel
   have q0 : wr.cell? ⟨p1, 0, none⟩ = some (.int .i64 0) := (blk_cell (blk_below Q1.out KK.out.2) 0).trans rfl
   by_cases hlt : j < m
   ·have hjl : j < ys.length := by rw [HL.out]; exact hlt
    obtain ⟨ae, rfl, hx'⟩ := at_Int HC.out j hlt
    have BW : Aside0 (Below w.heap.size w wr) := ⟨B1.out.trans (KK.out.2.mono B1.out.size)⟩
    have hx := pw_cell_below BW.out hx'
    have hzr := HE.out (ys.getD j 0) (getD_mem' hjl)
    obtain ⟨q, hq⟩ : ∃ q : Nat, (q : Int) = ys.getD j 0 := ⟨(ys.getD j 0).toNat, by omega⟩
    have hqt : (ys.getD j 0).toNat = q := by omega
    rw [← hq] at hx hzr
    have hqK : q < n2 := by omega
    have hzb := part_bd HI.out HB.out.symm j hjl
    obtain ⟨ad, rfl, a0', a1'⟩ := at_T55 H2.out (q : Int) (by omega) (by omega)
    have a0 := pw_cell_below BW.out a0'
    rw [Int.toNat_natCast] at a0
    obtain ⟨t, ht⟩ : ∃ t, t = (rd_T55 x.items (q : Int)).f0 := ⟨_, rfl⟩
    rw [← ht] at a0
    have NX : Aside0 (t = partC x ys j) := ⟨by
     unfold partC
     rw [if_pos HKK.out, ht, hqt]
     unfold rd_T55
     rfl⟩
    have q2 : wr.cell? ⟨p1, 2, none⟩ = some (.slice (some ad) n2 c2) := (blk_cell (blk_below Q1.out KK.out.2) 2).trans rfl
    rw [← NX.out] at hzb
    obtain ⟨hzb0, hzb1⟩ := hzb
    have V1 : Aside0 (wrap64 (s + t) = s + t) := ⟨by unfold wrap64; omega⟩
    have N1 : Aside0 (s + t = sumTo (j + 1) (partC x ys)) := ⟨by rw [sumTo_succ, ← KK.out.1, ← NX.out]⟩
    clear hx' hzr hq hqt a0' a1' ht hjl
    go_upto_region 14 with fail
    have v1 := V1.out
    have v2 : IntKind.i64.wrap (s + t) = s + t := by rw [i64_w]; exact v1
    go_quiet (fail)
    clear v1 v2
    go_wp2_with fail
    go_roundw
    case measure => simp [intOf]; omega
    case rel => exact ⟨j + 1, s + t, by omega, by omega, by omega, rfl, by go_num, ⟨N1.out, pw_below_drewN KK.out.2 nq⟩⟩
   ·obtain rfl : m = j := by omega
    have E1 : Aside0 (s = z) := ⟨by rw [KK.out.1, E.out.1]⟩
    clear q0
    go_wp2_with fail
    go_ret2
    exact ⟨by rw [E1.out, E.out.2]; rfl, ⟨B1.out.trans (KK.out.2.mono B1.out.size)⟩⟩
set_option maxHeartbeats 2000000 in
set_option maxRecDepth 100000 in
theorem rvalue_3 (w : World) (x : PI) (v : Value) (h : InstC w x v) (hx : PIok x) (hc : chk x = 0) (hkk : x.kind = 3) (A : Option Addr) (m c : Nat) (ys : List Int) (hC : (Kd.int .i64).C w A m ys) (hm : m ≤ 17592186044416) (z er : Int) (hz : (z, er) = valP x ys) :
  Calls Tryd.prog 12 #[v, .slice A m c] w fun e w' => e = .returned (.tuple #[.int .i64 z, .int .i64 er]) ∧ Aside0 (Below w.heap.size w w') := by
 have HZ := Aside0.mk hz
 have hi := iok.1 hc
 have HCK := Aside0.mk hc
 have HKK := Aside0.mk hkk
 have HC := Aside0.mk hC
 have HL : Aside0 (ys.length = m) := ⟨hC.1⟩
 have HIN := Aside0.mk h
 have HI := Aside0.mk hi
 have HX := Aside0.mk hx
 obtain ⟨A2, c2, A3, c3, A5, c5, rfl, h2, l2, h3, l3, h5, l5⟩ := h
 obtain ⟨n2, hn2⟩ : ∃ n, n = x.items.length := ⟨_, rfl⟩
 obtain ⟨n3, hn3⟩ : ∃ n, n = x.cost.length := ⟨_, rfl⟩
 obtain ⟨n5, hn5⟩ : ∃ n, n = x.sets.length := ⟨_, rfl⟩
 obtain ⟨kd, hkd⟩ : ∃ n, n = x.kind := ⟨_, rfl⟩
 obtain ⟨cap, hcap⟩ : ∃ n, n = x.cap := ⟨_, rfl⟩
 obtain ⟨sz, hsz⟩ : ∃ n, n = x.size := ⟨_, rfl⟩
 rw [← hn2, ← hn3, ← hn5, ← hkd, ← hcap, ← hsz] at HIN
 rw [← hn2, ← hn3, ← hn5, ← hkd, ← hcap, ← hsz]
 have HN := Aside0.mk (And.intro hn2 (And.intro hn3 hn5))
 have HF := Aside0.mk (And.intro hkd (And.intro hcap hsz))
 have H2 := Aside0.mk h2
 have H3 := Aside0.mk h3
 have H5 := Aside0.mk h5
 rw [← hn2] at H2
 rw [← hn3] at H3
 rw [← hn5] at H5
 rw [hkk] at hkd
 subst hkd
 clear h2 h3 h5 l2 l3 l5 hn2 hn3 hn5 hcap hsz hi hx hC hz hc hkk
 have hu57 := Tryd.underlying35
 have hu68 := Tryd.underlying53
 have hu103 := Tryd.underlying60
 go_enter Tryd.func12, Tryd.ntmps12
 go_upto_region 1 with fail
 obtain ⟨W1, hW1⟩ : ∃ W, W = w.alloc (.cells #[.int .i64 3, .int .i64 cap, .slice A2 n2 c2, .slice A3 n3 c3, .int .i64 sz, .slice A5 n5 c5] 35) := ⟨_, rfl⟩
 rw [← hW1]
 have B1 : Aside0 (Below w.heap.size w W1) := ⟨by rw [hW1]; exact below_alloc (Below.refl _ _) _⟩
 obtain ⟨p1, hp1⟩ : ∃ p, p = w.heap.size := ⟨_, rfl⟩
 have Q1 : Aside0 (W1.heap[p1]? = some (.cells #[.int .i64 3, .int .i64 cap, .slice A2 n2 c2, .slice A3 n3 c3, .int .i64 sz, .slice A5 n5 c5] 35 (0, 0))) := ⟨by rw [hW1, hp1]; exact heap_alloc_new _ _⟩
 rw [← hp1]
 clear hW1 hp1
 have IW : Aside0 (InstC W1 x (.agg #[.int .i64 3, .int .i64 cap, .slice A2 n2 c2, .slice A3 n3 c3, .int .i64 sz, .slice A5 n5 c5])) := ⟨HIN.out.below B1.out⟩
 obtain ⟨q0, q1, q2, q3, q4, q5, _⟩ := six Q1.out (Below.refl _ _)
 go_wp2_with fail
 refine (rcheck_any W1 x _ IW.out HX.out).mono ?_
 rintro _ w2 ⟨rfl, hb2⟩
 rw [HCK.out]
 have B2 : Aside0 (Below W1.heap.size W1 w2) := ⟨hb2⟩
 have CW : Aside0 ((Kd.int .i64).C w2 A m ys) := ⟨Kd.C_below HC.out (B1.out.trans (B2.out.mono B1.out.size))⟩
 clear hb2 q0 q1 q2 q3 q4 q5
 obtain ⟨q0, q1, q2, q3, q4, q5, _⟩ := six Q1.out B2.out
 obtain ⟨b, hb⟩ : ∃ b, b = mayP x ys := ⟨_, rfl⟩
 have HB := Aside0.mk hb
 clear hb
 go_wp2_with fail
 refine (rfeas_any w2 x _ (IW.out.below B2.out) HX.out HCK.out A m c ys CW.out hm b HB.out).mono ?_
 rintro _ w3 ⟨rfl, H3'⟩
 have B3 : Aside0 (Below W1.heap.size W1 w3) := ⟨B2.out.trans (H3'.out.mono B2.out.size)⟩
 clear q0 q1 q2 q3 q4 q5
 cases b with
 | false =>
  have E : Aside0 (z = 0 ∧ er = 12) := ⟨by
   have h1 := HZ.out
   unfold valP at h1
   rw [if_pos HCK.out, ← HB.out] at h1
   simpa using h1⟩
  go_wp2_with fail
  go_ret2
  exact ⟨by rw [E.out.1, E.out.2]; rfl, ⟨B1.out.trans (B3.out.mono B1.out.size)⟩⟩
 | true =>
  have hm4 : m ≤ 4096 := by rw [← HL.out]; exact may_bd HI.out HB.out.symm
  have HE : Aside0 (∀ k ∈ ys, 0 ≤ k ∧ k < n5) := ⟨by
   have h1 := HB.out.symm
   unfold mayP at h1
   rw [if_neg (by rw [HKK.out]; decide), if_neg (by rw [HKK.out]; decide), if_neg (by rw [HKK.out]; decide), Bool.and_eq_true] at h1
   rw [HN.out.2.2]
   exact (asc_len h1.1).2⟩
  have E : Aside0 (z = sumTo m (partC x ys) ∧ er = 0) := ⟨by
   have h1 := HZ.out
   unfold valP at h1
   rw [if_pos HCK.out, ← HB.out, if_pos rfl, HL.out] at h1
   injection h1 with h2 h3
   exact ⟨h2, h3⟩⟩
  have K0 : Aside0 ((0 : Int) = sumTo 0 (partC x ys) ∧ Below W1.heap.size W1 w3) := ⟨rfl, B3.out⟩
  clear B3
  go_wp2_with fail
  go_loopw [8, 9] (fun v8 v9 wr => ∃ (j : Nat) (s : Int), j ≤ m ∧ -(2147483648 * (j : Int)) ≤ s ∧ s ≤ 2147483648 * (j : Int) ∧ v8 = .int .i64 s ∧ v9 = .int .i64 (j : Int) ∧ Aside0 (s = sumTo j (partC x ys) ∧ Below W1.heap.size W1 wr)) (fun _ v9 _ => m - (intOf v9).toNat)
  case atStart => exact ⟨0, 0, Nat.zero_le _, Int.le_refl _, Int.le_refl _, rfl, rfl, K0⟩
  case round =>
   clear K0
   obtain ⟨j, s, hj, hs0, hs1, rfl, rfl, KK⟩ := hrel
   have q0 : wr.cell? ⟨p1, 0, none⟩ = some (.int .i64 3) := (blk_cell (blk_below Q1.out KK.out.2) 0).trans rfl
   by_cases hlt : j < m
   ·have hjl : j < ys.length := by rw [HL.out]; exact hlt
    obtain ⟨ae, rfl, hx'⟩ := at_Int HC.out j hlt
    have BW : Aside0 (Below w.heap.size w wr) := ⟨B1.out.trans (KK.out.2.mono B1.out.size)⟩
    have hx := pw_cell_below BW.out hx'
    have hzr := HE.out (ys.getD j 0) (getD_mem' hjl)
    obtain ⟨q, hq⟩ : ∃ q : Nat, (q : Int) = ys.getD j 0 := ⟨(ys.getD j 0).toNat, by omega⟩
    have hqt : (ys.getD j 0).toNat = q := by omega
    rw [← hq] at hx hzr
    have hqK : q < n5 := by omega
    have hzb := part_bd HI.out HB.out.symm j hjl
    obtain ⟨ad, AE, cE, rfl, a0', a1', lE, hE⟩ := at_T59 H5.out (q : Int) (by omega) (by omega)
    have a0 := pw_cell_below BW.out a0'
    rw [Int.toNat_natCast] at a0
    obtain ⟨t, ht⟩ : ∃ t, t = (rd_T59 x.sets (q : Int)).f0 := ⟨_, rfl⟩
    rw [← ht] at a0
    have NX : Aside0 (t = partC x ys j) := ⟨by
     unfold partC
     rw [if_neg (by rw [HKK.out]; decide), if_neg (by rw [HKK.out]; decide), if_neg (by rw [HKK.out]; decide), ht, hqt]
     unfold rd_T59
     rfl⟩
    have q2 : wr.cell? ⟨p1, 5, none⟩ = some (.slice (some ad) n5 c5) := (blk_cell (blk_below Q1.out KK.out.2) 5).trans rfl
    rw [← NX.out] at hzb
    obtain ⟨hzb0, hzb1⟩ := hzb
    have V1 : Aside0 (wrap64 (s + t) = s + t) := ⟨by unfold wrap64; omega⟩
    have N1 : Aside0 (s + t = sumTo (j + 1) (partC x ys)) := ⟨by rw [sumTo_succ, ← KK.out.1, ← NX.out]⟩
    clear hx' hzr hq hqt a0' a1' ht hjl hE lE
    go_upto_region 12 with fail
    have v1 := V1.out
    have v2 : IntKind.i64.wrap (s + t) = s + t := by rw [i64_w]; exact v1
    go_quiet (fail)
    clear v1 v2
    go_wp2_with fail
    go_roundw
    case measure => simp [intOf]; omega
    case rel => exact ⟨j + 1, s + t, by omega, by omega, by omega, rfl, by go_num, ⟨N1.out, pw_below_drewN KK.out.2 nq⟩⟩
   ·obtain rfl : m = j := by omega
    have E1 : Aside0 (s = z) := ⟨by rw [KK.out.1, E.out.1]⟩
    clear q0
    go_wp2_with fail
    go_ret2
    exact ⟨by rw [E1.out, E.out.2]; rfl, ⟨B1.out.trans (KK.out.2.mono B1.out.size)⟩⟩
set_option maxHeartbeats 2000000 in
set_option maxRecDepth 100000 in
theorem rvalue_1 (w : World) (x : PI) (v : Value) (h : InstC w x v) (hx : PIok x) (hc : chk x = 0) (hkk : x.kind = 1) (A : Option Addr) (m c : Nat) (ys : List Int) (hC : (Kd.int .i64).C w A m ys) (hm : m ≤ 17592186044416) (z er : Int) (hz : (z, er) = valP x ys) :
  Calls Tryd.prog 12 #[v, .slice A m c] w fun e w' => e = .returned (.tuple #[.int .i64 z, .int .i64 er]) ∧ Aside0 (Below w.heap.size w w') := by
 have HZ := Aside0.mk hz
 have hi := iok.1 hc
 have HCK := Aside0.mk hc
 have HKK := Aside0.mk hkk
 have HC := Aside0.mk hC
 have HL : Aside0 (ys.length = m) := ⟨hC.1⟩
 have HIN := Aside0.mk h
 have HI := Aside0.mk hi
 have HX := Aside0.mk hx
 obtain ⟨A2, c2, A3, c3, A5, c5, rfl, h2, l2, h3, l3, h5, l5⟩ := h
 obtain ⟨n2, hn2⟩ : ∃ n, n = x.items.length := ⟨_, rfl⟩
 obtain ⟨n3, hn3⟩ : ∃ n, n = x.cost.length := ⟨_, rfl⟩
 obtain ⟨n5, hn5⟩ : ∃ n, n = x.sets.length := ⟨_, rfl⟩
 obtain ⟨kd, hkd⟩ : ∃ n, n = x.kind := ⟨_, rfl⟩
 obtain ⟨cap, hcap⟩ : ∃ n, n = x.cap := ⟨_, rfl⟩
 obtain ⟨sz, hsz⟩ : ∃ n, n = x.size := ⟨_, rfl⟩
 rw [← hn2, ← hn3, ← hn5, ← hkd, ← hcap, ← hsz] at HIN
 rw [← hn2, ← hn3, ← hn5, ← hkd, ← hcap, ← hsz]
 have HN := Aside0.mk (And.intro hn2 (And.intro hn3 hn5))
 have HF := Aside0.mk (And.intro hkd (And.intro hcap hsz))
 have H2 := Aside0.mk h2
 have H3 := Aside0.mk h3
 have H5 := Aside0.mk h5
 rw [← hn2] at H2
 rw [← hn3] at H3
 rw [← hn5] at H5
 rw [hkk] at hkd
 subst hkd
 clear h2 h3 h5 l2 l3 l5 hn2 hn3 hn5 hcap hsz hi hx hC hz hc hkk
 have hu57 := Tryd.underlying35
 have hu68 := Tryd.underlying53
 have hu103 := Tryd.underlying60
 go_enter Tryd.func12, Tryd.ntmps12
 go_upto_region 1 with fail
 obtain ⟨W1, hW1⟩ : ∃ W, W = w.alloc (.cells #[.int .i64 1, .int .i64 cap, .slice A2 n2 c2, .slice A3 n3 c3, .int .i64 sz, .slice A5 n5 c5] 35) := ⟨_, rfl⟩
 rw [← hW1]
 have B1 : Aside0 (Below w.heap.size w W1) := ⟨by rw [hW1]; exact below_alloc (Below.refl _ _) _⟩
 obtain ⟨p1, hp1⟩ : ∃ p, p = w.heap.size := ⟨_, rfl⟩
 have Q1 : Aside0 (W1.heap[p1]? = some (.cells #[.int .i64 1, .int .i64 cap, .slice A2 n2 c2, .slice A3 n3 c3, .int .i64 sz, .slice A5 n5 c5] 35 (0, 0))) := ⟨by rw [hW1, hp1]; exact heap_alloc_new _ _⟩
 rw [← hp1]
 clear hW1 hp1
 have IW : Aside0 (InstC W1 x (.agg #[.int .i64 1, .int .i64 cap, .slice A2 n2 c2, .slice A3 n3 c3, .int .i64 sz, .slice A5 n5 c5])) := ⟨HIN.out.below B1.out⟩
 obtain ⟨q0, q1, q2, q3, q4, q5, _⟩ := six Q1.out (Below.refl _ _)
 go_wp2_with fail
 refine (rcheck_any W1 x _ IW.out HX.out).mono ?_
 rintro _ w2 ⟨rfl, hb2⟩
 rw [HCK.out]
 have B2 : Aside0 (Below W1.heap.size W1 w2) := ⟨hb2⟩
 have CW : Aside0 ((Kd.int .i64).C w2 A m ys) := ⟨Kd.C_below HC.out (B1.out.trans (B2.out.mono B1.out.size))⟩
 clear hb2 q0 q1 q2 q3 q4 q5
 obtain ⟨q0, q1, q2, q3, q4, q5, _⟩ := six Q1.out B2.out
 obtain ⟨b, hb⟩ : ∃ b, b = mayP x ys := ⟨_, rfl⟩
 have HB := Aside0.mk hb
 clear hb
 go_wp2_with fail
 refine (rfeas_any w2 x _ (IW.out.below B2.out) HX.out HCK.out A m c ys CW.out hm b HB.out).mono ?_
 rintro _ w3 ⟨rfl, H3'⟩
 have B3 : Aside0 (Below W1.heap.size W1 w3) := ⟨B2.out.trans (H3'.out.mono B2.out.size)⟩
 clear q0 q1 q2 q3 q4 q5
 cases b with
 | false =>
  have E : Aside0 (z = 0 ∧ er = 12) := ⟨by
   have h1 := HZ.out
   unfold valP at h1
   rw [if_pos HCK.out, ← HB.out] at h1
   simpa using h1⟩
  go_wp2_with fail
  go_ret2
  exact ⟨by rw [E.out.1, E.out.2]; rfl, ⟨B1.out.trans (B3.out.mono B1.out.size)⟩⟩
 | true =>
  have hm4 : m ≤ 4096 := by rw [← HL.out]; exact may_bd HI.out HB.out.symm
  have HE : Aside0 (∀ k ∈ ys, 0 ≤ k ∧ k < n3) := ⟨by
   have h1 := HB.out.symm
   unfold mayP at h1
   rw [if_neg (by rw [HKK.out]; decide), if_pos HKK.out] at h1
   rw [HN.out.2.1]
   exact (ord_in h1).2.2⟩
  have hmn : m ≤ n3 := by
   have h1 := HB.out.symm
   unfold mayP at h1
   rw [if_neg (by rw [HKK.out]; decide), if_pos HKK.out] at h1
   rw [HN.out.2.1, ← HL.out, (ord_in h1).1]
   exact Nat.le_refl _
  have E : Aside0 (z = sumTo m (partC x ys) ∧ er = 0) := ⟨by
   have h1 := HZ.out
   unfold valP at h1
   rw [if_pos HCK.out, ← HB.out, if_pos rfl, HL.out] at h1
   injection h1 with h2 h3
   exact ⟨h2, h3⟩⟩
  have K0 : Aside0 ((0 : Int) = sumTo 0 (partC x ys) ∧ Below W1.heap.size W1 w3) := ⟨rfl, B3.out⟩
  clear B3
  go_wp2_with fail
  go_loopw [8, 9] (fun v8 v9 wr => ∃ (j : Nat) (s : Int), j ≤ m ∧ -(2147483648 * (j : Int)) ≤ s ∧ s ≤ 2147483648 * (j : Int) ∧ v8 = .int .i64 s ∧ v9 = .int .i64 (j : Int) ∧ Aside0 (s = sumTo j (partC x ys) ∧ Below W1.heap.size W1 wr)) (fun _ v9 _ => m - (intOf v9).toNat)
  case atStart => exact ⟨0, 0, Nat.zero_le _, Int.le_refl _, Int.le_refl _, rfl, rfl, K0⟩
  case round =>
   clear K0
   obtain ⟨j, s, hj, hs0, hs1, rfl, rfl, KK⟩ := hrel
   have q0 : wr.cell? ⟨p1, 0, none⟩ = some (.int .i64 1) := (blk_cell (blk_below Q1.out KK.out.2) 0).trans rfl
   by_cases hlt : j < m
   ·have hjl : j < ys.length := by rw [HL.out]; exact hlt
    obtain ⟨ae, rfl, hx'⟩ := at_Int HC.out j hlt
    have BW : Aside0 (Below w.heap.size w wr) := ⟨B1.out.trans (KK.out.2.mono B1.out.size)⟩
    have hx := pw_cell_below BW.out hx'
    have hzr := HE.out (ys.getD j 0) (getD_mem' hjl)
    obtain ⟨q, hq⟩ : ∃ q : Nat, (q : Int) = ys.getD j 0 := ⟨(ys.getD j 0).toNat, by omega⟩
    have hqt : (ys.getD j 0).toNat = q := by omega
    rw [← hq] at hx hzr
    have hqK : q < n3 := by omega
    have hzb := part_bd HI.out HB.out.symm j hjl
    obtain ⟨ar, AY, cY, rfl, y0', ly, hy⟩ := at_L2 H3.out (j : Int) (by omega) (by omega)
    have hrl : (rd_L2 x.cost (j : Int)).length = n3 := by
     unfold rd_L2
     rw [Int.toNat_natCast, List.getD_eq_getElem?_getD, List.getElem?_eq_getElem (by rw [← HN.out.2.1]; omega), Option.getD_some]
     exact (HI.out.rows _ (List.getElem_mem _)).trans HN.out.2.1.symm
    rw [hrl] at y0' hy
    obtain ⟨aY, rfl, y1'⟩ := at_Int hy q (by omega)
    have y0 := pw_cell_below BW.out y0'
    have y1 := pw_cell_below BW.out y1'
    rw [Int.toNat_natCast] at y0
    obtain ⟨t, ht⟩ : ∃ t, t = (rd_L2 x.cost (j : Int)).getD q 0 := ⟨_, rfl⟩
    rw [← ht] at y1
    have NX : Aside0 (t = partC x ys j) := ⟨by
     unfold partC
     rw [if_neg (by rw [HKK.out]; decide), if_pos HKK.out, ht, hqt]
     unfold rd_L2 cstA
     rfl⟩
    have q2 : wr.cell? ⟨p1, 3, none⟩ = some (.slice (some ar) n3 c3) := (blk_cell (blk_below Q1.out KK.out.2) 3).trans rfl
    rw [← NX.out] at hzb
    obtain ⟨hzb0, hzb1⟩ := hzb
    have V1 : Aside0 (wrap64 (s + t) = s + t) := ⟨by unfold wrap64; omega⟩
    have N1 : Aside0 (s + t = sumTo (j + 1) (partC x ys)) := ⟨by rw [sumTo_succ, ← KK.out.1, ← NX.out]⟩
    clear hx' hzr hq hqt y0' y1' ht hjl hy ly hrl
    go_upto_region 16 with fail
    have v1 := V1.out
    have v2 : IntKind.i64.wrap (s + t) = s + t := by rw [i64_w]; exact v1
    go_quiet (fail)
    clear v1 v2
    go_wp2_with fail
    go_roundw
    case measure => simp [intOf]; omega
    case rel => exact ⟨j + 1, s + t, by omega, by omega, by omega, rfl, by go_num, ⟨N1.out, pw_below_drewN KK.out.2 nq⟩⟩
   ·obtain rfl : m = j := by omega
    have E1 : Aside0 (s = z) := ⟨by rw [KK.out.1, E.out.1]⟩
    clear q0
    go_wp2_with fail
    go_ret2
    exact ⟨by rw [E1.out, E.out.2]; rfl, ⟨B1.out.trans (KK.out.2.mono B1.out.size)⟩⟩
set_option maxHeartbeats 2000000 in
set_option maxRecDepth 100000 in
theorem rvalue_2 (w : World) (x : PI) (v : Value) (h : InstC w x v) (hx : PIok x) (hc : chk x = 0) (hkk : x.kind = 2) (A : Option Addr) (m c : Nat) (ys : List Int) (hC : (Kd.int .i64).C w A m ys) (hm : m ≤ 17592186044416) (z er : Int) (hz : (z, er) = valP x ys) :
  Calls Tryd.prog 12 #[v, .slice A m c] w fun e w' => e = .returned (.tuple #[.int .i64 z, .int .i64 er]) ∧ Aside0 (Below w.heap.size w w') := by
 have HZ := Aside0.mk hz
 have hi := iok.1 hc
 have HCK := Aside0.mk hc
 have HKK := Aside0.mk hkk
 have HC := Aside0.mk hC
 have HL : Aside0 (ys.length = m) := ⟨hC.1⟩
 have HIN := Aside0.mk h
 have HI := Aside0.mk hi
 have HX := Aside0.mk hx
 obtain ⟨A2, c2, A3, c3, A5, c5, rfl, h2, l2, h3, l3, h5, l5⟩ := h
 obtain ⟨n2, hn2⟩ : ∃ n, n = x.items.length := ⟨_, rfl⟩
 obtain ⟨n3, hn3⟩ : ∃ n, n = x.cost.length := ⟨_, rfl⟩
 obtain ⟨n5, hn5⟩ : ∃ n, n = x.sets.length := ⟨_, rfl⟩
 obtain ⟨kd, hkd⟩ : ∃ n, n = x.kind := ⟨_, rfl⟩
 obtain ⟨cap, hcap⟩ : ∃ n, n = x.cap := ⟨_, rfl⟩
 obtain ⟨sz, hsz⟩ : ∃ n, n = x.size := ⟨_, rfl⟩
 rw [← hn2, ← hn3, ← hn5, ← hkd, ← hcap, ← hsz] at HIN
 rw [← hn2, ← hn3, ← hn5, ← hkd, ← hcap, ← hsz]
 have HN := Aside0.mk (And.intro hn2 (And.intro hn3 hn5))
 have HF := Aside0.mk (And.intro hkd (And.intro hcap hsz))
 have H2 := Aside0.mk h2
 have H3 := Aside0.mk h3
 have H5 := Aside0.mk h5
 rw [← hn2] at H2
 rw [← hn3] at H3
 rw [← hn5] at H5
 rw [hkk] at hkd
 subst hkd
 clear h2 h3 h5 l2 l3 l5 hn2 hn3 hn5 hcap hsz hi hx hC hz hc hkk
 have hu57 := Tryd.underlying35
 have hu68 := Tryd.underlying53
 have hu103 := Tryd.underlying60
 go_enter Tryd.func12, Tryd.ntmps12
 go_upto_region 1 with fail
 obtain ⟨W1, hW1⟩ : ∃ W, W = w.alloc (.cells #[.int .i64 2, .int .i64 cap, .slice A2 n2 c2, .slice A3 n3 c3, .int .i64 sz, .slice A5 n5 c5] 35) := ⟨_, rfl⟩
 rw [← hW1]
 have B1 : Aside0 (Below w.heap.size w W1) := ⟨by rw [hW1]; exact below_alloc (Below.refl _ _) _⟩
 obtain ⟨p1, hp1⟩ : ∃ p, p = w.heap.size := ⟨_, rfl⟩
 have Q1 : Aside0 (W1.heap[p1]? = some (.cells #[.int .i64 2, .int .i64 cap, .slice A2 n2 c2, .slice A3 n3 c3, .int .i64 sz, .slice A5 n5 c5] 35 (0, 0))) := ⟨by rw [hW1, hp1]; exact heap_alloc_new _ _⟩
 rw [← hp1]
 clear hW1 hp1
 have IW : Aside0 (InstC W1 x (.agg #[.int .i64 2, .int .i64 cap, .slice A2 n2 c2, .slice A3 n3 c3, .int .i64 sz, .slice A5 n5 c5])) := ⟨HIN.out.below B1.out⟩
 obtain ⟨q0, q1, q2, q3, q4, q5, _⟩ := six Q1.out (Below.refl _ _)
 go_wp2_with fail
 refine (rcheck_any W1 x _ IW.out HX.out).mono ?_
 rintro _ w2 ⟨rfl, hb2⟩
 rw [HCK.out]
 have B2 : Aside0 (Below W1.heap.size W1 w2) := ⟨hb2⟩
 have CW : Aside0 ((Kd.int .i64).C w2 A m ys) := ⟨Kd.C_below HC.out (B1.out.trans (B2.out.mono B1.out.size))⟩
 clear hb2 q0 q1 q2 q3 q4 q5
 obtain ⟨q0, q1, q2, q3, q4, q5, _⟩ := six Q1.out B2.out
 obtain ⟨b, hb⟩ : ∃ b, b = mayP x ys := ⟨_, rfl⟩
 have HB := Aside0.mk hb
 clear hb
 go_wp2_with fail
 refine (rfeas_any w2 x _ (IW.out.below B2.out) HX.out HCK.out A m c ys CW.out hm b HB.out).mono ?_
 rintro _ w3 ⟨rfl, H3'⟩
 have B3 : Aside0 (Below W1.heap.size W1 w3) := ⟨B2.out.trans (H3'.out.mono B2.out.size)⟩
 clear q0 q1 q2 q3 q4 q5
 cases b with
 | false =>
  have E : Aside0 (z = 0 ∧ er = 12) := ⟨by
   have h1 := HZ.out
   unfold valP at h1
   rw [if_pos HCK.out, ← HB.out] at h1
   simpa using h1⟩
  go_wp2_with fail
  go_ret2
  exact ⟨by rw [E.out.1, E.out.2]; rfl, ⟨B1.out.trans (B3.out.mono B1.out.size)⟩⟩
 | true =>
  have hm4 : m ≤ 4096 := by rw [← HL.out]; exact may_bd HI.out HB.out.symm
  have HE : Aside0 (∀ k ∈ ys, 0 ≤ k ∧ k < n3) := ⟨by
   have h1 := HB.out.symm
   unfold mayP at h1
   rw [if_neg (by rw [HKK.out]; decide), if_neg (by rw [HKK.out]; decide), if_pos HKK.out, Bool.and_eq_true] at h1
   rw [HN.out.2.1]
   exact (ord_in h1.1).2.2⟩
  have Y0 : Aside0 ((ys.getD 0 0).toNat = 0) := ⟨by
   have h1 := HB.out.symm
   unfold mayP at h1
   rw [if_neg (by rw [HKK.out]; decide), if_neg (by rw [HKK.out]; decide), if_pos HKK.out, Bool.and_eq_true, decide_eq_true_eq] at h1
   rw [h1.2]
   rfl⟩
  have E : Aside0 (z = sumTo m (partC x ys) ∧ er = 0) := ⟨by
   have h1 := HZ.out
   unfold valP at h1
   rw [if_pos HCK.out, ← HB.out, if_pos rfl, HL.out] at h1
   injection h1 with h2 h3
   exact ⟨h2, h3⟩⟩
  have K0 : Aside0 ((0 : Int) = sumTo 0 (partC x ys) ∧ Below W1.heap.size W1 w3) := ⟨rfl, B3.out⟩
  clear B3
  go_wp2_with fail
  go_loopw [8, 9] (fun v8 v9 wr => ∃ (j : Nat) (s : Int), j ≤ m ∧ -(2147483648 * (j : Int)) ≤ s ∧ s ≤ 2147483648 * (j : Int) ∧ v8 = .int .i64 s ∧ v9 = .int .i64 (j : Int) ∧ Aside0 (s = sumTo j (partC x ys) ∧ Below W1.heap.size W1 wr)) (fun _ v9 _ => m - (intOf v9).toNat)
  case atStart => exact ⟨0, 0, Nat.zero_le _, Int.le_refl _, Int.le_refl _, rfl, rfl, K0⟩
  case round =>
   clear K0
   obtain ⟨j, s, hj, hs0, hs1, rfl, rfl, KK⟩ := hrel
   have q0 : wr.cell? ⟨p1, 0, none⟩ = some (.int .i64 2) := (blk_cell (blk_below Q1.out KK.out.2) 0).trans rfl
   by_cases hlt : j < m
   ·have hjl : j < ys.length := by rw [HL.out]; exact hlt
    obtain ⟨ae, rfl, hx'⟩ := at_Int HC.out j hlt
    have BW : Aside0 (Below w.heap.size w wr) := ⟨B1.out.trans (KK.out.2.mono B1.out.size)⟩
    have hx := pw_cell_below BW.out hx'
    have hzr := HE.out (ys.getD j 0) (getD_mem' hjl)
    obtain ⟨q, hq⟩ : ∃ q : Nat, (q : Int) = ys.getD j 0 := ⟨(ys.getD j 0).toNat, by omega⟩
    have hqt : (ys.getD j 0).toNat = q := by omega
    rw [← hq] at hx hzr
    have hqK : q < n3 := by omega
    have hzb := part_bd HI.out HB.out.symm j hjl
    by_cases hl1 : j + 1 < m
    ·have hj2l : j + 1 < ys.length := by rw [HL.out]; exact hl1
     obtain ⟨j3, hj3⟩ : ∃ j3, j3 = j + 1 := ⟨_, rfl⟩
     have e1 : (j : Int) + 1 = (j3 : Int) := by omega
     have E2 : Aside0 (wrap64 ((j : Int) + 1) = (j3 : Int)) := ⟨by unfold wrap64; omega⟩
     obtain ⟨ae', e', hx2'⟩ := at_Int HC.out (j + 1) hl1
     injection e' with e'
     subst e'
     have hx2 := pw_cell_below BW.out hx2'
     have hzr2 := HE.out (ys.getD (j + 1) 0) (getD_mem' hj2l)
     obtain ⟨q', hq'⟩ : ∃ q' : Nat, (q' : Int) = ys.getD (j + 1) 0 := ⟨(ys.getD (j + 1) 0).toNat, by omega⟩
     have hqt2 : (ys.getD (j + 1) 0).toNat = q' := by omega
     rw [← hq'] at hx2 hzr2
     rw [← hj3] at hx2
     have hl3 : j3 < m := by rw [hj3]; exact hl1
     have hqK2 : q' < n3 := by omega
     have hmod : (j + 1) % m = j + 1 := Nat.mod_eq_of_lt hl1
     obtain ⟨ar, AY, cY, rfl, y0', ly, hy⟩ := at_L2 H3.out (q : Int) (by omega) (by omega)
     have hrl : (rd_L2 x.cost (q : Int)).length = n3 := by
      unfold rd_L2
      rw [Int.toNat_natCast, List.getD_eq_getElem?_getD, List.getElem?_eq_getElem (by rw [← HN.out.2.1]; omega), Option.getD_some]
      exact (HI.out.rows _ (List.getElem_mem _)).trans HN.out.2.1.symm
     rw [hrl] at y0' hy
     obtain ⟨aY, rfl, y1'⟩ := at_Int hy q' (by omega)
     have y0 := pw_cell_below BW.out y0'
     have y1 := pw_cell_below BW.out y1'
     rw [Int.toNat_natCast] at y0
     obtain ⟨t, ht⟩ : ∃ t, t = (rd_L2 x.cost (q : Int)).getD q' 0 := ⟨_, rfl⟩
     rw [← ht] at y1
     have NX : Aside0 (t = partC x ys j) := ⟨by
      unfold partC
      rw [if_neg (by rw [HKK.out]; decide), if_neg (by rw [HKK.out]; decide), if_pos HKK.out, ht, hqt, HL.out, hmod, hqt2]
      unfold rd_L2 cstA
      rfl⟩
     have q2 : wr.cell? ⟨p1, 3, none⟩ = some (.slice (some ar) n3 c3) := (blk_cell (blk_below Q1.out KK.out.2) 3).trans rfl
     rw [← NX.out] at hzb
     obtain ⟨hzb0, hzb1⟩ := hzb
     have V1 : Aside0 (wrap64 (s + t) = s + t) := ⟨by unfold wrap64; omega⟩
     have N1 : Aside0 (s + t = sumTo (j + 1) (partC x ys)) := ⟨by rw [sumTo_succ, ← KK.out.1, ← NX.out]⟩
     clear hx' hzr hq hqt y0' y1' ht hjl hy ly hrl hx2' hzr2 hq' hqt2 hj2l hmod hj3 hl1
     have e2 := E2.out
     go_upto_region 21 with fail
     clear e1 e2
     have v1 := V1.out
     have v2 : IntKind.i64.wrap (s + t) = s + t := by rw [i64_w]; exact v1
     go_quiet (fail)
     clear v1 v2
     go_wp2_with fail
     go_roundw
     case measure => simp [intOf]; omega
     case rel => exact ⟨j + 1, s + t, by omega, by omega, by omega, rfl, by go_num, ⟨N1.out, pw_below_drewN KK.out.2 nq⟩⟩
    ·have hmod : (j + 1) % m = 0 := by
      have : j + 1 = m := by omega
      rw [this]
      exact Nat.mod_self m
     have hn0 : 0 < n3 := by omega
     obtain ⟨ar, AY, cY, rfl, y0', ly, hy⟩ := at_L2 H3.out (q : Int) (by omega) (by omega)
     have hrl : (rd_L2 x.cost (q : Int)).length = n3 := by
      unfold rd_L2
      rw [Int.toNat_natCast, List.getD_eq_getElem?_getD, List.getElem?_eq_getElem (by rw [← HN.out.2.1]; omega), Option.getD_some]
      exact (HI.out.rows _ (List.getElem_mem _)).trans HN.out.2.1.symm
     rw [hrl] at y0' hy
     obtain ⟨aY, rfl, y1'⟩ := at_Int hy 0 (by omega)
     have y0 := pw_cell_below BW.out y0'
     have y1 := pw_cell_below BW.out y1'
     rw [Int.toNat_natCast] at y0
     obtain ⟨t, ht⟩ : ∃ t, t = (rd_L2 x.cost (q : Int)).getD 0 0 := ⟨_, rfl⟩
     rw [← ht] at y1
     have NX : Aside0 (t = partC x ys j) := ⟨by
      unfold partC
      rw [if_neg (by rw [HKK.out]; decide), if_neg (by rw [HKK.out]; decide), if_pos HKK.out, ht, hqt, HL.out, hmod, Y0.out]
      unfold rd_L2 cstA
      rfl⟩
     have y2 : wr.cell? aY = some (.int .i64 t) := y1
     have q2 : wr.cell? ⟨p1, 3, none⟩ = some (.slice (some ar) n3 c3) := (blk_cell (blk_below Q1.out KK.out.2) 3).trans rfl
     rw [← NX.out] at hzb
     obtain ⟨hzb0, hzb1⟩ := hzb
     have V1 : Aside0 (wrap64 (s + t) = s + t) := ⟨by unfold wrap64; omega⟩
     have N1 : Aside0 (s + t = sumTo (j + 1) (partC x ys)) := ⟨by rw [sumTo_succ, ← KK.out.1, ← NX.out]⟩
     clear hx' hzr hq hqt y0' y1' ht hjl hy ly hrl hmod
     go_upto_region 21 with fail
     have v1 := V1.out
     have v2 : IntKind.i64.wrap (s + t) = s + t := by rw [i64_w]; exact v1
     go_quiet (fail)
     clear v1 v2
     go_wp2_with fail
     go_roundw
     case measure => simp [intOf]; omega
     case rel => exact ⟨j + 1, s + t, by omega, by omega, by omega, rfl, by go_num, ⟨N1.out, pw_below_drewN KK.out.2 nq⟩⟩
   ·obtain rfl : m = j := by omega
    have E1 : Aside0 (s = z) := ⟨by rw [KK.out.1, E.out.1]⟩
    clear q0
    go_wp2_with fail
    go_ret2
    exact ⟨by rw [E1.out, E.out.2]; rfl, ⟨B1.out.trans (KK.out.2.mono B1.out.size)⟩⟩
set_option maxHeartbeats 2000000 in
set_option maxRecDepth 100000 in
theorem rvalue_no (w : World) (x : PI) (v : Value) (h : InstC w x v) (hx : PIok x) (ck : Int) (hck : ck = chk x) (hc : ck ≠ 0) (V : Value) :
  Calls Tryd.prog 12 #[v, V] w fun e w' => e = .returned (.tuple #[.int .i64 0, .int .i64 ck]) ∧ Aside0 (Below w.heap.size w w') := by
 have HIN := Aside0.mk h
 have HX := Aside0.mk hx
 have HK := Aside0.mk hck
 obtain ⟨A2, c2, A3, c3, A5, c5, rfl, h2, l2, h3, l3, h5, l5⟩ := h
 obtain ⟨n2, hn2⟩ : ∃ n, n = x.items.length := ⟨_, rfl⟩
 obtain ⟨n3, hn3⟩ : ∃ n, n = x.cost.length := ⟨_, rfl⟩
 obtain ⟨n5, hn5⟩ : ∃ n, n = x.sets.length := ⟨_, rfl⟩
 obtain ⟨kd, hkd⟩ : ∃ n, n = x.kind := ⟨_, rfl⟩
 obtain ⟨cap, hcap⟩ : ∃ n, n = x.cap := ⟨_, rfl⟩
 obtain ⟨sz, hsz⟩ : ∃ n, n = x.size := ⟨_, rfl⟩
 rw [← hn2, ← hn3, ← hn5, ← hkd, ← hcap, ← hsz] at HIN
 rw [← hn2, ← hn3, ← hn5, ← hkd, ← hcap, ← hsz]
 have g : (ck != 0) = true := by rw [bne_iff_ne]; exact hc
 clear h2 h3 h5 l2 l3 l5 hn2 hn3 hn5 hkd hcap hsz hx hck hc
 have hu57 := Tryd.underlying35
 go_enter Tryd.func12, Tryd.ntmps12
 go_upto_region 1 with fail
 obtain ⟨W1, hW1⟩ : ∃ W, W = w.alloc (.cells #[.int .i64 kd, .int .i64 cap, .slice A2 n2 c2, .slice A3 n3 c3, .int .i64 sz, .slice A5 n5 c5] 35) := ⟨_, rfl⟩
 rw [← hW1]
 have B1 : Aside0 (Below w.heap.size w W1) := ⟨by rw [hW1]; exact below_alloc (Below.refl _ _) _⟩
 obtain ⟨p1, hp1⟩ : ∃ p, p = w.heap.size := ⟨_, rfl⟩
 have Q1 : Aside0 (W1.heap[p1]? = some (.cells #[.int .i64 kd, .int .i64 cap, .slice A2 n2 c2, .slice A3 n3 c3, .int .i64 sz, .slice A5 n5 c5] 35 (0, 0))) := ⟨by rw [hW1, hp1]; exact heap_alloc_new _ _⟩
 rw [← hp1]
 clear hW1 hp1
 have IW : Aside0 (InstC W1 x (.agg #[.int .i64 kd, .int .i64 cap, .slice A2 n2 c2, .slice A3 n3 c3, .int .i64 sz, .slice A5 n5 c5])) := ⟨HIN.out.below B1.out⟩
 obtain ⟨q0, q1, q2, q3, q4, q5, _⟩ := six Q1.out (Below.refl _ _)
 go_wp2_with fail
 refine (rcheck_any W1 x _ IW.out HX.out).mono ?_
 rintro _ w2 ⟨rfl, hb2⟩
 rw [← HK.out]
 clear q0 q1 q2 q3 q4 q5
 go_wp2_with fail
 go_ret2
 exact ⟨rfl, ⟨B1.out.trans (hb2.mono B1.out.size)⟩⟩
theorem rvalue_any (w : World) (x : PI) (v : Value) (h : InstC w x v) (hx : PIok x) (A : Option Addr) (m c : Nat) (ys : List Int) (hC : (Kd.int .i64).C w A m ys) (hm : m ≤ 17592186044416) (z er : Int) (hz : (z, er) = valP x ys) :
  Calls Tryd.prog 12 #[v, .slice A m c] w fun e w' => e = .returned (.tuple #[.int .i64 z, .int .i64 er]) ∧ Aside0 (Below w.heap.size w w') := by
 by_cases hc : chk x = 0
 ·have hk := (iok.1 hc).kind
  have h4 : x.kind = 0 ∨ x.kind = 1 ∨ x.kind = 2 ∨ x.kind = 3 := by omega
  rcases h4 with hk | hk | hk | hk
  ·exact rvalue_0 w x v h hx hc hk A m c ys hC hm z er hz
  ·exact rvalue_1 w x v h hx hc hk A m c ys hC hm z er hz
  ·exact rvalue_2 w x v h hx hc hk A m c ys hC hm z er hz
  ·exact rvalue_3 w x v h hx hc hk A m c ys hC hm z er hz
 ·unfold valP at hz
  rw [if_neg hc] at hz
  injection hz with h1 h2
  subst h1
  exact rvalue_no w x v h hx er h2 (by rw [h2]; exact hc) _
set_option maxHeartbeats 1000000 in
set_option maxRecDepth 100000 in
theorem rcost_any (w : World) (x : PI) (v : Value) (h : InstC w x v) (hx : PIok x) (A : Option Addr) (m c : Nat) (ys : List Int) (hC : (Kd.int .i64).C w A m ys) (hm : m ≤ 17592186044416) (z er : Int) (hz : (z, er) = cosP x ys) :
  Calls Tryd.prog 13 #[v, .slice A m c] w fun e w' => e = .returned (.tuple #[.int .i64 z, .int .i64 er]) ∧ Aside0 (Below w.heap.size w w') := by
 have HC := Aside0.mk hC
 have HIN := Aside0.mk h
 have HX := Aside0.mk hx
 obtain ⟨u, hu⟩ : ∃ u, u = (valP x ys).1 := ⟨_, rfl⟩
 obtain ⟨r, hr⟩ : ∃ r, r = (valP x ys).2 := ⟨_, rfl⟩
 have HV : Aside0 ((u, r) = valP x ys) := ⟨by rw [hu, hr]⟩
 have hub : -8796093022208 ≤ u ∧ u ≤ 8796093022208 := by rw [hu]; exact val_bd
 have HZ : Aside0 (z = (if x.kind = 0 then -u else u) ∧ er = r) := ⟨by
  unfold cosP at hz
  rw [← hu, ← hr] at hz
  injection hz with h1 h2
  exact ⟨h1, h2⟩⟩
 obtain ⟨A2, c2, A3, c3, A5, c5, rfl, h2, l2, h3, l3, h5, l5⟩ := h
 obtain ⟨n2, hn2⟩ : ∃ n, n = x.items.length := ⟨_, rfl⟩
 obtain ⟨n3, hn3⟩ : ∃ n, n = x.cost.length := ⟨_, rfl⟩
 obtain ⟨n5, hn5⟩ : ∃ n, n = x.sets.length := ⟨_, rfl⟩
 obtain ⟨kd, hkd⟩ : ∃ n, n = x.kind := ⟨_, rfl⟩
 obtain ⟨cap, hcap⟩ : ∃ n, n = x.cap := ⟨_, rfl⟩
 obtain ⟨sz, hsz⟩ : ∃ n, n = x.size := ⟨_, rfl⟩
 rw [← hn2, ← hn3, ← hn5, ← hkd, ← hcap, ← hsz] at HIN
 rw [← hn2, ← hn3, ← hn5, ← hkd, ← hcap, ← hsz]
 have HF := Aside0.mk hkd
 obtain ⟨ub0, ub1⟩ := hub
 clear h2 h3 h5 l2 l3 l5 hn2 hn3 hn5 hkd hcap hsz hx hC hz hu hr
 have hu57 := Tryd.underlying35
 go_enter Tryd.func13, Tryd.ntmps13
 go_upto_region 1 with fail
 obtain ⟨W1, hW1⟩ : ∃ W, W = w.alloc (.cells #[.int .i64 kd, .int .i64 cap, .slice A2 n2 c2, .slice A3 n3 c3, .int .i64 sz, .slice A5 n5 c5] 35) := ⟨_, rfl⟩
 rw [← hW1]
 have B1 : Aside0 (Below w.heap.size w W1) := ⟨by rw [hW1]; exact below_alloc (Below.refl _ _) _⟩
 obtain ⟨p1, hp1⟩ : ∃ p, p = w.heap.size := ⟨_, rfl⟩
 have Q1 : Aside0 (W1.heap[p1]? = some (.cells #[.int .i64 kd, .int .i64 cap, .slice A2 n2 c2, .slice A3 n3 c3, .int .i64 sz, .slice A5 n5 c5] 35 (0, 0))) := ⟨by rw [hW1, hp1]; exact heap_alloc_new _ _⟩
 rw [← hp1]
 clear hW1 hp1
 have IW : Aside0 (InstC W1 x (.agg #[.int .i64 kd, .int .i64 cap, .slice A2 n2 c2, .slice A3 n3 c3, .int .i64 sz, .slice A5 n5 c5])) := ⟨HIN.out.below B1.out⟩
 obtain ⟨q0, q1, q2, q3, q4, q5, _⟩ := six Q1.out (Below.refl _ _)
 go_wp2_with fail
 refine (rvalue_any W1 x _ IW.out HX.out A m c ys (Kd.C_below HC.out B1.out) hm u r HV.out).mono ?_
 rintro _ w2 ⟨rfl, H2⟩
 clear q0 q1 q2 q3 q4 q5
 have q0 : w2.cell? ⟨p1, 0, none⟩ = some (.int .i64 kd) := (blk_cell (blk_below Q1.out H2.out) 0).trans rfl
 by_cases hk : kd = 0
 ·subst hk
  have E : Aside0 (z = -u ∧ er = r) := ⟨by have h1 := HZ.out; rwa [if_pos HF.out.symm] at h1⟩
  have e1 : wrap64 (-u) = -u := by unfold wrap64; omega
  go_wp2_with fail
  go_ret2
  exact ⟨by rw [E.out.1, E.out.2]; rfl, ⟨B1.out.trans (H2.out.mono B1.out.size)⟩⟩
 ·have g : (kd == 0) = false := beq_eq_false_iff_ne.2 hk
  have E : Aside0 (z = u ∧ er = r) := ⟨by have h1 := HZ.out; rwa [if_neg (by rw [← HF.out]; exact hk)] at h1⟩
  clear hk
  go_wp2_with fail
  go_ret2
  exact ⟨by rw [E.out.1, E.out.2]; rfl, ⟨B1.out.trans (H2.out.mono B1.out.size)⟩⟩
end Go.Proofs.YtlilfgfkedlbcaaDoor.Hand
end
section
namespace Go.Proofs.YtlilfgfkedlbcaaDoor.Hand
open Go.RowKit Go.Proofs.YtlilfgfkedlbcaaDoorW.PrintWords Go.Proofs.YtlilfgfkedlbcaaDoorW.PrintLast Go.Proofs.YtlilfgfkedlbcaaDoorW.PrintMore Go.Proofs.YtlilfgfkedlbcaaDoor.PEvalBetter
def feaP (x : PI) (ys : List Int) : Bool := decide (chk x = 0) && mayP x ys
set_option maxHeartbeats 1000000 in
theorem feas_any (w : World) (x : PI) (v : Value) (h : InstC w x v) (hx : PIok x) (A : Option Addr) (m c : Nat) (ys : List Int) (hC : (Kd.int .i64).C w A m ys) (hm : m ≤ 17592186044416) (r : Bool) (hr : r = feaP x ys) :
  Calls Tryd.prog 14 #[v, .slice A m c] w fun e w' => e = .returned (.bool r) ∧ Below w.heap.size w w' := by
 have HI := Aside0.mk h
 have HX := Aside0.mk hx
 have HC := Aside0.mk hC
 obtain ⟨A2, c2, A3, c3, A5, c5, rfl, h2, l2, h3, l3, h5, l5⟩ := h
 clear h2 h3 h5 l2 l3 l5 hx hC
 unfold feaP at hr
 obtain ⟨ck, hck⟩ : ∃ k, k = chk x := ⟨_, rfl⟩
 have HK := Aside0.mk hck
 go_enter Tryd.func14, Tryd.ntmps14
 go_upto_region 1 with fail
 obtain ⟨W1, hW1⟩ : ∃ W, W = w.alloc (.cells #[.int .i64 x.kind, .int .i64 x.cap, .slice A2 x.items.length c2, .slice A3 x.cost.length c3, .int .i64 x.size, .slice A5 x.sets.length c5] 32) := ⟨_, rfl⟩
 rw [← hW1]
 have B1 : Aside0 (Below w.heap.size w W1) := ⟨by rw [hW1]; exact below_alloc (Below.refl _ _) _⟩
 obtain ⟨p1, hp1⟩ : ∃ p, p = w.heap.size := ⟨_, rfl⟩
 rw [← hp1]
 have Q1 : Aside0 (W1.heap[p1]? = some (.cells #[.int .i64 x.kind, .int .i64 x.cap, .slice A2 x.items.length c2, .slice A3 x.cost.length c3, .int .i64 x.size, .slice A5 x.sets.length c5] 32 (0, 0))) := ⟨by rw [hW1, hp1]; exact heap_alloc_new _ _⟩
 clear hW1 hp1
 obtain ⟨e0, e1, e2, e3, e4, e5, _⟩ := six Q1.out (Below.refl _ _)
 go_wp2_with fail
 clear e0 e1 e2 e3 e4 e5
 refine (icheck_any' W1 x _ (HI.out.below B1.out) HX.out ck HK.out).mono ?_
 rintro _ W2 ⟨rfl, B2'⟩
 have B2 := Aside0.mk B2'
 have BW : Aside0 (Below w.heap.size w W2) := ⟨B1.out.trans (B2'.mono B1.out.size)⟩
 clear B2'
 by_cases h0 : ck = 0
 ·have g0 : (ck == 0) = true := by simpa using h0
  have hr' : r = mayP x ys := by rw [hr, ← hck, decide_eq_true h0]; rfl
  have HR := Aside0.mk hr'
  have hi : Aside0 (IOk x) := ⟨iok.1 (by rw [← hck]; exact h0)⟩
  clear hr hr' h0 hck
  obtain ⟨e0, e1, e2, e3, e4, e5, _⟩ := six Q1.out B2.out
  go_wp2_with fail
  clear e0 e1 e2 e3 e4 e5
  refine (may_any W2 x _ (HI.out.below BW.out) hi.out HX.out A m c ys (Kd.C_below HC.out BW.out) hm r HR.out).mono ?_
  rintro _ W3 ⟨rfl, HB⟩
  have BX := Aside0.mk (BW.out.trans (HB.out.mono BW.out.size))
  clear HB
  go_wp2_with fail
  go_ret
  exact ⟨rfl, BX.out⟩
 ·have g0 : (ck == 0) = false := by simpa using h0
  have hr' : r = false := by rw [hr, ← hck, decide_eq_false h0]; rfl
  subst hr'
  clear hr h0 hck
  go_wp2_with fail
  go_ret
  exact ⟨rfl, BW.out⟩
set_option maxHeartbeats 1000000 in
theorem rfeas_all (w : World) (x : PI) (v : Value) (h : InstC w x v) (hx : PIok x) (A : Option Addr) (m c : Nat) (ys : List Int) (hC : (Kd.int .i64).C w A m ys) (hm : m ≤ 17592186044416) (r : Bool) (hr : r = feaP x ys) :
  Calls Tryd.prog 15 #[v, .slice A m c] w fun e w' => e = .returned (.bool r) ∧ Below w.heap.size w w' := by
 by_cases h0 : chk x = 0
 ·refine (rfeas_any w x v h hx h0 A m c ys hC hm r ?_).mono fun _ _ ⟨e, b⟩ => ⟨e, b.out⟩
  rw [hr]
  unfold feaP
  rw [decide_eq_true h0]
  rfl
 ·have hr' : r = false := by
   rw [hr]
   unfold feaP
   rw [decide_eq_false h0]
   rfl
  subst hr'
  have HI := Aside0.mk h
  have HX := Aside0.mk hx
  obtain ⟨ck, hck⟩ : ∃ k, k = chk x := ⟨_, rfl⟩
  rw [← hck] at h0
  have g : (ck != 0) = true := by rw [bne_iff_ne]; exact h0
  have HK := Aside0.mk hck
  obtain ⟨A2, c2, A3, c3, A5, c5, rfl, h2, l2, h3, l3, h5, l5⟩ := h
  clear h2 h3 h5 l2 l3 l5 hx hr h0 hck hC
  go_enter Tryd.func15, Tryd.ntmps15
  go_upto_region 1 with fail
  obtain ⟨W1, hW1⟩ : ∃ W, W = w.alloc (.cells #[.int .i64 x.kind, .int .i64 x.cap, .slice A2 x.items.length c2, .slice A3 x.cost.length c3, .int .i64 x.size, .slice A5 x.sets.length c5] 35) := ⟨_, rfl⟩
  rw [← hW1]
  have B1 : Aside0 (Below w.heap.size w W1) := ⟨by rw [hW1]; exact below_alloc (Below.refl _ _) _⟩
  obtain ⟨p1, hp1⟩ : ∃ p, p = w.heap.size := ⟨_, rfl⟩
  rw [← hp1]
  have Q1 : Aside0 (W1.heap[p1]? = some (.cells #[.int .i64 x.kind, .int .i64 x.cap, .slice A2 x.items.length c2, .slice A3 x.cost.length c3, .int .i64 x.size, .slice A5 x.sets.length c5] 35 (0, 0))) := ⟨by rw [hW1, hp1]; exact heap_alloc_new _ _⟩
  clear hW1 hp1
  obtain ⟨e0, e1, e2, e3, e4, e5, _⟩ := six Q1.out (Below.refl _ _)
  go_wp2_with fail
  clear e0 e1 e2 e3 e4 e5
  refine (rcheck_any W1 x _ (HI.out.below B1.out) HX.out).mono ?_
  rw [← HK.out]
  rintro _ W2 ⟨rfl, B2'⟩
  have BW : Aside0 (Below w.heap.size w W2) := ⟨B1.out.trans (B2'.mono B1.out.size)⟩
  clear B2'
  go_wp2_with fail
  go_ret
  exact ⟨rfl, BW.out⟩
end Go.Proofs.YtlilfgfkedlbcaaDoor.Hand
end
