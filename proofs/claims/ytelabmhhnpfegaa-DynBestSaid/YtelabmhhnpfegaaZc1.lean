/- Texts Md Me, cut to what is used. -/
import Derived.Test.YtelabmhhnpfegaaZa0
import Derived.Test.YtelabmhhnpfegaaZb5
import Derived.Test.YtelabmhhnpfegaaZb6
import Derived.Test.YtelabmhhnpfegaaZc0
set_option linter.unusedVariables false
set_option linter.unusedSimpArgs false
section
namespace Go.Proofs.Ytelabmhhnpfegaa.Hand
open Go.RowKit Go.Proofs.YtelabmhhnpfegaaW.PrintWords Go.Proofs.YtelabmhhnpfegaaW.PrintLast Go.Proofs.YtelabmhhnpfegaaW.PrintMore Go.Proofs.Ytelabmhhnpfegaa.PDynCells
def cnF (b : Bool) : Nat → Nat
 | 0 => 1
 | j + 1 => if b = true then 2 * cnF b j else (j + 1) * cnF b j
theorem cnF_le (b : Bool) : ∀ j : Fin 9, cnF b j.val ≤ 40320 := by cases b <;> decide
def twoB (k : Int) : Bool := k == 0 || k == 3
set_option maxHeartbeats 2000000 in
set_option maxRecDepth 100000 in
theorem rcount_any (w : World) (x : PI) (v : Value) (h : InstC w x v) (hi : IOk x) (hx : PIok x) (n : Nat) (hn : nP x = (n : Int)) (hn8 : n ≤ 8) :
  Calls Try.prog 58 #[v] w fun e w' => e = .returned (.tuple #[.int .i64 ((cnF (twoB x.kind) n : Nat) : Int), .int .i64 0]) ∧ Aside0 (Below w.heap.size w w') := by
 have HIN := Aside0.mk h
 have HI := Aside0.mk hi
 have HX := Aside0.mk hx
 have HCK : Aside0 (chk x = 0) := ⟨iok.2 hi⟩
 obtain ⟨A2, c2, A3, c3, A5, c5, rfl, h2, l2, h3, l3, h5, l5⟩ := h
 obtain ⟨n2, hn2⟩ : ∃ n, n = x.items.length := ⟨_, rfl⟩
 obtain ⟨n3, hn3⟩ : ∃ n, n = x.cost.length := ⟨_, rfl⟩
 obtain ⟨n5, hn5⟩ : ∃ n, n = x.sets.length := ⟨_, rfl⟩
 obtain ⟨kd, hkd⟩ : ∃ n, n = x.kind := ⟨_, rfl⟩
 obtain ⟨cap, hcap⟩ : ∃ n, n = x.cap := ⟨_, rfl⟩
 obtain ⟨sz, hsz⟩ : ∃ n, n = x.size := ⟨_, rfl⟩
 rw [← hn2, ← hn3, ← hn5, ← hkd, ← hcap, ← hsz] at HIN
 rw [← hn2, ← hn3, ← hn5, ← hkd, ← hcap, ← hsz]
 have HN := Aside0.mk (And.intro hn2 (And.intro hn3 hn5))
 have HF := Aside0.mk hkd
 have HNP := Aside0.mk hn
 obtain ⟨b, hb⟩ : ∃ b, b = twoB kd := ⟨_, rfl⟩
 rw [← hb]
 have HB := Aside0.mk hb
 clear h2 h3 h5 l2 l3 l5 hn2 hn3 hn5 hcap hsz hi hx hn hkd hb
 have hu57 := Try.underlying57
 go_enter Try.func58, Try.ntmps58
 go_upto_region 1 with fail
 obtain ⟨W1, hW1⟩ : ∃ W, W = w.alloc (.cells #[.int .i64 kd, .int .i64 cap, .slice A2 n2 c2, .slice A3 n3 c3, .int .i64 sz, .slice A5 n5 c5] 57) := ⟨_, rfl⟩
 rw [← hW1]
 have B1 : Aside0 (Below w.heap.size w W1) := ⟨by rw [hW1]; exact below_alloc (Below.refl _ _) _⟩
 obtain ⟨p1, hp1⟩ : ∃ p, p = w.heap.size := ⟨_, rfl⟩
 have Q1 : Aside0 (W1.heap[p1]? = some (.cells #[.int .i64 kd, .int .i64 cap, .slice A2 n2 c2, .slice A3 n3 c3, .int .i64 sz, .slice A5 n5 c5] 57 (0, 0))) := ⟨by rw [hW1, hp1]; exact heap_alloc_new _ _⟩
 rw [← hp1]
 clear hW1 hp1
 have IW : Aside0 (InstC W1 x (.agg #[.int .i64 kd, .int .i64 cap, .slice A2 n2 c2, .slice A3 n3 c3, .int .i64 sz, .slice A5 n5 c5])) := ⟨HIN.out.below B1.out⟩
 obtain ⟨q0, q1, q2, q3, q4, q5, _⟩ := six Q1.out (Below.refl _ _)
 go_wp2_with fail
 refine (rcheck_any W1 x _ IW.out HX.out).mono ?_
 rintro _ w2 ⟨rfl, hb2⟩
 rw [HCK.out]
 have B2 : Aside0 (Below W1.heap.size W1 w2) := ⟨hb2⟩
 clear hb2 q0 q1 q2 q3 q4 q5
 obtain ⟨q0, q1, q2, q3, q4, q5, _⟩ := six Q1.out B2.out
 go_wp2_with fail
 refine (rn_any w2 x _ (IW.out.below B2.out) HX.out HI.out).mono ?_
 rintro _ w3 ⟨rfl, hb3⟩
 rw [HNP.out]
 have B3 : Aside0 (Below W1.heap.size W1 w3) := ⟨B2.out.trans (hb3.mono B2.out.size)⟩
 clear hb3 q0 q1 q2 q3 q4 q5
 have q0 : w3.cell? ⟨p1, 0, none⟩ = some (.int .i64 kd) := (blk_cell (blk_below Q1.out B3.out) 0).trans rfl
 have K0 : Aside0 ((1 : Nat) = cnF b 0) := ⟨rfl⟩
 go_wp2_with fail
 go_loop [6, 7] (fun v6 v7 => ∃ (j c : Nat), j ≤ n ∧ c ≤ 40320 ∧ v6 = .int .i64 (c : Int) ∧ v7 = .int .i64 ((j : Int) + 1) ∧ Aside0 (c = cnF b j)) (fun _ v7 => n + 1 - (intOf v7).toNat)
 case atStart => exact ⟨0, 1, Nat.zero_le _, by decide, rfl, rfl, K0⟩
 case round =>
  clear K0
  obtain ⟨j, c, hj, hc, rfl, rfl, KK⟩ := hrel
  by_cases hlt : j < n
  ·obtain ⟨k, hk⟩ : ∃ k, k = j + 1 := ⟨_, rfl⟩
   have ek : (j : Int) + 1 = (k : Int) := by omega
   have hkn : k ≤ n := by omega
   have hc2 : cnF b k ≤ 40320 := cnF_le b ⟨k, by omega⟩
   obtain ⟨c', hc'⟩ : ∃ c', c' = cnF b k := ⟨_, rfl⟩
   have HC' := Aside0.mk hc'
   rw [← hc'] at hc2
   have e1 : wrap64 ((k : Int) + 1) = (k : Int) + 1 := by unfold wrap64; omega
   have E1 := Aside0.mk e1
   clear e1
   rw [ek]
   cases b with
   | true =>
    have hcc : c' = 2 * c := by rw [hc', hk, cnF, if_pos rfl, ← KK.out]
    have e2 : 2 * (c : Int) = (c' : Int) := by omega
    have E2 : Aside0 (wrap64 (2 * (c : Int)) = (c' : Int)) := ⟨by unfold wrap64; omega⟩
    have hkk : kd = 0 ∨ kd = 3 := by
     have h1 := HB.out
     unfold twoB at h1
     simpa using h1.symm
    clear hc' hk hcc hc2
    rcases hkk with rfl | rfl
    ·have e3 := E2.out
     go_wp2_with fail
     exact ⟨⟨k, c', hkn, by rw [HC'.out]; exact cnF_le true ⟨k, by omega⟩, rfl, by go_num, HC'⟩, by simp [intOf]; omega⟩
    ·have e3 := E2.out
     go_wp2_with fail
     exact ⟨⟨k, c', hkn, by rw [HC'.out]; exact cnF_le true ⟨k, by omega⟩, rfl, by go_num, HC'⟩, by simp [intOf]; omega⟩
   | false =>
    have hcc : c' = k * c := by rw [hc', hk, cnF, if_neg (by decide), ← KK.out]
    have e2 : (k : Int) * (c : Int) = (c' : Int) := by rw [hcc, Int.natCast_mul]
    have E2 : Aside0 (wrap64 ((k : Int) * (c : Int)) = (c' : Int)) := ⟨by rw [e2]; unfold wrap64; omega⟩
    have hkk : (kd == 0) = false ∧ (kd == 3) = false := by
     have h1 := HB.out
     unfold twoB at h1
     have h2 := h1.symm
     rw [Bool.or_eq_false_iff] at h2
     exact h2
    obtain ⟨g0, g3⟩ := hkk
    clear hc' hk hcc hc2 e2
    have e3 := E2.out
    go_wp2_with fail
    exact ⟨⟨k, c', hkn, by rw [HC'.out]; exact cnF_le false ⟨k, by omega⟩, by rw [e3], by go_num, HC'⟩, by simp [intOf]; omega⟩
  ·obtain rfl : n = j := by omega
   go_wp2_with fail
   go_ret2
   exact ⟨by rw [← KK.out]; rfl, ⟨B1.out.trans (B3.out.mono B1.out.size)⟩⟩
def subP (n m : Nat) : List Int := ((List.range n).filter fun k => decide (m / 2 ^ k % 2 = 1)).map fun (k : Nat) => (k : Int)
theorem subP_succ (n m : Nat) : subP (n + 1) m = subP n m ++ (if m / 2 ^ n % 2 = 1 then [(n : Int)] else []) := by
 unfold subP
 rw [List.range_succ, List.filter_append, List.map_append]
 congr 1
 by_cases h : m / 2 ^ n % 2 = 1
 ·simp [h]
 ·simp [h]
theorem subP_end {k m : Nat} (h : m / 2 ^ k = 0) : ∀ n, k ≤ n → subP n m = subP k m := by
 intro n hn
 obtain ⟨d, rfl⟩ : ∃ d, n = k + d := ⟨n - k, by omega⟩
 clear hn
 induction d with
 | zero => rfl
 | succ d ih =>
  have hz : m / 2 ^ (k + d) = 0 := by rw [Nat.pow_add, ← Nat.div_div_eq_div_mul, h, Nat.zero_div]
  rw [← Nat.add_assoc, subP_succ, ih, hz]
  simp
theorem cnF_two (n : Nat) : cnF true n = 2 ^ n := by
 induction n with
 | zero => rfl
 | succ n ih => rw [cnF, if_pos rfl, ih, Nat.pow_succ, Nat.mul_comm]
def allP (x : PI) : List (List Int) :=
 if x.kind = 1 then ordsP x.cost.length x.cost.length []
 else if x.kind = 2 then ordsP x.cost.length (x.cost.length - 1) [0]
 else (List.range (2 ^ (nP x).toNat)).map (subP (nP x).toNat)
theorem N_C {w : World} {base : Nat} {ok : Nat → Prop} {v : Value} {xs : List (List Int)} (h : Kd.N (Kd.slice 3 (Kd.int .i64)) 29 w base ok v xs) : ∃ A c, v = .slice A xs.length c ∧ (Kd.slice 3 (Kd.int .i64)).C w A xs.length xs := by
 have hv := Kd.N_V (base' := 0) h
 obtain ⟨A, c, rfl⟩ := Kd.V_slice hv
 exact ⟨A, c, rfl, (Kd.V_reads' hv).2.2⟩
theorem infoR29 : (Try.prog.info? 29).map (fun i => (i.zero, i.size, i.bytes)) = some (some (.slice none 0 0), 1, 24) := by kernel_rfl
set_option maxHeartbeats 2000000 in
set_option maxRecDepth 100000 in
theorem rall_1 (w : World) (x : PI) (v : Value) (h : InstC w x v) (hi : IOk x) (hx : PIok x) (n : Nat) (hn : nP x = (n : Int)) (hn8 : n ≤ 7) (hkk : x.kind = 1) :
  Calls Try.prog 59 #[v] w fun e w' => ∃ A c, e = .returned (.slice A (allP x).length c) ∧ Aside0 ((Kd.slice 3 (Kd.int .i64)).C w' A (allP x).length (allP x) ∧ Below w.heap.size w w') := by
 have HKK := Aside0.mk hkk
 have HIN := Aside0.mk h
 have HI := Aside0.mk hi
 have HX := Aside0.mk hx
 have HCK : Aside0 (chk x = 0) := ⟨iok.2 hi⟩
 obtain ⟨A2, c2, A3, c3, A5, c5, rfl, h2, l2, h3, l3, h5, l5⟩ := h
 obtain ⟨n2, hn2⟩ : ∃ n, n = x.items.length := ⟨_, rfl⟩
 obtain ⟨n3, hn3⟩ : ∃ n, n = x.cost.length := ⟨_, rfl⟩
 obtain ⟨n5, hn5⟩ : ∃ n, n = x.sets.length := ⟨_, rfl⟩
 obtain ⟨kd, hkd⟩ : ∃ n, n = x.kind := ⟨_, rfl⟩
 obtain ⟨cap, hcap⟩ : ∃ n, n = x.cap := ⟨_, rfl⟩
 obtain ⟨sz, hsz⟩ : ∃ n, n = x.size := ⟨_, rfl⟩
 rw [← hn2, ← hn3, ← hn5, ← hkd, ← hcap, ← hsz] at HIN
 rw [← hn2, ← hn3, ← hn5, ← hkd, ← hcap, ← hsz]
 have HN := Aside0.mk (And.intro hn2 (And.intro hn3 hn5))
 have HF := Aside0.mk hkd
 have HNP := Aside0.mk hn
 rw [hkk] at hkd
 subst hkd
 obtain ⟨rr, hrr⟩ : ∃ rr, rr = allP x := ⟨_, rfl⟩
 rw [← hrr]
 have HRR := Aside0.mk hrr
 clear h2 h3 h5 l2 l3 l5 hn2 hn3 hn5 hcap hsz hi hx hn hkk hrr
 have hu57 := Try.underlying57
 go_enter Try.func59, Try.ntmps59
 go_upto_region 1 with fail
 obtain ⟨W1, hW1⟩ : ∃ W, W = w.alloc (.cells #[.int .i64 1, .int .i64 cap, .slice A2 n2 c2, .slice A3 n3 c3, .int .i64 sz, .slice A5 n5 c5] 57) := ⟨_, rfl⟩
 rw [← hW1]
 have B1 : Aside0 (Below w.heap.size w W1) := ⟨by rw [hW1]; exact below_alloc (Below.refl _ _) _⟩
 obtain ⟨p1, hp1⟩ : ∃ p, p = w.heap.size := ⟨_, rfl⟩
 have Q1 : Aside0 (W1.heap[p1]? = some (.cells #[.int .i64 1, .int .i64 cap, .slice A2 n2 c2, .slice A3 n3 c3, .int .i64 sz, .slice A5 n5 c5] 57 (0, 0))) := ⟨by rw [hW1, hp1]; exact heap_alloc_new _ _⟩
 rw [← hp1]
 clear hW1 hp1
 have IW : Aside0 (InstC W1 x (.agg #[.int .i64 1, .int .i64 cap, .slice A2 n2 c2, .slice A3 n3 c3, .int .i64 sz, .slice A5 n5 c5])) := ⟨HIN.out.below B1.out⟩
 obtain ⟨q0, q1, q2, q3, q4, q5, _⟩ := six Q1.out (Below.refl _ _)
 go_wp2_with fail
 refine (rcount_any W1 x _ IW.out HI.out HX.out n HNP.out (Nat.le_trans hn8 (by decide))).mono ?_
 rintro _ w2 ⟨rfl, H2⟩
 rw [HKK.out]
 clear q0 q1 q2 q3 q4 q5
 obtain ⟨q0, q1, q2, q3, q4, q5, _⟩ := six Q1.out H2.out
 have hl3 : Aside0 (n3 = n) := ⟨by
  have h1 := HNP.out
  unfold nP at h1
  rw [HKK.out, if_neg (by decide), if_pos rfl, ← HN.out.2.1] at h1
  omega⟩
 obtain ⟨K, hK⟩ := ords_f n3 (by rw [hl3.out]; omega) n3 [] (by simp)
 have HORD := Aside0.mk hK
 have RE : Aside0 (rr = ordsP n3 n3 []) := ⟨by
  rw [HRR.out]
  unfold allP
  rw [if_pos HKK.out, ← HN.out.2.1]⟩
 clear hK
 go_wp2_with fail
 refine (secateurref13_orders.calls K (fun _ => False) none 0 [] (n3 : Int) (ordsP n3 n3 []) w2 (Kd.V_nil _ _ _ _ _) HORD.out).mono ?_
 rintro _ w3 ⟨vr, rfl, hN, hB⟩
 obtain ⟨A, cc, rfl, hC⟩ := N_C hN
 have HC := Aside0.mk (And.intro hC hB)
 clear hN hC hB q0 q1 q2 q3 q4 q5
 go_wp2_with fail
 go_ret
 refine ⟨A, cc, by rw [RE.out]; rfl, ⟨by rw [RE.out]; exact HC.out.1, B1.out.trans ((H2.out.trans (HC.out.2.mono H2.out.size)).mono B1.out.size)⟩⟩
set_option maxHeartbeats 2000000 in
set_option maxRecDepth 100000 in
theorem rall_2 (w : World) (x : PI) (v : Value) (h : InstC w x v) (hi : IOk x) (hx : PIok x) (n : Nat) (hn : nP x = (n : Int)) (hn8 : n ≤ 7) (hkk : x.kind = 2) :
  Calls Try.prog 59 #[v] w fun e w' => ∃ A c, e = .returned (.slice A (allP x).length c) ∧ Aside0 ((Kd.slice 3 (Kd.int .i64)).C w' A (allP x).length (allP x) ∧ Below w.heap.size w w') := by
 have HKK := Aside0.mk hkk
 have HIN := Aside0.mk h
 have HI := Aside0.mk hi
 have HX := Aside0.mk hx
 have HCK : Aside0 (chk x = 0) := ⟨iok.2 hi⟩
 obtain ⟨A2, c2, A3, c3, A5, c5, rfl, h2, l2, h3, l3, h5, l5⟩ := h
 obtain ⟨n2, hn2⟩ : ∃ n, n = x.items.length := ⟨_, rfl⟩
 obtain ⟨n3, hn3⟩ : ∃ n, n = x.cost.length := ⟨_, rfl⟩
 obtain ⟨n5, hn5⟩ : ∃ n, n = x.sets.length := ⟨_, rfl⟩
 obtain ⟨kd, hkd⟩ : ∃ n, n = x.kind := ⟨_, rfl⟩
 obtain ⟨cap, hcap⟩ : ∃ n, n = x.cap := ⟨_, rfl⟩
 obtain ⟨sz, hsz⟩ : ∃ n, n = x.size := ⟨_, rfl⟩
 rw [← hn2, ← hn3, ← hn5, ← hkd, ← hcap, ← hsz] at HIN
 rw [← hn2, ← hn3, ← hn5, ← hkd, ← hcap, ← hsz]
 have HN := Aside0.mk (And.intro hn2 (And.intro hn3 hn5))
 have HF := Aside0.mk hkd
 have HNP := Aside0.mk hn
 rw [hkk] at hkd
 subst hkd
 obtain ⟨rr, hrr⟩ : ∃ rr, rr = allP x := ⟨_, rfl⟩
 rw [← hrr]
 have HRR := Aside0.mk hrr
 clear h2 h3 h5 l2 l3 l5 hn2 hn3 hn5 hcap hsz hi hx hn hkk hrr
 have hu57 := Try.underlying57
 go_enter Try.func59, Try.ntmps59
 go_upto_region 1 with fail
 obtain ⟨W1, hW1⟩ : ∃ W, W = w.alloc (.cells #[.int .i64 2, .int .i64 cap, .slice A2 n2 c2, .slice A3 n3 c3, .int .i64 sz, .slice A5 n5 c5] 57) := ⟨_, rfl⟩
 rw [← hW1]
 have B1 : Aside0 (Below w.heap.size w W1) := ⟨by rw [hW1]; exact below_alloc (Below.refl _ _) _⟩
 obtain ⟨p1, hp1⟩ : ∃ p, p = w.heap.size := ⟨_, rfl⟩
 have Q1 : Aside0 (W1.heap[p1]? = some (.cells #[.int .i64 2, .int .i64 cap, .slice A2 n2 c2, .slice A3 n3 c3, .int .i64 sz, .slice A5 n5 c5] 57 (0, 0))) := ⟨by rw [hW1, hp1]; exact heap_alloc_new _ _⟩
 rw [← hp1]
 clear hW1 hp1
 have IW : Aside0 (InstC W1 x (.agg #[.int .i64 2, .int .i64 cap, .slice A2 n2 c2, .slice A3 n3 c3, .int .i64 sz, .slice A5 n5 c5])) := ⟨HIN.out.below B1.out⟩
 obtain ⟨q0, q1, q2, q3, q4, q5, _⟩ := six Q1.out (Below.refl _ _)
 go_wp2_with fail
 refine (rcount_any W1 x _ IW.out HI.out HX.out n HNP.out (Nat.le_trans hn8 (by decide))).mono ?_
 rintro _ w2 ⟨rfl, H2⟩
 rw [HKK.out]
 clear q0 q1 q2 q3 q4 q5
 obtain ⟨q0, q1, q2, q3, q4, q5, _⟩ := six Q1.out H2.out
 have hl3 : Aside0 (n3 = n + 1) := ⟨by
  have h1 := HNP.out
  unfold nP at h1
  rw [HKK.out, if_neg (by decide), if_neg (by decide), if_pos rfl, ← HN.out.2.1] at h1
  omega⟩
 obtain ⟨K, hK⟩ := ords_f n3 (by rw [hl3.out]; omega) (n3 - 1) [0] (by rw [hl3.out]; simp; omega)
 have HORD := Aside0.mk hK
 have RE : Aside0 (rr = ordsP n3 (n3 - 1) [0]) := ⟨by
  rw [HRR.out]
  unfold allP
  rw [if_neg (by rw [HKK.out]; decide), if_pos HKK.out, ← HN.out.2.1]⟩
 clear hK
 obtain ⟨d, hd⟩ : ∃ d, d = n3 - 1 := ⟨_, rfl⟩
 rw [← hd] at HORD RE
 clear hd
 have OL : Aside0 (Kd.V (Kd.int .i64) 3 (w2.alloc (.cells #[.int .i64 0] 3)) (w2.alloc (.cells #[.int .i64 0] 3)).heap.size (fun _ => True) (.slice (some ⟨w2.heap.size, 0, none⟩) 1 1) [0]) := ⟨Kd.R_V (Kd.R_of_own (enc := Value.int .i64) (own_lit w2 w2.heap.size 3 .i64 [0] (Nat.le_refl _) (by decide)) (fun _ _ => trivial))⟩
 have q3' : (w2.alloc (.cells #[.int .i64 0] 3)).cell? ⟨p1, 3, none⟩ = some (.slice A3 n3 c3) := pw_cell_below (below_alloc (Below.refl _ _) _) q3
 go_wp2_with fail
 refine (secateurref13_orders.calls K (fun _ => True) (some ⟨w2.heap.size, 0, none⟩) 1 [0] (n3 : Int) (ordsP n3 d [0]) _ OL.out HORD.out).mono ?_
 rintro _ w3 ⟨vr, rfl, hN, hB⟩
 obtain ⟨A, cc, rfl, hC⟩ := N_C hN
 have HC := Aside0.mk (And.intro hC hB)
 clear hN hC hB q0 q1 q2 q3 q4 q5 q3'
 go_wp2_with fail
 go_ret
 refine ⟨A, cc, by rw [RE.out]; rfl, ⟨by rw [RE.out]; exact HC.out.1, B1.out.trans ((H2.out.trans ((below_then (below_alloc (Below.refl _ _) _) (by simp) HC.out.2).mono H2.out.size)).mono B1.out.size)⟩⟩
set_option maxHeartbeats 2000000 in
set_option maxRecDepth 100000 in
theorem rall_0 (w : World) (x : PI) (v : Value) (h : InstC w x v) (hi : IOk x) (hx : PIok x) (n : Nat) (hn : nP x = (n : Int)) (hn8 : n ≤ 7) (hkk : x.kind = 0) :
  Calls Try.prog 59 #[v] w fun e w' => ∃ A c, e = .returned (.slice A (allP x).length c) ∧ Aside0 ((Kd.slice 3 (Kd.int .i64)).C w' A (allP x).length (allP x) ∧ Below w.heap.size w w') := by
 have HKK := Aside0.mk hkk
 have HIN := Aside0.mk h
 have HI := Aside0.mk hi
 have HX := Aside0.mk hx
 have HCK : Aside0 (chk x = 0) := ⟨iok.2 hi⟩
 obtain ⟨A2, c2, A3, c3, A5, c5, rfl, h2, l2, h3, l3, h5, l5⟩ := h
 obtain ⟨n2, hn2⟩ : ∃ n, n = x.items.length := ⟨_, rfl⟩
 obtain ⟨n3, hn3⟩ : ∃ n, n = x.cost.length := ⟨_, rfl⟩
 obtain ⟨n5, hn5⟩ : ∃ n, n = x.sets.length := ⟨_, rfl⟩
 obtain ⟨kd, hkd⟩ : ∃ n, n = x.kind := ⟨_, rfl⟩
 obtain ⟨cap, hcap⟩ : ∃ n, n = x.cap := ⟨_, rfl⟩
 obtain ⟨sz, hsz⟩ : ∃ n, n = x.size := ⟨_, rfl⟩
 rw [← hn2, ← hn3, ← hn5, ← hkd, ← hcap, ← hsz] at HIN
 rw [← hn2, ← hn3, ← hn5, ← hkd, ← hcap, ← hsz]
 have HN := Aside0.mk (And.intro hn2 (And.intro hn3 hn5))
 have HF := Aside0.mk hkd
 have HNP := Aside0.mk hn
 rw [hkk] at hkd
 subst hkd
 obtain ⟨rr, hrr⟩ : ∃ rr, rr = allP x := ⟨_, rfl⟩
 rw [← hrr]
 have HRR := Aside0.mk hrr
 clear h2 h3 h5 l2 l3 l5 hn2 hn3 hn5 hcap hsz hi hx hn hkk hrr
 have hu57 := Try.underlying57
 go_enter Try.func59, Try.ntmps59
 go_upto_region 1 with fail
 obtain ⟨W1, hW1⟩ : ∃ W, W = w.alloc (.cells #[.int .i64 0, .int .i64 cap, .slice A2 n2 c2, .slice A3 n3 c3, .int .i64 sz, .slice A5 n5 c5] 57) := ⟨_, rfl⟩
 rw [← hW1]
 have B1 : Aside0 (Below w.heap.size w W1) := ⟨by rw [hW1]; exact below_alloc (Below.refl _ _) _⟩
 obtain ⟨p1, hp1⟩ : ∃ p, p = w.heap.size := ⟨_, rfl⟩
 have Q1 : Aside0 (W1.heap[p1]? = some (.cells #[.int .i64 0, .int .i64 cap, .slice A2 n2 c2, .slice A3 n3 c3, .int .i64 sz, .slice A5 n5 c5] 57 (0, 0))) := ⟨by rw [hW1, hp1]; exact heap_alloc_new _ _⟩
 rw [← hp1]
 clear hW1 hp1
 have IW : Aside0 (InstC W1 x (.agg #[.int .i64 0, .int .i64 cap, .slice A2 n2 c2, .slice A3 n3 c3, .int .i64 sz, .slice A5 n5 c5])) := ⟨HIN.out.below B1.out⟩
 obtain ⟨q0, q1, q2, q3, q4, q5, _⟩ := six Q1.out (Below.refl _ _)
 go_wp2_with fail
 refine (rcount_any W1 x _ IW.out HI.out HX.out n HNP.out (Nat.le_trans hn8 (by decide))).mono ?_
 rintro _ w2 ⟨rfl, H2⟩
 rw [HKK.out]
 clear q0 q1 q2 q3 q4 q5
 obtain ⟨q0, q1, q2, q3, q4, q5, _⟩ := six Q1.out H2.out
 have hnn : Aside0 ((nP x).toNat = n ∧ rr = (List.range (2 ^ n)).map (subP n)) := ⟨by rw [HNP.out]; rfl, by
  rw [HRR.out]
  unfold allP
  rw [if_neg (by rw [HKK.out]; decide), if_neg (by rw [HKK.out]; decide), HNP.out]
  rfl⟩
 have htw : twoB 0 = true := rfl
 rw [htw, cnF_two]
 obtain ⟨S, hS⟩ : ∃ S, S = 2 ^ n := ⟨_, rfl⟩
 rw [← hS] at hnn ⊢
 have HS := Aside0.mk hS
 have hS5 : S ≤ 256 := by
  rw [hS]
  exact Nat.le_trans (Nat.pow_le_pow_right (by omega) (show n ≤ 8 by omega)) (by decide)
 clear hS htw
 have K0 : Aside0 ((Kd.slice 3 (Kd.int .i64)).R 29 w2 w.heap.size (fun _ => True) (.slice none 0 0) ((List.range 0).map (subP n)) ∧ Below w.heap.size w w2) := ⟨Kd.R_nil _ _ _ _ _, B1.out.trans (H2.out.mono B1.out.size)⟩
 go_wp2_with fail
 clear q0 q1 q2 q3 q4 q5
 go_loopw [5, 6] (fun v5 v6 wr => ∃ (m : Nat) (L : Option Addr) (q cc : Nat), m ≤ S ∧ v6 = .int .i64 (m : Int) ∧ v5 = .slice L q cc ∧ Aside0 ((Kd.slice 3 (Kd.int .i64)).R 29 wr w.heap.size (fun _ => True) (.slice L q cc) ((List.range m).map (subP n)) ∧ Below w.heap.size w wr)) (fun _ v6 _ => S - (intOf v6).toNat)
 case atStart => exact ⟨0, none, 0, 0, Nat.zero_le _, rfl, rfl, K0⟩
 case round =>
  clear K0
  obtain ⟨m, L, q, cc, hm, rfl, rfl, KK⟩ := hrel
  by_cases hlt : m < S
  ·obtain ⟨wo, hwo⟩ : ∃ wo : World, wo = wr := ⟨_, rfl⟩
   rw [← hwo] at KK ⊢
   clear hwo
   have J0 : Aside0 (m = m / 2 ^ 0 ∧ (Kd.int .i64).R 3 wo wo.heap.size (fun _ => True) (.slice none 0 0) (subP 0 m) ∧ Below wo.heap.size wo wo) := ⟨by simp, Kd.R_nil _ _ _ _ _, Below.refl _ _⟩
   go_wp2_with fail
   go_loopw [7, 8, 9] (fun v7 v8 v9 wr => ∃ (k rest : Nat) (Y : Option Addr) (yn yc : Nat), k ≤ n ∧ v9 = .int .i64 (k : Int) ∧ v8 = .int .i64 (rest : Int) ∧ rest ≤ 256 ∧ v7 = .slice Y yn yc ∧ Aside0 (rest = m / 2 ^ k ∧ (Kd.int .i64).R 3 wr wo.heap.size (fun _ => True) (.slice Y yn yc) (subP k m) ∧ Below wo.heap.size wo wr)) (fun _ v8 _ _ => (intOf v8).toNat)
   case atStart => exact ⟨0, m, none, 0, 0, Nat.zero_le _, rfl, rfl, by omega, rfl, J0⟩
   case round =>
    clear J0
    obtain ⟨k, rest, Y, yn, yc, hk, rfl, rfl, hr5, rfl, KJ⟩ := hrel
    by_cases hr0 : 0 < rest
    ·have hkn : k < n := by
      apply Classical.byContradiction
      intro hge
      have h1 := KJ.out.1
      have : k = n := by omega
      subst this
      rw [Nat.div_eq_of_lt (by rw [← HS.out]; exact hlt)] at h1
      omega
     have N0 : Aside0 (rest / 2 = m / 2 ^ (k + 1)) := ⟨by rw [KJ.out.1, Nat.pow_succ, Nat.div_div_eq_div_mul]⟩
     have NS := Aside0.mk (subP_succ k m)
     obtain ⟨half, hhalf⟩ : ∃ h, h = rest / 2 := ⟨_, rfl⟩
     have hh1 : half < rest := by omega
     have hd : ((rest : Int) / 2) = (half : Int) := by omega
     rw [← hhalf] at N0
     have HB : Aside0 (((subP k m).length + 1) * 8 ≤ 140737488355328) := ⟨by
      have h1 : (subP k m).length ≤ k := by
       unfold subP
       rw [List.length_map]
       exact Nat.le_trans (List.length_filter_le _ _) (by rw [List.length_range]; exact Nat.le_refl _)
      omega⟩
     by_cases hb : rest % 2 = 1
     ·have hb2 : ((rest : Int) % 2) = 1 := by omega
      have N1 : Aside0 (subP (k + 1) m = subP k m ++ [(k : Int)]) := ⟨by rw [NS.out, if_pos (by rw [← KJ.out.1]; exact hb)]⟩
      clear hhalf hb
      go_upto_region 19 with (at_builtin; refine Kd.R_append (Kd.int .i64) (w0 := wo) wo.heap.size rfl _ _ 29 3 (.int .i64 0) 8 rfl Try.underlying29 info3 rfl (by decide) (by decide) (.slice Y yn yc) (subP k m) (k : Int) [.int .i64 (k : Int)] (fun _ => True) (fun _ => False) rfl rfl rfl (fun _ h => h.elim) (fun _ _ => trivial) KJ.out.2.1 KJ.out.2.2 KJ.out.2.2.size HB.out ?_; intro v7 w7 ho7 hb7 _ _; obtain ⟨A7, n7, c7, rfl, _⟩ := R_open ho7; have O7 := Aside0.mk ho7; have B7 := Aside0.mk hb7; clear ho7 hb7)
      have N2 : Aside0 (half = m / 2 ^ (k + 1) ∧ (Kd.int .i64).R 3 w7 wo.heap.size (fun _ => True) (.slice A7 n7 c7) (subP (k + 1) m) ∧ Below wo.heap.size wo w7) := ⟨N0.out, by rw [N1.out]; exact O7.out, B7.out⟩
      go_wp2_with fail
      exact ⟨⟨k + 1, half, A7, n7, c7, by omega, by go_num, rfl, by omega, rfl, N2⟩, by simp [intOf]; omega⟩
     ·have hb2 : ((rest : Int) % 2) = 0 := by omega
      have N2 : Aside0 (half = m / 2 ^ (k + 1) ∧ (Kd.int .i64).R 3 wr wo.heap.size (fun _ => True) (.slice Y yn yc) (subP (k + 1) m) ∧ Below wo.heap.size wo wr) := ⟨N0.out, by
       rw [NS.out, if_neg (by rw [← KJ.out.1]; exact hb), List.append_nil]
       exact KJ.out.2.1, KJ.out.2.2⟩
      clear hhalf hb
      go_wp2_with fail
      exact ⟨⟨k + 1, half, Y, yn, yc, by omega, by go_num, rfl, by omega, rfl, N2⟩, by simp [intOf]; omega⟩
    ·obtain rfl : rest = 0 := by omega
     have YE : Aside0 (subP k m = subP n m) := ⟨(subP_end KJ.out.1.symm n hk).symm⟩
     have OR : Aside0 ((Kd.slice 3 (Kd.int .i64)).R 29 wr w.heap.size (fun _ => True) (.slice L q cc) ((List.range m).map (subP n)) ∧ Below w.heap.size w wr) := ⟨Kd.R_below KK.out.1 KJ.out.2.2, KK.out.2.trans (KJ.out.2.2.mono KK.out.2.size)⟩
     have MM : Aside0 ((Kd.slice 3 (Kd.int .i64)).M wr w.heap.size (fun k => wo.heap.size ≤ k) (subP n m) [.slice Y yn yc]) := ⟨⟨_, rfl, by
      rw [← YE.out]
      exact Kd.R_lower (Kd.R_mono (Kd.R_bound KJ.out.2.1) (fun k hk => hk.2.1)) KK.out.2.size⟩⟩
     have OKP : Aside0 (∀ k, wo.heap.size ≤ k → True ∧ some k ≠ (Value.slice L q cc).ownBlock) := ⟨fun k hk => ⟨trivial, fun e => by
      obtain ⟨_, ho⟩ := Kd.R_own KK.out.1
      have := own_lt ho k e.symm
      omega⟩⟩
     have HB : Aside0 ((((List.range m).map (subP n)).length + 1) * 24 ≤ 140737488355328) := ⟨by
      rw [List.length_map, List.length_range]
      omega⟩
     go_upto_region 11 with (at_builtin; refine Kd.R_append (Kd.slice 3 (Kd.int .i64)) (w0 := w) w.heap.size rfl _ _ 117 29 (.slice none 0 0) 24 rfl Try.underlying117 infoR29 rfl (by decide) (by decide) (.slice L q cc) ((List.range m).map (subP n)) (subP n m) [.slice Y yn yc] (fun _ => True) (fun k => wo.heap.size ≤ k) rfl rfl MM.out OKP.out (fun _ _ => trivial) OR.out.1 OR.out.2 OR.out.2.size HB.out ?_; intro v7 w7 ho7 hb7 _ _; obtain ⟨A7, n7, c7, rfl, _⟩ := R_open ho7; have O7 := Aside0.mk ho7; have B7 := Aside0.mk hb7; clear ho7 hb7)
     have N2 : Aside0 ((Kd.slice 3 (Kd.int .i64)).R 29 w7 w.heap.size (fun _ => True) (.slice A7 n7 c7) ((List.range (m + 1)).map (subP n)) ∧ Below w.heap.size w w7) := ⟨by
      rw [List.range_succ, List.map_append]
      exact O7.out, B7.out⟩
     go_wp2_with fail
     exact ⟨⟨m + 1, A7, n7, c7, by omega, by go_num, rfl, N2⟩, by simp [intOf]; omega⟩
  ·obtain rfl : S = m := by omega
   have hl : Aside0 (q = rr.length) := ⟨by
    obtain ⟨A', c', e, _⟩ := Kd.R_reads KK.out.1
    injection e with _ e _
    rw [e, hnn.out.2]⟩
   have hC : Aside0 ((Kd.slice 3 (Kd.int .i64)).C wr L q rr) := ⟨by
    rw [hnn.out.2]
    exact (R_C KK.out.1).1⟩
   go_wp2_with fail
   go_ret
   refine ⟨L, cc, by rw [← hl.out]; rfl, ⟨by rw [← hl.out]; exact hC.out, KK.out.2⟩⟩
set_option maxHeartbeats 2000000 in
set_option maxRecDepth 100000 in
theorem rall_3 (w : World) (x : PI) (v : Value) (h : InstC w x v) (hi : IOk x) (hx : PIok x) (n : Nat) (hn : nP x = (n : Int)) (hn8 : n ≤ 7) (hkk : x.kind = 3) :
  Calls Try.prog 59 #[v] w fun e w' => ∃ A c, e = .returned (.slice A (allP x).length c) ∧ Aside0 ((Kd.slice 3 (Kd.int .i64)).C w' A (allP x).length (allP x) ∧ Below w.heap.size w w') := by
 have HKK := Aside0.mk hkk
 have HIN := Aside0.mk h
 have HI := Aside0.mk hi
 have HX := Aside0.mk hx
 have HCK : Aside0 (chk x = 0) := ⟨iok.2 hi⟩
 obtain ⟨A2, c2, A3, c3, A5, c5, rfl, h2, l2, h3, l3, h5, l5⟩ := h
 obtain ⟨n2, hn2⟩ : ∃ n, n = x.items.length := ⟨_, rfl⟩
 obtain ⟨n3, hn3⟩ : ∃ n, n = x.cost.length := ⟨_, rfl⟩
 obtain ⟨n5, hn5⟩ : ∃ n, n = x.sets.length := ⟨_, rfl⟩
 obtain ⟨kd, hkd⟩ : ∃ n, n = x.kind := ⟨_, rfl⟩
 obtain ⟨cap, hcap⟩ : ∃ n, n = x.cap := ⟨_, rfl⟩
 obtain ⟨sz, hsz⟩ : ∃ n, n = x.size := ⟨_, rfl⟩
 rw [← hn2, ← hn3, ← hn5, ← hkd, ← hcap, ← hsz] at HIN
 rw [← hn2, ← hn3, ← hn5, ← hkd, ← hcap, ← hsz]
 have HN := Aside0.mk (And.intro hn2 (And.intro hn3 hn5))
 have HF := Aside0.mk hkd
 have HNP := Aside0.mk hn
 rw [hkk] at hkd
 subst hkd
 obtain ⟨rr, hrr⟩ : ∃ rr, rr = allP x := ⟨_, rfl⟩
 rw [← hrr]
 have HRR := Aside0.mk hrr
 clear h2 h3 h5 l2 l3 l5 hn2 hn3 hn5 hcap hsz hi hx hn hkk hrr
 have hu57 := Try.underlying57
 go_enter Try.func59, Try.ntmps59
 go_upto_region 1 with fail
 obtain ⟨W1, hW1⟩ : ∃ W, W = w.alloc (.cells #[.int .i64 3, .int .i64 cap, .slice A2 n2 c2, .slice A3 n3 c3, .int .i64 sz, .slice A5 n5 c5] 57) := ⟨_, rfl⟩
 rw [← hW1]
 have B1 : Aside0 (Below w.heap.size w W1) := ⟨by rw [hW1]; exact below_alloc (Below.refl _ _) _⟩
 obtain ⟨p1, hp1⟩ : ∃ p, p = w.heap.size := ⟨_, rfl⟩
 have Q1 : Aside0 (W1.heap[p1]? = some (.cells #[.int .i64 3, .int .i64 cap, .slice A2 n2 c2, .slice A3 n3 c3, .int .i64 sz, .slice A5 n5 c5] 57 (0, 0))) := ⟨by rw [hW1, hp1]; exact heap_alloc_new _ _⟩
 rw [← hp1]
 clear hW1 hp1
 have IW : Aside0 (InstC W1 x (.agg #[.int .i64 3, .int .i64 cap, .slice A2 n2 c2, .slice A3 n3 c3, .int .i64 sz, .slice A5 n5 c5])) := ⟨HIN.out.below B1.out⟩
 obtain ⟨q0, q1, q2, q3, q4, q5, _⟩ := six Q1.out (Below.refl _ _)
 go_wp2_with fail
 refine (rcount_any W1 x _ IW.out HI.out HX.out n HNP.out (Nat.le_trans hn8 (by decide))).mono ?_
 rintro _ w2 ⟨rfl, H2⟩
 rw [HKK.out]
 clear q0 q1 q2 q3 q4 q5
 obtain ⟨q0, q1, q2, q3, q4, q5, _⟩ := six Q1.out H2.out
 have hnn : Aside0 ((nP x).toNat = n ∧ rr = (List.range (2 ^ n)).map (subP n)) := ⟨by rw [HNP.out]; rfl, by
  rw [HRR.out]
  unfold allP
  rw [if_neg (by rw [HKK.out]; decide), if_neg (by rw [HKK.out]; decide), HNP.out]
  rfl⟩
 have htw : twoB 3 = true := rfl
 rw [htw, cnF_two]
 obtain ⟨S, hS⟩ : ∃ S, S = 2 ^ n := ⟨_, rfl⟩
 rw [← hS] at hnn ⊢
 have HS := Aside0.mk hS
 have hS5 : S ≤ 256 := by
  rw [hS]
  exact Nat.le_trans (Nat.pow_le_pow_right (by omega) (show n ≤ 8 by omega)) (by decide)
 clear hS htw
 have K0 : Aside0 ((Kd.slice 3 (Kd.int .i64)).R 29 w2 w.heap.size (fun _ => True) (.slice none 0 0) ((List.range 0).map (subP n)) ∧ Below w.heap.size w w2) := ⟨Kd.R_nil _ _ _ _ _, B1.out.trans (H2.out.mono B1.out.size)⟩
 go_wp2_with fail
 clear q0 q1 q2 q3 q4 q5
 go_loopw [5, 6] (fun v5 v6 wr => ∃ (m : Nat) (L : Option Addr) (q cc : Nat), m ≤ S ∧ v6 = .int .i64 (m : Int) ∧ v5 = .slice L q cc ∧ Aside0 ((Kd.slice 3 (Kd.int .i64)).R 29 wr w.heap.size (fun _ => True) (.slice L q cc) ((List.range m).map (subP n)) ∧ Below w.heap.size w wr)) (fun _ v6 _ => S - (intOf v6).toNat)
 case atStart => exact ⟨0, none, 0, 0, Nat.zero_le _, rfl, rfl, K0⟩
 case round =>
  clear K0
  obtain ⟨m, L, q, cc, hm, rfl, rfl, KK⟩ := hrel
  by_cases hlt : m < S
  ·obtain ⟨wo, hwo⟩ : ∃ wo : World, wo = wr := ⟨_, rfl⟩
   rw [← hwo] at KK ⊢
   clear hwo
   have J0 : Aside0 (m = m / 2 ^ 0 ∧ (Kd.int .i64).R 3 wo wo.heap.size (fun _ => True) (.slice none 0 0) (subP 0 m) ∧ Below wo.heap.size wo wo) := ⟨by simp, Kd.R_nil _ _ _ _ _, Below.refl _ _⟩
   go_wp2_with fail
   go_loopw [7, 8, 9] (fun v7 v8 v9 wr => ∃ (k rest : Nat) (Y : Option Addr) (yn yc : Nat), k ≤ n ∧ v9 = .int .i64 (k : Int) ∧ v8 = .int .i64 (rest : Int) ∧ rest ≤ 256 ∧ v7 = .slice Y yn yc ∧ Aside0 (rest = m / 2 ^ k ∧ (Kd.int .i64).R 3 wr wo.heap.size (fun _ => True) (.slice Y yn yc) (subP k m) ∧ Below wo.heap.size wo wr)) (fun _ v8 _ _ => (intOf v8).toNat)
   case atStart => exact ⟨0, m, none, 0, 0, Nat.zero_le _, rfl, rfl, by omega, rfl, J0⟩
   case round =>
    clear J0
    obtain ⟨k, rest, Y, yn, yc, hk, rfl, rfl, hr5, rfl, KJ⟩ := hrel
    by_cases hr0 : 0 < rest
    ·have hkn : k < n := by
      apply Classical.byContradiction
      intro hge
      have h1 := KJ.out.1
      have : k = n := by omega
      subst this
      rw [Nat.div_eq_of_lt (by rw [← HS.out]; exact hlt)] at h1
      omega
     have N0 : Aside0 (rest / 2 = m / 2 ^ (k + 1)) := ⟨by rw [KJ.out.1, Nat.pow_succ, Nat.div_div_eq_div_mul]⟩
     have NS := Aside0.mk (subP_succ k m)
     obtain ⟨half, hhalf⟩ : ∃ h, h = rest / 2 := ⟨_, rfl⟩
     have hh1 : half < rest := by omega
     have hd : ((rest : Int) / 2) = (half : Int) := by omega
     rw [← hhalf] at N0
     have HB : Aside0 (((subP k m).length + 1) * 8 ≤ 140737488355328) := ⟨by
      have h1 : (subP k m).length ≤ k := by
       unfold subP
       rw [List.length_map]
       exact Nat.le_trans (List.length_filter_le _ _) (by rw [List.length_range]; exact Nat.le_refl _)
      omega⟩
     by_cases hb : rest % 2 = 1
     ·have hb2 : ((rest : Int) % 2) = 1 := by omega
      have N1 : Aside0 (subP (k + 1) m = subP k m ++ [(k : Int)]) := ⟨by rw [NS.out, if_pos (by rw [← KJ.out.1]; exact hb)]⟩
      clear hhalf hb
      go_upto_region 19 with (at_builtin; refine Kd.R_append (Kd.int .i64) (w0 := wo) wo.heap.size rfl _ _ 29 3 (.int .i64 0) 8 rfl Try.underlying29 info3 rfl (by decide) (by decide) (.slice Y yn yc) (subP k m) (k : Int) [.int .i64 (k : Int)] (fun _ => True) (fun _ => False) rfl rfl rfl (fun _ h => h.elim) (fun _ _ => trivial) KJ.out.2.1 KJ.out.2.2 KJ.out.2.2.size HB.out ?_; intro v7 w7 ho7 hb7 _ _; obtain ⟨A7, n7, c7, rfl, _⟩ := R_open ho7; have O7 := Aside0.mk ho7; have B7 := Aside0.mk hb7; clear ho7 hb7)
      have N2 : Aside0 (half = m / 2 ^ (k + 1) ∧ (Kd.int .i64).R 3 w7 wo.heap.size (fun _ => True) (.slice A7 n7 c7) (subP (k + 1) m) ∧ Below wo.heap.size wo w7) := ⟨N0.out, by rw [N1.out]; exact O7.out, B7.out⟩
      go_wp2_with fail
      exact ⟨⟨k + 1, half, A7, n7, c7, by omega, by go_num, rfl, by omega, rfl, N2⟩, by simp [intOf]; omega⟩
     ·have hb2 : ((rest : Int) % 2) = 0 := by omega
      have N2 : Aside0 (half = m / 2 ^ (k + 1) ∧ (Kd.int .i64).R 3 wr wo.heap.size (fun _ => True) (.slice Y yn yc) (subP (k + 1) m) ∧ Below wo.heap.size wo wr) := ⟨N0.out, by
       rw [NS.out, if_neg (by rw [← KJ.out.1]; exact hb), List.append_nil]
       exact KJ.out.2.1, KJ.out.2.2⟩
      clear hhalf hb
      go_wp2_with fail
      exact ⟨⟨k + 1, half, Y, yn, yc, by omega, by go_num, rfl, by omega, rfl, N2⟩, by simp [intOf]; omega⟩
    ·obtain rfl : rest = 0 := by omega
     have YE : Aside0 (subP k m = subP n m) := ⟨(subP_end KJ.out.1.symm n hk).symm⟩
     have OR : Aside0 ((Kd.slice 3 (Kd.int .i64)).R 29 wr w.heap.size (fun _ => True) (.slice L q cc) ((List.range m).map (subP n)) ∧ Below w.heap.size w wr) := ⟨Kd.R_below KK.out.1 KJ.out.2.2, KK.out.2.trans (KJ.out.2.2.mono KK.out.2.size)⟩
     have MM : Aside0 ((Kd.slice 3 (Kd.int .i64)).M wr w.heap.size (fun k => wo.heap.size ≤ k) (subP n m) [.slice Y yn yc]) := ⟨⟨_, rfl, by
      rw [← YE.out]
      exact Kd.R_lower (Kd.R_mono (Kd.R_bound KJ.out.2.1) (fun k hk => hk.2.1)) KK.out.2.size⟩⟩
     have OKP : Aside0 (∀ k, wo.heap.size ≤ k → True ∧ some k ≠ (Value.slice L q cc).ownBlock) := ⟨fun k hk => ⟨trivial, fun e => by
      obtain ⟨_, ho⟩ := Kd.R_own KK.out.1
      have := own_lt ho k e.symm
      omega⟩⟩
     have HB : Aside0 ((((List.range m).map (subP n)).length + 1) * 24 ≤ 140737488355328) := ⟨by
      rw [List.length_map, List.length_range]
      omega⟩
     go_upto_region 11 with (at_builtin; refine Kd.R_append (Kd.slice 3 (Kd.int .i64)) (w0 := w) w.heap.size rfl _ _ 117 29 (.slice none 0 0) 24 rfl Try.underlying117 infoR29 rfl (by decide) (by decide) (.slice L q cc) ((List.range m).map (subP n)) (subP n m) [.slice Y yn yc] (fun _ => True) (fun k => wo.heap.size ≤ k) rfl rfl MM.out OKP.out (fun _ _ => trivial) OR.out.1 OR.out.2 OR.out.2.size HB.out ?_; intro v7 w7 ho7 hb7 _ _; obtain ⟨A7, n7, c7, rfl, _⟩ := R_open ho7; have O7 := Aside0.mk ho7; have B7 := Aside0.mk hb7; clear ho7 hb7)
     have N2 : Aside0 ((Kd.slice 3 (Kd.int .i64)).R 29 w7 w.heap.size (fun _ => True) (.slice A7 n7 c7) ((List.range (m + 1)).map (subP n)) ∧ Below w.heap.size w w7) := ⟨by
      rw [List.range_succ, List.map_append]
      exact O7.out, B7.out⟩
     go_wp2_with fail
     exact ⟨⟨m + 1, A7, n7, c7, by omega, by go_num, rfl, N2⟩, by simp [intOf]; omega⟩
  ·obtain rfl : S = m := by omega
   have hl : Aside0 (q = rr.length) := ⟨by
    obtain ⟨A', c', e, _⟩ := Kd.R_reads KK.out.1
    injection e with _ e _
    rw [e, hnn.out.2]⟩
   have hC : Aside0 ((Kd.slice 3 (Kd.int .i64)).C wr L q rr) := ⟨by
    rw [hnn.out.2]
    exact (R_C KK.out.1).1⟩
   go_wp2_with fail
   go_ret
   refine ⟨L, cc, by rw [← hl.out]; rfl, ⟨by rw [← hl.out]; exact hC.out, KK.out.2⟩⟩
end Go.Proofs.Ytelabmhhnpfegaa.Hand
end
section
namespace Go.Proofs.Ytelabmhhnpfegaa.Hand
open Go.RowKit Go.Proofs.YtelabmhhnpfegaaW.PrintWords Go.Proofs.YtelabmhhnpfegaaW.PrintLast Go.Proofs.YtelabmhhnpfegaaW.PrintMore Go.Proofs.Ytelabmhhnpfegaa.PDynCells
def BstP (x : PI) (L : List (List Int)) (f : Bool) (z : Int) : Prop :=
 (f = false → z = 0 ∧ ∀ y ∈ L, (cosP x y).2 ≠ 0) ∧ (f = true → (∃ y ∈ L, cosP x y = (z, 0)) ∧ ∀ y ∈ L, (cosP x y).2 = 0 → z ≤ (cosP x y).1)
theorem BstP.nil (x : PI) : BstP x [] false 0 := ⟨fun _ => ⟨rfl, fun y hy => absurd hy List.not_mem_nil⟩, fun h => by cases h⟩
theorem BstP.skip {x : PI} {L : List (List Int)} {f : Bool} {z : Int} (h : BstP x L f z) {y : List Int} (hy : (cosP x y).2 ≠ 0 ∨ (f = true ∧ z ≤ (cosP x y).1)) : BstP x (L ++ [y]) f z := by
 refine ⟨fun hf => ⟨(h.1 hf).1, fun y' hy' => ?_⟩, fun hf => ⟨?_, fun y' hy' he => ?_⟩⟩
 ·rcases List.mem_append.1 hy' with h1 | h1
  ·exact (h.1 hf).2 y' h1
  ·rw [List.mem_singleton.1 h1]
   rcases hy with h2 | h2
   ·exact h2
   ·rw [hf] at h2
    cases h2.1
 ·obtain ⟨y0, h0, h1⟩ := (h.2 hf).1
  exact ⟨y0, List.mem_append.2 (.inl h0), h1⟩
 ·rcases List.mem_append.1 hy' with h1 | h1
  ·exact (h.2 hf).2 y' h1 he
  ·rw [List.mem_singleton.1 h1] at he ⊢
   rcases hy with h2 | h2
   ·exact absurd he h2
   ·exact h2.2
theorem BstP.take {x : PI} {L : List (List Int)} {f : Bool} {z c : Int} (h : BstP x L f z) {y : List Int} (hy : cosP x y = (c, 0)) (hc : f = false ∨ c < z) : BstP x (L ++ [y]) true c := by
 refine ⟨(fun hf => by cases hf), fun _ => ⟨⟨y, List.mem_append.2 (.inr (List.mem_singleton.2 rfl)), hy⟩, fun y' hy' he => ?_⟩⟩
 rcases List.mem_append.1 hy' with h1 | h1
 ·cases f with
  | false => exact absurd he ((h.1 rfl).2 y' h1)
  | true =>
   have := (h.2 rfl).2 y' h1 he
   rcases hc with h2 | h2
   ·cases h2
   ·omega
 ·rw [List.mem_singleton.1 h1, hy]
  exact Int.le_refl _
theorem ords_mem_len (n : Nat) : ∀ d head y, y ∈ ordsP n d head → y.length = head.length + d
 | 0, head, y, h => by
  rw [ordsP, List.mem_singleton] at h
  rw [h]
  rfl
 | d + 1, head, y, h => by
  rw [ordsP, List.mem_flatMap] at h
  obtain ⟨k, _, hk⟩ := h
  split at hk
  ·exact absurd hk List.not_mem_nil
  ·have := ords_mem_len n d _ y hk
   rw [List.length_append, List.length_singleton] at this
   omega
theorem all_len {x : PI} {n : Nat} (hn : nP x = (n : Int)) (hn8 : n ≤ 7) {y : List Int} (h : y ∈ allP x) : y.length ≤ 17592186044416 := by
 unfold allP at h
 split at h
 ·rename_i hk
  have h1 := ords_mem_len _ _ _ _ h
  unfold nP at hn
  rw [if_neg (by omega), if_pos hk] at hn
  rw [h1]
  simp
  omega
 ·split at h
  ·rename_i _ hk
   have h1 := ords_mem_len _ _ _ _ h
   unfold nP at hn
   rw [if_neg (by omega), if_neg (by omega), if_pos hk] at hn
   rw [h1]
   simp
   omega
  ·obtain ⟨m, _, rfl⟩ := List.mem_map.1 h
   unfold subP
   rw [List.length_map]
   refine Nat.le_trans (List.length_filter_le _ _) ?_
   rw [List.length_range, hn]
   omega
theorem rall_any (w : World) (x : PI) (v : Value) (h : InstC w x v) (hi : IOk x) (hx : PIok x) (n : Nat) (hn : nP x = (n : Int)) (hn8 : n ≤ 7) :
  Calls Try.prog 59 #[v] w fun e w' => ∃ A c, e = .returned (.slice A (allP x).length c) ∧ Aside0 ((Kd.slice 3 (Kd.int .i64)).C w' A (allP x).length (allP x) ∧ Below w.heap.size w w') := by
 have hk := hi.kind
 have h4 : x.kind = 0 ∨ x.kind = 1 ∨ x.kind = 2 ∨ x.kind = 3 := by omega
 rcases h4 with hk | hk | hk | hk
 ·exact rall_0 w x v h hi hx n hn hn8 hk
 ·exact rall_1 w x v h hi hx n hn hn8 hk
 ·exact rall_2 w x v h hi hx n hn hn8 hk
 ·exact rall_3 w x v h hi hx n hn hn8 hk
theorem all_small {x : PI} {n : Nat} (hn : nP x = (n : Int)) (hn8 : n ≤ 7) : (allP x).length ≤ 1099511627776 := by
 have h8 : ∀ a d : Nat, a ≤ 8 → d ≤ 8 → a ^ d ≤ 1099511627776 := fun a d h1 h2 => Nat.le_trans (pow8 h1 h2) (by decide)
 unfold allP
 split
 ·rename_i hk
  unfold nP at hn
  rw [if_neg (by omega), if_pos hk] at hn
  exact Nat.le_trans (ords_len _ _ _) (h8 _ _ (by omega) (by omega))
 ·split
  ·rename_i _ hk
   unfold nP at hn
   rw [if_neg (by omega), if_neg (by omega), if_pos hk] at hn
   exact Nat.le_trans (ords_len _ _ _) (h8 _ _ (by omega) (by omega))
  ·rw [List.length_map, List.length_range, hn]
   exact h8 2 _ (by omega) (by omega)
set_option maxHeartbeats 2000000 in
set_option maxRecDepth 100000 in
theorem rbest_any (w : World) (x : PI) (v : Value) (h : InstC w x v) (hi : IOk x) (hx : PIok x) (n : Nat) (hn : nP x = (n : Int)) (hn8 : n ≤ 7) :
  Calls Try.prog 29 #[v] w fun e w' => ∃ vb z f, e = .returned (.tuple #[vb, .int .i64 z, .bool f, .int .i64 0]) ∧ Aside0 (BstP x (allP x) f z ∧ Below w.heap.size w w') := by
 have HIN := Aside0.mk h
 have HI := Aside0.mk hi
 have HX := Aside0.mk hx
 have HCK : Aside0 (chk x = 0) := ⟨iok.2 hi⟩
 obtain ⟨A2, c2, A3, c3, A5, c5, rfl, h2, l2, h3, l3, h5, l5⟩ := h
 obtain ⟨n2, hn2⟩ : ∃ n, n = x.items.length := ⟨_, rfl⟩
 obtain ⟨n3, hn3⟩ : ∃ n, n = x.cost.length := ⟨_, rfl⟩
 obtain ⟨n5, hn5⟩ : ∃ n, n = x.sets.length := ⟨_, rfl⟩
 obtain ⟨kd, hkd⟩ : ∃ n, n = x.kind := ⟨_, rfl⟩
 obtain ⟨cap, hcap⟩ : ∃ n, n = x.cap := ⟨_, rfl⟩
 obtain ⟨sz, hsz⟩ : ∃ n, n = x.size := ⟨_, rfl⟩
 rw [← hn2, ← hn3, ← hn5, ← hkd, ← hcap, ← hsz] at HIN
 rw [← hn2, ← hn3, ← hn5, ← hkd, ← hcap, ← hsz]
 have HN := Aside0.mk (And.intro hn2 (And.intro hn3 hn5))
 have HF := Aside0.mk hkd
 have HNP := Aside0.mk hn
 obtain ⟨rr, hrr⟩ : ∃ rr, rr = allP x := ⟨_, rfl⟩
 rw [← hrr]
 have HRR := Aside0.mk hrr
 obtain ⟨M, hM⟩ : ∃ M, M = rr.length := ⟨_, rfl⟩
 have HM := Aside0.mk hM
 clear h2 h3 h5 l2 l3 l5 hn2 hn3 hn5 hcap hsz hi hx hn hkd hrr hM
 have hu57 := Try.underlying57
 go_enter Try.func29, Try.ntmps29
 go_upto_region 1 with fail
 obtain ⟨W1, hW1⟩ : ∃ W, W = w.alloc (.cells #[.int .i64 kd, .int .i64 cap, .slice A2 n2 c2, .slice A3 n3 c3, .int .i64 sz, .slice A5 n5 c5] 57) := ⟨_, rfl⟩
 rw [← hW1]
 have B1 : Aside0 (Below w.heap.size w W1) := ⟨by rw [hW1]; exact below_alloc (Below.refl _ _) _⟩
 obtain ⟨p1, hp1⟩ : ∃ p, p = w.heap.size := ⟨_, rfl⟩
 have Q1 : Aside0 (W1.heap[p1]? = some (.cells #[.int .i64 kd, .int .i64 cap, .slice A2 n2 c2, .slice A3 n3 c3, .int .i64 sz, .slice A5 n5 c5] 57 (0, 0))) := ⟨by rw [hW1, hp1]; exact heap_alloc_new _ _⟩
 rw [← hp1]
 clear hW1 hp1
 have IW : Aside0 (InstC W1 x (.agg #[.int .i64 kd, .int .i64 cap, .slice A2 n2 c2, .slice A3 n3 c3, .int .i64 sz, .slice A5 n5 c5])) := ⟨HIN.out.below B1.out⟩
 obtain ⟨q0, q1, q2, q3, q4, q5, _⟩ := six Q1.out (Below.refl _ _)
 go_wp2_with fail
 refine (rcount_any W1 x _ IW.out HI.out HX.out n HNP.out (Nat.le_trans hn8 (by decide))).mono ?_
 rintro _ w2 ⟨rfl, H2⟩
 clear q0 q1 q2 q3 q4 q5
 obtain ⟨q0, q1, q2, q3, q4, q5, _⟩ := six Q1.out H2.out
 go_wp2_with fail
 refine (rall_any w2 x _ (IW.out.below H2.out) HI.out HX.out n HNP.out hn8).mono ?_
 rintro _ w3 ⟨A, c, rfl, H3⟩
 rw [← HRR.out, ← HM.out]
 have HA : Aside0 ((Kd.slice 3 (Kd.int .i64)).C w3 A M rr ∧ Below W1.heap.size W1 w3) := ⟨by rw [HM.out, HRR.out]; exact H3.out.1, H2.out.trans (H3.out.2.mono H2.out.size)⟩
 clear q0 q1 q2 q3 q4 q5 H3
 have hM5 : M ≤ 1099511627776 := by
  rw [HM.out, HRR.out]
  exact all_small HNP.out hn8
 have K0 : Aside0 (BstP x (rr.take 0) false 0 ∧ Below w3.heap.size w3 w3) := ⟨BstP.nil x, Below.refl _ _⟩
 go_wp2_with fail
 go_loopw [9, 10, 11, 12] (fun v9 v10 v11 v12 wr => ∃ (i : Nat) (z : Int) (f : Bool), i ≤ M ∧ v12 = .int .i64 (i : Int) ∧ v10 = .int .i64 z ∧ v11 = .bool f ∧ Aside0 (BstP x (rr.take i) f z ∧ Below w3.heap.size w3 wr)) (fun _ _ _ v12 _ => M - (intOf v12).toNat)
 case atStart => exact ⟨0, 0, false, Nat.zero_le _, rfl, rfl, rfl, K0⟩
 case round =>
  clear K0
  obtain ⟨i, z, f, hi, rfl, rfl, rfl, KK⟩ := hrel
  by_cases hlt : i < M
  ·have hil : i < rr.length := by rw [← HM.out]; exact hlt
   obtain ⟨ad, AY, cY, rfl, y0', ly, hy⟩ := at_L3 HA.out.1 (i : Int) (by omega) (by omega)
   rw [Int.toNat_natCast] at y0'
   obtain ⟨y, hyy⟩ : ∃ y, y = rd_L3 rr (i : Int) := ⟨_, rfl⟩
   rw [← hyy] at y0' ly hy
   have HYY : Aside0 (y = rr.getD i []) := ⟨by rw [hyy]; unfold rd_L3; rw [Int.toNat_natCast]⟩
   have hyl : y.length ≤ 17592186044416 := by
    refine all_len HNP.out hn8 ?_
    rw [HYY.out, ← HRR.out, List.getD_eq_getElem?_getD, List.getElem?_eq_getElem hil]
    exact List.getElem_mem hil
   obtain ⟨m, hm⟩ : ∃ m, m = y.length := ⟨_, rfl⟩
   rw [← hm] at y0' ly hy hyl
   have NX : Aside0 (rr.take (i + 1) = rr.take i ++ [y]) := ⟨by rw [take_snoc hil [], HYY.out]⟩
   go_upto_region 11 with fail
   obtain ⟨wo, hwo⟩ : ∃ wo : World, wo = wr := ⟨_, rfl⟩
   rw [← hwo] at KK ⊢
   clear hwo
   have BO : Aside0 (Below W1.heap.size W1 wo.drew) := ⟨below_drew (HA.out.2.trans (KK.out.2.mono HA.out.2.size))⟩
   have HY : Aside0 ((Kd.int .i64).C wo.drew AY m y) := ⟨Kd.C_below hy (below_drew KK.out.2)⟩
   obtain ⟨z0, z1, z2, z3, z4, z5, _⟩ := six Q1.out BO.out
   have z6 : wo.drew.cell? (ad.add i) = some (.slice AY m cY) := pw_cell_below (below_drew KK.out.2) y0'
   obtain ⟨c1, hc1⟩ : ∃ c, c = (cosP x y).1 := ⟨_, rfl⟩
   obtain ⟨e1, he1⟩ : ∃ c, c = (cosP x y).2 := ⟨_, rfl⟩
   have HCE : Aside0 (cosP x y = (c1, e1)) := ⟨by rw [hc1, he1]⟩
   have HHYL := Aside0.mk hyl
   clear hc1 he1 hyy hm y0' ly hy hyl hil
   have ZZ := Aside0.mk z6
   refine start_ (n := 11) (S := fun w' => w'.cell? ⟨p1, 0, none⟩ = some (.int .i64 kd) ∧ w'.cell? ⟨p1, 1, none⟩ = some (.int .i64 cap) ∧ w'.cell? ⟨p1, 2, none⟩ = some (.slice A2 n2 c2) ∧ w'.cell? ⟨p1, 3, none⟩ = some (.slice A3 n3 c3) ∧ w'.cell? ⟨p1, 4, none⟩ = some (.int .i64 sz) ∧ w'.cell? ⟨p1, 5, none⟩ = some (.slice A5 n5 c5) ∧ w'.cell? (ad.add i) = some (.slice AY m cY)) (ds := []) #[false, false, false, false, false, false, false, false, false, false, false] (by kernel_rfl) rfl rfl ⟨z0, z1, z2, z3, z4, z5, z6⟩ (fun hHeld => ?_)
   clear z0 z1 z2 z3 z4 z5 z6
   refine taU 0 (some 32) ?_ rfl rfl (by kernel_rfl) (fun _ _ _ h => h) (Or.inl ⟨by rfl, ?_⟩) hHeld ?_ ?_ ?_
   rotate_left
   ·rintro w' ⟨s0, s1, s2, s3, s4, s5, s6⟩
    go_simp
    with_reducible rfl
   rotate_left
   ·simp only [Act.put, lsA, lsB, lsC]
    rfl
   refine puU 1 (some 33) ?_ rfl rfl (by kernel_rfl) (fun _ _ _ h => h) (Or.inl ⟨by rfl, ?_⟩) ?_ ?_ ?_
   rotate_left
   ·intro w'
    go_simp
    with_reducible rfl
   rotate_left
   ·simp only [Act.put, lsA, lsB, lsC]
    rfl
   refine puU 2 (some 34) ?_ rfl rfl (by kernel_rfl) (fun _ _ _ h => h) (Or.inl ⟨by rfl, ?_⟩) ?_ ?_ ?_
   rotate_left
   ·intro w'
    go_simp
    with_reducible rfl
   rotate_left
   ·simp only [Act.put, lsA, lsB, lsC]
    rfl
   refine puU 3 (some 35) ?_ rfl rfl (by kernel_rfl) (fun _ _ _ h => h) (Or.inl ⟨by rfl, ?_⟩) ?_ ?_ ?_
   rotate_left
   ·intro w'
    go_simp
    with_reducible rfl
   rotate_left
   ·simp only [Act.put, lsA, lsB, lsC]
    rfl
   refine taU 4 (some 36) ?_ rfl rfl (by kernel_rfl) (fun _ _ _ h => h) (Or.inl ⟨by rfl, ?_⟩) hHeld ?_ ?_ ?_
   rotate_left
   ·rintro w' ⟨s0, s1, s2, s3, s4, s5, s6⟩
    go_simp
    with_reducible rfl
   rotate_left
   ·simp only [Act.put, lsA, lsB, lsC]
    rfl
   refine one_ (i := 5) (N := some 37) #[true, true, true, true, true, true, false, false, false, false, false] rfl rfl (by kernel_rfl) (by decide) (fun K hK => ?_)
   refine goes_ Try.func60 (by kernel_rfl) rfl #[.agg #[.int .i64 kd, .int .i64 cap, .slice A2 n2 c2, .slice A3 n3 c3, .int .i64 sz, .slice A5 n5 c5], .slice AY m cY] (by rfl) rfl rfl (by (try simp only [List.map_toArray, List.map_cons, List.map_nil]); first | done | rfl) ?_
   refine (rcost_any wo.drew x _ (IW.out.below BO.out) HX.out AY m cY y HY.out HHYL.out c1 e1 HCE.out.symm).mono ?_
   rintro _ w7 ⟨rfl, H7⟩
   have BO7 : Aside0 (Below W1.heap.size W1 w7) := ⟨BO.out.trans (H7.out.mono BO.out.size)⟩
   have Z7 : Aside0 (w7.cell? (ad.add i) = some (.slice AY m cY)) := ⟨pw_cell_below H7.out ZZ.out⟩
   have B7 : Aside0 (Below w3.heap.size w3 w7) := ⟨(below_drew KK.out.2).trans (H7.out.mono KK.out.2.size)⟩
   obtain ⟨t0, t1, t2, t3, t4, t5, _⟩ := six Q1.out BO7.out
   refine ⟨_, rfl, ?_⟩
   refine hK.out _ _ ⟨t0, t1, t2, t3, t4, t5, Z7.out⟩ (fun _ => ?_)
   clear hK K t0 t1 t2 t3 t4 t5
   refine norm_ (a' := ?_) ?_ ?_
   rotate_left
   ·show Act.put _ (some 37) _ = _
    simp only [Act.put, lsA, lsB, lsC]
    rfl
   refine puU 6 (some 31) ?_ rfl rfl (by kernel_rfl) (fun _ _ _ h => h) (Or.inl ⟨by rfl, ?_⟩) ?_ ?_ ?_
   rotate_left
   ·intro w'
    go_simp
    with_reducible rfl
   rotate_left
   ·simp only [Act.put, lsA, lsB, lsC]
    rfl
   refine puU 7 (some 38) ?_ rfl rfl (by kernel_rfl) (fun _ _ _ h => h) (Or.inl ⟨by rfl, ?_⟩) ?_ ?_ ?_
   rotate_left
   ·intro w'
    go_simp
    with_reducible rfl
   rotate_left
   ·simp only [Act.put, lsA, lsB, lsC]
    rfl
   refine puU 8 (some 39) ?_ rfl rfl (by kernel_rfl) (fun _ _ _ h => h) (Or.inl ⟨by rfl, ?_⟩) ?_ ?_ ?_
   rotate_left
   ·intro w'
    go_simp
    with_reducible rfl
   rotate_left
   ·simp only [Act.put, lsA, lsB, lsC]
    rfl
   refine puU 9 (some 13) ?_ rfl rfl (by kernel_rfl) (fun _ _ _ h => h) (Or.inl ⟨by rfl, ?_⟩) ?_ ?_ ?_
   rotate_left
   ·intro w'
    go_simp
    with_reducible rfl
   rotate_left
   ·simp only [Act.put, lsA, lsB, lsC]
    rfl
   refine puU 10 (some 14) ?_ rfl rfl (by kernel_rfl) (fun _ _ _ h => h) (Or.inl ⟨by rfl, ?_⟩) ?_ ?_ ?_
   rotate_left
   ·intro w'
    go_simp
    with_reducible rfl
   rotate_left
   ·simp only [Act.put, lsA, lsB, lsC]
    rfl
   refine done_ (by kernel_rfl) ?_
   clear hHeld
   cases f with
   | false =>
    by_cases h0 : e1 = 0
    ·subst h0
     have N1 : Aside0 (BstP x (rr.take (i + 1)) true c1 ∧ Below w3.heap.size w3 w7) := ⟨by rw [NX.out]; exact KK.out.1.take HCE.out (.inl rfl), B7.out⟩
     have z6' : w7.cell? (ad.add i) = some (.slice AY m cY) := Z7.out
     go_wp2_with fail
     exact ⟨⟨i + 1, c1, true, by omega, by go_num, rfl, rfl, N1⟩, by simp [intOf]; omega⟩
    ·have g : (e1 == 0) = false := beq_eq_false_iff_ne.2 h0
     have N1 : Aside0 (BstP x (rr.take (i + 1)) false z ∧ Below w3.heap.size w3 w7) := ⟨by rw [NX.out]; exact KK.out.1.skip (.inl (by rw [HCE.out]; exact h0)), B7.out⟩
     clear h0
     go_wp2_with fail
     exact ⟨⟨i + 1, z, false, by omega, by go_num, rfl, rfl, N1⟩, by simp [intOf]; omega⟩
   | true =>
    by_cases h0 : e1 = 0
    ·subst h0
     by_cases hcz : c1 < z
     ·have N1 : Aside0 (BstP x (rr.take (i + 1)) true c1 ∧ Below w3.heap.size w3 w7) := ⟨by rw [NX.out]; exact KK.out.1.take HCE.out (.inr hcz), B7.out⟩
      have z6' : w7.cell? (ad.add i) = some (.slice AY m cY) := Z7.out
      have g : decide (c1 < z) = true := decide_eq_true hcz
      go_wp2_with fail
      exact ⟨⟨i + 1, c1, true, by omega, by go_num, rfl, rfl, N1⟩, by simp [intOf]; omega⟩
     ·have N1 : Aside0 (BstP x (rr.take (i + 1)) true z ∧ Below w3.heap.size w3 w7) := ⟨by rw [NX.out]; exact KK.out.1.skip (.inr ⟨rfl, by rw [HCE.out]; simp only; omega⟩), B7.out⟩
      have g : decide (c1 < z) = false := decide_eq_false hcz
      go_wp2_with fail
      exact ⟨⟨i + 1, z, true, by omega, by go_num, rfl, rfl, N1⟩, by simp [intOf]; omega⟩
    ·have g : (e1 == 0) = false := beq_eq_false_iff_ne.2 h0
     have N1 : Aside0 (BstP x (rr.take (i + 1)) true z ∧ Below w3.heap.size w3 w7) := ⟨by rw [NX.out]; exact KK.out.1.skip (.inl (by rw [HCE.out]; exact h0)), B7.out⟩
     clear h0
     go_wp2_with fail
     exact ⟨⟨i + 1, z, true, by omega, by go_num, rfl, rfl, N1⟩, by simp [intOf]; omega⟩
  ·obtain rfl : M = i := by omega
   have N1 : Aside0 (BstP x rr f z) := ⟨by
    have h1 := KK.out.1
    rwa [List.take_of_length_le (by rw [← HM.out]; exact Nat.le_refl _)] at h1⟩
   go_wp2_with fail
   refine bodyPost_ret (v := .tuple #[u9, .int .i64 z, .bool f, .int .i64 0]) (by simp [results, Try.results29, go_sem]) rfl ?_
   exact ⟨u9, z, f, rfl, ⟨N1.out, B1.out.trans ((HA.out.2.trans (KK.out.2.mono HA.out.2.size)).mono B1.out.size)⟩⟩
end Go.Proofs.Ytelabmhhnpfegaa.Hand
end
