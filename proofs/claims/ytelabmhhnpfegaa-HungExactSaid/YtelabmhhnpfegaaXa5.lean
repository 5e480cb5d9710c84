/- Texts Ri Rj Kp Kb Kc, cut to what is used. -/
import Derived.StillTailTactics
import Derived.Shelf.Abstract
import Derived.Shelf.RegionOpen
import Derived.OwnWalkIn
import Derived.TacticsInMore
import Derived.LoopNIn
import Derived.LoopIn
import Derived.Laws.BitsLemmas
import Derived.Lib.BufferMore
import Derived.Test.YtelabmhhnpfegaaXa0
import Derived.Test.YtelabmhhnpfegaaXa2
import Derived.Test.YtelabmhhnpfegaaXa3
import Derived.Test.YtelabmhhnpfegaaXa4
set_option linter.unusedVariables false
set_option linter.unusedSimpArgs false
section
namespace Go.Proofs.Ytelabmhhnpfegaa.Hand
open Go.RowKit Go.Shelf
open Go.Proofs.YtelabmhhnpfegaaW.PrintWords Go.Proofs.YtelabmhhnpfegaaW.PrintLast Go.Proofs.YtelabmhhnpfegaaW.PrintMore Go.Proofs.Ytelabmhhnpfegaa.PDynCells
theorem upTo_any (w : World) (m : Int) : Calls Try.prog 100 #[.int .i64 m] w fun e w' => ∃ B, e = .returned (.func (.func 133) #[] #[.pointer (some ⟨B, 0, none⟩)]) ∧ Aside0 (w'.cell? ⟨B, 0, none⟩ = some (.int .i64 m) ∧ B < w'.heap.size ∧ Below w.heap.size w w') := by
 go_enter Try.func100, Try.ntmps100
 go_wp2_with fail
 go_ret
 exact ⟨_, rfl, ⟨(blk_cell (heap_alloc_new w _) 0).trans rfl, by simp, below_alloc (Below.refl _ _) _⟩⟩
theorem subsets_1 (w : World) : Calls Try.prog 101 #[.int .i64 1] w fun e w' => e = .returned (.bool false) ∧ w = w' := by
 go_enter Try.func101, Try.ntmps101
 go_wp2_with fail
 go_ret
 exact ⟨rfl, rfl⟩
theorem tim_few : ∀ n : Fin 7, 1 ≤ timC (ups n.val) ∧ timC (ups n.val) ≤ 720 := by decide +kernel
set_option maxHeartbeats 2000000 in
set_option maxRecDepth 100000 in
theorem count1_any (w : World) (x : PI) (v : Value) (h : InstC w x v) (hi : IOk x) (hx : PIok x) (hk : x.kind = 1) (n : Nat) (hn : x.cost.length = n) (h6 : n ≤ 6) :
  Calls Try.prog 64 #[v] w fun e w' => (∃ t : Int, e = .returned (.tuple #[.int .i64 t, .int .i64 0])) ∧ Aside0 (Below w.heap.size w w') := by
 have HIN := Aside0.mk h
 have HI := Aside0.mk hi
 have HX := Aside0.mk hx
 have HCK : Aside0 (chk x = 0) := ⟨iok.2 hi⟩
 have HNP : Aside0 (nP x = (n : Int)) := ⟨by unfold nP; rw [if_neg (by omega), if_pos hk, hn]⟩
 obtain ⟨A2, c2, A3, c3, A5, c5, rfl, h2, l2, h3, l3, h5, l5⟩ := h
 obtain ⟨n2, hn2⟩ : ∃ n, n = x.items.length := ⟨_, rfl⟩
 obtain ⟨n5, hn5⟩ : ∃ n, n = x.sets.length := ⟨_, rfl⟩
 obtain ⟨cap, hcap⟩ : ∃ n, n = x.cap := ⟨_, rfl⟩
 obtain ⟨sz, hsz⟩ : ∃ n, n = x.size := ⟨_, rfl⟩
 rw [← hn2, hn, ← hn5, hk, ← hcap, ← hsz] at HIN
 rw [← hn2, hn, ← hn5, hk, ← hcap, ← hsz]
 clear h2 h3 h5 l2 l3 l5 hn2 hn5 hcap hsz hi hx hn hk
 have hu54 := Try.underlying54
 go_enter Try.func64, Try.ntmps64
 go_upto_region 1 with fail
 obtain ⟨W1, hW1⟩ : ∃ W, W = w.alloc (.cells #[.int .i64 1, .int .i64 cap, .slice A2 n2 c2, .slice A3 n c3, .int .i64 sz, .slice A5 n5 c5] 54) := ⟨_, rfl⟩
 rw [← hW1]
 have B1 : Aside0 (Below w.heap.size w W1) := ⟨by rw [hW1]; exact below_alloc (Below.refl _ _) _⟩
 obtain ⟨p1, hp1⟩ : ∃ p, p = w.heap.size := ⟨_, rfl⟩
 have Q1 : Aside0 (W1.heap[p1]? = some (.cells #[.int .i64 1, .int .i64 cap, .slice A2 n2 c2, .slice A3 n c3, .int .i64 sz, .slice A5 n5 c5] 54 (0, 0))) := ⟨by rw [hW1, hp1]; exact heap_alloc_new _ _⟩
 rw [← hp1]
 clear hW1 hp1
 have IW : Aside0 (InstC W1 x (.agg #[.int .i64 1, .int .i64 cap, .slice A2 n2 c2, .slice A3 n c3, .int .i64 sz, .slice A5 n5 c5])) := ⟨HIN.out.below B1.out⟩
 obtain ⟨q0, q1, q2, q3, q4, q5, _⟩ := six Q1.out (Below.refl _ _)
 go_wp2_with fail
 refine (icheck_any W1 x _ IW.out HX.out).mono ?_
 rintro _ w2 ⟨rfl, hb2⟩
 rw [HCK.out]
 have B2 : Aside0 (Below W1.heap.size W1 w2) := ⟨hb2⟩
 clear hb2 q0 q1 q2 q3 q4 q5
 obtain ⟨q0, q1, q2, q3, q4, q5, _⟩ := six Q1.out B2.out
 go_wp2_with fail
 refine (n_any w2 x _ (IW.out.below B2.out) HX.out HI.out).mono ?_
 rintro _ w3 ⟨rfl, hb3⟩
 rw [HNP.out]
 have B3 : Aside0 (Below W1.heap.size W1 w3) := ⟨B2.out.trans (hb3.mono B2.out.size)⟩
 clear hb3 q0 q1 q2 q3 q4 q5
 go_wp2_with fail
 refine (upTo_any w3 n).mono ?_
 rintro _ w4 ⟨B, rfl, H4⟩
 have B4 : Aside0 (Below W1.heap.size W1 w4) := ⟨B3.out.trans (H4.out.2.2.mono B3.out.size)⟩
 obtain ⟨q0, q1, q2, q3, q4, q5, _⟩ := six Q1.out B4.out
 go_wp2_with fail
 refine (subsets_1 w4).mono ?_
 rintro _ _ ⟨rfl, rfl⟩
 go_wp2_with fail
 refine (callsIn_wide.1 (times_up Fence.wide 3 trivial trivial rfl (by omega) B n (by omega) w4 H4.out.2.1 H4.out.1)).mono ?_
 rintro _ w5 ⟨rfl, hb5⟩
 have BE := Aside0.mk (B1.out.trans ((B4.out.trans (hb5.mono B4.out.size)).mono B1.out.size))
 obtain ⟨t, ht⟩ : ∃ t, t = timC (ups n) := ⟨_, rfl⟩
 have ht2 : t ≤ 720 := by rw [ht]; exact (tim_few ⟨n, by omega⟩).2
 rw [← ht]
 clear ht hb5 q0 q1 q2 q3 q4 q5
 go_wp2_with fail
 refine bodyPost_ret (v := .tuple #[.int .i64 t, .int .i64 0]) (by simp [results, Try.results64, go_sem]) rfl ?_
 exact ⟨⟨_, rfl⟩, BE⟩
end Go.Proofs.Ytelabmhhnpfegaa.Hand
end
section
namespace Go.Proofs.Ytelabmhhnpfegaa.Hand
open Go.RowKit Go.Shelf
open Go.Proofs.YtelabmhhnpfegaaW.PrintWords Go.Proofs.YtelabmhhnpfegaaW.PrintLast Go.Proofs.YtelabmhhnpfegaaW.PrintMore Go.Proofs.Ytelabmhhnpfegaa.PDynCells
attribute [local go_sem] Oper.semAt_some
theorem all_new (w : World) (cap sz : Int) (A2 A3 A5 : Option Addr) (n2 c2 n c3 n5 c5 : Nat) :
  Calls Try.prog 65 #[.agg #[.int .i64 1, .int .i64 cap, .slice A2 n2 c2, .slice A3 n c3, .int .i64 sz, .slice A5 n5 c5]] w fun e w' => ∃ B, e = .returned (.func (.func 104) #[] #[.pointer (some ⟨B, 0, none⟩)]) ∧
   Aside0 (w'.heap[B]? = some (.cells #[.int .i64 1, .int .i64 cap, .slice A2 n2 c2, .slice A3 n c3, .int .i64 sz, .slice A5 n5 c5] 54 (0, 0)) ∧ Below w.heap.size w w') := by
 go_enter Try.func65, Try.ntmps65
 go_wp2_with fail
 go_ret
 exact ⟨_, rfl, ⟨heap_alloc_new w _, below_alloc (Below.refl _ _) _⟩⟩
set_option maxHeartbeats 1000000 in
theorem all_gives (m : Nat) (x : PI) (hi : IOk x) (hx : PIok x) (hk : x.kind = 1) (n : Nat) (hn : x.cost.length = n) (h1 : 1 ≤ n) (h6 : n ≤ 6) (w : World) (cap sz : Int) (A2 A3 A5 : Option Addr) (n2 c2 c3 n5 c5 B : Nat)
  (hQ : w.heap[B]? = some (.cells #[.int .i64 1, .int .i64 cap, .slice A2 n2 c2, .slice A3 n c3, .int .i64 sz, .slice A5 n5 c5] 54 (0, 0)))
  (hC : InstC w x (.agg #[.int .i64 1, .int .i64 cap, .slice A2 n2 c2, .slice A3 n c3, .int .i64 sz, .slice A5 n5 c5])) :
  Gives Fence.wide m Try.prog 104 #[.pointer (some ⟨B, 0, none⟩)] Ord.enc Ord.Rd (fun xs => xs.map Ord.l = visit 721 (List.range n)) 721 w := by
 intro l J W hb hJ hY h0
 have QW := Aside0.mk (blk_below hQ hb)
 have CN := Aside0.mk (count1_any W x _ (hC.below hb) hi hx hk n hn h6)
 have HJ := Aside0.mk hJ
 have HY := Aside0.mk hY
 have H0 := Aside0.mk h0
 clear hC hQ hb hJ hY h0 hi hx hk hn
 have f1 : Fence.wide.fn 64 := trivial
 have f2 : Fence.wide.fn 105 := trivial
 have f3 : Fence.wide.depth.isSome = true → 1 ≤ m := fun h => by cases h
 have hu54 := Try.underlying54
 refine callsIn_of_wp Try.func104 rfl trivial ?_ rfl
 simp only [Try.ntmps104, List.size_toArray, List.length_cons, List.length_nil, Nat.reduceAdd, Nat.reduceSub, Array.replicate_succ, Array.replicate_zero, List.push_toArray, List.append_toArray, List.nil_append, List.cons_append]
 obtain ⟨q0, q1, q2, q3, q4, q5, _⟩ := six QW.out (Below.refl _ _)
 gi_wp2
 refine ⟨f3, ?_⟩
 refine (callsIn_wide.2 CN.out).mono ?_
 rintro e W1 ⟨⟨t, rfl⟩, HB1⟩
 have J1 := Aside0.mk (HJ.out _ _ _ H0.out (Chg.of_below HB1.out))
 clear q0 q1 q2 q3 q4 q5
 obtain ⟨q0, q1, q2, q3, q4, q5, _⟩ := six QW.out HB1.out
 gi_wp2
 refine ⟨f3, ?_⟩
 refine (orders_in _ n 721 l h1 (by omega) (visit_all ⟨n, by omega⟩).2 J W W1 HB1.out.size HJ.out (fun pre x W1 a b c => yieldAt_free rfl (HY.out pre x W1 a b c)) J1.out).mono ?_
 rintro e W2 ⟨⟨v, rfl⟩, xs, hxs, hJ2⟩
 have FIN := Aside0.mk (And.intro hxs hJ2)
 clear hxs hJ2
 gi_wp2
 refine bodyPost_ret (v := .tuple #[]) (by simp [results, Try.results104, go_sem]) rfl ?_
 exact ⟨⟨_, rfl⟩, xs, FIN.out.1, FIN.out.2⟩
end Go.Proofs.Ytelabmhhnpfegaa.Hand
end
section
namespace Go.Proofs.Ytelabmhhnpfegaa.Hand
theorem byte_and (p q r s : Nat) (hq : q < 256) (hs : s < 256) : (256 * p + q) &&& (256 * r + s) = 256 * (p &&& r) + (q &&& s) := by
 have hqs : (q &&& s) < 2 ^ 8 := Nat.and_lt_two_pow q (show s < 2 ^ 8 from hs)
 apply Nat.eq_of_testBit_eq
 intro i
 have e1 := Nat.testBit_two_pow_mul_add p (show q < 2 ^ 8 from hq) i
 have e2 := Nat.testBit_two_pow_mul_add r (show s < 2 ^ 8 from hs) i
 have e3 := Nat.testBit_two_pow_mul_add (p &&& r) hqs i
 rw [show (2 : Nat) ^ 8 = 256 from rfl] at e1 e2 e3
 rw [Nat.testBit_and, e1, e2, e3]
 split
 ·rw [Nat.testBit_and]
 ·rw [Nat.testBit_and]
def mk8 (b : Nat) : Nat → Nat
 | 0 => 0
 | n + 1 => 256 * mk8 b n + b
def st1 (n x : Nat) : Nat := ((x / 2) &&& mk8 85 n) + (x &&& mk8 85 n)
def st2 (n x : Nat) : Nat := ((x / 4) &&& mk8 51 n) + (x &&& mk8 51 n)
def st3 (n x : Nat) : Nat := (x / 16 + x) &&& mk8 15 n
set_option maxRecDepth 100000 in
theorem tb1 : ∀ b : Fin 256, ∀ y : Fin 2, ((b.val / 2 + 128 * y.val) &&& 85) + (b.val &&& 85) = st1 1 b.val ∧ st1 1 b.val < 256 := by decide +kernel
set_option maxRecDepth 100000 in
theorem tb2 : ∀ b : Fin 256, ∀ y : Fin 4, ((b.val / 4 + 64 * y.val) &&& 51) + (b.val &&& 51) = st2 1 b.val ∧ st2 1 b.val / 16 ≤ 6 ∧ st2 1 b.val % 16 ≤ 6 := by decide +kernel
set_option maxRecDepth 100000 in
theorem tb3 : ∀ b : Fin 256, ∀ y : Fin 7, b.val / 16 ≤ 6 → b.val % 16 ≤ 6 → 16 * y.val + b.val / 16 + b.val < 256 ∧ (16 * y.val + b.val / 16 + b.val) &&& 15 = st3 1 b.val := by decide +kernel
theorem st1_step (n y b : Nat) (hb : b < 256) : st1 (n + 1) (256 * y + b) = 256 * st1 n y + st1 1 b := by
 have h1 : (256 * y + b) / 2 = 256 * (y / 2) + (b / 2 + 128 * (y % 2)) := by omega
 obtain ⟨t1, t2⟩ := tb1 ⟨b, hb⟩ ⟨y % 2, by omega⟩
 simp only at t1 t2
 rw [← t1]
 unfold st1
 rw [mk8, h1, byte_and _ _ _ _ (by omega) (by omega), byte_and _ _ _ _ hb (by omega)]
 omega
theorem st2_step (n y b : Nat) (hb : b < 256) : st2 (n + 1) (256 * y + b) = 256 * st2 n y + st2 1 b := by
 have h1 : (256 * y + b) / 4 = 256 * (y / 4) + (b / 4 + 64 * (y % 4)) := by omega
 obtain ⟨t1, t2⟩ := tb2 ⟨b, hb⟩ ⟨y % 4, by omega⟩
 simp only at t1 t2
 rw [← t1]
 unfold st2
 rw [mk8, h1, byte_and _ _ _ _ (by omega) (by omega), byte_and _ _ _ _ hb (by omega)]
 omega
theorem st3_step (n y b : Nat) (hb : b < 256) (h1 : b / 16 ≤ 6) (h2 : b % 16 ≤ 6) (hy : y % 16 ≤ 6) : st3 (n + 1) (256 * y + b) = 256 * st3 n y + st3 1 b := by
 obtain ⟨t0, t1⟩ := tb3 ⟨b, hb⟩ ⟨y % 16, by omega⟩ h1 h2
 simp only at t0 t1
 have h3 : (256 * y + b) / 16 + (256 * y + b) = 256 * (y / 16 + y) + (16 * (y % 16) + b / 16 + b) := by omega
 rw [← t1]
 unfold st3
 rw [mk8, h3, byte_and _ _ _ _ t0 (by omega)]
def cnt8 : Nat → Nat → Nat
 | 0, _ => 0
 | n + 1, x => 256 * cnt8 n (x / 256) + st3 1 (st2 1 (st1 1 (x % 256)))
theorem st_lt : ∀ b : Fin 256, st1 1 b.val < 256 ∧ st2 1 (st1 1 b.val) < 256 := by decide +kernel
theorem st2_nib (n x : Nat) : st2 (n + 1) x % 16 ≤ 6 := by
 have h : x = 256 * (x / 256) + x % 256 := by omega
 rw [h, st2_step _ _ _ (by omega)]
 obtain ⟨_, t1, t2⟩ := tb2 ⟨x % 256, by omega⟩ ⟨0, by omega⟩
 simp only at t1 t2
 omega
theorem st0 (x : Nat) : st1 0 x = 0 ∧ st2 0 x = 0 ∧ st3 0 x = 0 := by simp [st1, st2, st3, mk8]
theorem st_all : ∀ n x, st3 n (st2 n (st1 n x)) = cnt8 n x
 | 0, x => (st0 _).2.2
 | n + 1, x => by
  have h : x = 256 * (x / 256) + x % 256 := by omega
  obtain ⟨l1, l2⟩ := st_lt ⟨x % 256, by omega⟩
  simp only at l1 l2
  have ih := st_all n (x / 256)
  rw [cnt8, ← ih]
  conv => lhs; rw [h]
  rw [st1_step _ _ _ (by omega), st2_step _ _ _ l1]
  obtain ⟨_, t1, t2⟩ := tb2 ⟨st1 1 (x % 256), l1⟩ ⟨0, by omega⟩
  simp only at t1 t2
  refine st3_step _ _ _ l2 t1 t2 ?_
  cases n with
  | zero => rw [(st0 _).2.1]; omega
  | succ n => exact st2_nib _ _
def popc (n m : Nat) : Nat := (List.range n).countP fun j => m.testBit j
theorem popc_succ (n m : Nat) : popc (n + 1) m = popc n m + (if m.testBit n then 1 else 0) := by
 unfold popc
 rw [List.range_succ, List.countP_append, List.countP_singleton]
theorem popc_8 : ∀ b : Fin 256, st3 1 (st2 1 (st1 1 b.val)) = popc 8 b.val ∧ popc 8 b.val ≤ 8 := by decide +kernel
theorem popc_hi (n y b : Nat) (hb : b < 256) : popc (8 + n) (256 * y + b) = popc 8 b + popc n y := by
 have key : ∀ i, (256 * y + b).testBit i = if i < 8 then b.testBit i else y.testBit (i - 8) := fun i => by
  have := Nat.testBit_two_pow_mul_add y (show b < 2 ^ 8 from hb) i
  rwa [show (2 : Nat) ^ 8 = 256 from rfl] at this
 induction n with
 | zero =>
  unfold popc
  rw [List.range_zero, List.countP_nil, Nat.add_zero, Nat.add_zero]
  refine List.countP_congr (fun j hj => ?_)
  rw [key j, if_pos (List.mem_range.1 hj)]
 | succ n ih => rw [← Nat.add_assoc, popc_succ (8 + n), popc_succ n, ih, key (8 + n), if_neg (show ¬ 8 + n < 8 by omega), show 8 + n - 8 = n by omega]; omega
def sum8 : Nat → Nat → Nat
 | 0, _ => 0
 | n + 1, x => popc 8 (x % 256) + sum8 n (x / 256)
theorem sum8_pop : ∀ n x, sum8 n x = popc (8 * n) x
 | 0, x => rfl
 | n + 1, x => by
  have h : x = 256 * (x / 256) + x % 256 := by omega
  rw [sum8, sum8_pop n, Nat.mul_succ, Nat.add_comm (8 * n) 8]
  conv => rhs; rw [h]
  rw [popc_hi _ _ _ (by omega)]
theorem add_up (x : Nat) : ∃ y, y = cnt8 8 x ∧ y < 2 ^ 60 ∧ ((y + y / 256) + (y + y / 256) / 65536 + ((y + y / 256) + (y + y / 256) / 65536) / 4294967296) % 128 = popc 64 x := by
 refine ⟨_, rfl, ?_⟩
 rw [← sum8_pop 8 x]
 have key : ∀ z, ∃ c, c = st3 1 (st2 1 (st1 1 (z % 256))) ∧ c = popc 8 (z % 256) ∧ c ≤ 8 := fun z => by
  obtain ⟨a, b⟩ := popc_8 ⟨z % 256, by omega⟩
  simp only at a b
  exact ⟨_, rfl, a, by rw [a]; exact b⟩
 simp only [cnt8, sum8]
 obtain ⟨c0, d0, e0, f0⟩ := key x
 obtain ⟨c1, d1, e1, f1⟩ := key (x / 256)
 obtain ⟨c2, d2, e2, f2⟩ := key (x / 256 / 256)
 obtain ⟨c3, d3, e3, f3⟩ := key (x / 256 / 256 / 256)
 obtain ⟨c4, d4, e4, f4⟩ := key (x / 256 / 256 / 256 / 256)
 obtain ⟨c5, d5, e5, f5⟩ := key (x / 256 / 256 / 256 / 256 / 256)
 obtain ⟨c6, d6, e6, f6⟩ := key (x / 256 / 256 / 256 / 256 / 256 / 256)
 obtain ⟨c7, d7, e7, f7⟩ := key (x / 256 / 256 / 256 / 256 / 256 / 256 / 256)
 rw [← d0, ← d1, ← d2, ← d3, ← d4, ← d5, ← d6, ← d7, ← e0, ← e1, ← e2, ← e3, ← e4, ← e5, ← e6, ← e7]
 clear d0 d1 d2 d3 d4 d5 d6 d7 e0 e1 e2 e3 e4 e5 e6 e7 key
 obtain ⟨y, hy⟩ : ∃ y, y = 256 * (256 * (256 * (256 * (256 * (256 * (256 * (256 * 0 + c7) + c6) + c5) + c4) + c3) + c2) + c1) + c0 := ⟨_, rfl⟩
 rw [← hy]
 have h1 : y / 256 = 256 * (256 * (256 * (256 * (256 * (256 * c7 + c6) + c5) + c4) + c3) + c2) + c1 := by omega
 rw [h1]
 obtain ⟨z, hz⟩ : ∃ z, z = y + (256 * (256 * (256 * (256 * (256 * (256 * c7 + c6) + c5) + c4) + c3) + c2) + c1) := ⟨_, rfl⟩
 rw [← hz]
 have h2 : z / 65536 = 256 * (256 * (256 * (256 * (256 * c7 + (c6 + c7)) + (c5 + c6)) + (c4 + c5)) + (c3 + c4)) + (c2 + c3) := by omega
 rw [h2]
 obtain ⟨u, hu⟩ : ∃ u, u = z + (256 * (256 * (256 * (256 * (256 * c7 + (c6 + c7)) + (c5 + c6)) + (c4 + c5)) + (c3 + c4)) + (c2 + c3)) := ⟨_, rfl⟩
 rw [← hu]
 have h3 : u / 4294967296 = 256 * (256 * (256 * c7 + (c6 + c7)) + (c5 + c6 + c7)) + (c4 + c5 + c6 + c7) := by omega
 rw [h3]
 refine ⟨by omega, ?_⟩
 clear h1 h2 h3
 omega
end Go.Proofs.Ytelabmhhnpfegaa.Hand
end
section
namespace Go.Proofs.Ytelabmhhnpfegaa.Hand
open Go.RowKit Go.Proofs.YtelabmhhnpfegaaW.PrintWords Go.Proofs.YtelabmhhnpfegaaW.PrintLast Go.Proofs.YtelabmhhnpfegaaW.PrintMore Go.Proofs.Ytelabmhhnpfegaa.PDynCells
structure Wd (ws : List Int) (size : Nat) (p : Nat → Bool) : Prop where
 len : ws.length = (size + 63) / 64
 out : ∀ k, size ≤ k → p k = false
 bit : ∀ i, i < ws.length → ∃ m : Nat, ws.getD i 0 = (m : Int) ∧ m < 2 ^ 64 ∧ ∀ j, j < 64 → m.testBit j = p (64 * i + j)
theorem C_own {w : World} {base g n m : Nat} {e : TypeId} {xs : List Int} (h : w.ownsRow base e 1 (.slice (some ⟨g, 0, none⟩) n m) n (nums .u64 xs)) : (Kd.int .u64).C w (some ⟨g, 0, none⟩) n xs := by
 obtain ⟨A, c, e, hr⟩ := own_reads h
 injection e with e1
 subst e1
 exact Kd.C_of_reads (readsInt_of.1 hr)
def BS (w : World) (v : Value) (size : Nat) (p : Nat → Bool) : Prop := ∃ (g c : Nat) (ws : List Int), v = .agg #[.int .i64 (size : Int), .slice (some ⟨g, 0, none⟩) ws.length c] ∧ w.ownsRow 0 145 1 (.slice (some ⟨g, 0, none⟩) ws.length c) ws.length (nums .u64 ws) ∧ Wd ws size p
theorem BS.below {w w' : World} {v : Value} {size : Nat} {p : Nat → Bool} (h : BS w v size p) (hb : Below w.heap.size w w') : BS w' v size p := by
 obtain ⟨g, c, ws, e, hc, hw⟩ := h
 exact ⟨g, c, ws, e, pw_own_below hc hb, hw⟩
theorem BS.set {w : World} {v : Value} {size : Nat} {p : Nat → Bool} (h : BS w v size p) {q : Nat} {cs : Array Value} {t : TypeId} (hq : w.heap[q]? = some (.cells cs t (0, 0))) (ht : 145 ≠ t) (j : Nat) (u : Value) : BS (w.setCell ⟨q, j, none⟩ u) v size p := by
 obtain ⟨g, c, ws, e, hc, hw⟩ := h
 exact ⟨g, c, ws, e, own_setCell (p := ⟨q, j, none⟩) hc (own_ne hc hq ht) u, hw⟩
theorem BS.same {w : World} {v : Value} {size : Nat} {p q : Nat → Bool} (h : BS w v size p) (hq : ∀ k, p k = q k) : BS w v size q := by
 rw [← funext hq]
 exact h
theorem within_any (w : World) (size : Nat) (V : Value) (i : Int) : Calls Try.prog 162 #[.agg #[.int .i64 (size : Int), V], .int .i64 i] w fun e w' => e = .returned (.bool (decide (0 ≤ i) && decide (i < size))) ∧ Below w.heap.size w w' := by
 have hu := Try.underlying197
 cases h1 : decide (0 ≤ i) <;> cases h2 : decide (i < (size : Int))
 all_goals
  have h3 : decide (i ≥ 0) = _ := h1
  go_enter Try.func162, Try.ntmps162
  go_wp2
  go_ret
  exact ⟨rfl, below_alloc (Below.refl _ _) _⟩
theorem at_Uw {w : World} {a : Addr} {n : Nat} {ws : List Int} (h : (Kd.int .u64).C w (some a) n ws) (k : Nat) (hk : k < n) : w.cell? (a.add k) = some (.int .u64 (ws.getD k 0)) := by
 obtain ⟨ad, e, hc⟩ := (Kd.reads_of_C (enc := Value.int .u64) (d := (0 : Int)) h).at_ (k : Int) (by omega) (by omega)
 injection e with e
 subst e
 rw [Int.toNat_natCast] at hc
 rw [hc]
 unfold rdOf
 rw [Int.toNat_natCast]
theorem tb_div (m r : Nat) : m / 2 ^ r % 2 = if m.testBit r then 1 else 0 := by
 rw [Nat.testBit_eq_decide_div_mod_eq]
 by_cases h : m / 2 ^ r % 2 = 1
 ·simp [h]
 ·have : m / 2 ^ r % 2 = 0 := by omega
  simp [this]
theorem div_pow_lt {m r : Nat} (h : m < 2 ^ 64) : m / 2 ^ r < 2 ^ 64 := Nat.lt_of_le_of_lt (Nat.div_le_self _ _) h
theorem and1_u64 (d : Nat) (h : d < 2 ^ 64) : Go.bits .and .u64 (d : Int) 1 = ((d % 2 : Nat) : Int) := by
 have h1 := (bits_nat .u64 64 (by decide) (fun n h0 h1 => by rw [IntKind.wrap_u64]; omega) d 1 h (by decide)).1
 rw [Nat.and_one_is_mod] at h1
 exact h1
set_option maxHeartbeats 1000000 in
set_option maxRecDepth 100000 in
theorem has_any (w : World) (v : Value) (size : Nat) (p : Nat → Bool) (h : BS w v size p) (hs : size ≤ 4096) (i : Int) (b : Bool) (hb : b = (decide (0 ≤ i) && decide (i < size) && p i.toNat)) : Calls Try.prog 150 #[v, .int .i64 i] w fun e w' => e = .returned (.bool b) ∧ Aside0 (Below w.heap.size w w') := by
 obtain ⟨g0, c, ws, rfl, hc, hw⟩ := h
 replace hc := C_own hc
 obtain ⟨a, ha⟩ : ∃ a : Addr, a = ⟨g0, 0, none⟩ := ⟨_, rfl⟩
 rw [← ha] at hc ⊢
 clear ha
 have hu197 := Try.underlying197
 have hu109 := Try.underlying109
 obtain ⟨n, hn⟩ : ∃ n, n = ws.length := ⟨_, rfl⟩
 rw [← hn] at hc ⊢
 have B1 : Aside0 (Below w.heap.size w (w.alloc (.cells #[.int .i64 (size : Int), .slice (some a) n c] 197))) := ⟨below_alloc (Below.refl _ _) _⟩
 by_cases hr : 0 ≤ i ∧ i < size
 ·obtain ⟨k, rfl⟩ := Int.eq_ofNat_of_zero_le hr.1
  obtain ⟨q, hq⟩ : ∃ q : Nat, q = k / 64 := ⟨_, rfl⟩
  obtain ⟨r, hr'⟩ : ∃ r : Nat, r = k % 64 := ⟨_, rfl⟩
  have hk : k < size := by omega
  have hl := hw.len
  have hqn : q < n := by omega
  obtain ⟨m, hm, hm64, htb⟩ := hw.bit q (by omega)
  have c1 := at_Uw hc q hqn
  rw [hm] at c1
  have C1 := Aside0.mk c1
  have hbit : m.testBit r = p k := by
   rw [htb r (by omega)]
   congr 1
   omega
  have e1 : ((k : Int) / 64) = (q : Int) := by omega
  have e2 : ((k : Int) % 64) = (r : Int) := by omega
  obtain ⟨d, hd⟩ : ∃ d : Nat, d = m / 2 ^ r := ⟨_, rfl⟩
  have hd64 : d < 2 ^ 64 := by rw [hd]; exact div_pow_lt hm64
  have e3 : ((m : Int) / 2 ^ r) = (d : Int) := by rw [hd, Int.natCast_ediv, Int.natCast_pow]; rfl
  have hmin : min r 64 = r := by omega
  have e4 : ((m : Int) / 2 ^ min r 64) = (d : Int) := by rw [hmin]; exact e3
  have hd2 : d % 2 = if p k then 1 else 0 := by rw [hd, tb_div, hbit]
  have hbb : b = p k := by
   rw [hb, Int.toNat_natCast, decide_eq_true hr.1, decide_eq_true hr.2]
   rfl
  have HB : Aside0 (d % 2 = if p k then 1 else 0) := ⟨hd2⟩
  have HBB := Aside0.mk hbb
  have hk0 : (0 : Int) ≤ (k : Int) := by omega
  have g1 : decide ((0 : Int) ≤ (k : Int)) = true := decide_eq_true hk0
  have g2 : decide ((k : Int) < (size : Int)) = true := decide_eq_true (by omega)
  clear hb hm hbit hd hd2 hbb hq hr' hc hw htb hl hn
  cases hp : p k with
  | true =>
   have h1 : d % 2 = 1 := by rw [HB.out, hp]; rfl
   have ea : Go.bits .and .u64 (d : Int) 1 = 1 := by rw [and1_u64 d hd64, h1]; rfl
   have ea2 : (d : Int) % 2 = 1 := by omega
   have H1 : Aside0 (b = true) := ⟨by rw [HBB.out, hp]⟩
   clear hp h1 c1
   go_enter Try.func150, Try.ntmps150
   go_upto_region 1 with fail
   obtain ⟨W1, hW1⟩ : ∃ W, W = w.alloc (.cells #[.int .i64 (size : Int), .slice (some a) n c] 197) := ⟨_, rfl⟩
   rw [← hW1]
   rw [← hW1] at B1
   obtain ⟨p1, hp1⟩ : ∃ p, p = w.heap.size := ⟨_, rfl⟩
   have Q1 : Aside0 (W1.heap[p1]? = some (.cells #[.int .i64 (size : Int), .slice (some a) n c] 197 (0, 0))) := ⟨by rw [hW1, hp1]; exact heap_alloc_new _ _⟩
   rw [← hp1]
   clear hW1 hp1
   have q0 : W1.cell? ⟨p1, 0, none⟩ = some (.int .i64 (size : Int)) := (blk_cell Q1.out 0).trans rfl
   have q1 : W1.cell? ⟨p1, 1, none⟩ = some (.slice (some a) n c) := (blk_cell Q1.out 1).trans rfl
   go_wp2_with fail
   refine (within_any _ size _ _).mono ?_
   rintro _ w2 ⟨rfl, hb2⟩
   have B2 := Aside0.mk hb2
   clear q0 q1 hb2
   rw [g1, g2]
   have d1 : w2.cell? (a.add q) = some (.int .u64 (m : Int)) := pw_cell_below B2.out (pw_cell_below B1.out C1.out)
   have d2 : w2.cell? ⟨p1, 1, none⟩ = some (.slice (some a) n c) := (blk_cell (blk_below Q1.out B2.out) 1).trans rfl
   go_wp2_with fail
   go_ret
   exact ⟨by rw [H1.out]; rfl, ⟨B1.out.trans (B2.out.mono B1.out.size)⟩⟩
  | false =>
   have h1 : d % 2 = 0 := by rw [HB.out, hp]; rfl
   have ea : Go.bits .and .u64 (d : Int) 1 = 0 := by rw [and1_u64 d hd64, h1]; rfl
   have ea2 : (d : Int) % 2 = 0 := by omega
   have H1 : Aside0 (b = false) := ⟨by rw [HBB.out, hp]⟩
   clear hp h1 c1
   go_enter Try.func150, Try.ntmps150
   go_upto_region 1 with fail
   obtain ⟨W1, hW1⟩ : ∃ W, W = w.alloc (.cells #[.int .i64 (size : Int), .slice (some a) n c] 197) := ⟨_, rfl⟩
   rw [← hW1]
   rw [← hW1] at B1
   obtain ⟨p1, hp1⟩ : ∃ p, p = w.heap.size := ⟨_, rfl⟩
   have Q1 : Aside0 (W1.heap[p1]? = some (.cells #[.int .i64 (size : Int), .slice (some a) n c] 197 (0, 0))) := ⟨by rw [hW1, hp1]; exact heap_alloc_new _ _⟩
   rw [← hp1]
   clear hW1 hp1
   have q0 : W1.cell? ⟨p1, 0, none⟩ = some (.int .i64 (size : Int)) := (blk_cell Q1.out 0).trans rfl
   have q1 : W1.cell? ⟨p1, 1, none⟩ = some (.slice (some a) n c) := (blk_cell Q1.out 1).trans rfl
   go_wp2_with fail
   refine (within_any _ size _ _).mono ?_
   rintro _ w2 ⟨rfl, hb2⟩
   have B2 := Aside0.mk hb2
   clear q0 q1 hb2
   rw [g1, g2]
   have d1 : w2.cell? (a.add q) = some (.int .u64 (m : Int)) := pw_cell_below B2.out (pw_cell_below B1.out C1.out)
   have d2 : w2.cell? ⟨p1, 1, none⟩ = some (.slice (some a) n c) := (blk_cell (blk_below Q1.out B2.out) 1).trans rfl
   go_wp2_with fail
   go_ret
   exact ⟨by rw [H1.out]; rfl, ⟨B1.out.trans (B2.out.mono B1.out.size)⟩⟩
 ·have hd : (decide (0 ≤ i) && decide (i < (size : Int))) = false := by
   by_cases h0 : 0 ≤ i
   ·have : ¬ i < (size : Int) := fun h => hr ⟨h0, h⟩
    simp [this]
   ·simp [h0]
  have H1 : Aside0 (b = false) := ⟨by rw [hb, hd]; rfl⟩
  have HD := Aside0.mk hd
  clear hb hd hr hw hc hn
  go_enter Try.func150, Try.ntmps150
  go_upto_region 1 with fail
  obtain ⟨W1, hW1⟩ : ∃ W, W = w.alloc (.cells #[.int .i64 (size : Int), .slice (some a) n c] 197) := ⟨_, rfl⟩
  rw [← hW1]
  rw [← hW1] at B1
  obtain ⟨p1, hp1⟩ : ∃ p, p = w.heap.size := ⟨_, rfl⟩
  have Q1 : Aside0 (W1.heap[p1]? = some (.cells #[.int .i64 (size : Int), .slice (some a) n c] 197 (0, 0))) := ⟨by rw [hW1, hp1]; exact heap_alloc_new _ _⟩
  rw [← hp1]
  clear hW1 hp1
  have q0 : W1.cell? ⟨p1, 0, none⟩ = some (.int .i64 (size : Int)) := (blk_cell Q1.out 0).trans rfl
  have q1 : W1.cell? ⟨p1, 1, none⟩ = some (.slice (some a) n c) := (blk_cell Q1.out 1).trans rfl
  go_wp2_with fail
  refine (within_any _ size _ _).mono ?_
  rintro _ w2 ⟨rfl, hb2⟩
  have B2 := Aside0.mk hb2
  clear q0 q1 hb2
  rw [HD.out]
  go_wp2_with fail
  go_ret
  exact ⟨by rw [H1.out]; rfl, ⟨B1.out.trans (B2.out.mono B1.out.size)⟩⟩
end Go.Proofs.Ytelabmhhnpfegaa.Hand
end
section
namespace Go.Proofs.Ytelabmhhnpfegaa.Hand
open Go.RowKit Go.Proofs.YtelabmhhnpfegaaW.PrintWords Go.Proofs.YtelabmhhnpfegaaW.PrintLast Go.Proofs.YtelabmhhnpfegaaW.PrintMore Go.Proofs.Ytelabmhhnpfegaa.PDynCells
theorem info145 : (Try.prog.info? 145).map (fun i => (i.zero, i.size, i.bytes)) = some (some (.int .u64 0), 1, 8) := by kernel_rfl
set_option maxHeartbeats 400000 in
set_option maxRecDepth 100000 in
theorem cloneU_any (w : World) (a : Addr) (n c : Nat) (xs : List Int) (hC : (Kd.int .u64).C w (some a) n xs) (hn : n ≤ 4294967296) :
  Calls Try.prog 170 #[.slice (some a) n c] w fun e w' => ∃ g m, e = .returned (.slice (some ⟨g, 0, none⟩) n m) ∧ Aside0 (w'.ownsRow w.heap.size 145 1 (.slice (some ⟨g, 0, none⟩) n m) n (nums .u64 xs) ∧ Below w.heap.size w w' ∧ w.heap.size ≤ g) := by
 have HN : Aside0 (xs.length = n) := ⟨hC.1⟩
 have HC := Aside0.mk hC
 clear hC
 have hu := Try.underlying109
 have hnil : ∀ W, (binOp .eql 109 (.slice (some a) n c) (.slice none 0 0)).run Try.prog W = .ok (.bool false) W := fun W => Lib.run_eql_slice_some_nil W _ _ _ Try.underlying109
 go_enter Try.func170, Try.ntmps170
 go_upto_region 3 with fail
 have O0 : Aside0 ((Kd.int .u64).R 145 (w.alloc (.cells #[] 145)) w.heap.size (fun k => w.heap.size ≤ k) (.slice (some ⟨w.heap.size, 0, none⟩) 0 0) []) := ⟨⟨fun k hk => by
  have : w.heap.size = k := by simpa [Value.ownBlock] using hk
  omega, [], ⟨rfl, .inr ⟨w.heap.size, 0, #[], rfl, Nat.le_refl _, heap_alloc_new w _, Nat.le_refl _, Nat.zero_le _, rfl, rfl⟩⟩, Reps.none _ _⟩⟩
 have HL : Aside0 ((([] : List Int).length + n) * 8 ≤ 140737488355328) := ⟨by simp; omega⟩
 have CC : Aside0 ((∀ k, (w.alloc (.cells #[] 145)).heap.size ≤ k → w.heap.size ≤ k) ∧ (Kd.int .u64).C (w.alloc (.cells #[] 145)) (some a) n xs ∧ Below w.heap.size w (w.alloc (.cells #[] 145)) ∧ w.heap.size ≤ (w.alloc (.cells #[] 145)).heap.size) := ⟨fun k hk => by simp at hk; omega, Kd.C_below HC.out (below_alloc (Below.refl _ _) _), below_alloc (Below.refl _ _) _, by simp⟩
 go_wp2_with (at_builtin; refine Kd.R_append_row (Value.int .u64) (0 : Int) (w0 := w) w.heap.size rfl _ _ 109 145 (.int .u64 0) 8 rfl Try.underlying109 info145 rfl (by decide) (.slice (some ⟨w.heap.size, 0, none⟩) 0 0) [] xs (some a) n c (fun k => w.heap.size ≤ k) rfl rfl CC.out.1 O0.out CC.out.2.1 CC.out.2.2.1 CC.out.2.2.2 HL.out ?_; intro v7 w7 ho7 hb7 hg7 hn7; have N7 := Aside0.mk hn7; have O7 := Aside0.mk ho7; have B7 := Aside0.mk hb7; have G7 := Aside0.mk hg7; clear ho7 hb7 hg7 hn7)
 go_ret
 have h1 := O7.out
 rw [List.nil_append] at h1
 have h2 := Kd.own_of_R h1
 rw [HN.out] at h2
 rcases h2.2 with ⟨e, _⟩ | ⟨g, cap, cur, e, hg, _⟩
 ·rw [e] at N7
  rcases N7.out with h | ⟨b, h, _⟩
  ·simp [Value.ownBlock] at h
  ·simp [Value.ownBlock] at h
 ·rw [e] at h2
  exact ⟨g, cap, by rw [← e]; rfl, ⟨h2, B7.out, hg⟩⟩
theorem wu64 (n : Int) (h0 : 0 ≤ n) (h1 : n < 2 ^ 64) : IntKind.u64.wrap n = n := by
 rw [IntKind.wrap_u64]
 omega
theorem Wd.add {ws : List Int} {size k : Nat} {p : Nat → Bool} {m V : Nat} (h : Wd ws size p) (hk : k < size) (hm : ws.getD (k / 64) 0 = (m : Int)) (hm64 : m < 2 ^ 64) (hV : V = m ||| 2 ^ (k % 64)) : Wd (ws.set (k / 64) (V : Int)) size (fun j => p j || decide (j = k)) := by
 have hq : k / 64 < ws.length := by rw [h.len]; omega
 refine ⟨by rw [List.length_set]; exact h.len, fun j hj => ?_, fun i hi => ?_⟩
 ·rw [h.out j hj, decide_eq_false (by omega)]
  rfl
 ·rw [List.length_set] at hi
  obtain ⟨m', e', hm', ht⟩ := h.bit i hi
  by_cases hiq : i = k / 64
  ·subst hiq
   have : m' = m := by
    rw [hm] at e'
    exact_mod_cast e'.symm
   subst this
   refine ⟨V, by rw [List.getD_eq_getElem?_getD, List.getElem?_set_self hq]; rfl, ?_, fun j hj => ?_⟩
   ·rw [hV]
    exact Nat.or_lt_two_pow hm' (Nat.pow_lt_pow_right (by omega) (by omega))
   ·rw [hV, Nat.testBit_or, ht j hj, Nat.testBit_two_pow]
    congr 1
    exact decide_eq_decide.2 (by omega)
  ·refine ⟨m', ?_, hm', fun j hj => ?_⟩
   ·rw [← e', List.getD_eq_getElem?_getD, List.getElem?_set_ne (by omega), List.getD_eq_getElem?_getD]
   ·rw [ht j hj, decide_eq_false (by omega), Bool.or_false]
theorem own_lower {w : World} {base base' n size : Nat} {e : TypeId} {v : Value} {xs : List Value} (h : w.ownsRow base e size v n xs) (hb : base' ≤ base) : w.ownsRow base' e size v n xs := Kd.own_raise h (fun k hk => Nat.le_trans hb (own_base h k hk))
set_option maxHeartbeats 1000000 in
set_option maxRecDepth 100000 in
theorem copied_any (w : World) (size : Int) (a : Addr) (n c : Nat) (xs : List Int) (hC : (Kd.int .u64).C w (some a) n xs) (hn : n ≤ 4294967296) :
  Calls Try.prog 163 #[.agg #[.int .i64 size, .slice (some a) n c]] w fun e w' => ∃ g m, e = .returned (.agg #[.int .i64 size, .slice (some ⟨g, 0, none⟩) n m]) ∧ Aside0 (w'.ownsRow w.heap.size 145 1 (.slice (some ⟨g, 0, none⟩) n m) n (nums .u64 xs) ∧ Below w.heap.size w w' ∧ w.heap.size ≤ g) := by
 have HC := Aside0.mk hC
 clear hC
 have hu197 := Try.underlying197
 go_enter Try.func163, Try.ntmps163
 go_upto_region 1 with fail
 obtain ⟨W1, hW1⟩ : ∃ W, W = (w.alloc (.cells #[.int .i64 size, .slice (some a) n c] 197)).alloc (.cells #[.int .i64 0, .slice none 0 0] 197) := ⟨_, rfl⟩
 rw [← hW1]
 have B1 : Aside0 (Below w.heap.size w W1) := ⟨by rw [hW1]; exact below_alloc (below_alloc (Below.refl _ _) _) _⟩
 obtain ⟨p1, hp1⟩ : ∃ p, p = w.heap.size := ⟨_, rfl⟩
 have Q1 : Aside0 (W1.heap[p1]? = some (.cells #[.int .i64 size, .slice (some a) n c] 197 (0, 0))) := ⟨by rw [hW1, hp1]; simp only [al_get, al_size]; rw [if_neg (by omega), if_pos trivial]⟩
 have Q2 : Aside0 (W1.heap[p1 + 1]? = some (.cells #[.int .i64 0, .slice none 0 0] 197 (0, 0))) := ⟨by rw [hW1, hp1]; simp only [al_get, al_size]; rw [if_pos trivial]⟩
 have S1 : Aside0 (w.heap.size = p1 ∧ p1 + 1 < W1.heap.size) := ⟨hp1.symm, by rw [hW1]; simp only [al_size]; omega⟩
 rw [← hp1]
 clear hW1 hp1
 have z0 : W1.drew.cell? ⟨p1, 0, none⟩ = some (.int .i64 size) := (blk_cell Q1.out 0).trans rfl
 have z1 : W1.drew.cell? ⟨p1, 1, none⟩ = some (.slice (some a) n c) := (blk_cell Q1.out 1).trans rfl
 refine start_ (n := 7) (S := fun w' => w'.cell? ⟨p1, 0, none⟩ = some (.int .i64 size) ∧ w'.cell? ⟨p1, 1, none⟩ = some (.slice (some a) n c)) (ds := [6]) #[false, false, false, false, false, false, false] (by kernel_rfl) rfl rfl ⟨z0, z1⟩ (fun hHeld => ?_)
 clear z0 z1
 refine puU 0 (some 3) ?_ rfl rfl (by kernel_rfl) (fun _ _ _ h => h) (Or.inl ⟨by rfl, ?_⟩) ?_ ?_ ?_
 rotate_left
 ·intro w'
  go_simp
  with_reducible rfl
 rotate_left
 ·simp only [Act.put, lsA, lsB, lsC]
  rfl
 refine taU 1 (some 4) ?_ rfl rfl (by kernel_rfl) (fun _ _ _ h => h) (Or.inl ⟨by rfl, ?_⟩) hHeld ?_ ?_ ?_
 rotate_left
 ·rintro w' ⟨s0, s1⟩
  go_simp
  with_reducible rfl
 rotate_left
 ·simp only [Act.put, lsA, lsB, lsC]
  rfl
 refine puU 2 (some 5) ?_ rfl rfl (by kernel_rfl) (fun _ _ _ h => h) (Or.inl ⟨by rfl, ?_⟩) ?_ ?_ ?_
 rotate_left
 ·intro w'
  go_simp
  with_reducible rfl
 rotate_left
 ·simp only [Act.put, lsA, lsB, lsC]
  rfl
 refine taU 3 (some 6) ?_ rfl rfl (by kernel_rfl) (fun _ _ _ h => h) (Or.inl ⟨by rfl, ?_⟩) hHeld ?_ ?_ ?_
 rotate_left
 ·rintro w' ⟨s0, s1⟩
  go_simp
  with_reducible rfl
 rotate_left
 ·simp only [Act.put, lsA, lsB, lsC]
  rfl
 refine one_ (i := 4) (N := some 7) #[true, true, true, true, true, false, false] rfl rfl (by kernel_rfl) (by decide) (fun K hK => ?_)
 refine goes_ Try.func170 (by kernel_rfl) rfl #[.slice (some a) n c] (by rfl) rfl rfl (by (try simp only [List.map_toArray, List.map_cons, List.map_nil]); first | done | rfl) ?_
 refine (cloneU_any W1.drew a n c xs (Kd.C_below HC.out (below_drew B1.out)) hn).mono ?_
 rintro _ w2 ⟨g, m, rfl, H2⟩
 refine ⟨_, rfl, ?_⟩
 have B2 : Aside0 (Below W1.heap.size W1 w2) := ⟨(below_drew (Below.refl _ W1)).trans H2.out.2.1⟩
 refine hK.out _ _ ⟨(blk_cell (blk_below Q1.out B2.out) 0).trans rfl, (blk_cell (blk_below Q1.out B2.out) 1).trans rfl⟩ (fun _ => ?_)
 clear hK K
 refine norm_ (a' := ?_) ?_ ?_
 rotate_left
 ·show Act.put _ (some 7) _ = _
  simp only [Act.put, lsA, lsB, lsC]
  rfl
 refine puU 5 (some 8) ?_ rfl rfl (by kernel_rfl) (fun _ _ _ h => h) (Or.inl ⟨by rfl, ?_⟩) ?_ ?_ ?_
 rotate_left
 ·intro w'
  go_simp
  with_reducible rfl
 rotate_left
 ·simp only [Act.put, lsA, lsB, lsC]
  rfl
 refine last_ (i := 6) (N := none) #[true, true, true, true, true, true, true] rfl rfl (by kernel_rfl) (by decide) (fun K hK => ?_)
 have h0 : w2.cell? ⟨p1 + 1, 0, none⟩ = some (.int .i64 0) := (blk_cell (blk_below Q2.out B2.out) 0).trans rfl
 have h1 : w2.cell? ⟨p1 + 1, 1, none⟩ = some (.slice none 0 0) := (blk_cell (blk_below Q2.out B2.out) 1).trans rfl
 have h2 : ∀ j, w2.frozen? ⟨p1 + 1, j, none⟩ = false := fun j => blk_frozen (blk_below Q2.out B2.out) j
 refine skip_ (w1 := ?_) (by rfl) rfl ?_ ?_
 rotate_left
 ·go_simp
  rfl
 refine hK.out _ _ ?_
 clear hK K h0 h1 h2
 refine done_ (by kernel_rfl) ?_
 go_wp2_with fail
 obtain ⟨Wz, hWz⟩ : ∃ W, W = (w2.setCell ⟨p1 + 1, 0, none⟩ (Value.int .i64 size)).setCell ⟨p1 + 1, 1, none⟩ (Value.slice (some ⟨g, 0, none⟩) n m) := ⟨_, rfl⟩
 rw [← hWz]
 have QZ : Wz.heap[p1 + 1]? = some (.cells #[.int .i64 size, .slice (some ⟨g, 0, none⟩) n m] 197 (0, 0)) := by
  rw [hWz]
  exact blk_set (blk_set (blk_below Q2.out B2.out) 0 _) 1 _
 have hg : p1 + 1 < g := Nat.lt_of_lt_of_le S1.out.2 H2.out.2.2
 have OZ : Wz.ownsRow w.heap.size 145 1 (.slice (some ⟨g, 0, none⟩) n m) n (nums .u64 xs) := by
  rw [hWz]
  have hne : some (p1 + 1) ≠ (Value.slice (some ⟨g, 0, none⟩) n m).ownBlock := by
   intro h
   have : p1 + 1 = g := by simpa [Value.ownBlock] using h
   omega
  exact own_setCell (p := ⟨p1 + 1, 1, none⟩) (own_setCell (p := ⟨p1 + 1, 0, none⟩) (own_lower H2.out.1 B1.out.size) hne _) hne _
 have BZ : Below w.heap.size w Wz := by
  rw [hWz]
  have h1 : w.heap.size ≤ p1 + 1 := by rw [S1.out.1]; omega
  exact ((B1.out.trans (B2.out.mono B1.out.size)).setCell (p := ⟨p1 + 1, 0, none⟩) h1 _).setCell (p := ⟨p1 + 1, 1, none⟩) h1 _
 have hgw : w.heap.size ≤ g := by rw [S1.out.1]; omega
 have r0 : Wz.cell? ⟨p1 + 1, 0, none⟩ = some (.int .i64 size) := (blk_cell QZ 0).trans rfl
 have r1 : Wz.cell? ⟨p1 + 1, 1, none⟩ = some (.slice (some ⟨g, 0, none⟩) n m) := (blk_cell QZ 1).trans rfl
 refine bodyPost_ret (v := .agg #[.int .i64 size, .slice (some ⟨g, 0, none⟩) n m]) (by simp [results, Try.results163, go_sem, r0, r1]) rfl ?_
 exact ⟨g, m, rfl, ⟨OZ, BZ, hgw⟩⟩
set_option maxHeartbeats 1000000 in
set_option maxRecDepth 100000 in
theorem with_any (w : World) (v : Value) (size : Nat) (p : Nat → Bool) (h : BS w v size p) (hs : size ≤ 4096) (i : Int) : Calls Try.prog 151 #[v, .int .i64 i] w fun e w' => ∃ v', e = .returned v' ∧ Aside0 (BS w' v' size (fun k => p k || (decide (0 ≤ i) && decide (i < size) && decide (k = i.toNat))) ∧ Below w.heap.size w w') := by
 have HB := Aside0.mk h
 obtain ⟨g0, c, ws, rfl, hc, hw⟩ := h
 replace hc := C_own hc
 obtain ⟨a, ha⟩ : ∃ a : Addr, a = ⟨g0, 0, none⟩ := ⟨_, rfl⟩
 rw [← ha] at hc HB ⊢
 clear ha
 have hu197 := Try.underlying197
 have hu109 := Try.underlying109
 obtain ⟨n, hn⟩ : ∃ n, n = ws.length := ⟨_, rfl⟩
 rw [← hn] at hc HB ⊢
 have hl := hw.len
 have hn5 : n ≤ 64 := by omega
 have HC := Aside0.mk hc
 have HW := Aside0.mk hw
 have HN := Aside0.mk hn
 obtain ⟨W1, hW1⟩ : ∃ W, W = (w.alloc (.cells #[.int .i64 (size : Int), .slice (some a) n c] 197)).alloc (.cells #[.int .i64 0, .slice none 0 0] 197) := ⟨_, rfl⟩
 obtain ⟨p1, hp1⟩ : ∃ p, p = w.heap.size := ⟨_, rfl⟩
 have B1 : Aside0 (Below w.heap.size w W1) := ⟨by rw [hW1]; exact below_alloc (below_alloc (Below.refl _ _) _) _⟩
 have Q1 : Aside0 (W1.heap[p1]? = some (.cells #[.int .i64 (size : Int), .slice (some a) n c] 197 (0, 0))) := ⟨by rw [hW1, hp1]; simp only [al_get, al_size]; rw [if_neg (by omega), if_pos trivial]⟩
 have Q2 : Aside0 (W1.heap[p1 + 1]? = some (.cells #[.int .i64 0, .slice none 0 0] 197 (0, 0))) := ⟨by rw [hW1, hp1]; simp only [al_get, al_size]; rw [if_pos trivial]⟩
 have S1 : Aside0 (w.heap.size = p1 ∧ p1 + 1 < W1.heap.size) := ⟨hp1.symm, by rw [hW1]; simp only [al_size]; omega⟩
 have q0 : W1.cell? ⟨p1, 0, none⟩ = some (.int .i64 (size : Int)) := (blk_cell Q1.out 0).trans rfl
 have q1 : W1.cell? ⟨p1, 1, none⟩ = some (.slice (some a) n c) := (blk_cell Q1.out 1).trans rfl
 have HW1 := Aside0.mk (And.intro hW1 hp1)
 clear hc hw hn hW1 hp1 hl
 by_cases hr : 0 ≤ i ∧ i < size
 ·have hd : (decide (0 ≤ i) && decide (i < (size : Int))) = true := by simp [hr]
  have HD := Aside0.mk hd
  obtain ⟨k, rfl⟩ := Int.eq_ofNat_of_zero_le hr.1
  obtain ⟨q, hq⟩ : ∃ q : Nat, q = k / 64 := ⟨_, rfl⟩
  obtain ⟨r, hr'⟩ : ∃ r : Nat, r = k % 64 := ⟨_, rfl⟩
  have hk : k < size := by omega
  have hqn : q < n := by have := HW.out.len; rw [← HN.out] at this; omega
  obtain ⟨m, hm, hm64, htb⟩ := HW.out.bit q (by rw [← HN.out]; exact hqn)
  have e1 : ((k : Int) / 64) = (q : Int) := by omega
  have e2 : ((k : Int) % 64) = (r : Int) := by omega
  have hr64 : r < 64 := by omega
  have hmin : min r 64 = r := by omega
  obtain ⟨P, hP⟩ : ∃ P : Nat, P = 2 ^ r := ⟨_, rfl⟩
  have hP64 : P < 2 ^ 64 := by rw [hP]; exact Nat.pow_lt_pow_right (by omega) hr64
  have e3 : ((2 : Int) ^ r) = (P : Int) := by rw [hP, Int.natCast_pow]; rfl
  have f1 : IntKind.u64.wrap ((2 : Int) ^ r) = (P : Int) := by rw [e3]; exact wu64 _ (by omega) (by exact_mod_cast hP64)
  have f3 : IntKind.u64.wrap ((2 : Int) ^ min r 64) = (P : Int) := by rw [hmin]; exact f1
  have f5 : IntKind.u64.wrap (1 * (2 : Int) ^ min r 64) = (P : Int) := by rw [Int.one_mul]; exact f3
  obtain ⟨V, hV⟩ : ∃ V : Nat, V = m ||| P := ⟨_, rfl⟩
  have hor : Go.bits .or .u64 (m : Int) (P : Int) = (V : Int) := by
   rw [hV]
   exact (bits_nat .u64 64 (by decide) (fun n h0 h1 => wu64 n h0 h1) m P hm64 hP64).2
  have FF := Aside0.mk (And.intro f1 (And.intro f3 (And.intro f5 (And.intro hor (And.intro e1 e2)))))
  have HQ : Aside0 (q = k / 64 ∧ r = k % 64 ∧ V = m ||| 2 ^ r ∧ ws.getD q 0 = (m : Int) ∧ m < 2 ^ 64) := ⟨hq, hr', by rw [hV, hP], hm, hm64⟩
  have HT := Aside0.mk htb
  clear hq hr' hm htb hP hV e3 f1 f3 f5 hor e1 e2 hd hP64 hm64
  go_enter Try.func151, Try.ntmps151
  go_upto_region 1 with fail
  rw [← HW1.out.1, ← HW1.out.2]
  go_wp2_with fail
  refine (within_any _ size _ _).mono ?_
  rintro _ w2 ⟨rfl, hb2⟩
  have B2 := Aside0.mk hb2
  rw [HD.out]
  clear q0 q1 hb2
  have d0 : w2.cell? ⟨p1, 0, none⟩ = some (.int .i64 (size : Int)) := (blk_cell (blk_below Q1.out B2.out) 0).trans rfl
  have d1 : w2.cell? ⟨p1, 1, none⟩ = some (.slice (some a) n c) := (blk_cell (blk_below Q1.out B2.out) 1).trans rfl
  go_wp2_with fail
  refine (copied_any w2 (size : Int) a n c ws (Kd.C_below HC.out (B1.out.trans (B2.out.mono B1.out.size))) (by omega)).mono ?_
  rintro _ w3 ⟨g, m', rfl, H3⟩
  clear d0 d1
  go_upto_region 4 with fail
  obtain ⟨W4, hW4⟩ : ∃ W, W = w3.alloc (.cells #[.int .i64 (size : Int), .slice (some ⟨g, 0, none⟩) n m'] 197) := ⟨_, rfl⟩
  rw [← hW4]
  obtain ⟨p5, hp5⟩ : ∃ p, p = w3.heap.size := ⟨_, rfl⟩
  have Q5 : Aside0 (W4.heap[p5]? = some (.cells #[.int .i64 (size : Int), .slice (some ⟨g, 0, none⟩) n m'] 197 (0, 0))) := ⟨by rw [hW4, hp5]; exact heap_alloc_new _ _⟩
  have B4 : Aside0 (Below w3.heap.size w3 W4) := ⟨by rw [hW4]; exact below_alloc (Below.refl _ _) _⟩
  have O4 : Aside0 (W4.ownsRow w2.heap.size 145 1 (.slice (some ⟨g, 0, none⟩) n m') n (nums .u64 ws)) := ⟨pw_own_below H3.out.1 B4.out⟩
  have G4 : Aside0 (p5 ≠ g ∧ p1 + 1 ≠ g ∧ p1 + 1 < W1.heap.size ∧ W1.heap.size ≤ w2.heap.size ∧ w2.heap.size ≤ g) := ⟨by
   refine ⟨fun e => ?_, ?_, S1.out.2, B2.out.size, H3.out.2.2⟩
   ·have := own_lt H3.out.1 g rfl
    omega
   ·have h1 := S1.out.2
    have h2 := B2.out.size
    have h3 := H3.out.2.2
    omega⟩
  rw [← hp5]
  clear hW4 hp5
  obtain ⟨f1, f3, f5, hor, e1, e2⟩ := FF.out
  have z0 : W4.drew.cell? ⟨p5, 1, none⟩ = some (.slice (some ⟨g, 0, none⟩) n m') := (blk_cell Q5.out 1).trans rfl
  have z2 := own_at O4.out (q : Int) (by omega) (by omega)
  rw [Int.toNat_natCast] at z2
  have z1 : W4.drew.cell? ⟨g, q, none⟩ = some (.int .u64 (m : Int)) := by
   rw [← HQ.out.2.2.2.1]
   have h1 := z2.1
   unfold rd at h1
   rw [Int.toNat_natCast] at h1
   exact h1
  have zf : W4.drew.frozen? ⟨g, q, none⟩ = false := z2.2
  have ZC := Aside0.mk (And.intro z1 zf)
  clear z2 zf
  have w1 : IntKind.i64.wrap (q : Int) = (q : Int) := by rw [i64_w]; unfold wrap64; omega
  have w2' : (k : Int).tmod 64 = (r : Int) := by rw [Int.tmod_eq_emod_of_nonneg (by omega)]; exact e2
  have w3' : (k : Int).tdiv 64 = (q : Int) := by rw [Int.tdiv_eq_ediv_of_nonneg (by omega)]; exact e1
  refine start_ (n := 12) (S := fun w' => w'.cell? ⟨p5, 1, none⟩ = some (.slice (some ⟨g, 0, none⟩) n m') ∧ w'.cell? ⟨g, q, none⟩ = some (.int .u64 (m : Int))) (ds := [11]) #[false, false, false, false, false, false, false, false, false, false, false, false] (by kernel_rfl) rfl rfl ⟨z0, z1⟩ (fun hHeld => ?_)
  clear z0 z1
  refine puU 0 (some 13) ?_ rfl rfl (by kernel_rfl) (fun _ _ _ h => h) (Or.inl ⟨by rfl, ?_⟩) ?_ ?_ ?_
  rotate_left
  ·intro w'
   go_simp
   with_reducible rfl
  rotate_left
  ·simp only [Act.put, lsA, lsB, lsC]
   rfl
  refine taU 1 (some 14) ?_ rfl rfl (by kernel_rfl) (fun _ _ _ h => h) (Or.inl ⟨by rfl, ?_⟩) hHeld ?_ ?_ ?_
  rotate_left
  ·rintro w' ⟨s0, s1⟩
   go_simp
   with_reducible rfl
  rotate_left
  ·simp only [Act.put, lsA, lsB, lsC]
   rfl
  refine puU 2 (some 15) ?_ rfl rfl (by kernel_rfl) (fun _ _ _ h => h) (Or.inl ⟨by rfl, ?_⟩) ?_ ?_ ?_
  rotate_left
  ·intro w'
   go_simp
   with_reducible rfl
  rotate_left
  ·simp only [Act.put, lsA, lsB, lsC]
   rfl
  refine puU 3 (some 16) ?_ rfl rfl (by kernel_rfl) (fun _ _ _ h => h) (Or.inl ⟨by rfl, ?_⟩) ?_ ?_ ?_
  rotate_left
  ·intro w'
   go_simp
   with_reducible rfl
  rotate_left
  ·simp only [Act.put, lsA, lsB, lsC]
   rfl
  refine puU 4 (some 17) ?_ rfl rfl (by kernel_rfl) (fun _ _ _ h => h) (Or.inl ⟨by rfl, ?_⟩) ?_ ?_ ?_
  rotate_left
  ·intro w'
   go_simp
   with_reducible rfl
  rotate_left
  ·simp only [Act.put, lsA, lsB, lsC]
   rfl
  refine taU 5 (some 18) ?_ rfl rfl (by kernel_rfl) (fun _ _ _ h => h) (Or.inl ⟨by rfl, ?_⟩) hHeld ?_ ?_ ?_
  rotate_left
  ·rintro w' ⟨s0, s1⟩
   go_simp
   with_reducible rfl
  rotate_left
  ·simp only [Act.put, lsA, lsB, lsC]
   rfl
  refine puU 6 (some 19) ?_ rfl rfl (by kernel_rfl) (fun _ _ _ h => h) (Or.inl ⟨by rfl, ?_⟩) ?_ ?_ ?_
  rotate_left
  ·intro w'
   go_simp
   with_reducible rfl
  rotate_left
  ·simp only [Act.put, lsA, lsB, lsC]
   rfl
  refine puU 7 (some 20) ?_ rfl rfl (by kernel_rfl) (fun _ _ _ h => h) (Or.inl ⟨by rfl, ?_⟩) ?_ ?_ ?_
  rotate_left
  ·intro w'
   go_simp
   with_reducible rfl
  rotate_left
  ·simp only [Act.put, lsA, lsB, lsC]
   rfl
  refine puU 8 (some 21) ?_ rfl rfl (by kernel_rfl) (fun _ _ _ h => h) (Or.inl ⟨by rfl, ?_⟩) ?_ ?_ ?_
  rotate_left
  ·intro w'
   go_simp
   with_reducible rfl
  rotate_left
  ·simp only [Act.put, lsA, lsB, lsC]
   rfl
  refine puU 9 (some 22) ?_ rfl rfl (by kernel_rfl) (fun _ _ _ h => h) (Or.inl ⟨by rfl, ?_⟩) ?_ ?_ ?_
  rotate_left
  ·intro w'
   go_simp
   with_reducible rfl
  rotate_left
  ·simp only [Act.put, lsA, lsB, lsC]
   rfl
  refine puU 10 (some 23) ?_ rfl rfl (by kernel_rfl) (fun _ _ _ h => h) (Or.inl ⟨by rfl, ?_⟩) ?_ ?_ ?_
  rotate_left
  ·intro w'
   go_simp
   with_reducible rfl
  rotate_left
  ·simp only [Act.put, lsA, lsB, lsC]
   rfl
  refine last_ (i := 11) (N := none) #[true, true, true, true, true, true, true, true, true, true, true, true] rfl rfl (by kernel_rfl) (by decide) (fun K hK => ?_)
  have h0 := ZC.out.1
  have h1 := ZC.out.2
  refine skip_ (w1 := ?_) (by rfl) rfl ?_ ?_
  rotate_left
  ·go_simp
   rfl
  refine hK.out _ _ ?_
  clear hK K h0 h1
  refine done_ (by kernel_rfl) ?_
  obtain ⟨W5, hW5⟩ : ∃ W, W = (W4.setCell ⟨g, q, none⟩ (Value.int .u64 (V : Int))).drew := ⟨_, rfl⟩
  rw [← hW5]
  have B40 : Aside0 (Below w.heap.size w W4) := ⟨B1.out.trans ((B2.out.trans ((H3.out.2.1.trans (B4.out.mono H3.out.2.1.size)).mono B2.out.size)).mono B1.out.size)⟩
  have B5 : Aside0 (Below w.heap.size w W5) := ⟨by
   rw [hW5]
   exact below_drew (B40.out.setCell (p := ⟨g, q, none⟩) (show w.heap.size ≤ g by have h1 := G4.out; have h2 := B1.out.size; omega) _)⟩
  have O5 : Aside0 (W5.ownsRow w2.heap.size 145 1 (.slice (some ⟨g, 0, none⟩) n m') n (nums .u64 (ws.set q (V : Int)))) := ⟨by
   rw [hW5]
   have h1 := (own_store O4.out (q : Int) (V : Int)).1
   rw [Int.toNat_natCast] at h1
   exact pw_own_below h1 (below_drew (Below.refl _ _))⟩
  have Q5b : Aside0 (W5.heap[p5]? = some (.cells #[.int .i64 (size : Int), .slice (some ⟨g, 0, none⟩) n m'] 197 (0, 0))) := ⟨by rw [hW5]; exact blk_far Q5.out G4.out.1 _⟩
  have Q2b : Aside0 (W5.heap[p1 + 1]? = some (.cells #[.int .i64 0, .slice none 0 0] 197 (0, 0))) := ⟨by
   rw [hW5]
   exact blk_far (blk_below (blk_below (blk_below Q2.out B2.out) H3.out.2.1) B4.out) G4.out.2.1 _⟩
  clear hW5 hHeld f1 f3 f5 hor e1 e2 w1 w2' w3'
  have d0 : W5.cell? ⟨p5, 0, none⟩ = some (.int .i64 (size : Int)) := (blk_cell Q5b.out 0).trans rfl
  have d1 : W5.cell? ⟨p5, 1, none⟩ = some (.slice (some ⟨g, 0, none⟩) n m') := (blk_cell Q5b.out 1).trans rfl
  have d2 : W5.cell? ⟨p1 + 1, 0, none⟩ = some (.int .i64 0) := (blk_cell Q2b.out 0).trans rfl
  have d3 : W5.cell? ⟨p1 + 1, 1, none⟩ = some (.slice none 0 0) := (blk_cell Q2b.out 1).trans rfl
  have d4 : ∀ j, W5.frozen? ⟨p1 + 1, j, none⟩ = false := fun j => blk_frozen Q2b.out j
  go_wp2_with fail
  clear d0 d1 d2 d3 d4
  obtain ⟨Wz, hWz⟩ : ∃ W, W = (W5.setCell ⟨p1 + 1, 0, none⟩ (Value.int .i64 (size : Int))).setCell ⟨p1 + 1, 1, none⟩ (Value.slice (some ⟨g, 0, none⟩) n m') := ⟨_, rfl⟩
  rw [← hWz]
  have QZ : Wz.heap[p1 + 1]? = some (.cells #[.int .i64 (size : Int), .slice (some ⟨g, 0, none⟩) n m'] 197 (0, 0)) := by
   rw [hWz]
   exact blk_set (blk_set Q2b.out 0 _) 1 _
  have OZ : Wz.ownsRow w2.heap.size 145 1 (.slice (some ⟨g, 0, none⟩) n m') n (nums .u64 (ws.set q (V : Int))) := by
   rw [hWz]
   have hne : some (p1 + 1) ≠ (Value.slice (some ⟨g, 0, none⟩) n m').ownBlock := by
    intro h
    have h2 : p1 + 1 = g := by simpa [Value.ownBlock] using h
    exact G4.out.2.1 h2
   exact own_setCell (p := ⟨p1 + 1, 1, none⟩) (own_setCell (p := ⟨p1 + 1, 0, none⟩) O5.out hne _) hne _
  have BZ : Below w.heap.size w Wz := by
   rw [hWz]
   have h1 : w.heap.size ≤ p1 + 1 := by rw [S1.out.1]; omega
   exact (B5.out.setCell (p := ⟨p1 + 1, 0, none⟩) h1 _).setCell (p := ⟨p1 + 1, 1, none⟩) h1 _
  have r0 : Wz.cell? ⟨p1 + 1, 0, none⟩ = some (.int .i64 (size : Int)) := (blk_cell QZ 0).trans rfl
  have r1 : Wz.cell? ⟨p1 + 1, 1, none⟩ = some (.slice (some ⟨g, 0, none⟩) n m') := (blk_cell QZ 1).trans rfl
  refine bodyPost_ret (v := .agg #[.int .i64 (size : Int), .slice (some ⟨g, 0, none⟩) n m']) (by simp [results, Try.results151, go_sem, r0, r1]) rfl ?_
  have hq1 := HQ.out.1
  have hW2 : Wd (ws.set q (V : Int)) size (fun j => p j || decide (j = k)) := by
   rw [hq1]
   exact HW.out.add hk (by rw [← hq1]; exact HQ.out.2.2.2.1) HQ.out.2.2.2.2 (by rw [← HQ.out.2.1]; exact HQ.out.2.2.1)
  have hnl : (ws.set q (V : Int)).length = n := by rw [List.length_set]; exact HN.out.symm
  refine ⟨_, rfl, ⟨⟨g, m', ws.set q (V : Int), by rw [hnl], by rw [hnl]; exact own_lower OZ (Nat.zero_le _), ?_⟩, BZ⟩⟩
  rw [HD.out]
  simp only [Bool.true_and, Int.toNat_natCast]
  exact hW2
 ·have hd : (decide (0 ≤ i) && decide (i < (size : Int))) = false := by
   by_cases h0 : 0 ≤ i
   ·have : ¬ i < (size : Int) := fun h => hr ⟨h0, h⟩
    simp [this]
   ·simp [h0]
  have HD := Aside0.mk hd
  clear hd hr
  go_enter Try.func151, Try.ntmps151
  go_upto_region 1 with fail
  rw [← HW1.out.1, ← HW1.out.2]
  go_wp2_with fail
  refine (within_any _ size _ _).mono ?_
  rintro _ w2 ⟨rfl, hb2⟩
  have B2 := Aside0.mk hb2
  rw [HD.out]
  clear q0 q1 hb2
  have d0 : w2.cell? ⟨p1, 0, none⟩ = some (.int .i64 (size : Int)) := (blk_cell (blk_below Q1.out B2.out) 0).trans rfl
  have d1 : w2.cell? ⟨p1, 1, none⟩ = some (.slice (some a) n c) := (blk_cell (blk_below Q1.out B2.out) 1).trans rfl
  have d2 : w2.cell? ⟨p1 + 1, 0, none⟩ = some (.int .i64 0) := (blk_cell (blk_below Q2.out B2.out) 0).trans rfl
  have d3 : w2.cell? ⟨p1 + 1, 1, none⟩ = some (.slice none 0 0) := (blk_cell (blk_below Q2.out B2.out) 1).trans rfl
  have d4 : ∀ j, w2.frozen? ⟨p1 + 1, j, none⟩ = false := fun j => blk_frozen (blk_below Q2.out B2.out) j
  go_wp2_with fail
  clear d0 d1 d2 d3 d4
  obtain ⟨Wz, hWz⟩ : ∃ W, W = (w2.setCell ⟨p1 + 1, 0, none⟩ (Value.int .i64 (size : Int))).setCell ⟨p1 + 1, 1, none⟩ (Value.slice (some a) n c) := ⟨_, rfl⟩
  rw [← hWz]
  have QZ : Wz.heap[p1 + 1]? = some (.cells #[.int .i64 (size : Int), .slice (some a) n c] 197 (0, 0)) := by
   rw [hWz]
   exact blk_set (blk_set (blk_below Q2.out B2.out) 0 _) 1 _
  have BZ : Below w.heap.size w Wz := by
   rw [hWz]
   have h1 : w.heap.size ≤ p1 + 1 := by rw [S1.out.1]; omega
   exact ((B1.out.trans (B2.out.mono B1.out.size)).setCell (p := ⟨p1 + 1, 0, none⟩) h1 _).setCell (p := ⟨p1 + 1, 1, none⟩) h1 _
  have r0 : Wz.cell? ⟨p1 + 1, 0, none⟩ = some (.int .i64 (size : Int)) := (blk_cell QZ 0).trans rfl
  have r1 : Wz.cell? ⟨p1 + 1, 1, none⟩ = some (.slice (some a) n c) := (blk_cell QZ 1).trans rfl
  refine bodyPost_ret (v := .agg #[.int .i64 (size : Int), .slice (some a) n c]) (by simp [results, Try.results151, go_sem, r0, r1]) rfl ?_
  refine ⟨_, rfl, ⟨?_, BZ⟩⟩
  rw [HD.out]
  simp only [Bool.false_and, Bool.or_false]
  exact HB.out.below BZ
end Go.Proofs.Ytelabmhhnpfegaa.Hand
end
