/- Texts Dm Kh Ki Kj Kk Ma Di Dj Mb Mc, cut to what is used. -/
import Derived.StillTailTactics
import Derived.Deep.QuietTactic
import Derived.BigQuiet
import Derived.IntWalk
import Derived.Test.YtelabmhhnpfegaaYa0
import Derived.Test.YtelabmhhnpfegaaYa7
import Derived.Test.YtelabmhhnpfegaaYa8
set_option linter.unusedVariables false
set_option linter.unusedSimpArgs false
section
namespace Go.Proofs.Ytelabmhhnpfegaa.Hand
open Go.RowKit Go.Proofs.YtelabmhhnpfegaaW.PrintWords Go.Proofs.YtelabmhhnpfegaaW.PrintLast Go.Proofs.YtelabmhhnpfegaaW.PrintMore Go.Proofs.Ytelabmhhnpfegaa.PDynCells
attribute [local go_sem] max2_int min2_int
structure IOk (x : PI) : Prop where
 kind : 0 ≤ x.kind ∧ x.kind < 4
 k0 : x.kind ≠ 0 → x.cap = 0 ∧ x.items = []
 kc : ¬ (x.kind = 1 ∨ x.kind = 2) → x.cost = []
 k3 : x.kind ≠ 3 → x.size = 0 ∧ x.sets = []
 side : (x.kind = 1 ∨ x.kind = 2) → 1 ≤ x.cost.length ∧ x.cost.length ≤ 64
 nitems : x.items.length ≤ 4096
 nsets : x.sets.length ≤ 4096
 size : 0 ≤ x.size ∧ x.size ≤ 4096
 rows : ∀ r ∈ x.cost, r.length = x.cost.length
 elems : ∀ s ∈ x.sets, ascB x.size (-1) s.f1 = true
 cap : 0 ≤ x.cap ∧ x.cap ≤ 2147483648
 items : ∀ s ∈ x.items, (0 ≤ s.f0 ∧ s.f0 ≤ 2147483648) ∧ 0 ≤ s.f1 ∧ s.f1 ≤ 2147483648
 cost : ∀ r ∈ x.cost, ∀ z ∈ r, -2147483648 ≤ z ∧ z ≤ 2147483648
 costs : ∀ s ∈ x.sets, 0 ≤ s.f0 ∧ s.f0 ≤ 2147483648
 diag : x.kind = 2 → ∀ i, i < x.cost.length → (x.cost.getD i []).getD i 0 = 0
theorem inB_iff {z lo : Int} : inB z lo = true ↔ lo ≤ z ∧ z ≤ 2147483648 := by
 unfold inB
 simp
theorem chk_ok {x : PI} : chk x = 0 ↔ ((0 ≤ x.kind ∧ x.kind < 4) ∧ leanB x = true ∧ fewB x = true ∧ rowsB x = true ∧ setsB x = true ∧ smallB x = true ∧ bareB x = true) := by
 unfold chk
 by_cases h1 : 0 ≤ x.kind ∧ x.kind < 4
 ·rw [decide_eq_true h1, if_pos rfl]
  cases leanB x <;> cases fewB x <;> cases rowsB x <;> cases setsB x <;> cases smallB x <;> cases bareB x <;> simp [h1]
 ·rw [decide_eq_false h1]
  simp [h1]
theorem iok {x : PI} : chk x = 0 ↔ IOk x := by
 rw [chk_ok]
 constructor
 ·rintro ⟨h1, h2, h3, h4, h5, h6, h7⟩
  unfold leanB at h2
  unfold fewB at h3
  unfold smallB at h6
  simp only [Bool.and_eq_true, Bool.or_eq_true, decide_eq_true_eq, Bool.not_eq_true', decide_eq_false_iff_not, List.all_eq_true, inB_iff] at h2 h3 h6
  obtain ⟨⟨l1, l2⟩, l3⟩ := h2
  obtain ⟨⟨⟨f1, f2⟩, f3⟩, f4⟩ := h3
  obtain ⟨⟨⟨s1, s2⟩, s3⟩, s4⟩ := h6
  refine ⟨h1, ?_, ?_, ?_, ?_, f2, f3, f4, ?_, ?_, s1, ?_, ?_, s4, ?_⟩
  ·intro h
   rcases l1 with l1 | l1
   ·exact absurd l1 h
   ·exact ⟨l1.1, List.eq_nil_of_length_eq_zero l1.2⟩
  ·intro h
   rcases l2 with l2 | l2
   ·exact absurd l2 h
   ·exact List.eq_nil_of_length_eq_zero l2
  ·intro h
   rcases l3 with l3 | l3
   ·exact absurd l3 h
   ·exact ⟨l3.1, List.eq_nil_of_length_eq_zero l3.2⟩
  ·intro h
   rcases f1 with f1 | f1
   ·exact absurd h f1
   ·exact f1
  ·intro r hr
   have := List.all_eq_true.1 h4 r hr
   simpa using this
  ·intro s hs
   exact List.all_eq_true.1 h5 s hs
  ·intro s hs
   have := s2 s hs
   unfold itB at this
   simpa [inB_iff] using this
  ·intro r hr z hz
   have := List.all_eq_true.1 (s3 r hr) z hz
   simpa [inB_iff] using this
  ·intro hk i hi
   have := List.all_eq_true.1 h7 i (List.mem_range.2 hi)
   unfold diagB at this
   rw [decide_eq_true hk] at this
   simpa using this
 ·intro h
  refine ⟨h.kind, ?_, ?_, ?_, ?_, ?_, ?_⟩
  ·unfold leanB
   simp only [Bool.and_eq_true, Bool.or_eq_true, decide_eq_true_eq]
   refine ⟨⟨?_, ?_⟩, ?_⟩
   ·by_cases e : x.kind = 0
    ·exact .inl e
    ·exact .inr ⟨(h.k0 e).1, by rw [(h.k0 e).2]; rfl⟩
   ·by_cases e : x.kind = 1 ∨ x.kind = 2
    ·exact .inl e
    ·exact .inr (by rw [h.kc e]; rfl)
   ·by_cases e : x.kind = 3
    ·exact .inl e
    ·exact .inr ⟨(h.k3 e).1, by rw [(h.k3 e).2]; rfl⟩
  ·unfold fewB
   simp only [Bool.and_eq_true, Bool.or_eq_true, decide_eq_true_eq, Bool.not_eq_true', decide_eq_false_iff_not]
   refine ⟨⟨⟨?_, h.nitems⟩, h.nsets⟩, h.size⟩
   by_cases e : x.kind = 1 ∨ x.kind = 2
   ·exact .inr (h.side e)
   ·exact .inl e
  ·unfold rowsB
   rw [List.all_eq_true]
   intro r hr
   simpa using h.rows r hr
  ·unfold setsB
   rw [List.all_eq_true]
   exact h.elems
  ·unfold smallB
   simp only [Bool.and_eq_true, List.all_eq_true, inB_iff]
   refine ⟨⟨⟨h.cap, ?_⟩, ?_⟩, h.costs⟩
   ·intro s hs
    unfold itB
    simpa [inB_iff] using h.items s hs
   ·intro r hr
    unfold rowB
    simp only [List.all_eq_true, inB_iff]
    exact h.cost r hr
  ·unfold bareB
   rw [List.all_eq_true]
   intro i hi
   unfold diagB
   by_cases e : x.kind = 2
   ·rw [h.diag e i (List.mem_range.1 hi)]
    simp
   ·rw [decide_eq_false e]
    rfl
def wsum (l : List S101) : Int := (l.map (·.f1)).sum
def roomP (x : PI) : Int := if x.cap < wsum x.items then x.cap else wsum x.items
def nP (x : PI) : Int := if x.kind = 0 then x.items.length else if x.kind = 1 then x.cost.length else if x.kind = 2 then (x.cost.length : Int) - 1 else x.sets.length
def aP (x : PI) : Int := if x.kind = 0 then ((x.items.length : Int) + 1) * (roomP x + 1) else if x.kind = 3 then (x.sets.length : Int) + 1 else nP x
def tP (x : PI) : Nat := if x.kind = 0 then 0 else if x.kind = 3 then x.size.toNat else (nP x).toNat
def qP (x : PI) : Int := aP x * 2 ^ tP x
def cellsP (x : PI) : Int × Int := if chk x = 0 then (if 1048576 < qP x then (0, 24) else (qP x, 0)) else (0, chk x)
theorem wsum_bd : ∀ (l : List S101), (∀ s ∈ l, 0 ≤ s.f1 ∧ s.f1 ≤ 2147483648) → 0 ≤ wsum l ∧ wsum l ≤ 2147483648 * l.length
 | [], _ => by simp [wsum]
 | s :: t, h => by
  have ih := wsum_bd t (fun s hs => h s (List.mem_cons_of_mem _ hs))
  have h0 := h s List.mem_cons_self
  have e : wsum (s :: t) = s.f1 + wsum t := by simp [wsum]
  rw [e, List.length_cons]
  omega
theorem room_bd {x : PI} (h : IOk x) : 0 ≤ roomP x ∧ roomP x ≤ 2147483648 := by
 have h1 := wsum_bd x.items (fun s hs => (h.items s hs).2)
 have h2 := h.cap
 unfold roomP
 split <;> omega
theorem two_bd {n : Nat} (h : n ≤ 21) : (2 : Int) ^ n ≤ 2097152 ∧ 0 < (2 : Int) ^ n := by
 refine ⟨?_, Int.pow_pos (by omega)⟩
 have h1 : (2 : Nat) ^ n ≤ 2 ^ 21 := Nat.pow_le_pow_right (by omega) h
 have h2 : ((2 ^ n : Nat) : Int) ≤ ((2 ^ 21 : Nat) : Int) := Int.ofNat_le.2 h1
 rw [Int.natCast_pow] at h2
 exact Int.le_trans h2 (by decide)
theorem two_big {n : Nat} (h : 21 < n) : (1048577 : Int) ≤ 2 ^ n := by
 have h1 : (2 : Nat) ^ 21 ≤ 2 ^ n := Nat.pow_le_pow_right (by omega) (by omega)
 have h2 : ((2 ^ 21 : Nat) : Int) ≤ ((2 ^ n : Nat) : Int) := Int.ofNat_le.2 h1
 rw [Int.natCast_pow 2 n] at h2
 exact Int.le_trans (by decide) h2
theorem n_bd {x : PI} (h : IOk x) : 0 ≤ nP x ∧ nP x ≤ 4096 := by
 have h1 := h.nitems
 have h2 := h.nsets
 unfold nP
 split
 ·omega
 ·split
  ·have := h.side (.inl ‹_›)
   omega
  ·split
   ·have := h.side (.inr ‹_›)
    omega
   ·omega
theorem wsum_take {l : List S101} {k : Nat} (h : k < l.length) : wsum (l.take (k + 1)) = wsum (l.take k) + (l.getD k z101).f1 := by
 unfold wsum
 rw [take_snoc h z101, List.map_append, List.sum_append]
 simp
def growV (a b : Int) : Int := if 0 < a ∧ (1048576 : Int) / a < b then 1048577 else a * b
def twoV (n : Nat) : Int := if 21 < n then 1048577 else 2 ^ n
theorem growV_spec {a b : Int} (_ha : 0 ≤ a) : (1048576 < growV a b ↔ 1048576 < a * b) ∧ (¬ 1048576 < a * b → growV a b = a * b) := by
 unfold growV
 by_cases h : 0 < a ∧ (1048576 : Int) / a < b
 ·rw [if_pos h]
  have h1 : 1048576 < a * b := by
   have := (Int.ediv_lt_iff_lt_mul h.1).1 h.2
   rwa [Int.mul_comm] at this
  exact ⟨⟨fun _ => h1, fun _ => by omega⟩, fun h2 => absurd h1 h2⟩
 ·rw [if_neg h]
  exact ⟨Iff.rfl, fun _ => rfl⟩
theorem twoV_bd (n : Nat) : 0 ≤ twoV n ∧ twoV n ≤ 4294967296 := by
 unfold twoV
 split
 ·omega
 ·have := two_bd (n := n) (by omega)
  omega
theorem twoV_spec (n : Nat) {a : Int} (ha : 0 ≤ a) : (1048576 < a * twoV n ↔ 1048576 < a * 2 ^ n) ∧ (¬ 1048576 < a * 2 ^ n → a * twoV n = a * 2 ^ n) := by
 unfold twoV
 by_cases h : 21 < n
 ·rw [if_pos h]
  have hb := two_big h
  by_cases h0 : a = 0
  ·subst h0
   simp
  ·have h1 : a * 1048577 ≤ a * 2 ^ n := Int.mul_le_mul_of_nonneg_left hb ha
   constructor
   ·constructor <;> intro _ <;> omega
   ·intro h2
    omega
 ·rw [if_neg h]
  exact ⟨Iff.rfl, fun _ => rfl⟩
theorem grow_any (a b : Int) (w : World) (ha : 0 ≤ a) (ha2 : a ≤ 5000) (hb : 0 ≤ b) (hb2 : b ≤ 4294967296) : Calls Try.prog 45 #[.int .i64 a, .int .i64 b] w fun e w' => e = .returned (.int .i64 (growV a b)) ∧ w = w' := by
 have hp : 0 ≤ a * b := Int.mul_nonneg ha hb
 have hp2 : a * b ≤ 5000 * 4294967296 := Int.mul_le_mul ha2 hb2 hb (by omega)
 have hw : wrap64 (a * b) = a * b := by unfold wrap64; omega
 by_cases h0 : 0 < a
 ·have hq0 : (1048576 : Int) / a ≤ 1048576 := Int.ediv_le_self _ (by omega)
  have hq1 : 0 ≤ (1048576 : Int) / a := Int.ediv_nonneg (by omega) (by omega)
  have ht : Int.tdiv 1048576 a = (1048576 : Int) / a := Int.tdiv_eq_ediv_of_nonneg (by omega)
  obtain ⟨q, hq⟩ : ∃ q, q = (1048576 : Int) / a := ⟨_, rfl⟩
  have g0 : decide (a > 0) = true := decide_eq_true h0
  have g0' : decide (0 < a) = true := decide_eq_true h0
  have ga : (a == 0) = false := by simpa using (by omega : a ≠ 0)
  have ga2 : a ≠ 0 := by omega
  have hr : growV a b = if q < b then 1048577 else a * b := by
   unfold growV
   rw [← hq]
   by_cases h : q < b
   ·rw [if_pos ⟨h0, h⟩, if_pos h]
   ·rw [if_neg (fun h' => h h'.2), if_neg h]
  rw [hr]
  rw [← hq] at ht hq0 hq1
  clear hq hr h0
  have hwq : wrap64 q = q := by unfold wrap64; omega
  by_cases h : q < b
  ·rw [if_pos h]
   have g1 : decide (b > q) = true := decide_eq_true h
   have g2 : decide (q < b) = true := decide_eq_true h
   clear h
   go_enter Try.func45, Try.ntmps45
   go_wp2
   go_ret
   exact ⟨rfl, rfl⟩
  ·rw [if_neg h]
   have g1 : decide (b > q) = false := decide_eq_false h
   have g2 : decide (q < b) = false := decide_eq_false h
   clear h
   go_enter Try.func45, Try.ntmps45
   go_wp2
   go_ret
   exact ⟨rfl, rfl⟩
 ·have hr : growV a b = a * b := by unfold growV; rw [if_neg (fun h => h0 h.1)]
  have g0 : decide (a > 0) = false := decide_eq_false h0
  have g0' : decide (0 < a) = false := decide_eq_false h0
  rw [hr]
  clear h0 hr
  go_enter Try.func45, Try.ntmps45
  go_wp2
  go_ret
  exact ⟨rfl, rfl⟩
set_option maxHeartbeats 2000000 in
set_option maxRecDepth 100000 in
theorem len64_any (w : World) : Calls Try.prog 124 #[.int .u64 1048576] w fun e w' => e = .returned (.int .i64 21) ∧ w = w' := by
 go_enter Try.func124, Try.ntmps124
 go_wp2
 go_ret
 exact ⟨by kernel_rfl, rfl⟩
theorem len_any (w : World) : Calls Try.prog 86 #[.int .u64 1048576] w fun e w' => e = .returned (.int .i64 21) ∧ w = w' := by
 go_enter Try.func86, Try.ntmps86
 go_wp2_with (go_at_call 124; refine (len64_any _).mono ?_; rintro e w' ⟨rfl, rfl⟩)
 go_ret
 exact ⟨rfl, rfl⟩
set_option maxHeartbeats 1000000 in
set_option maxRecDepth 100000 in
theorem twos_i (a0 : Int) (w : World) (h0 : 0 ≤ a0) (t : Int) (ht : t = twoV a0.toNat) : Calls Try.prog 47 #[.int .i64 a0] w fun e w' => e = .returned (.int .i64 t) ∧ w = w' := by
 unfold twoV at ht
 by_cases h : 21 < a0.toNat
 ·rw [if_pos h] at ht
  subst ht
  have g2 : decide (21 < a0) = true := decide_eq_true (by omega)
  clear h
  go_enter Try.func47, Try.ntmps47
  go_wp2_with (go_at_call 86; refine (len_any _).mono ?_; rintro e w' ⟨rfl, rfl⟩)
  go_ret
  exact ⟨rfl, rfl⟩
 ·rw [if_neg h] at ht
  have hb := two_bd (n := a0.toNat) (by omega)
  have g2 : decide (21 < a0) = false := decide_eq_false (by omega)
  have c4b0 := eq_true h0
  have c4b1 : decide (0 ≤ a0) = true := decide_eq_true h0
  have hji5 : shl .i64 1 a0 = t := by
   unfold shl
   rw [Nat.min_eq_left (by show a0.toNat ≤ 64; omega), i64_w, Int.one_mul, ht]
   unfold wrap64
   omega
  have hji5_ : (IntKind.i64.wrap (1 * 2 ^ min a0.toNat 64)) = t := hji5
  have hji5z : a0 ≤ 64 → (IntKind.i64.wrap (1 * 2 ^ a0.toNat)) = t := shl_small hji5
  have hji5u : (IntKind.i64.wrap (2 ^ min a0.toNat 64)) = t := by have h_ := hji5_; rw [Int.one_mul] at h_; exact h_
  have hji5v : a0 ≤ 64 → (IntKind.i64.wrap (2 ^ a0.toNat)) = t := fun hle_ => by have h_ := hji5z hle_; rw [Int.one_mul] at h_; exact h_
  have hji5y : (wrap64 (1 * 2 ^ min a0.toNat 64)) = t := (i64_w _).symm.trans hji5_
  have hji5x : a0 ≤ 64 → (wrap64 (1 * 2 ^ a0.toNat)) = t := fun h_ => (i64_w _).symm.trans (hji5z h_)
  clear h h0 ht hb hji5
  go_enter Try.func47, Try.ntmps47
  go_wp2_with (go_at_call 86; refine (len_any _).mono ?_; rintro e w' ⟨rfl, rfl⟩)
  go_ret
  exact ⟨by first | rfl | (simp [*]; done), rfl⟩
theorem twos_any (n : Nat) (w : World) : Calls Try.prog 47 #[.int .i64 (n : Int)] w fun e w' => e = .returned (.int .i64 (twoV n)) ∧ w = w' :=
 twos_i n w (by omega) _ (by rw [Int.toNat_natCast])
set_option maxHeartbeats 1000000 in
set_option maxRecDepth 100000 in
theorem room_any' (w : World) (x : PI) (v : Value) (h : InstC w x v) (hi : IOk x) (r : Int) (hr : r = roomP x) : Calls Try.prog 46 #[v] w fun e w' => e = .returned (.int .i64 r) ∧ Below w.heap.size w w' := by
 have HI := Aside0.mk h
 obtain ⟨A2, c2, A3, c3, A5, c5, rfl, h2, l2, h3, l3, h5, l5⟩ := h
 have H2 := Aside0.mk h2
 obtain ⟨n2, hn2⟩ : ∃ n, n = x.items.length := ⟨_, rfl⟩
 obtain ⟨n3, hn3⟩ : ∃ n, n = x.cost.length := ⟨_, rfl⟩
 obtain ⟨n5, hn5⟩ : ∃ n, n = x.sets.length := ⟨_, rfl⟩
 obtain ⟨kd, hkd⟩ : ∃ n, n = x.kind := ⟨_, rfl⟩
 obtain ⟨cap, hcap⟩ : ∃ n, n = x.cap := ⟨_, rfl⟩
 obtain ⟨sz, hsz⟩ : ∃ n, n = x.size := ⟨_, rfl⟩
 rw [← hn2] at HI H2 l2 ⊢
 rw [← hn3] at HI l3 ⊢
 rw [← hn5] at HI l5 ⊢
 rw [← hkd, ← hcap, ← hsz] at HI ⊢
 have HF := Aside0.mk (And.intro hkd (And.intro hcap hsz))
 have HN := Aside0.mk (And.intro hn2 (And.intro hn3 hn5))
 clear hkd hcap hsz hn2 hn3 hn5 h2 h3 h5
 have hu54 := Try.underlying54
 have hu101 := Try.underlying101
 go_enter Try.func46, Try.ntmps46
 go_upto_region 1 with fail
 obtain ⟨W1, hW1⟩ : ∃ W, W = w.alloc (.cells #[.int .i64 kd, .int .i64 cap, .slice A2 n2 c2, .slice A3 n3 c3, .int .i64 sz, .slice A5 n5 c5] 54) := ⟨_, rfl⟩
 rw [← hW1]
 have B1 : Aside0 (Below w.heap.size w W1) := ⟨by rw [hW1]; exact below_alloc (Below.refl _ _) _⟩
 obtain ⟨p1, hp1⟩ : ∃ p, p = w.heap.size := ⟨_, rfl⟩
 have Q1 : Aside0 (W1.heap[p1]? = some (.cells #[.int .i64 kd, .int .i64 cap, .slice A2 n2 c2, .slice A3 n3 c3, .int .i64 sz, .slice A5 n5 c5] 54 (0, 0))) := ⟨by rw [hW1, hp1]; exact heap_alloc_new _ _⟩
 rw [← hp1]
 clear hW1 hp1
 obtain ⟨q0, q1, q2, q3, q4, q5, _⟩ := six Q1.out (Below.refl _ _)
 have RR := Aside0.mk hr
 have IOa := Aside0.mk hi
 have N2 : n2 ≤ 4096 := by rw [HN.out.1]; exact IOa.out.nitems
 clear hr hi q0 q1 q3 q4 q5
 go_wp2_with fail
 clear q2
 have K0 : Aside0 ((0 : Int) = wsum (x.items.take 0) ∧ Below W1.heap.size W1 W1) := ⟨by simp [wsum], Below.refl _ _⟩
 go_loopw [3, 9] (fun v3 v9 wr => ∃ (k : Nat) (s : Int), k ≤ n2 ∧ 0 ≤ s ∧ s ≤ 2147483648 * k ∧ v3 = .int .i64 s ∧ v9 = .int .i64 k ∧ Aside0 (s = wsum (x.items.take k) ∧ Below W1.heap.size W1 wr)) (fun _ i _ => n2 - (intOf i).toNat)
 case atStart => exact ⟨0, 0, Nat.zero_le _, by omega, by omega, rfl, rfl, K0⟩
 case round =>
  clear K0
  obtain ⟨k, s, hk, s0, s1, rfl, rfl, KS⟩ := hrel
  by_cases hlt : k < n2
  ·obtain ⟨ad, rfl, a0', a1'⟩ := at_T101 H2.out (k : Int) (by omega) (by omega)
   have BW := Aside0.mk (B1.out.trans (KS.out.2.mono B1.out.size))
   have a0 := pw_cell_below BW.out a0'
   have a1 := pw_cell_below BW.out a1'
   rw [Int.toNat_natCast] at a0 a1
   have hlt' : k < x.items.length := by rw [← HN.out.1]; exact hlt
   obtain ⟨t, ht⟩ : ∃ t, t = (rd_T101 x.items (k : Int)).f1 := ⟨_, rfl⟩
   obtain ⟨u, hu⟩ : ∃ t, t = (rd_T101 x.items (k : Int)).f0 := ⟨_, rfl⟩
   rw [← ht] at a1
   rw [← hu] at a0
   have HT : t = (x.items.getD k z101).f1 := by rw [ht]; unfold rd_T101; rw [Int.toNat_natCast]
   have tb := (IOa.out.items (x.items.getD k z101) (by
    rw [List.getD_eq_getElem?_getD, List.getElem?_eq_getElem hlt', Option.getD_some]
    exact List.getElem_mem _)).2
   rw [← HT] at tb
   have NX : Aside0 (s + t = wsum (x.items.take (k + 1))) := ⟨by rw [wsum_take hlt', KS.out.1, HT]⟩
   obtain ⟨t0, t1⟩ := tb
   clear ht hu HT hlt' a0' a1' BW
   obtain ⟨wo, hwo⟩ : ∃ wo : World, wo = wr := ⟨_, rfl⟩
   rw [← hwo] at KS a0 a1 ⊢
   clear hwo
   go_upto_region 5 with fail
   obtain ⟨W4, hW4⟩ : ∃ W, W = wo.alloc (.cells #[.int .i64 u, .int .i64 t] 101) := ⟨_, rfl⟩
   rw [← hW4]
   have B4 : Aside0 (Below W1.heap.size W1 W4) := ⟨by rw [hW4]; exact KS.out.2.alloc KS.out.2.size _⟩
   obtain ⟨p4, hp4⟩ : ∃ p, p = wo.heap.size := ⟨_, rfl⟩
   have Q4 : Aside0 (W4.heap[p4]? = some (.cells #[.int .i64 u, .int .i64 t] 101 (0, 0))) := ⟨by rw [hW4, hp4]; exact heap_alloc_new _ _⟩
   rw [← hp4]
   clear hW4 hp4 a0 a1
   have a1 : W4.cell? ⟨p4, 1, none⟩ = some (.int .i64 t) := (blk_cell Q4.out 1).trans rfl
   go_wp2_with fail
   exact ⟨⟨k + 1, s + t, by omega, by omega, by omega, rfl, by go_num, ⟨NX.out, B4.out⟩⟩, by simp [intOf]; omega⟩
  ·obtain rfl : n2 = k := by omega
   have q1 : wr.cell? ⟨p1, 1, none⟩ = some (.int .i64 cap) := (blk_cell (blk_below Q1.out KS.out.2) 1).trans rfl
   have R : Aside0 (r = if cap < s then cap else s) := ⟨by
    rw [RR.out]
    unfold roomP
    rw [HF.out.2.1, KS.out.1, List.take_of_length_le (by rw [HN.out.1]; exact Nat.le_refl _)]⟩
   go_wp2_with fail
   all_goals
    go_ret
    exact ⟨by rw [R.out]; first | rfl | (rw [if_pos ‹_›]; rfl) | (rw [if_neg (by omega)]; rfl), B1.out.trans (KS.out.2.mono B1.out.size)⟩
theorem room_any (w : World) (x : PI) (v : Value) (h : InstC w x v) (hi : IOk x) : Calls Try.prog 46 #[v] w fun e w' => e = .returned (.int .i64 (roomP x)) ∧ Below w.heap.size w w' := room_any' w x v h hi _ rfl
set_option maxHeartbeats 1000000 in
set_option maxRecDepth 100000 in
theorem n_any' (w : World) (x : PI) (v : Value) (h : InstC w x v) (hx : PIok x) (hi : IOk x) (r : Int) (hr : r = nP x) : Calls Try.prog 48 #[v] w fun e w' => e = .returned (.int .i64 r) ∧ Below w.heap.size w w' := by
 have HI := Aside0.mk h
 obtain ⟨A2, c2, A3, c3, A5, c5, rfl, h2, l2, h3, l3, h5, l5⟩ := h
 have H2 := Aside0.mk h2
 obtain ⟨n2, hn2⟩ : ∃ n, n = x.items.length := ⟨_, rfl⟩
 obtain ⟨n3, hn3⟩ : ∃ n, n = x.cost.length := ⟨_, rfl⟩
 obtain ⟨n5, hn5⟩ : ∃ n, n = x.sets.length := ⟨_, rfl⟩
 obtain ⟨kd, hkd⟩ : ∃ n, n = x.kind := ⟨_, rfl⟩
 obtain ⟨cap, hcap⟩ : ∃ n, n = x.cap := ⟨_, rfl⟩
 obtain ⟨sz, hsz⟩ : ∃ n, n = x.size := ⟨_, rfl⟩
 rw [← hn2] at HI H2 l2 ⊢
 rw [← hn3] at HI l3 ⊢
 rw [← hn5] at HI l5 ⊢
 rw [← hkd, ← hcap, ← hsz] at HI ⊢
 have HF := Aside0.mk (And.intro hkd (And.intro hcap hsz))
 have HN := Aside0.mk (And.intro hn2 (And.intro hn3 hn5))
 clear hkd hcap hsz hn2 hn3 hn5 h2 h3 h5
 have hu54 := Try.underlying54
 have hu101 := Try.underlying101
 go_enter Try.func48, Try.ntmps48
 go_upto_region 1 with fail
 obtain ⟨W1, hW1⟩ : ∃ W, W = w.alloc (.cells #[.int .i64 kd, .int .i64 cap, .slice A2 n2 c2, .slice A3 n3 c3, .int .i64 sz, .slice A5 n5 c5] 54) := ⟨_, rfl⟩
 rw [← hW1]
 have B1 : Aside0 (Below w.heap.size w W1) := ⟨by rw [hW1]; exact below_alloc (Below.refl _ _) _⟩
 obtain ⟨p1, hp1⟩ : ∃ p, p = w.heap.size := ⟨_, rfl⟩
 have Q1 : Aside0 (W1.heap[p1]? = some (.cells #[.int .i64 kd, .int .i64 cap, .slice A2 n2 c2, .slice A3 n3 c3, .int .i64 sz, .slice A5 n5 c5] 54 (0, 0))) := ⟨by rw [hW1, hp1]; exact heap_alloc_new _ _⟩
 rw [← hp1]
 clear hW1 hp1
 obtain ⟨q0, q1, q2, q3, q4, q5, _⟩ := six Q1.out (Below.refl _ _)
 have RR := Aside0.mk hr
 have IOa := Aside0.mk hi
 have HX := Aside0.mk hx
 have N2 : n2 ≤ 4096 := by rw [HN.out.1]; exact IOa.out.nitems
 have N5 : n5 ≤ 4096 := by rw [HN.out.2.2]; exact IOa.out.nsets
 have N3 : n3 ≤ 64 := by
  rw [HN.out.2.1]
  by_cases e : x.kind = 1 ∨ x.kind = 2
  ·exact (IOa.out.side e).2
  ·rw [IOa.out.kc e]; exact Nat.zero_le _
 have CK : Aside0 (chk x = 0) := ⟨iok.2 IOa.out⟩
 clear hr hi hx
 go_wp2_with fail
 clear q0 q1 q2 q3 q4 q5
 refine (icheck_any W1 x _ (HI.out.below B1.out) HX.out).mono ?_
 rintro _ W2 ⟨rfl, B2'⟩
 have B2 := Aside0.mk B2'
 clear B2'
 rw [CK.out]
 obtain ⟨q0, q1, q2, q3, q4, q5, _⟩ := six Q1.out B2.out
 have BZ := Aside0.mk (B1.out.trans (B2.out.mono B1.out.size))
 cases k0 : (kd == 0) with
 | true =>
  have R : Aside0 (r = (n2 : Int)) := ⟨by rw [RR.out]; unfold nP; rw [← HF.out.1, if_pos (by simpa using k0), HN.out.1]⟩
  go_wp2_with fail
  go_ret
  exact ⟨by rw [R.out]; rfl, BZ.out⟩
 | false =>
  cases k1 : (kd == 1) with
  | true =>
   have R : Aside0 (r = (n3 : Int)) := ⟨by rw [RR.out]; unfold nP; rw [← HF.out.1, if_neg (by simpa using k0), if_pos (by simpa using k1), HN.out.2.1]⟩
   go_wp2_with fail
   go_ret
   exact ⟨by rw [R.out]; rfl, BZ.out⟩
  | false =>
   cases k2 : (kd == 2) with
   | true =>
    have R : Aside0 (r = (n3 : Int) - 1) := ⟨by rw [RR.out]; unfold nP; rw [← HF.out.1, if_neg (by simpa using k0), if_neg (by simpa using k1), if_pos (by simpa using k2), HN.out.2.1]⟩
    go_wp2_with fail
    go_ret
    exact ⟨by rw [R.out]; rfl, BZ.out⟩
   | false =>
    have R : Aside0 (r = (n5 : Int)) := ⟨by rw [RR.out]; unfold nP; rw [← HF.out.1, if_neg (by simpa using k0), if_neg (by simpa using k1), if_neg (by simpa using k2), HN.out.2.2]⟩
    go_wp2_with fail
    go_ret
    exact ⟨by rw [R.out]; rfl, BZ.out⟩
theorem n_any (w : World) (x : PI) (v : Value) (h : InstC w x v) (hx : PIok x) (hi : IOk x) : Calls Try.prog 48 #[v] w fun e w' => e = .returned (.int .i64 (nP x)) ∧ Below w.heap.size w w' := n_any' w x v h hx hi _ rfl
set_option maxHeartbeats 1000000 in
set_option maxRecDepth 100000 in
theorem cells_any' (w : World) (x : PI) (v : Value) (h : InstC w x v) (hx : PIok x) (r1 r2 : Int) (hr : Aside0 (cellsP x = (r1, r2))) : Calls Try.prog 22 #[v] w fun e w' => e = .returned (.tuple #[.int .i64 r1, .int .i64 r2]) ∧ Below w.heap.size w w' := by
 have HI := Aside0.mk h
 obtain ⟨A2, c2, A3, c3, A5, c5, rfl, h2, l2, h3, l3, h5, l5⟩ := h
 have H2 := Aside0.mk h2
 obtain ⟨n2, hn2⟩ : ∃ n, n = x.items.length := ⟨_, rfl⟩
 obtain ⟨n3, hn3⟩ : ∃ n, n = x.cost.length := ⟨_, rfl⟩
 obtain ⟨n5, hn5⟩ : ∃ n, n = x.sets.length := ⟨_, rfl⟩
 obtain ⟨kd, hkd⟩ : ∃ n, n = x.kind := ⟨_, rfl⟩
 obtain ⟨cap, hcap⟩ : ∃ n, n = x.cap := ⟨_, rfl⟩
 obtain ⟨sz, hsz⟩ : ∃ n, n = x.size := ⟨_, rfl⟩
 rw [← hn2] at HI H2 l2 ⊢
 rw [← hn3] at HI l3 ⊢
 rw [← hn5] at HI l5 ⊢
 rw [← hkd, ← hcap, ← hsz] at HI ⊢
 have HF := Aside0.mk (And.intro hkd (And.intro hcap hsz))
 have HN := Aside0.mk (And.intro hn2 (And.intro hn3 hn5))
 clear hkd hcap hsz hn2 hn3 hn5 h2 h3 h5
 have hu54 := Try.underlying54
 have hu101 := Try.underlying101
 go_enter Try.func22, Try.ntmps22
 go_upto_region 1 with fail
 obtain ⟨W1, hW1⟩ : ∃ W, W = w.alloc (.cells #[.int .i64 kd, .int .i64 cap, .slice A2 n2 c2, .slice A3 n3 c3, .int .i64 sz, .slice A5 n5 c5] 54) := ⟨_, rfl⟩
 rw [← hW1]
 have B1 : Aside0 (Below w.heap.size w W1) := ⟨by rw [hW1]; exact below_alloc (Below.refl _ _) _⟩
 obtain ⟨p1, hp1⟩ : ∃ p, p = w.heap.size := ⟨_, rfl⟩
 have Q1 : Aside0 (W1.heap[p1]? = some (.cells #[.int .i64 kd, .int .i64 cap, .slice A2 n2 c2, .slice A3 n3 c3, .int .i64 sz, .slice A5 n5 c5] 54 (0, 0))) := ⟨by rw [hW1, hp1]; exact heap_alloc_new _ _⟩
 rw [← hp1]
 clear hW1 hp1
 obtain ⟨q0, q1, q2, q3, q4, q5, _⟩ := six Q1.out (Below.refl _ _)
 have HX := Aside0.mk hx
 clear hx
 go_wp2_with fail
 clear q0 q1 q2 q3 q4 q5
 refine (icheck_any W1 x _ (HI.out.below B1.out) HX.out).mono ?_
 rintro _ W2 ⟨rfl, B2'⟩
 have B2 := Aside0.mk B2'
 clear B2'
 by_cases hc : chk x = 0
 ·rw [hc]
  have IOa := Aside0.mk (iok.1 hc)
  have CP : Aside0 ((r1, r2) = if 1048576 < qP x then (0, 24) else (qP x, 0)) := ⟨by rw [← hr.out]; unfold cellsP; rw [if_pos hc]⟩
  have N2 : n2 ≤ 4096 := by rw [HN.out.1]; exact IOa.out.nitems
  have N5 : n5 ≤ 4096 := by rw [HN.out.2.2]; exact IOa.out.nsets
  obtain ⟨SZ0, SZ1⟩ : 0 ≤ sz ∧ sz ≤ 4096 := by rw [HF.out.2.2]; exact IOa.out.size
  clear hc
  have GSP : Aside0 (∀ gv : Int, (1048576 < gv ↔ 1048576 < qP x) → (¬ 1048576 < qP x → gv = qP x) → ((1048576 < gv → r1 = 0 ∧ r2 = 24) ∧ (¬ 1048576 < gv → r1 = gv ∧ r2 = 0))) := ⟨fun gv h1 h2 => by
   have h3 := CP.out
   constructor
   ·intro h
    rw [if_pos (h1.1 h)] at h3
    injection h3 with a b
    exact ⟨a, b⟩
   ·intro h
    have h4 : ¬ 1048576 < qP x := fun h' => h (h1.2 h')
    rw [if_neg h4] at h3
    injection h3 with a b
    exact ⟨by rw [h2 h4]; exact a, b⟩⟩
  have BD : Aside0 (Below w.heap.size w W2.drew) := ⟨below_drew (B1.out.trans (B2.out.mono B1.out.size))⟩
  obtain ⟨e0', e1', e2', e3', e4', e5', _⟩ := six Q1.out B2.out
  have EE := Aside0.mk (And.intro e0' (And.intro e1' (And.intro e2' (And.intro e3' (And.intro e4' e5')))))
  cases k0 : (kd == 0) with
  | true =>
    have K0 : Aside0 (kd = 0) := ⟨by simpa using k0⟩
    obtain ⟨rm, hrm⟩ : ∃ r, r = roomP x := ⟨_, rfl⟩
    have RM : Aside0 (roomP x = rm) := ⟨hrm.symm⟩
    obtain ⟨rb0, rb1⟩ : 0 ≤ rm ∧ rm ≤ 2147483648 := by rw [hrm]; exact room_bd IOa.out
    obtain ⟨gv, hgv⟩ : ∃ g, g = growV ((n2 : Int) + 1) (rm + 1) := ⟨_, rfl⟩
    have GV : Aside0 (growV ((n2 : Int) + 1) (rm + 1) = gv) := ⟨hgv.symm⟩
    have GS : Aside0 ((1048576 < gv → r1 = 0 ∧ r2 = 24) ∧ (¬ 1048576 < gv → r1 = gv ∧ r2 = 0)) := ⟨by
     have hs := growV_spec (a := (n2 : Int) + 1) (b := rm + 1) (by omega)
     rw [← hgv] at hs
     have hq : qP x = ((n2 : Int) + 1) * (rm + 1) := by
      unfold qP aP tP
      rw [← HF.out.1, if_pos K0.out, if_pos K0.out, Int.pow_zero, Int.mul_one, HN.out.1, hrm]
     exact GSP.out gv (by rw [hq]; exact hs.1) (by rw [hq]; exact hs.2)⟩
    clear hrm hgv
    have w1 : IntKind.i64.wrap (rm + 1) = rm + 1 := by rw [i64_w]; unfold wrap64; omega
    have w2 : IntKind.i64.wrap ((n2 : Int) + 1) = (n2 : Int) + 1 := by rw [i64_w]; unfold wrap64; omega
    go_upto_region 8 with fail
    clear e0' e1' e2' e3' e4' e5'
    have Q2 : Aside0 (W2.drew.heap[p1]? = some (.cells #[.int .i64 kd, .int .i64 cap, .slice A2 n2 c2, .slice A3 n3 c3, .int .i64 sz, .slice A5 n5 c5] 54 (0, 0))) := ⟨blk_below Q1.out (below_drew B2.out)⟩
    have S0 := six Q2.out (Below.refl _ _)
    refine start_ (n := 9) (S := fun w' => w'.cell? ⟨p1, 0, none⟩ = some (.int .i64 kd) ∧ w'.cell? ⟨p1, 1, none⟩ = some (.int .i64 cap) ∧ w'.cell? ⟨p1, 2, none⟩ = some (.slice A2 n2 c2) ∧ w'.cell? ⟨p1, 3, none⟩ = some (.slice A3 n3 c3) ∧ w'.cell? ⟨p1, 4, none⟩ = some (.int .i64 sz) ∧ w'.cell? ⟨p1, 5, none⟩ = some (.slice A5 n5 c5) ∧ Aside0 (Below W2.drew.heap.size W2.drew w')) (ds := []) #[false, false, false, false, false, false, false, false, false] (by kernel_rfl) rfl rfl S0 (fun hHeld => ?_)
    clear S0
    refine puU 0 (some 21) ?_ rfl rfl (by kernel_rfl) (fun _ _ _ h => h) (Or.inl ⟨by rfl, ?_⟩) ?_ ?_ ?_
    rotate_left
    ·intro w'
     go_simp
     with_reducible rfl
    rotate_left
    ·simp only [Act.put, lsA, lsB, lsC]
     rfl
    refine taU 1 (some 22) ?_ rfl rfl (by kernel_rfl) (fun _ _ _ h => h) (Or.inl ⟨by rfl, ?_⟩) hHeld ?_ ?_ ?_
    rotate_left
    ·rintro w' ⟨s0, s1, s2, s3, s4, s5, s6⟩
     go_simp
     with_reducible rfl
    rotate_left
    ·simp only [Act.put, lsA, lsB, lsC]
     rfl
    refine puU 2 (some 23) ?_ rfl rfl (by kernel_rfl) (fun _ _ _ h => h) (Or.inl ⟨by rfl, ?_⟩) ?_ ?_ ?_
    rotate_left
    ·intro w'
     go_simp
     with_reducible rfl
    rotate_left
    ·simp only [Act.put, lsA, lsB, lsC]
     rfl
    refine puU 3 (some 24) ?_ rfl rfl (by kernel_rfl) (fun _ _ _ h => h) (Or.inl ⟨by rfl, ?_⟩) ?_ ?_ ?_
    rotate_left
    ·intro w'
     go_simp
     with_reducible rfl
    rotate_left
    ·simp only [Act.put, lsA, lsB, lsC]
     rfl
    refine taU 4 (some 25) ?_ rfl rfl (by kernel_rfl) (fun _ _ _ h => h) (Or.inl ⟨by rfl, ?_⟩) hHeld ?_ ?_ ?_
    rotate_left
    ·rintro w' ⟨s0, s1, s2, s3, s4, s5, s6⟩
     go_simp
     with_reducible rfl
    rotate_left
    ·simp only [Act.put, lsA, lsB, lsC]
     rfl
    refine one_ (i := 5) (N := some 26) #[true, true, true, true, true, true, false, false, false] rfl rfl (by kernel_rfl) (by decide) (fun K hK => ?_)
    refine goes_ Try.func46 (by kernel_rfl) rfl #[.agg #[.int .i64 kd, .int .i64 cap, .slice A2 n2 c2, .slice A3 n3 c3, .int .i64 sz, .slice A5 n5 c5]] (by rfl) rfl rfl (by (try simp only [List.map_toArray, List.map_cons, List.map_nil]); first | done | rfl) ?_
    refine (room_any W2.drew x _ (HI.out.below BD.out) IOa.out).mono ?_
    rintro _ W3 ⟨rfl, B3'⟩
    have B3 := Aside0.mk (BD.out.trans (B3'.mono BD.out.size))
    have BX3 := Aside0.mk B3'
    clear B3'
    rw [RM.out]
    refine ⟨_, rfl, ?_⟩
    refine hK.out _ _ (six Q2.out BX3.out) (fun _ => ?_)
    clear hK K
    refine norm_ (a' := ?_) ?_ ?_
    rotate_left
    ·show Act.put _ (some 26) _ = _
     simp only [Act.put, lsA, lsB, lsC]
     rfl
    refine puU 6 (some 27) ?_ rfl rfl (by kernel_rfl) (fun _ _ _ h => h) (Or.inl ⟨by rfl, ?_⟩) ?_ ?_ ?_
    rotate_left
    ·intro w'
     go_simp
     with_reducible rfl
    rotate_left
    ·simp only [Act.put, lsA, lsB, lsC]
     rfl
    refine one_ (i := 7) (N := some 28) #[true, true, true, true, true, true, true, true, false] rfl rfl (by kernel_rfl) (by decide) (fun K hK => ?_)
    refine goes_ Try.func45 (by kernel_rfl) rfl #[.int .i64 ((n2 : Int) + 1), .int .i64 (rm + 1)] (by rfl) rfl rfl (by (try simp only [List.map_toArray, List.map_cons, List.map_nil]); first | done | rfl) ?_
    refine (grow_any ((n2 : Int) + 1) (rm + 1) W3 (by omega) (by omega) (by omega) (by omega)).mono ?_
    rintro _ _ ⟨rfl, rfl⟩
    rw [GV.out]
    refine ⟨_, rfl, ?_⟩
    refine hK.out _ _ (six Q2.out BX3.out) (fun _ => ?_)
    clear hK K
    refine norm_ (a' := ?_) ?_ ?_
    rotate_left
    ·show Act.put _ (some 28) _ = _
     simp only [Act.put, lsA, lsB, lsC]
     rfl
    refine puU 8 (some 5) ?_ rfl rfl (by kernel_rfl) (fun _ _ _ h => h) (Or.inl ⟨by rfl, ?_⟩) ?_ ?_ ?_
    rotate_left
    ·intro w'
     go_simp
     with_reducible rfl
    rotate_left
    ·simp only [Act.put, lsA, lsB, lsC]
     rfl
    refine done_ (by kernel_rfl) ?_
    clear hHeld
    by_cases hq : 1048576 < gv
    ·have g : decide (gv > 1048576) = true := decide_eq_true hq
     have g' : decide (1048576 < gv) = true := decide_eq_true hq
     obtain ⟨a1, a2⟩ := (GS.out).1 (by omega)
     subst a1
     subst a2
     clear hq
     go_wp2_with fail
     go_ret2
     exact ⟨rfl, B3.out⟩
    ·have g : decide (gv > 1048576) = false := decide_eq_false hq
     have g' : decide (1048576 < gv) = false := decide_eq_false hq
     obtain ⟨a1, a2⟩ := (GS.out).2 (by omega)
     subst a1
     subst a2
     clear hq
     go_wp2_with fail
     go_ret2
     exact ⟨rfl, B3.out⟩
  | false =>
    have K0 : Aside0 (kd ≠ 0) := ⟨by simpa using k0⟩
    cases k3 : (kd == 3) with
    | true =>
      have K3 : Aside0 (kd = 3) := ⟨by simpa using k3⟩
      obtain ⟨sn, hsn⟩ : ∃ n : Nat, sz = (n : Int) := ⟨sz.toNat, by omega⟩
      rw [hsn] at HI EE Q1 e4' ⊢
      have SN : Aside0 (sz = (sn : Int)) := ⟨hsn⟩
      clear hsn
      obtain ⟨tv, htv⟩ : ∃ t, t = twoV sn := ⟨_, rfl⟩
      have TV : Aside0 (twoV sn = tv ∧ 0 ≤ tv ∧ tv ≤ 4294967296) := ⟨htv.symm, by rw [htv]; exact twoV_bd sn⟩
      obtain ⟨gv, hgv⟩ : ∃ g, g = growV ((n5 : Int) + 1) tv := ⟨_, rfl⟩
      have GV : Aside0 (growV ((n5 : Int) + 1) tv = gv) := ⟨hgv.symm⟩
      have GS : Aside0 ((1048576 < gv → r1 = 0 ∧ r2 = 24) ∧ (¬ 1048576 < gv → r1 = gv ∧ r2 = 0)) := ⟨by
       have hs := growV_spec (a := (n5 : Int) + 1) (b := tv) (by omega)
       have ht := twoV_spec sn (a := (n5 : Int) + 1) (by omega)
       rw [← hgv] at hs
       rw [← htv] at ht
       have hq : qP x = ((n5 : Int) + 1) * 2 ^ sn := by
        unfold qP aP tP
        rw [← HF.out.1, if_neg K0.out, if_neg K0.out, if_pos K3.out, if_pos K3.out, HN.out.2.2, ← HF.out.2.2, SN.out, Int.toNat_natCast]
       exact GSP.out gv (by rw [hq]; exact hs.1.trans ht.1) (by rw [hq]; exact fun h => by rw [hs.2 (fun h' => h (ht.1.1 h')), ht.2 h])⟩
      clear htv hgv
      have w2 : IntKind.i64.wrap ((n5 : Int) + 1) = (n5 : Int) + 1 := by rw [i64_w]; unfold wrap64; omega
      go_upto_region 10 with fail
      clear e0' e1' e2' e3' e4' e5'
      have Q2 : Aside0 (W2.drew.heap[p1]? = some (.cells #[.int .i64 kd, .int .i64 cap, .slice A2 n2 c2, .slice A3 n3 c3, .int .i64 (sn : Int), .slice A5 n5 c5] 54 (0, 0))) := ⟨blk_below Q1.out (below_drew B2.out)⟩
      have S0 := six Q2.out (Below.refl _ _)
      refine start_ (n := 9) (S := fun w' => w'.cell? ⟨p1, 0, none⟩ = some (.int .i64 kd) ∧ w'.cell? ⟨p1, 1, none⟩ = some (.int .i64 cap) ∧ w'.cell? ⟨p1, 2, none⟩ = some (.slice A2 n2 c2) ∧ w'.cell? ⟨p1, 3, none⟩ = some (.slice A3 n3 c3) ∧ w'.cell? ⟨p1, 4, none⟩ = some (.int .i64 (sn : Int)) ∧ w'.cell? ⟨p1, 5, none⟩ = some (.slice A5 n5 c5) ∧ Aside0 (Below W2.drew.heap.size W2.drew w')) (ds := []) #[false, false, false, false, false, false, false, false, false] (by kernel_rfl) rfl rfl S0 (fun hHeld => ?_)
      clear S0
      refine puU 0 (some 31) ?_ rfl rfl (by kernel_rfl) (fun _ _ _ h => h) (Or.inl ⟨by rfl, ?_⟩) ?_ ?_ ?_
      rotate_left
      ·intro w'
       go_simp
       with_reducible rfl
      rotate_left
      ·simp only [Act.put, lsA, lsB, lsC]
       rfl
      refine taU 1 (some 32) ?_ rfl rfl (by kernel_rfl) (fun _ _ _ h => h) (Or.inl ⟨by rfl, ?_⟩) hHeld ?_ ?_ ?_
      rotate_left
      ·rintro w' ⟨s0, s1, s2, s3, s4, s5, s6⟩
       go_simp
       with_reducible rfl
      rotate_left
      ·simp only [Act.put, lsA, lsB, lsC]
       rfl
      refine puU 2 (some 33) ?_ rfl rfl (by kernel_rfl) (fun _ _ _ h => h) (Or.inl ⟨by rfl, ?_⟩) ?_ ?_ ?_
      rotate_left
      ·intro w'
       go_simp
       with_reducible rfl
      rotate_left
      ·simp only [Act.put, lsA, lsB, lsC]
       rfl
      refine puU 3 (some 34) ?_ rfl rfl (by kernel_rfl) (fun _ _ _ h => h) (Or.inl ⟨by rfl, ?_⟩) ?_ ?_ ?_
      rotate_left
      ·intro w'
       go_simp
       with_reducible rfl
      rotate_left
      ·simp only [Act.put, lsA, lsB, lsC]
       rfl
      refine puU 4 (some 35) ?_ rfl rfl (by kernel_rfl) (fun _ _ _ h => h) (Or.inl ⟨by rfl, ?_⟩) ?_ ?_ ?_
      rotate_left
      ·intro w'
       go_simp
       with_reducible rfl
      rotate_left
      ·simp only [Act.put, lsA, lsB, lsC]
       rfl
      refine taU 5 (some 36) ?_ rfl rfl (by kernel_rfl) (fun _ _ _ h => h) (Or.inl ⟨by rfl, ?_⟩) hHeld ?_ ?_ ?_
      rotate_left
      ·rintro w' ⟨s0, s1, s2, s3, s4, s5, s6⟩
       go_simp
       with_reducible rfl
      rotate_left
      ·simp only [Act.put, lsA, lsB, lsC]
       rfl
      refine one_ (i := 6) (N := some 37) #[true, true, true, true, true, true, true, false, false] rfl rfl (by kernel_rfl) (by decide) (fun K hK => ?_)
      refine goes_ Try.func47 (by kernel_rfl) rfl #[.int .i64 (sn : Int)] (by rfl) rfl rfl (by (try simp only [List.map_toArray, List.map_cons, List.map_nil]); first | done | rfl) ?_
      refine (twos_any sn W2.drew).mono ?_
      rintro _ _ ⟨rfl, rfl⟩
      rw [TV.out.1]
      refine ⟨_, rfl, ?_⟩
      refine hK.out _ _ (six Q2.out (Below.refl _ _)) (fun _ => ?_)
      clear hK K
      refine norm_ (a' := ?_) ?_ ?_
      rotate_left
      ·show Act.put _ (some 37) _ = _
       simp only [Act.put, lsA, lsB, lsC]
       rfl
      refine one_ (i := 7) (N := some 38) #[true, true, true, true, true, true, true, true, false] rfl rfl (by kernel_rfl) (by decide) (fun K hK => ?_)
      refine goes_ Try.func45 (by kernel_rfl) rfl #[.int .i64 ((n5 : Int) + 1), .int .i64 tv] (by rfl) rfl rfl (by (try simp only [List.map_toArray, List.map_cons, List.map_nil]); first | done | rfl) ?_
      refine (grow_any ((n5 : Int) + 1) tv W2.drew (by omega) (by omega) TV.out.2.1 TV.out.2.2).mono ?_
      rintro _ _ ⟨rfl, rfl⟩
      rw [GV.out]
      refine ⟨_, rfl, ?_⟩
      refine hK.out _ _ (six Q2.out (Below.refl _ _)) (fun _ => ?_)
      clear hK K
      refine norm_ (a' := ?_) ?_ ?_
      rotate_left
      ·show Act.put _ (some 38) _ = _
       simp only [Act.put, lsA, lsB, lsC]
       rfl
      refine puU 8 (some 5) ?_ rfl rfl (by kernel_rfl) (fun _ _ _ h => h) (Or.inl ⟨by rfl, ?_⟩) ?_ ?_ ?_
      rotate_left
      ·intro w'
       go_simp
       with_reducible rfl
      rotate_left
      ·simp only [Act.put, lsA, lsB, lsC]
       rfl
      refine done_ (by kernel_rfl) ?_
      clear hHeld
      by_cases hq : 1048576 < gv
      ·have g : decide (gv > 1048576) = true := decide_eq_true hq
       have g' : decide (1048576 < gv) = true := decide_eq_true hq
       obtain ⟨a1, a2⟩ := (GS.out).1 (by omega)
       subst a1
       subst a2
       clear hq
       go_wp2_with fail
       go_ret2
       exact ⟨rfl, BD.out⟩
      ·have g : decide (gv > 1048576) = false := decide_eq_false hq
       have g' : decide (1048576 < gv) = false := decide_eq_false hq
       obtain ⟨a1, a2⟩ := (GS.out).2 (by omega)
       subst a1
       subst a2
       clear hq
       go_wp2_with fail
       go_ret2
       exact ⟨rfl, BD.out⟩
    | false =>
      have K3 : Aside0 (kd ≠ 3) := ⟨by simpa using k3⟩
      have nb := n_bd IOa.out
      obtain ⟨sn, hsn⟩ : ∃ n : Nat, nP x = (n : Int) := ⟨(nP x).toNat, by omega⟩
      have NV := Aside0.mk hsn
      have nb2 : sn ≤ 4096 := by omega
      obtain ⟨tv, htv⟩ : ∃ t, t = twoV sn := ⟨_, rfl⟩
      have TV : Aside0 (twoV sn = tv ∧ 0 ≤ tv ∧ tv ≤ 4294967296) := ⟨htv.symm, by rw [htv]; exact twoV_bd sn⟩
      obtain ⟨gv, hgv⟩ : ∃ g, g = growV (sn : Int) tv := ⟨_, rfl⟩
      have GV : Aside0 (growV (sn : Int) tv = gv) := ⟨hgv.symm⟩
      have GS : Aside0 ((1048576 < gv → r1 = 0 ∧ r2 = 24) ∧ (¬ 1048576 < gv → r1 = gv ∧ r2 = 0)) := ⟨by
       have hs := growV_spec (a := (sn : Int)) (b := tv) (by omega)
       have ht := twoV_spec sn (a := (sn : Int)) (by omega)
       rw [← hgv] at hs
       rw [← htv] at ht
       have hq : qP x = (sn : Int) * 2 ^ sn := by
        unfold qP aP tP
        rw [← HF.out.1, if_neg K0.out, if_neg K0.out, if_neg K3.out, if_neg K3.out, hsn, Int.toNat_natCast]
       exact GSP.out gv (by rw [hq]; exact hs.1.trans ht.1) (by rw [hq]; exact fun h => by rw [hs.2 (fun h' => h (ht.1.1 h')), ht.2 h])⟩
      clear htv hgv hsn nb
      go_upto_region 6 with fail
      clear e0' e1' e2' e3' e4' e5'
      have Q2 : Aside0 (W2.drew.heap[p1]? = some (.cells #[.int .i64 kd, .int .i64 cap, .slice A2 n2 c2, .slice A3 n3 c3, .int .i64 sz, .slice A5 n5 c5] 54 (0, 0))) := ⟨blk_below Q1.out (below_drew B2.out)⟩
      have S0 := six Q2.out (Below.refl _ _)
      refine start_ (n := 7) (S := fun w' => w'.cell? ⟨p1, 0, none⟩ = some (.int .i64 kd) ∧ w'.cell? ⟨p1, 1, none⟩ = some (.int .i64 cap) ∧ w'.cell? ⟨p1, 2, none⟩ = some (.slice A2 n2 c2) ∧ w'.cell? ⟨p1, 3, none⟩ = some (.slice A3 n3 c3) ∧ w'.cell? ⟨p1, 4, none⟩ = some (.int .i64 sz) ∧ w'.cell? ⟨p1, 5, none⟩ = some (.slice A5 n5 c5) ∧ Aside0 (Below W2.drew.heap.size W2.drew w')) (ds := []) #[false, false, false, false, false, false, false] (by kernel_rfl) rfl rfl S0 (fun hHeld => ?_)
      clear S0
      refine taU 0 (some 13) ?_ rfl rfl (by kernel_rfl) (fun _ _ _ h => h) (Or.inl ⟨by rfl, ?_⟩) hHeld ?_ ?_ ?_
      rotate_left
      ·rintro w' ⟨s0, s1, s2, s3, s4, s5, s6⟩
       go_simp
       with_reducible rfl
      rotate_left
      ·simp only [Act.put, lsA, lsB, lsC]
       rfl
      refine taU 2 (some 15) ?_ rfl rfl (by kernel_rfl) (fun _ _ _ h => h) (Or.inl ⟨by rfl, ?_⟩) hHeld ?_ ?_ ?_
      rotate_left
      ·rintro w' ⟨s0, s1, s2, s3, s4, s5, s6⟩
       go_simp
       with_reducible rfl
      rotate_left
      ·simp only [Act.put, lsA, lsB, lsC]
       rfl
      refine one_ (i := 1) (N := some 14) #[true, true, true, false, false, false, false] rfl rfl (by kernel_rfl) (by decide) (fun K hK => ?_)
      refine goes_ Try.func48 (by kernel_rfl) rfl #[.agg #[.int .i64 kd, .int .i64 cap, .slice A2 n2 c2, .slice A3 n3 c3, .int .i64 sz, .slice A5 n5 c5]] (by rfl) rfl rfl (by (try simp only [List.map_toArray, List.map_cons, List.map_nil]); first | done | rfl) ?_
      refine (n_any W2.drew x _ (HI.out.below BD.out) HX.out IOa.out).mono ?_
      rintro _ W3 ⟨rfl, B3'⟩
      have B3 := Aside0.mk (BD.out.trans (B3'.mono BD.out.size))
      have BX3 := Aside0.mk B3'
      clear B3'
      rw [NV.out]
      refine ⟨_, rfl, ?_⟩
      refine hK.out _ _ (six Q2.out BX3.out) (fun _ => ?_)
      clear hK K
      refine norm_ (a' := ?_) ?_ ?_
      rotate_left
      ·show Act.put _ (some 14) _ = _
       simp only [Act.put, lsA, lsB, lsC]
       rfl
      refine one_ (i := 3) (N := some 16) #[true, true, true, true, false, false, false] rfl rfl (by kernel_rfl) (by decide) (fun K hK => ?_)
      refine goes_ Try.func48 (by kernel_rfl) rfl #[.agg #[.int .i64 kd, .int .i64 cap, .slice A2 n2 c2, .slice A3 n3 c3, .int .i64 sz, .slice A5 n5 c5]] (by rfl) rfl rfl (by (try simp only [List.map_toArray, List.map_cons, List.map_nil]); first | done | rfl) ?_
      refine (n_any W3 x _ (HI.out.below B3.out) HX.out IOa.out).mono ?_
      rintro _ W4 ⟨rfl, B4'⟩
      have B4 := Aside0.mk (B3.out.trans (B4'.mono B3.out.size))
      have BX4 := Aside0.mk (BX3.out.trans (B4'.mono BX3.out.size))
      clear B4'
      rw [NV.out]
      refine ⟨_, rfl, ?_⟩
      refine hK.out _ _ (six Q2.out BX4.out) (fun _ => ?_)
      clear hK K
      refine norm_ (a' := ?_) ?_ ?_
      rotate_left
      ·show Act.put _ (some 16) _ = _
       simp only [Act.put, lsA, lsB, lsC]
       rfl
      refine one_ (i := 4) (N := some 17) #[true, true, true, true, true, false, false] rfl rfl (by kernel_rfl) (by decide) (fun K hK => ?_)
      refine goes_ Try.func47 (by kernel_rfl) rfl #[.int .i64 (sn : Int)] (by rfl) rfl rfl (by (try simp only [List.map_toArray, List.map_cons, List.map_nil]); first | done | rfl) ?_
      refine (twos_any sn W4).mono ?_
      rintro _ _ ⟨rfl, rfl⟩
      rw [TV.out.1]
      refine ⟨_, rfl, ?_⟩
      refine hK.out _ _ (six Q2.out BX4.out) (fun _ => ?_)
      clear hK K
      refine norm_ (a' := ?_) ?_ ?_
      rotate_left
      ·show Act.put _ (some 17) _ = _
       simp only [Act.put, lsA, lsB, lsC]
       rfl
      refine one_ (i := 5) (N := some 18) #[true, true, true, true, true, true, false] rfl rfl (by kernel_rfl) (by decide) (fun K hK => ?_)
      refine goes_ Try.func45 (by kernel_rfl) rfl #[.int .i64 (sn : Int), .int .i64 tv] (by rfl) rfl rfl (by (try simp only [List.map_toArray, List.map_cons, List.map_nil]); first | done | rfl) ?_
      refine (grow_any (sn : Int) tv W4 (by omega) (by omega) TV.out.2.1 TV.out.2.2).mono ?_
      rintro _ _ ⟨rfl, rfl⟩
      rw [GV.out]
      refine ⟨_, rfl, ?_⟩
      refine hK.out _ _ (six Q2.out BX4.out) (fun _ => ?_)
      clear hK K
      refine norm_ (a' := ?_) ?_ ?_
      rotate_left
      ·show Act.put _ (some 18) _ = _
       simp only [Act.put, lsA, lsB, lsC]
       rfl
      refine puU 6 (some 5) ?_ rfl rfl (by kernel_rfl) (fun _ _ _ h => h) (Or.inl ⟨by rfl, ?_⟩) ?_ ?_ ?_
      rotate_left
      ·intro w'
       go_simp
       with_reducible rfl
      rotate_left
      ·simp only [Act.put, lsA, lsB, lsC]
       rfl
      refine done_ (by kernel_rfl) ?_
      clear hHeld
      by_cases hq : 1048576 < gv
      ·have g : decide (gv > 1048576) = true := decide_eq_true hq
       have g' : decide (1048576 < gv) = true := decide_eq_true hq
       obtain ⟨a1, a2⟩ := (GS.out).1 (by omega)
       subst a1
       subst a2
       clear hq
       go_wp2_with fail
       go_ret2
       exact ⟨rfl, B4.out⟩
      ·have g : decide (gv > 1048576) = false := decide_eq_false hq
       have g' : decide (1048576 < gv) = false := decide_eq_false hq
       obtain ⟨a1, a2⟩ := (GS.out).2 (by omega)
       subst a1
       subst a2
       clear hq
       go_wp2_with fail
       go_ret2
       exact ⟨rfl, B4.out⟩
 ·have CP : Aside0 (r1 = 0 ∧ r2 = chk x) := ⟨by
   have h1 := hr.out
   unfold cellsP at h1
   rw [if_neg hc] at h1
   injection h1 with h1 h2
   exact ⟨h1.symm, h2.symm⟩⟩
  obtain ⟨z, hz⟩ : ∃ z, z = chk x := ⟨_, rfl⟩
  rw [← hz] at hc CP ⊢
  have g : (z == 0) = false := by simpa using hc
  have g2 : (z != 0) = true := by simpa using hc
  obtain ⟨e1, e2⟩ := CP.out
  subst e1
  subst e2
  clear hc hz CP
  go_wp2_with fail
  go_ret2
  exact ⟨rfl, B1.out.trans (B2.out.mono B1.out.size)⟩
theorem cells_any (w : World) (x : PI) (v : Value) (h : InstC w x v) (hx : PIok x) : Calls Try.prog 22 #[v] w fun e w' => e = .returned (.tuple #[.int .i64 (cellsP x).1, .int .i64 (cellsP x).2]) ∧ Below w.heap.size w w' :=
 cells_any' w x v h hx _ _ ⟨rfl⟩
end Go.Proofs.Ytelabmhhnpfegaa.Hand
end
section
namespace Go.Proofs.Ytelabmhhnpfegaa.Hand
open Go.RowKit Go.Proofs.YtelabmhhnpfegaaW.PrintWords Go.Proofs.YtelabmhhnpfegaaW.PrintLast Go.Proofs.YtelabmhhnpfegaaW.PrintMore Go.Proofs.Ytelabmhhnpfegaa.PDynCells
def elsC (x : PI) (k : Int) : List Int := (x.sets.getD k.toNat ⟨0, []⟩).f1
def covB (x : PI) (xs : List Int) : Bool := (List.range x.size.toNat).all fun e => decide ((e : Int) ∈ xs.flatMap (elsC x))
end Go.Proofs.Ytelabmhhnpfegaa.Hand
end
section
namespace Go.Proofs.Ytelabmhhnpfegaa.Hand
open Go.RowKit Go.Proofs.YtelabmhhnpfegaaW.PrintWords Go.Proofs.YtelabmhhnpfegaaW.PrintLast Go.Proofs.YtelabmhhnpfegaaW.PrintMore Go.Proofs.Ytelabmhhnpfegaa.PDynCells
def wgtC (x : PI) (k : Int) : Int := (x.items.getD k.toNat ⟨0, 0⟩).f1
def sumL (l : List Int) : Int := sumTo l.length fun i => l.getD i 0
def fitB (x : PI) (xs : List Int) : Bool := decide (sumL (xs.map (wgtC x)) ≤ x.cap)
end Go.Proofs.Ytelabmhhnpfegaa.Hand
end
section
namespace Go.Proofs.Ytelabmhhnpfegaa.Hand
open Go.RowKit Go.Proofs.YtelabmhhnpfegaaW.PrintWords Go.Proofs.YtelabmhhnpfegaaW.PrintLast Go.Proofs.YtelabmhhnpfegaaW.PrintMore Go.Proofs.Ytelabmhhnpfegaa.PDynCells
def cstA (x : PI) (i k : Nat) : Int := (x.cost.getD i []).getD k 0
def partC (x : PI) (y : List Int) (i : Nat) : Int :=
 if x.kind = 0 then (x.items.getD (y.getD i 0).toNat ⟨0, 0⟩).f0
 else if x.kind = 1 then cstA x i (y.getD i 0).toNat
 else if x.kind = 2 then cstA x (y.getD i 0).toNat (y.getD ((i + 1) % y.length) 0).toNat
 else (x.sets.getD (y.getD i 0).toNat ⟨0, []⟩).f0
end Go.Proofs.Ytelabmhhnpfegaa.Hand
end
section
namespace Go.Proofs.Ytelabmhhnpfegaa.Hand
open Go.RowKit Go.Proofs.YtelabmhhnpfegaaW.PrintWords Go.Proofs.YtelabmhhnpfegaaW.PrintLast Go.Proofs.YtelabmhhnpfegaaW.PrintMore Go.Proofs.Ytelabmhhnpfegaa.PDynCells
def mayP (x : PI) (y : List Int) : Bool :=
 if x.kind = 0 then ascB x.items.length (-1) y && fitB x y
 else if x.kind = 1 then ordB y x.cost.length
 else if x.kind = 2 then ordB y x.cost.length && decide (y.getD 0 0 = 0)
 else ascB x.sets.length (-1) y && covB x y
theorem asc_bd {size : Int} : ∀ (l : List Int) (a : Int), -1 ≤ a → ascB size a l = true → (∀ e ∈ l, 0 ≤ e ∧ e < size) ∧ (l = [] ∨ a + l.length < size)
 | [], _, _, _ => ⟨fun e he => absurd he List.not_mem_nil, .inl rfl⟩
 | y :: t, a, ha, h => by
  unfold ascB at h
  split at h
  ·cases h
  ·split at h
   ·cases h
   ·obtain ⟨h1, h2⟩ := asc_bd t y (by omega) h
    refine ⟨fun e he => ?_, .inr ?_⟩
    ·rcases List.mem_cons.1 he with rfl | he
     ·omega
     ·exact h1 e he
    ·rw [List.length_cons]
     rcases h2 with rfl | h2
     ·simp
      omega
     ·omega
def valP (x : PI) (y : List Int) : Int × Int := if chk x = 0 then (if mayP x y = true then (sumTo y.length (partC x y), 0) else (0, 12)) else (0, chk x)
def cosP (x : PI) (y : List Int) : Int × Int := (if x.kind = 0 then -(valP x y).1 else (valP x y).1, (valP x y).2)
end Go.Proofs.Ytelabmhhnpfegaa.Hand
end
section
namespace Go.Proofs.Ytelabmhhnpfegaa.Hand
open Go.RowKit Go.Proofs.YtelabmhhnpfegaaW.PrintWords Go.Proofs.YtelabmhhnpfegaaW.PrintLast Go.Proofs.YtelabmhhnpfegaaW.PrintMore Go.Proofs.Ytelabmhhnpfegaa.PDynCells
end Go.Proofs.Ytelabmhhnpfegaa.Hand
end
section
namespace Go.Proofs.Ytelabmhhnpfegaa.Hand
open Go.RowKit Go.Proofs.YtelabmhhnpfegaaW.PrintWords Go.Proofs.YtelabmhhnpfegaaW.PrintLast Go.Proofs.YtelabmhhnpfegaaW.PrintMore Go.Proofs.Ytelabmhhnpfegaa.PDynCells
end Go.Proofs.Ytelabmhhnpfegaa.Hand
end
section
namespace Go.Proofs.Ytelabmhhnpfegaa.Hand
open Go.RowKit Go.Proofs.YtelabmhhnpfegaaW.PrintWords Go.Proofs.YtelabmhhnpfegaaW.PrintLast Go.Proofs.YtelabmhhnpfegaaW.PrintMore Go.Proofs.Ytelabmhhnpfegaa.PDynCells
end Go.Proofs.Ytelabmhhnpfegaa.Hand
end
section
namespace Go.Proofs.Ytelabmhhnpfegaa.Hand
open Go.RowKit Go.Proofs.YtelabmhhnpfegaaW.PrintWords Go.Proofs.YtelabmhhnpfegaaW.PrintLast Go.Proofs.YtelabmhhnpfegaaW.PrintMore Go.Proofs.Ytelabmhhnpfegaa.PDynCells
end Go.Proofs.Ytelabmhhnpfegaa.Hand
end
section
namespace Go.Proofs.Ytelabmhhnpfegaa.Hand
open Go.RowKit Go.Proofs.YtelabmhhnpfegaaW.PrintWords Go.Proofs.YtelabmhhnpfegaaW.PrintLast Go.Proofs.YtelabmhhnpfegaaW.PrintMore Go.Proofs.Ytelabmhhnpfegaa.PDynCells
end Go.Proofs.Ytelabmhhnpfegaa.Hand
end
