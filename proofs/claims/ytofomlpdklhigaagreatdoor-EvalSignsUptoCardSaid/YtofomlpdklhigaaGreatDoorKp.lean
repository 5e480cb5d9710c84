/- How many bits a word of 64 has: by masks and shifts, in plain Lean. No condition. -/
import Derived.Laws.BitsLemmas
namespace Go.Proofs.YtofomlpdklhigaaGreatDoor.Hand
set_option linter.unusedVariables false
set_option linter.unusedSimpArgs false
theorem byte_and (p q r s : Nat) (hq : q < 256) (hs : s < 256) : (256 * p + q) &&& (256 * r + s) = 256 * (p &&& r) + (q &&& s) := by
  have hqs : (q &&& s) < 2 ^ 8 := Nat.and_lt_two_pow q (show s < 2 ^ 8 from hs)
  apply Nat.eq_of_testBit_eq
  intro i
  have e1 := Nat.testBit_two_pow_mul_add p (show q < 2 ^ 8 from hq) i
  have e2 := Nat.testBit_two_pow_mul_add r (show s < 2 ^ 8 from hs) i
  have e3 := Nat.testBit_two_pow_mul_add (p &&& r) hqs i
  rw [show (2 : Nat) ^ 8 = 256 from rfl] at e1 e2 e3
  rw [Nat.testBit_and, e1, e2, e3]
  split
  · rw [Nat.testBit_and]
  · rw [Nat.testBit_and]
/-- The masks, so many bytes. -/
def mk8 (b : Nat) : Nat → Nat
  | 0 => 0
  | n + 1 => 256 * mk8 b n + b
def st1 (n x : Nat) : Nat := ((x / 2) &&& mk8 85 n) + (x &&& mk8 85 n)
def st2 (n x : Nat) : Nat := ((x / 4) &&& mk8 51 n) + (x &&& mk8 51 n)
def st3 (n x : Nat) : Nat := (x / 16 + x) &&& mk8 15 n
set_option maxRecDepth 100000 in
theorem tb1 : ∀ b : Fin 256, ∀ y : Fin 2, ((b.val / 2 + 128 * y.val) &&& 85) + (b.val &&& 85) = st1 1 b.val ∧ st1 1 b.val < 256 := by decide +kernel
set_option maxRecDepth 100000 in
theorem tb2 : ∀ b : Fin 256, ∀ y : Fin 4, ((b.val / 4 + 64 * y.val) &&& 51) + (b.val &&& 51) = st2 1 b.val ∧ st2 1 b.val / 16 ≤ 6 ∧ st2 1 b.val % 16 ≤ 6 := by decide +kernel
set_option maxRecDepth 100000 in
theorem tb3 : ∀ b : Fin 256, ∀ y : Fin 7, b.val / 16 ≤ 6 → b.val % 16 ≤ 6 → 16 * y.val + b.val / 16 + b.val < 256 ∧ (16 * y.val + b.val / 16 + b.val) &&& 15 = st3 1 b.val := by decide +kernel
theorem mask0 (b : Nat) (h : b < 256) : mk8 b 1 = b := by simp [mk8]
theorem st1_step (n y b : Nat) (hb : b < 256) : st1 (n + 1) (256 * y + b) = 256 * st1 n y + st1 1 b := by
  have h1 : (256 * y + b) / 2 = 256 * (y / 2) + (b / 2 + 128 * (y % 2)) := by omega
  obtain ⟨t1, t2⟩ := tb1 ⟨b, hb⟩ ⟨y % 2, by omega⟩
  simp only at t1 t2
  rw [← t1]
  unfold st1
  rw [mk8, h1, byte_and _ _ _ _ (by omega) (by omega), byte_and _ _ _ _ hb (by omega)]
  omega
theorem st2_step (n y b : Nat) (hb : b < 256) : st2 (n + 1) (256 * y + b) = 256 * st2 n y + st2 1 b := by
  have h1 : (256 * y + b) / 4 = 256 * (y / 4) + (b / 4 + 64 * (y % 4)) := by omega
  obtain ⟨t1, t2⟩ := tb2 ⟨b, hb⟩ ⟨y % 4, by omega⟩
  simp only at t1 t2
  rw [← t1]
  unfold st2
  rw [mk8, h1, byte_and _ _ _ _ (by omega) (by omega), byte_and _ _ _ _ hb (by omega)]
  omega
theorem st3_step (n y b : Nat) (hb : b < 256) (h1 : b / 16 ≤ 6) (h2 : b % 16 ≤ 6) (hy : y % 16 ≤ 6) : st3 (n + 1) (256 * y + b) = 256 * st3 n y + st3 1 b := by
  obtain ⟨t0, t1⟩ := tb3 ⟨b, hb⟩ ⟨y % 16, by omega⟩ h1 h2
  simp only at t0 t1
  have h3 : (256 * y + b) / 16 + (256 * y + b) = 256 * (y / 16 + y) + (16 * (y % 16) + b / 16 + b) := by omega
  rw [← t1]
  unfold st3
  rw [mk8, h3, byte_and _ _ _ _ t0 (by omega)]
/-- The counts of the bytes. -/
def cnt8 : Nat → Nat → Nat
  | 0, _ => 0
  | n + 1, x => 256 * cnt8 n (x / 256) + st3 1 (st2 1 (st1 1 (x % 256)))
theorem st_lt : ∀ b : Fin 256, st1 1 b.val < 256 ∧ st2 1 (st1 1 b.val) < 256 := by decide +kernel
theorem st2_nib (n x : Nat) : st2 (n + 1) x % 16 ≤ 6 := by
  have h : x = 256 * (x / 256) + x % 256 := by omega
  rw [h, st2_step _ _ _ (by omega)]
  obtain ⟨_, t1, t2⟩ := tb2 ⟨x % 256, by omega⟩ ⟨0, by omega⟩
  simp only at t1 t2
  omega
theorem st0 (x : Nat) : st1 0 x = 0 ∧ st2 0 x = 0 ∧ st3 0 x = 0 := by simp [st1, st2, st3, mk8]
theorem st_all : ∀ n x, st3 n (st2 n (st1 n x)) = cnt8 n x
  | 0, x => (st0 _).2.2
  | n + 1, x => by
    have h : x = 256 * (x / 256) + x % 256 := by omega
    obtain ⟨l1, l2⟩ := st_lt ⟨x % 256, by omega⟩
    simp only at l1 l2
    have ih := st_all n (x / 256)
    rw [cnt8, ← ih]
    conv => lhs; rw [h]
    rw [st1_step _ _ _ (by omega), st2_step _ _ _ l1]
    obtain ⟨_, t1, t2⟩ := tb2 ⟨st1 1 (x % 256), l1⟩ ⟨0, by omega⟩
    simp only at t1 t2
    refine st3_step _ _ _ l2 t1 t2 ?_
    cases n with
    | zero => rw [(st0 _).2.1]; omega
    | succ n => exact st2_nib _ _
/-- How many of the first n bits are set. -/
def popc (n m : Nat) : Nat := (List.range n).countP fun j => m.testBit j
theorem popc_succ (n m : Nat) : popc (n + 1) m = popc n m + (if m.testBit n then 1 else 0) := by
  unfold popc
  rw [List.range_succ, List.countP_append, List.countP_singleton]
theorem popc_8 : ∀ b : Fin 256, st3 1 (st2 1 (st1 1 b.val)) = popc 8 b.val ∧ popc 8 b.val ≤ 8 := by decide +kernel
theorem popc_hi (n y b : Nat) (hb : b < 256) : popc (8 + n) (256 * y + b) = popc 8 b + popc n y := by
  have key : ∀ i, (256 * y + b).testBit i = if i < 8 then b.testBit i else y.testBit (i - 8) := fun i => by
    have := Nat.testBit_two_pow_mul_add y (show b < 2 ^ 8 from hb) i
    rwa [show (2 : Nat) ^ 8 = 256 from rfl] at this
  induction n with
  | zero =>
    unfold popc
    rw [List.range_zero, List.countP_nil, Nat.add_zero, Nat.add_zero]
    refine List.countP_congr (fun j hj => ?_)
    rw [key j, if_pos (List.mem_range.1 hj)]
  | succ n ih => rw [← Nat.add_assoc, popc_succ (8 + n), popc_succ n, ih, key (8 + n), if_neg (show ¬ 8 + n < 8 by omega), show 8 + n - 8 = n by omega]; omega
def sum8 : Nat → Nat → Nat
  | 0, _ => 0
  | n + 1, x => popc 8 (x % 256) + sum8 n (x / 256)
theorem sum8_pop : ∀ n x, sum8 n x = popc (8 * n) x
  | 0, x => rfl
  | n + 1, x => by
    have h : x = 256 * (x / 256) + x % 256 := by omega
    rw [sum8, sum8_pop n, Nat.mul_succ, Nat.add_comm (8 * n) 8]
    conv => rhs; rw [h]
    rw [popc_hi _ _ _ (by omega)]
/-- Adding the bytes up. -/
theorem add_up (x : Nat) : ∃ y, y = cnt8 8 x ∧ y < 2 ^ 60 ∧ ((y + y / 256) + (y + y / 256) / 65536 + ((y + y / 256) + (y + y / 256) / 65536) / 4294967296) % 128 = popc 64 x := by
  refine ⟨_, rfl, ?_⟩
  rw [← sum8_pop 8 x]
  have key : ∀ z, ∃ c, c = st3 1 (st2 1 (st1 1 (z % 256))) ∧ c = popc 8 (z % 256) ∧ c ≤ 8 := fun z => by
    obtain ⟨a, b⟩ := popc_8 ⟨z % 256, by omega⟩
    simp only at a b
    exact ⟨_, rfl, a, by rw [a]; exact b⟩
  simp only [cnt8, sum8]
  obtain ⟨c0, d0, e0, f0⟩ := key x
  obtain ⟨c1, d1, e1, f1⟩ := key (x / 256)
  obtain ⟨c2, d2, e2, f2⟩ := key (x / 256 / 256)
  obtain ⟨c3, d3, e3, f3⟩ := key (x / 256 / 256 / 256)
  obtain ⟨c4, d4, e4, f4⟩ := key (x / 256 / 256 / 256 / 256)
  obtain ⟨c5, d5, e5, f5⟩ := key (x / 256 / 256 / 256 / 256 / 256)
  obtain ⟨c6, d6, e6, f6⟩ := key (x / 256 / 256 / 256 / 256 / 256 / 256)
  obtain ⟨c7, d7, e7, f7⟩ := key (x / 256 / 256 / 256 / 256 / 256 / 256 / 256)
  rw [← d0, ← d1, ← d2, ← d3, ← d4, ← d5, ← d6, ← d7, ← e0, ← e1, ← e2, ← e3, ← e4, ← e5, ← e6, ← e7]
  clear d0 d1 d2 d3 d4 d5 d6 d7 e0 e1 e2 e3 e4 e5 e6 e7 key
  obtain ⟨y, hy⟩ : ∃ y, y = 256 * (256 * (256 * (256 * (256 * (256 * (256 * (256 * 0 + c7) + c6) + c5) + c4) + c3) + c2) + c1) + c0 := ⟨_, rfl⟩
  rw [← hy]
  have h1 : y / 256 = 256 * (256 * (256 * (256 * (256 * (256 * c7 + c6) + c5) + c4) + c3) + c2) + c1 := by omega
  rw [h1]
  obtain ⟨z, hz⟩ : ∃ z, z = y + (256 * (256 * (256 * (256 * (256 * (256 * c7 + c6) + c5) + c4) + c3) + c2) + c1) := ⟨_, rfl⟩
  rw [← hz]
  have h2 : z / 65536 = 256 * (256 * (256 * (256 * (256 * c7 + (c6 + c7)) + (c5 + c6)) + (c4 + c5)) + (c3 + c4)) + (c2 + c3) := by omega
  rw [h2]
  obtain ⟨u, hu⟩ : ∃ u, u = z + (256 * (256 * (256 * (256 * (256 * c7 + (c6 + c7)) + (c5 + c6)) + (c4 + c5)) + (c3 + c4)) + (c2 + c3)) := ⟨_, rfl⟩
  rw [← hu]
  have h3 : u / 4294967296 = 256 * (256 * (256 * c7 + (c6 + c7)) + (c5 + c6 + c7)) + (c4 + c5 + c6 + c7) := by omega
  rw [h3]
  refine ⟨by omega, ?_⟩
  clear h1 h2 h3
  omega
end Go.Proofs.YtofomlpdklhigaaGreatDoor.Hand
