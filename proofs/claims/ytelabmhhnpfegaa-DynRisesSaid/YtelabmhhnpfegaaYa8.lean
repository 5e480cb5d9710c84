/- Texts Jb Ks, cut to what is used. -/
import Derived.WalkKit
import Derived.Laws.Externs
import Derived.Lib.EndianBits
import Derived.Test.YtelabmhhnpfegaaYa0
import Derived.Test.YtelabmhhnpfegaaYa3
import Derived.Test.YtelabmhhnpfegaaYa7
set_option linter.unusedVariables false
set_option linter.unusedSimpArgs false
section
namespace Go.Proofs.Ytelabmhhnpfegaa.Hand
def sumTo (n : Nat) (f : Nat → Int) : Int := ((List.range n).map f).sum
theorem sumTo_succ (n : Nat) (f : Nat → Int) : sumTo (n + 1) f = sumTo n f + f n := by
 unfold sumTo
 rw [List.range_succ, List.map_append, List.sum_append]
 simp
theorem sumTo_congr {n : Nat} {f g : Nat → Int} (h : ∀ i, i < n → f i = g i) : sumTo n f = sumTo n g := by
 induction n with
 | zero => rfl
 | succ n ih => rw [sumTo_succ, sumTo_succ, ih (fun i hi => h i (by omega)), h n (by omega)]
theorem perm_sum {l m : List Int} (h : l.Perm m) : l.sum = m.sum := by
 induction h with
 | nil => rfl
 | cons x _ ih => simp [ih]
 | swap x y l => simp only [List.sum_cons]; omega
 | trans _ _ ih1 ih2 => rw [ih1, ih2]
theorem pigeon (n : Nat) : ∀ l : List Nat, l.Nodup → (∀ x ∈ l, x < n) → l.length ≤ n := by
 induction n with
 | zero =>
  intro l _ h
  cases l with
  | nil => simp
  | cons x l => exact absurd (h x List.mem_cons_self) (Nat.not_lt_zero _)
 | succ n ih =>
  intro l hn h
  by_cases hm : n ∈ l
  ·have h1 := ih (l.erase n) (hn.erase n) (fun x hx => by
    have h2 := h x (List.mem_of_mem_erase hx)
    have h3 : x ≠ n := fun e => by
     subst e
     exact (hn.not_mem_erase) hx
    omega)
   rw [List.length_erase_of_mem hm] at h1
   omega
  ·have := ih l hn (fun x hx => by
    have h2 := h x hx
    have h3 : x ≠ n := fun e => hm (e ▸ hx)
    omega)
   omega
theorem perm_range (n : Nat) : ∀ l : List Nat, l.Nodup → (∀ x ∈ l, x < n) → l.length = n → l.Perm (List.range n) := by
 induction n with
 | zero =>
  intro l _ _ h
  obtain rfl := List.eq_nil_of_length_eq_zero h
  exact .nil
 | succ n ih =>
  intro l hn h hl
  have hm : n ∈ l := by
   refine Classical.byContradiction fun hm => ?_
   have := pigeon n l hn (fun x hx => by
    have h2 := h x hx
    have h3 : x ≠ n := fun e => hm (e ▸ hx)
    omega)
   omega
  have h1 := ih (l.erase n) (hn.erase n) (fun x hx => by
   have h2 := h x (List.mem_of_mem_erase hx)
   have h3 : x ≠ n := fun e => by
    subst e
    exact (hn.not_mem_erase) hx
   omega) (by rw [List.length_erase_of_mem hm]; omega)
  rw [List.range_succ]
  exact (List.perm_cons_erase hm).trans ((h1.cons n).trans (List.perm_append_comm (l₁ := [n])))
structure Inj (n : Nat) (σ : Nat → Nat) : Prop where
 lt : ∀ i, i < n → σ i < n
 inj : ∀ i j, i < n → j < n → σ i = σ j → i = j
theorem nodup_map {n : Nat} {σ : Nat → Nat} (h : ∀ i j, i < n → j < n → σ i = σ j → i = j) : ((List.range n).map σ).Nodup := by
 induction n with
 | zero => simp
 | succ n ih =>
  rw [List.range_succ, List.map_append, List.nodup_append]
  refine ⟨ih (fun i j hi hj => h i j (by omega) (by omega)), by simp, fun a ha b hb => ?_⟩
  obtain ⟨i, hi, rfl⟩ := List.mem_map.1 ha
  simp at hb
  subst hb
  intro e
  have := h i n (by have := List.mem_range.1 hi; omega) (by omega) e
  have := List.mem_range.1 hi
  omega
theorem Inj.perm {n : Nat} {σ : Nat → Nat} (h : Inj n σ) : ((List.range n).map σ).Perm (List.range n) :=
 perm_range n _ (nodup_map h.inj) (fun x hx => by
  obtain ⟨i, hi, rfl⟩ := List.mem_map.1 hx
  exact h.lt i (List.mem_range.1 hi)) (by simp)
theorem Inj.sum {n : Nat} {σ : Nat → Nat} (h : Inj n σ) (f : Nat → Int) : sumTo n (fun i => f (σ i)) = sumTo n f := by
 have := perm_sum (h.perm.map f)
 rw [List.map_map] at this
 exact this
theorem Inj.onto {n : Nat} {σ : Nat → Nat} (h : Inj n σ) {k : Nat} (hk : k < n) : ∃ i, i < n ∧ σ i = k := by
 have : k ∈ (List.range n).map σ := (h.perm.mem_iff).2 (List.mem_range.2 hk)
 obtain ⟨i, hi, e⟩ := List.mem_map.1 this
 exact ⟨i, List.mem_range.1 hi, e⟩
structure PM (n : Nat) (no : Nat → Nat → Bool) (σ : Nat → Nat) : Prop where
 inj : Inj n σ
 may : ∀ i, i < n → no i (σ i) = false
def cost (n : Nat) (c : Nat → Nat → Int) (σ : Nat → Nat) : Int := sumTo n (fun i => c i (σ i))
structure Fair (n : Nat) (c : Nat → Nat → Int) (no : Nat → Nat → Bool) (u v : Nat → Int) : Prop where
 le : ∀ i k, i < n → k < n → no i k = false → u i + v k ≤ c i k
def IsLeast (n : Nat) (c : Nat → Nat → Int) (no : Nat → Nat → Bool) : Option Int → Prop
 | none => ∀ σ, ¬ PM n no σ
 | some x => (∃ σ, PM n no σ ∧ cost n c σ = x) ∧ ∀ σ, PM n no σ → x ≤ cost n c σ
end Go.Proofs.Ytelabmhhnpfegaa.Hand
namespace Go.Proofs.Ytelabmhhnpfegaa.Hand
structure Tb where
 n : Nat
 c : Nat → Nat → Int
 no : Nat → Nat → Bool
structure TbOk (t : Tb) : Prop where
 n64 : t.n ≤ 64
 mag : ∀ i k, i < t.n → k < t.n → -2147483648 ≤ t.c i k ∧ t.c i k ≤ 2147483648
structure St where
 u : Nat → Int
 v : Nat → Int
 of : Nat → Int
 least : Nat → Int
 far : Nat → Bool
 from_ : Nat → Int
 seen : Nat → Bool
abbrev M : Int := 2147483648
structure Inv (t : Tb) (r : Nat) (u v of : Nat → Int) : Prop where
 range : ∀ k, k < t.n → of k = -1 ∨ ∃ i : Nat, of k = (i : Int) ∧ i < r
 onto : ∀ i, i < r → ∃ k, k < t.n ∧ of k = (i : Int)
 inj : ∀ k k', k < t.n → k' < t.n → of k = of k' → 0 ≤ of k → k = k'
 tight : ∀ k (i : Nat), k < t.n → of k = (i : Int) → t.no i k = false ∧ u i + v k = t.c i k
 fair : ∀ i k, i < r → k < t.n → t.no i k = false → u i + v k ≤ t.c i k
 free : ∀ k, k < t.n → of k = -1 → v k = 0
 vb : ∀ k, k < t.n → -(254 * M) ≤ v k ∧ v k ≤ 254 * M
 rest : ∀ i, r ≤ i → u i = 0
def rowOf (of : Nat → Int) (r : Nat) (b : Int) : Nat := if b < 0 then r else (of b.toNat).toNat
structure Look (t : Tb) (r : Nat) (s : St) (L : List Nat) : Prop where
 rlt : r < t.n
 range : ∀ k, k < t.n → s.of k = -1 ∨ ∃ i : Nat, s.of k = (i : Int) ∧ i < r
 onto : ∀ i, i < r → ∃ k, k < t.n ∧ s.of k = (i : Int)
 inj : ∀ k k', k < t.n → k' < t.n → s.of k = s.of k' → 0 ≤ s.of k → k = k'
 tight : ∀ k (i : Nat), k < t.n → s.of k = (i : Int) → t.no i k = false ∧ s.u i + s.v k = t.c i k
 fair : ∀ i k, i < r → k < t.n → t.no i k = false → s.u i + s.v k ≤ t.c i k
 free : ∀ k, k < t.n → s.of k = -1 → s.v k = 0
 rest : ∀ i, r < i → s.u i = 0
 nodup : L.Nodup
 sees : ∀ k, k < t.n → (s.seen k = true ↔ k ∈ L)
 lin : ∀ k ∈ L, k < t.n ∧ 0 ≤ s.of k
 vb : ∀ k, k < t.n → k ∉ L → -(254 * M) ≤ s.v k ∧ s.v k ≤ 254 * M
 sb : ∀ k ∈ L, -((2 * (L.length : Int) - 1) * M) ≤ s.v k + s.u r ∧ s.v k + s.u r ≤ (2 * (L.length : Int) - 1) * M
 rb : -(400 * M) ≤ s.u r ∧ s.u r ≤ 400 * M
 way : ∀ (l1 : List Nat) (k : Nat) (l2 : List Nat), L = l1 ++ k :: l2 → s.from_ k = -1 ∨ ∃ b ∈ l2, s.from_ k = (b : Int)
 edge : ∀ k ∈ L, t.no (rowOf s.of r (s.from_ k)) k = false ∧ s.u (rowOf s.of r (s.from_ k)) + s.v k = t.c (rowOf s.of r (s.from_ k)) k
def Tree (s : St) (r : Nat) (L : List Nat) (i : Nat) : Prop := i = r ∨ ∃ k ∈ L, s.of k = (i : Int)
structure Spread (t : Tb) (r : Nat) (s : St) (L : List Nat) : Prop extends Look t r s L where
 fbnd : ∀ k, k < t.n → k ∉ L → s.far k = true → s.least k = 0
 fars : ∀ k, k < t.n → k ∉ L → (s.far k = true ↔ ∀ i, Tree s r L i → t.no i k = true)
 comes : ∀ k, k < t.n → k ∉ L → s.far k = false → (s.from_ k = -1 ∨ ∃ b ∈ L, s.from_ k = (b : Int)) ∧ t.no (rowOf s.of r (s.from_ k)) k = false ∧ s.least k = t.c (rowOf s.of r (s.from_ k)) k - s.u (rowOf s.of r (s.from_ k)) - s.v k
 min : ∀ k, k < t.n → k ∉ L → ∀ i, Tree s r L i → t.no i k = false → s.least k ≤ t.c i k - s.u i - s.v k
 lb : ∀ k, k < t.n → k ∉ L → s.far k = false → -((2 * (L.length : Int) + 1) * M) ≤ s.least k + s.v k + s.u r ∧ s.least k + s.v k + s.u r ≤ (2 * (L.length : Int) + 1) * M
 own : L ≠ [] → ∀ k, k < t.n → t.no r k = false → s.u r + s.v k ≤ t.c r k
structure Ahead (t : Tb) (r : Nat) (s : St) (L : List Nat) : Prop extends Look t r s L where
 fbnd : ∀ k, k < t.n → k ∉ L → s.far k = true → s.least k = 0
 fars : ∀ k, k < t.n → k ∉ L → (s.far k = true ↔ ∀ i, L ≠ [] → Tree s r L.tail i → t.no i k = true)
 comes : ∀ k, k < t.n → k ∉ L → s.far k = false → (s.from_ k = -1 ∨ ∃ b ∈ L.tail, s.from_ k = (b : Int)) ∧ t.no (rowOf s.of r (s.from_ k)) k = false ∧ s.least k = t.c (rowOf s.of r (s.from_ k)) k - s.u (rowOf s.of r (s.from_ k)) - s.v k
 min : ∀ k, k < t.n → k ∉ L → ∀ i, L ≠ [] → Tree s r L.tail i → t.no i k = false → s.least k ≤ t.c i k - s.u i - s.v k
 lb : ∀ k, k < t.n → k ∉ L → s.far k = false → -((2 * (L.length : Int) - 1) * M) ≤ s.least k + s.v k + s.u r ∧ s.least k + s.v k + s.u r ≤ (2 * (L.length : Int) - 1) * M
 own : L ≠ [] → ∀ k, k < t.n → t.no r k = false → s.u r + s.v k ≤ t.c r k
theorem Look.len {t : Tb} {r : Nat} {s : St} {L : List Nat} (h : Look t r s L) : L.length ≤ r := by
 have hn : (L.map fun k => (s.of k).toNat).Nodup := by
  have : ∀ l : List Nat, l.Nodup → (∀ k ∈ l, k < t.n ∧ 0 ≤ s.of k) → (l.map fun k => (s.of k).toNat).Nodup := by
   intro l
   induction l with
   | nil => intro _ _; simp
   | cons a l ih =>
    intro hn hl
    rw [List.nodup_cons] at hn
    rw [List.map_cons, List.nodup_cons]
    refine ⟨fun hm => ?_, ih hn.2 (fun k hk => hl k (List.mem_cons_of_mem _ hk))⟩
    obtain ⟨b, hb, e⟩ := List.mem_map.1 hm
    have h1 := hl a List.mem_cons_self
    have h2 := hl b (List.mem_cons_of_mem _ hb)
    have e2 := h.inj a b h1.1 h2.1 (by omega) h1.2
    exact hn.1 (e2 ▸ hb)
  exact this L h.nodup h.lin
 have := pigeon r _ hn (fun x hx => by
  obtain ⟨k, hk, rfl⟩ := List.mem_map.1 hx
  obtain ⟨h1, h2⟩ := h.lin k hk
  rcases h.range k h1 with e | ⟨i, e, hi⟩
  ·rw [e] at h2; omega
  ·rw [e]; simpa using hi)
 simpa using this
end Go.Proofs.Ytelabmhhnpfegaa.Hand
end
section
namespace Go.Proofs.Ytelabmhhnpfegaa.Hand
open Go.RowKit Go.Proofs.YtelabmhhnpfegaaW.PrintWords Go.Proofs.YtelabmhhnpfegaaW.PrintLast Go.Proofs.YtelabmhhnpfegaaW.PrintMore Go.Proofs.Ytelabmhhnpfegaa.PDynCells
def ab (z : Int) : Int := if z < 0 then -z else z
theorem ab_neg {z : Int} (h : z < 0) : ab z = -z := if_pos h
theorem ab_pos {z : Int} (h : ¬ z < 0) : ab z = z := if_neg h
theorem bits_or0 (y : Int) (h0 : 0 ≤ y) (h : y < 18446744073709551616) : Go.bits .or .u64 0 y = y := by
 have := bits_join_low .u64 64 (by decide) wraps_u64 0 0 y (by omega) (by decide) (by decide) h0 (by omega) (by omega)
 omega
theorem size_any (z : Int) (h : -9223372036854775807 ≤ z ∧ z ≤ 9223372036854775807) (w : World) : Calls Try.prog 142 #[.int .i64 z] w fun e w' => e = .returned (.int .u64 (ab z)) ∧ w = w' := by
 by_cases hz : z < 0
 ·have e1 : IntKind.u64.wrap z = z + 18446744073709551616 := by rw [IntKind.wrap_u64]; omega
  have e2 : IntKind.u64.wrap (-(z + 18446744073709551616)) = -z := by rw [IntKind.wrap_u64]; omega
  rw [ab_neg hz]
  have g1 : decide (z < 0) = true := decide_eq_true hz
  go_enter Try.func142, Try.ntmps142
  go_wp2
  go_ret
  exact ⟨rfl, rfl⟩
 ·have e1 : IntKind.u64.wrap z = z := by rw [IntKind.wrap_u64]; omega
  have g1 : decide (z < 0) = false := decide_eq_false hz
  rw [ab_pos hz]
  go_enter Try.func142, Try.ntmps142
  go_wp2
  go_ret
  exact ⟨rfl, rfl⟩
theorem nan_any (x : Int) (w : World) : Calls Try.prog 172 #[.int .u64 x] w fun e w' => e = .returned (.bool false) ∧ w = w' := by
 have h : (x != x) = false := by simp
 go_enter Try.func172, Try.ntmps172
 go_wp2
 go_ret
 exact ⟨rfl, rfl⟩
def cmpU (x y : Int) : Int := if x < y then -1 else if x > y then 1 else 0
set_option maxHeartbeats 1000000 in
theorem cmpu_any (x y : Int) (w : World) : Calls Try.prog 167 #[.int .u64 x, .int .u64 y] w fun e w' => e = .returned (.int .i64 (cmpU x y)) ∧ w = w' := by
 unfold cmpU
 by_cases h1 : x < y
 ·rw [if_pos h1]
  have g1 : decide (x < y) = true := decide_eq_true h1
  go_enter Try.func167, Try.ntmps167
  go_wp2_with (go_at_call 172; refine (nan_any _ _).mono ?_; rintro _ _ ⟨rfl, rfl⟩)
  go_ret
  exact ⟨rfl, rfl⟩
 ·have g1 : decide (x < y) = false := decide_eq_false h1
  by_cases h2 : x > y
  ·rw [if_neg h1, if_pos h2]
   have g2 : decide (y < x) = true := decide_eq_true h2
   go_enter Try.func167, Try.ntmps167
   go_wp2_with (go_at_call 172; refine (nan_any _ _).mono ?_; rintro _ _ ⟨rfl, rfl⟩)
   go_ret
   exact ⟨rfl, rfl⟩
  ·rw [if_neg h1, if_neg h2]
   have g2 : decide (y < x) = false := decide_eq_false h2
   go_enter Try.func167, Try.ntmps167
   go_wp2_with (go_at_call 172; refine (nan_any _ _).mono ?_; rintro _ _ ⟨rfl, rfl⟩)
   go_ret
   exact ⟨rfl, rfl⟩
set_option maxHeartbeats 1000000 in
set_option maxRecDepth 100000 in
theorem or_any (g : Nat) (z : Int) (w : World) (h0 : w.cell? ⟨g, 0, none⟩ = some (.int .i64 0)) (h1 : w.cell? ⟨g, 1, none⟩ = some (.int .i64 z)) : Calls Try.prog 166 #[.slice (some ⟨g, 0, none⟩) 2 2] w fun e w' => e = .returned (.int .i64 z) ∧ Below w.heap.size w w' := by
 have HB : Aside0 (Below w.heap.size w w) := ⟨Below.refl _ _⟩
 go_enter Try.func166, Try.ntmps166
 go_wp2_with fail
 refine wp_loop_rounds 3 ?_
 rw [rounds_succ]
 by_cases hz : z = 0
 ·subst hz
  go_wp2_with fail
  rw [rounds_succ]
  go_wp2_with fail
  rw [rounds_succ]
  go_wp2_with fail
  go_ret
  exact ⟨rfl, HB.out⟩
 ·have g : (z != 0) = true := by rw [bne_iff_ne]; exact hz
  go_wp2_with fail
  rw [rounds_succ]
  go_wp2_with fail
  go_ret
  exact ⟨rfl, HB.out⟩
set_option maxHeartbeats 1000000 in
set_option maxRecDepth 100000 in
theorem dist_any (n n' : Bool) (x y : Int) (w : World) : Calls Try.prog 157 #[.agg #[.bool n, .int .u64 0, .int .u64 x], .agg #[.bool n', .int .u64 0, .int .u64 y]] w fun e w' => e = .returned (.int .i64 (cmpU x y)) ∧ Below w.heap.size w w' := by
 have hu := Try.underlying179
 go_enter Try.func157, Try.ntmps157
 go_upto_region 1 with fail
 obtain ⟨W1, hW1⟩ : ∃ W, W = (w.alloc (.cells #[.bool n, .int .u64 0, .int .u64 x] 179)).alloc (.cells #[.bool n', .int .u64 0, .int .u64 y] 179) := ⟨_, rfl⟩
 rw [← hW1]
 have B1 : Aside0 (Below w.heap.size w W1) := ⟨by rw [hW1]; exact below_alloc (below_alloc (Below.refl _ _) _) _⟩
 obtain ⟨p1, hp1⟩ : ∃ p, p = w.heap.size := ⟨_, rfl⟩
 have Q1 : W1.heap[p1]? = some (.cells #[.bool n, .int .u64 0, .int .u64 x] 179 (0, 0)) := by rw [hW1, hp1]; simp only [al_get, al_size]; rw [if_neg (by omega), if_pos trivial]
 have Q2 : W1.heap[p1 + 1]? = some (.cells #[.bool n', .int .u64 0, .int .u64 y] 179 (0, 0)) := by rw [hW1, hp1]; simp only [al_get, al_size]; rw [if_pos trivial]
 rw [← hp1]
 clear hW1 hp1
 have z0 : W1.drew.cell? ⟨p1, 1, none⟩ = some (.int .u64 0) := (blk_cell Q1 1).trans rfl
 have z1 : W1.drew.cell? ⟨p1, 2, none⟩ = some (.int .u64 x) := (blk_cell Q1 2).trans rfl
 have z2 : W1.drew.cell? ⟨p1 + 1, 1, none⟩ = some (.int .u64 0) := (blk_cell Q2 1).trans rfl
 have z3 : W1.drew.cell? ⟨p1 + 1, 2, none⟩ = some (.int .u64 y) := (blk_cell Q2 2).trans rfl
 clear Q1 Q2
 have Z := Aside0.mk (And.intro z0 (And.intro z1 (And.intro z2 z3)))
 refine start_ (n := 13) (S := fun w' => w'.cell? ⟨p1, 1, none⟩ = some (.int .u64 0) ∧ w'.cell? ⟨p1, 2, none⟩ = some (.int .u64 x) ∧ w'.cell? ⟨p1 + 1, 1, none⟩ = some (.int .u64 0) ∧ w'.cell? ⟨p1 + 1, 2, none⟩ = some (.int .u64 y)) (ds := []) #[false, false, false, false, false, false, false, false, false, false, false, false, false] (by kernel_rfl) rfl rfl ⟨z0, z1, z2, z3⟩ (fun hHeld => ?_)
 clear z0 z1 z2 z3
 refine puU 0 (some 5) ?_ rfl rfl (by kernel_rfl) (fun _ _ _ h => h) (Or.inl ⟨by rfl, ?_⟩) ?_ ?_ ?_
 rotate_left
 ·intro w'
  go_simp
  with_reducible rfl
 rotate_left
 ·simp only [Act.put, lsA, lsB, lsC]
  rfl
 refine taU 1 (some 6) ?_ rfl rfl (by kernel_rfl) (fun _ _ _ h => h) (Or.inl ⟨by rfl, ?_⟩) hHeld ?_ ?_ ?_
 rotate_left
 ·rintro w' ⟨s0, s1, s2, s3⟩
  go_simp
  with_reducible rfl
 rotate_left
 ·simp only [Act.put, lsA, lsB, lsC]
  rfl
 refine puU 2 (some 7) ?_ rfl rfl (by kernel_rfl) (fun _ _ _ h => h) (Or.inl ⟨by rfl, ?_⟩) ?_ ?_ ?_
 rotate_left
 ·intro w'
  go_simp
  with_reducible rfl
 rotate_left
 ·simp only [Act.put, lsA, lsB, lsC]
  rfl
 refine taU 3 (some 8) ?_ rfl rfl (by kernel_rfl) (fun _ _ _ h => h) (Or.inl ⟨by rfl, ?_⟩) hHeld ?_ ?_ ?_
 rotate_left
 ·rintro w' ⟨s0, s1, s2, s3⟩
  go_simp
  with_reducible rfl
 rotate_left
 ·simp only [Act.put, lsA, lsB, lsC]
  rfl
 refine puU 5 (some 10) ?_ rfl rfl (by kernel_rfl) (fun _ _ _ h => h) (Or.inl ⟨by rfl, ?_⟩) ?_ ?_ ?_
 rotate_left
 ·intro w'
  go_simp
  with_reducible rfl
 rotate_left
 ·simp only [Act.put, lsA, lsB, lsC]
  rfl
 refine taU 6 (some 11) ?_ rfl rfl (by kernel_rfl) (fun _ _ _ h => h) (Or.inl ⟨by rfl, ?_⟩) hHeld ?_ ?_ ?_
 rotate_left
 ·rintro w' ⟨s0, s1, s2, s3⟩
  go_simp
  with_reducible rfl
 rotate_left
 ·simp only [Act.put, lsA, lsB, lsC]
  rfl
 refine puU 7 (some 12) ?_ rfl rfl (by kernel_rfl) (fun _ _ _ h => h) (Or.inl ⟨by rfl, ?_⟩) ?_ ?_ ?_
 rotate_left
 ·intro w'
  go_simp
  with_reducible rfl
 rotate_left
 ·simp only [Act.put, lsA, lsB, lsC]
  rfl
 refine taU 8 (some 13) ?_ rfl rfl (by kernel_rfl) (fun _ _ _ h => h) (Or.inl ⟨by rfl, ?_⟩) hHeld ?_ ?_ ?_
 rotate_left
 ·rintro w' ⟨s0, s1, s2, s3⟩
  go_simp
  with_reducible rfl
 rotate_left
 ·simp only [Act.put, lsA, lsB, lsC]
  rfl
 refine one_ (i := 4) (N := some 9) #[true, true, true, true, true, true, true, true, true, false, false, false, false] rfl rfl (by kernel_rfl) (by decide) (fun K hK => ?_)
 refine goes_ Try.func167 (by kernel_rfl) rfl #[.int .u64 0, .int .u64 0] (by rfl) rfl rfl (by (try simp only [List.map_toArray, List.map_cons, List.map_nil]); first | done | rfl) ?_
 refine (cmpu_any 0 0 W1.drew).mono ?_
 rintro _ _ ⟨rfl, rfl⟩
 refine ⟨_, rfl, ?_⟩
 refine hK.out _ _ Z.out (fun _ => ?_)
 clear hK K
 refine norm_ (a' := ?_) ?_ ?_
 rotate_left
 ·show Act.put _ (some 9) _ = _
  simp only [Act.put, lsA, lsB, lsC]
  rfl
 refine one_ (i := 9) (N := some 14) #[true, true, true, true, true, true, true, true, true, true, false, false, false] rfl rfl (by kernel_rfl) (by decide) (fun K hK => ?_)
 refine goes_ Try.func167 (by kernel_rfl) rfl #[.int .u64 x, .int .u64 y] (by rfl) rfl rfl (by (try simp only [List.map_toArray, List.map_cons, List.map_nil]); first | done | rfl) ?_
 refine (cmpu_any x y W1.drew).mono ?_
 rintro _ _ ⟨rfl, rfl⟩
 refine ⟨_, rfl, ?_⟩
 refine hK.out _ _ Z.out (fun _ => ?_)
 clear hK K
 refine norm_ (a' := ?_) ?_ ?_
 rotate_left
 ·show Act.put _ (some 14) _ = _
  simp only [Act.put, lsA, lsB, lsC]
  rfl
 refine one_ (i := 10) (N := some 15) #[true, true, true, true, true, true, true, true, true, true, true, false, false] rfl rfl (by kernel_rfl) (by decide) (fun K hK => ?_)
 refine value_ (v := .slice (some ⟨W1.heap.size, 0, none⟩) 2 2) (w1 := (W1.alloc (.cells #[.int .i64 0, .int .i64 (cmpU x y)] 3)).drew) (by rfl) rfl ?_ ?_
 ·go_simp
  rfl
 have BA : Aside0 (Below W1.drew.heap.size W1.drew ((W1.alloc (.cells #[.int .i64 0, .int .i64 (cmpU x y)] 3)).drew)) := ⟨⟨rfl, rfl, rfl, (below_alloc (Below.refl _ W1) _).size, fun k hk => (below_alloc (Below.refl _ W1) _).block k hk⟩⟩
 have QA : Aside0 (((W1.alloc (.cells #[.int .i64 0, .int .i64 (cmpU x y)] 3)).drew).heap[W1.heap.size]? = some (.cells #[.int .i64 0, .int .i64 (cmpU x y)] 3 (0, 0))) := ⟨heap_alloc_new W1 _⟩
 refine hK.out _ _ ⟨pw_cell_below BA.out Z.out.1, pw_cell_below BA.out Z.out.2.1, pw_cell_below BA.out Z.out.2.2.1, pw_cell_below BA.out Z.out.2.2.2⟩ (fun _ => ?_)
 clear hK K
 refine norm_ (a' := ?_) ?_ ?_
 rotate_left
 ·show Act.put _ (some 15) _ = _
  simp only [Act.put, lsA, lsB, lsC]
  rfl
 refine one_ (i := 11) (N := some 16) #[true, true, true, true, true, true, true, true, true, true, true, true, false] rfl rfl (by kernel_rfl) (by decide) (fun K hK => ?_)
 refine goes_ Try.func166 (by kernel_rfl) rfl #[.slice (some ⟨W1.heap.size, 0, none⟩) 2 2] (by rfl) rfl rfl (by (try simp only [List.map_toArray, List.map_cons, List.map_nil]); first | done | rfl) ?_
 refine (or_any W1.heap.size (cmpU x y) _ ((blk_cell QA.out 0).trans rfl) ((blk_cell QA.out 1).trans rfl)).mono ?_
 rintro _ w3 ⟨rfl, hb3⟩
 have BC := Aside0.mk hb3
 refine ⟨_, rfl, ?_⟩
 refine hK.out _ _ ⟨pw_cell_below hb3 (pw_cell_below BA.out Z.out.1), pw_cell_below hb3 (pw_cell_below BA.out Z.out.2.1), pw_cell_below hb3 (pw_cell_below BA.out Z.out.2.2.1), pw_cell_below hb3 (pw_cell_below BA.out Z.out.2.2.2)⟩ (fun _ => ?_)
 clear hK K hb3
 refine norm_ (a' := ?_) ?_ ?_
 rotate_left
 ·show Act.put _ (some 16) _ = _
  simp only [Act.put, lsA, lsB, lsC]
  rfl
 refine puU 12 (some 4) ?_ rfl rfl (by kernel_rfl) (fun _ _ _ h => h) (Or.inl ⟨by rfl, ?_⟩) ?_ ?_ ?_
 rotate_left
 ·intro w'
  go_simp
  with_reducible rfl
 rotate_left
 ·simp only [Act.put, lsA, lsB, lsC]
  rfl
 refine done_ (by kernel_rfl) ?_
 go_wp2_with fail
 go_ret
 exact ⟨rfl, B1.out.trans ((below_drew (Below.refl _ W1)).trans ((BA.out.trans (BC.out.mono BA.out.size))) |>.mono B1.out.size)⟩
set_option maxHeartbeats 1000000 in
set_option maxRecDepth 100000 in
theorem normal_any (n : Bool) (x : Int) (h0 : 0 ≤ x) (h : x < 18446744073709551616) (w : World) : Calls Try.prog 160 #[.agg #[.bool n, .int .u64 0, .int .u64 x]] w fun e w' => e = .returned (.agg #[.bool (n && decide (x ≠ 0)), .int .u64 0, .int .u64 x]) ∧ Below w.heap.size w w' := by
 have hu := Try.underlying179
 have ho := bits_or0 x h0 h
 have hd : (x != 0) = decide (x ≠ 0) := by by_cases e : x = 0 <;> simp [e]
 cases n with
 | false =>
  clear ho hd
  go_enter Try.func160, Try.ntmps160
  go_wp2_with fail
  refine bodyPost_ret (v := .agg #[.bool false, .int .u64 0, .int .u64 x]) (by simp [results, Try.results160, go_sem]) rfl ?_
  exact ⟨rfl, below_alloc (below_alloc (Below.refl _ _) _) _⟩
 | true =>
  obtain ⟨b, hb⟩ : ∃ b, b = decide (x ≠ 0) := ⟨_, rfl⟩
  rw [← hb] at hd ⊢
  clear hb
  go_enter Try.func160, Try.ntmps160
  go_wp2_with fail
  refine bodyPost_ret (v := .agg #[.bool b, .int .u64 0, .int .u64 x]) (by simp [results, Try.results160, go_sem]) rfl ?_
  exact ⟨rfl, below_alloc (below_alloc (Below.refl _ _) _) _⟩
set_option maxHeartbeats 1000000 in
set_option maxRecDepth 100000 in
theorem nshort_any (z : Int) (h : -9223372036854775807 ≤ z ∧ z ≤ 9223372036854775807) (w : World) : Calls Try.prog 119 #[.agg #[.bool (decide (z < 0)), .int .u64 0, .int .u64 (ab z)]] w fun e w' => e = .returned (.tuple #[.int .i64 z, .bool true]) ∧ Below w.heap.size w w' := by
 have hu := Try.underlying179
 by_cases hz : z < 0
 ·rw [decide_eq_true hz, ab_neg hz]
  have e1 : IntKind.u64.wrap z = z + 18446744073709551616 := by rw [IntKind.wrap_u64]; omega
  have e2 : wrap64 (z + 18446744073709551616) = z := by unfold wrap64; omega
  have g2 : decide (9223372036854775808 < -z) = false := decide_eq_false (by omega)
  go_enter Try.func119, Try.ntmps119
  go_wp2_with fail
  go_ret2
  exact ⟨by rw [e2]; rfl, below_alloc (Below.refl _ _) _⟩
 ·rw [decide_eq_false hz, ab_pos hz]
  have e2 : wrap64 z = z := by unfold wrap64; omega
  have g2 : decide (9223372036854775807 < z) = false := decide_eq_false (by omega)
  go_enter Try.func119, Try.ntmps119
  go_wp2_with fail
  go_ret2
  exact ⟨rfl, below_alloc (Below.refl _ _) _⟩
end Go.Proofs.Ytelabmhhnpfegaa.Hand
namespace Go.Proofs.Ytelabmhhnpfegaa.Hand
open Go.RowKit Go.Proofs.YtelabmhhnpfegaaW.PrintWords Go.Proofs.YtelabmhhnpfegaaW.PrintLast Go.Proofs.YtelabmhhnpfegaaW.PrintMore Go.Proofs.Ytelabmhhnpfegaa.PDynCells
end Go.Proofs.Ytelabmhhnpfegaa.Hand
end
