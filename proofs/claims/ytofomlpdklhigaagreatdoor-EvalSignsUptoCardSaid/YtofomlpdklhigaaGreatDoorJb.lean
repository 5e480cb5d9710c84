/- The least match of a table in plain Lean, part 1: sums over what is taken once, prices show a match. No condition. -/
import Derived.WalkKit
import Derived.Test.YtofomlpdklhigaaGreatDoorBs
namespace Go.Proofs.YtofomlpdklhigaaGreatDoor.Hand
/-! Sums. -/
def sumTo (n : Nat) (f : Nat → Int) : Int := ((List.range n).map f).sum
theorem sumTo_zero (f : Nat → Int) : sumTo 0 f = 0 := rfl
theorem sumTo_succ (n : Nat) (f : Nat → Int) : sumTo (n + 1) f = sumTo n f + f n := by
  unfold sumTo
  rw [List.range_succ, List.map_append, List.sum_append]
  simp
theorem sumTo_add (n : Nat) (f g : Nat → Int) : sumTo n (fun i => f i + g i) = sumTo n f + sumTo n g := by
  induction n with
  | zero => rfl
  | succ n ih => rw [sumTo_succ, sumTo_succ, sumTo_succ, ih]; omega
theorem sumTo_congr {n : Nat} {f g : Nat → Int} (h : ∀ i, i < n → f i = g i) : sumTo n f = sumTo n g := by
  induction n with
  | zero => rfl
  | succ n ih => rw [sumTo_succ, sumTo_succ, ih (fun i hi => h i (by omega)), h n (by omega)]
theorem sumTo_le {n : Nat} {f g : Nat → Int} (h : ∀ i, i < n → f i ≤ g i) : sumTo n f ≤ sumTo n g := by
  induction n with
  | zero => exact Int.le_refl _
  | succ n ih =>
    rw [sumTo_succ, sumTo_succ]
    have := ih (fun i hi => h i (by omega))
    have := h n (by omega)
    omega
theorem sumTo_abs {n : Nat} {f : Nat → Int} {B : Int} (h : ∀ i, i < n → -B ≤ f i ∧ f i ≤ B) : -(n * B) ≤ sumTo n f ∧ sumTo n f ≤ n * B := by
  induction n with
  | zero => simp [sumTo]
  | succ n ih =>
    have h1 := ih (fun i hi => h i (by omega))
    have h2 := h n (by omega)
    rw [sumTo_succ]
    have e : ((n + 1 : Nat) : Int) * B = n * B + B := by rw [Int.natCast_add, Int.add_mul]; simp
    rw [e]
    omega
theorem perm_sum {l m : List Int} (h : l.Perm m) : l.sum = m.sum := by
  induction h with
  | nil => rfl
  | cons x _ ih => simp [ih]
  | swap x y l => simp only [List.sum_cons]; omega
  | trans _ _ ih1 ih2 => rw [ih1, ih2]
/-! What is taken once. -/
theorem pigeon (n : Nat) : ∀ l : List Nat, l.Nodup → (∀ x ∈ l, x < n) → l.length ≤ n := by
  induction n with
  | zero =>
    intro l _ h
    cases l with
    | nil => simp
    | cons x l => exact absurd (h x List.mem_cons_self) (Nat.not_lt_zero _)
  | succ n ih =>
    intro l hn h
    by_cases hm : n ∈ l
    · have h1 := ih (l.erase n) (hn.erase n) (fun x hx => by
        have h2 := h x (List.mem_of_mem_erase hx)
        have h3 : x ≠ n := fun e => by
          subst e
          exact (hn.not_mem_erase) hx
        omega)
      rw [List.length_erase_of_mem hm] at h1
      omega
    · have := ih l hn (fun x hx => by
        have h2 := h x hx
        have h3 : x ≠ n := fun e => hm (e ▸ hx)
        omega)
      omega
theorem perm_range (n : Nat) : ∀ l : List Nat, l.Nodup → (∀ x ∈ l, x < n) → l.length = n → l.Perm (List.range n) := by
  induction n with
  | zero =>
    intro l _ _ h
    obtain rfl := List.eq_nil_of_length_eq_zero h
    exact .nil
  | succ n ih =>
    intro l hn h hl
    have hm : n ∈ l := by
      refine Classical.byContradiction fun hm => ?_
      have := pigeon n l hn (fun x hx => by
        have h2 := h x hx
        have h3 : x ≠ n := fun e => hm (e ▸ hx)
        omega)
      omega
    have h1 := ih (l.erase n) (hn.erase n) (fun x hx => by
      have h2 := h x (List.mem_of_mem_erase hx)
      have h3 : x ≠ n := fun e => by
        subst e
        exact (hn.not_mem_erase) hx
      omega) (by rw [List.length_erase_of_mem hm]; omega)
    rw [List.range_succ]
    exact (List.perm_cons_erase hm).trans ((h1.cons n).trans (List.perm_append_comm (l₁ := [n])))
structure Inj (n : Nat) (σ : Nat → Nat) : Prop where
  lt : ∀ i, i < n → σ i < n
  inj : ∀ i j, i < n → j < n → σ i = σ j → i = j
theorem nodup_map {n : Nat} {σ : Nat → Nat} (h : ∀ i j, i < n → j < n → σ i = σ j → i = j) : ((List.range n).map σ).Nodup := by
  induction n with
  | zero => simp
  | succ n ih =>
    rw [List.range_succ, List.map_append, List.nodup_append]
    refine ⟨ih (fun i j hi hj => h i j (by omega) (by omega)), by simp, fun a ha b hb => ?_⟩
    obtain ⟨i, hi, rfl⟩ := List.mem_map.1 ha
    simp at hb
    subst hb
    intro e
    have := h i n (by have := List.mem_range.1 hi; omega) (by omega) e
    have := List.mem_range.1 hi
    omega
theorem Inj.perm {n : Nat} {σ : Nat → Nat} (h : Inj n σ) : ((List.range n).map σ).Perm (List.range n) :=
  perm_range n _ (nodup_map h.inj) (fun x hx => by
    obtain ⟨i, hi, rfl⟩ := List.mem_map.1 hx
    exact h.lt i (List.mem_range.1 hi)) (by simp)
theorem Inj.sum {n : Nat} {σ : Nat → Nat} (h : Inj n σ) (f : Nat → Int) : sumTo n (fun i => f (σ i)) = sumTo n f := by
  have := perm_sum (h.perm.map f)
  rw [List.map_map] at this
  exact this
theorem Inj.onto {n : Nat} {σ : Nat → Nat} (h : Inj n σ) {k : Nat} (hk : k < n) : ∃ i, i < n ∧ σ i = k := by
  have : k ∈ (List.range n).map σ := (h.perm.mem_iff).2 (List.mem_range.2 hk)
  obtain ⟨i, hi, e⟩ := List.mem_map.1 this
  exact ⟨i, List.mem_range.1 hi, e⟩
/-! Matches. -/
structure PM (n : Nat) (no : Nat → Nat → Bool) (σ : Nat → Nat) : Prop where
  inj : Inj n σ
  may : ∀ i, i < n → no i (σ i) = false
def cost (n : Nat) (c : Nat → Nat → Int) (σ : Nat → Nat) : Int := sumTo n (fun i => c i (σ i))
structure Fair (n : Nat) (c : Nat → Nat → Int) (no : Nat → Nat → Bool) (u v : Nat → Int) : Prop where
  le : ∀ i k, i < n → k < n → no i k = false → u i + v k ≤ c i k
theorem dual_le {n : Nat} {c : Nat → Nat → Int} {no : Nat → Nat → Bool} {u v : Nat → Int} {σ : Nat → Nat} (hf : Fair n c no u v) (h : PM n no σ) : sumTo n u + sumTo n v ≤ cost n c σ := by
  rw [← h.inj.sum v, ← sumTo_add]
  exact sumTo_le (fun i hi => hf.le i (σ i) hi (h.inj.lt i hi) (h.may i hi))
/-- What the least match comes to; none: there is no match. -/
def IsLeast (n : Nat) (c : Nat → Nat → Int) (no : Nat → Nat → Bool) : Option Int → Prop
  | none => ∀ σ, ¬ PM n no σ
  | some x => (∃ σ, PM n no σ ∧ cost n c σ = x) ∧ ∀ σ, PM n no σ → x ≤ cost n c σ
theorem IsLeast.uniq {n : Nat} {c : Nat → Nat → Int} {no : Nat → Nat → Bool} {a b : Option Int} (ha : IsLeast n c no a) (hb : IsLeast n c no b) : a = b := by
  cases a with
  | none =>
    cases b with
    | none => rfl
    | some y => exact absurd hb.1.choose_spec.1 (ha _)
  | some x =>
    cases b with
    | none => exact absurd ha.1.choose_spec.1 (hb _)
    | some y =>
      obtain ⟨⟨σ, h1, h2⟩, h3⟩ := ha
      obtain ⟨⟨τ, k1, k2⟩, k3⟩ := hb
      have := h3 τ k1
      have := k3 σ h1
      congr 1
      omega
/-- A table turned round: the match the other way. -/
theorem PM.turn {n : Nat} {no : Nat → Nat → Bool} {σ : Nat → Nat} (h : PM n no σ) : ∃ τ, PM n (fun i k => no k i) τ ∧ ∀ c : Nat → Nat → Int, cost n (fun i k => c k i) τ = cost n c σ := by
  have hex : ∀ k, ∃ i, k < n → (i < n ∧ σ i = k) := fun k => by
    by_cases hk : k < n
    · obtain ⟨i, hi⟩ := h.inj.onto hk
      exact ⟨i, fun _ => hi⟩
    · exact ⟨0, fun h => absurd h hk⟩
  have hτ : ∀ k, k < n → (hex k).choose < n ∧ σ (hex k).choose = k := fun k hk => (hex k).choose_spec hk
  generalize hg : (fun k => (hex k).choose) = τ
  have hτ' : ∀ k, k < n → τ k < n ∧ σ (τ k) = k := fun k hk => by rw [← hg]; exact hτ k hk
  have hinj : Inj n τ := ⟨fun k hk => (hτ' k hk).1, fun i j hi hj e => by
    have h1 := (hτ' i hi).2
    have h2 := (hτ' j hj).2
    rw [e, h2] at h1
    exact h1.symm⟩
  refine ⟨τ, ⟨hinj, fun k hk => ?_⟩, fun c => ?_⟩
  · have := h.may (τ k) (hτ' k hk).1
    rw [(hτ' k hk).2] at this
    exact this
  · unfold cost
    have h1 : sumTo n (fun k => c (τ k) k) = sumTo n (fun k => (fun i => c i (σ i)) (τ k)) := sumTo_congr (fun k hk => by show c (τ k) k = c (τ k) (σ (τ k)); rw [(hτ' k hk).2])
    rw [h1]
    exact hinj.sum (fun i => c i (σ i))
theorem IsLeast.turn {n : Nat} {c : Nat → Nat → Int} {no : Nat → Nat → Bool} {a : Option Int} (h : IsLeast n c no a) : IsLeast n (fun i k => c k i) (fun i k => no k i) a := by
  cases a with
  | none =>
    intro σ hσ
    obtain ⟨τ, hτ, _⟩ := hσ.turn
    exact h τ hτ
  | some x =>
    obtain ⟨⟨σ, h1, h2⟩, h3⟩ := h
    obtain ⟨τ, k1, k2⟩ := h1.turn
    refine ⟨⟨τ, k1, by rw [k2 c, h2]⟩, fun ρ hρ => ?_⟩
    obtain ⟨π, p1, p2⟩ := hρ.turn
    have := h3 π p1
    rw [← p2 (fun i k => c k i)]
    exact this
/-- So much more in the first row and in the last column. -/
theorem sum_at (n : Nat) (a : Int) (j : Nat) (hj : j < n) : sumTo n (fun i => if i = j then a else 0) = a := by
  induction n with
  | zero => omega
  | succ n ih =>
    rw [sumTo_succ]
    by_cases h : j = n
    · subst h
      have : sumTo j (fun i => if i = j then a else 0) = sumTo j (fun _ => 0) := sumTo_congr (fun i hi => if_neg (by omega))
      rw [this, if_pos rfl]
      have h0 : ∀ m, sumTo m (fun _ => (0 : Int)) = 0 := fun m => by
        induction m with
        | zero => rfl
        | succ m ih => rw [sumTo_succ, ih]; rfl
      rw [h0]
      omega
    · rw [ih (by omega), if_neg (fun e => h e.symm)]
      omega
theorem cost_moved {n : Nat} {c : Nat → Nat → Int} {no : Nat → Nat → Bool} {σ : Nat → Nat} (h : PM n no σ) (a b : Int) (j : Nat) (hj : j < n) (hn : 0 < n) :
    cost n (fun i k => c i k + (if i = 0 then a else 0) + (if k = j then b else 0)) σ = cost n c σ + a + b := by
  unfold cost
  rw [sumTo_add, sumTo_add, sum_at n a 0 hn, h.inj.sum (fun k => if k = j then b else 0), sum_at n b j hj]
theorem IsLeast.moved {n : Nat} {c : Nat → Nat → Int} {no : Nat → Nat → Bool} {x : Option Int} (h : IsLeast n c no x) (a b : Int) (j : Nat) (hj : j < n) (hn : 0 < n) :
    IsLeast n (fun i k => c i k + (if i = 0 then a else 0) + (if k = j then b else 0)) no (x.map (· + a + b)) := by
  cases x with
  | none => exact h
  | some y =>
    obtain ⟨⟨σ, h1, h2⟩, h3⟩ := h
    refine ⟨⟨σ, h1, by rw [cost_moved h1 a b j hj hn, h2]⟩, fun τ hτ => ?_⟩
    rw [cost_moved hτ a b j hj hn]
    have := h3 τ hτ
    show y + a + b ≤ _
    omega
end Go.Proofs.YtofomlpdklhigaaGreatDoor.Hand
/- The least match of a table in plain Lean, part 2: what the search does, step by step. No condition. -/
namespace Go.Proofs.YtofomlpdklhigaaGreatDoor.Hand
/-- A table of so many rows, its numbers and the places that mayn't be taken. -/
structure Tb where
  n : Nat
  c : Nat → Nat → Int
  no : Nat → Nat → Bool
structure TbOk (t : Tb) : Prop where
  n64 : t.n ≤ 64
  mag : ∀ i k, i < t.n → k < t.n → -2147483648 ≤ t.c i k ∧ t.c i k ≤ 2147483648
/-- What is kept while one looks. -/
structure St where
  u : Nat → Int
  v : Nat → Int
  of : Nat → Int
  least : Nat → Int
  far : Nat → Bool
  from_ : Nat → Int
  seen : Nat → Bool
def spreadC (t : Tb) (s : St) (row k : Nat) : Bool := !s.seen k && !t.no row k && (s.far k || decide (t.c row k - s.u row - s.v k < s.least k))
def spreadL (t : Tb) (s : St) (row : Nat) (m : Nat) : Nat → Int := fun k => if k < m ∧ spreadC t s row k = true then t.c row k - s.u row - s.v k else s.least k
def spreadF (t : Tb) (s : St) (row : Nat) (m : Nat) : Nat → Bool := fun k => if k < m ∧ spreadC t s row k = true then false else s.far k
def spreadB (t : Tb) (s : St) (row : Nat) (by_ : Int) (m : Nat) : Nat → Int := fun k => if k < m ∧ spreadC t s row k = true then by_ else s.from_ k
def spread (t : Tb) (s : St) (row : Nat) (by_ : Int) : St := { s with least := spreadL t s row t.n, far := spreadF t s row t.n, from_ := spreadB t s row by_ t.n }
def nearC (s : St) (b : Int) (k : Nat) : Bool := !s.seen k && !s.far k && (decide (b < 0) || decide (s.least k < s.least b.toNat))
def near (s : St) : Nat → Int
  | 0 => -1
  | k + 1 => if nearC s (near s k) k = true then (k : Int) else near s k
def shiftU (s : St) (first : Nat) (d : Int) : Nat → (Nat → Int)
  | 0 => upd s.u first (s.u first + d)
  | k + 1 => if s.seen k = true then upd (shiftU s first d k) (s.of k).toNat (shiftU s first d k (s.of k).toNat + d) else shiftU s first d k
def shiftV (s : St) (d : Int) (m : Nat) : Nat → Int := fun k => if k < m ∧ s.seen k = true then s.v k - d else s.v k
def shiftL (s : St) (d : Int) (m : Nat) : Nat → Int := fun k => if k < m ∧ s.seen k = false ∧ s.far k = false then s.least k - d else s.least k
def shift (n : Nat) (s : St) (first : Nat) (d : Int) : St := { s with u := shiftU s first d n, v := shiftV s d n, least := shiftL s d n }
def turnF (first : Nat) : List Nat → (Nat → Int) → (Nat → Int)
  | [], o => o
  | [k], o => upd o k (first : Int)
  | k :: k' :: l, o => turnF first (k' :: l) (upd o k (o k'))
/-- The way back from a column. -/
def Way (s : St) : List Nat → Prop
  | [] => True
  | [k] => s.from_ k = -1
  | k :: k' :: l => s.from_ k = (k' : Int) ∧ Way s (k' :: l)
def noneSeen (u v of : Nat → Int) : St := ⟨u, v, of, fun _ => 0, fun _ => true, fun _ => -1, fun _ => false⟩

/-! Between two rows. M is the greatest number. -/
abbrev M : Int := 2147483648
structure Inv (t : Tb) (r : Nat) (u v of : Nat → Int) : Prop where
  range : ∀ k, k < t.n → of k = -1 ∨ ∃ i : Nat, of k = (i : Int) ∧ i < r
  onto : ∀ i, i < r → ∃ k, k < t.n ∧ of k = (i : Int)
  inj : ∀ k k', k < t.n → k' < t.n → of k = of k' → 0 ≤ of k → k = k'
  tight : ∀ k (i : Nat), k < t.n → of k = (i : Int) → t.no i k = false ∧ u i + v k = t.c i k
  fair : ∀ i k, i < r → k < t.n → t.no i k = false → u i + v k ≤ t.c i k
  free : ∀ k, k < t.n → of k = -1 → v k = 0
  vb : ∀ k, k < t.n → -(254 * M) ≤ v k ∧ v k ≤ 254 * M
  rest : ∀ i, r ≤ i → u i = 0
theorem Inv.ub {t : Tb} (ht : TbOk t) {r : Nat} {u v of : Nat → Int} (h : Inv t r u v of) (hr : r ≤ t.n) : ∀ i, i < r → -(255 * M) ≤ u i ∧ u i ≤ 255 * M := fun i hi => by
  obtain ⟨k, hk, e⟩ := h.onto i hi
  have h1 := (h.tight k i hk e).2
  have h2 := h.vb k hk
  have h3 := ht.mag i k (by omega) hk
  unfold M at *
  omega
theorem inv_start (t : Tb) : Inv t 0 (fun _ => 0) (fun _ => 0) (fun _ => -1) :=
  ⟨fun _ _ => .inl rfl, fun i h => absurd h (Nat.not_lt_zero _), fun _ _ _ _ _ h => by simp at h, fun _ i _ h => by omega, fun i _ h => absurd h (Nat.not_lt_zero _), fun _ _ _ => rfl, fun _ _ => by unfold M; omega, fun _ _ => rfl⟩

/-! Within one look: L are the columns that were seen, the last one first. -/
/-- The row by which a column was come to. -/
def rowOf (of : Nat → Int) (r : Nat) (b : Int) : Nat := if b < 0 then r else (of b.toNat).toNat
structure Look (t : Tb) (r : Nat) (s : St) (L : List Nat) : Prop where
  rlt : r < t.n
  range : ∀ k, k < t.n → s.of k = -1 ∨ ∃ i : Nat, s.of k = (i : Int) ∧ i < r
  onto : ∀ i, i < r → ∃ k, k < t.n ∧ s.of k = (i : Int)
  inj : ∀ k k', k < t.n → k' < t.n → s.of k = s.of k' → 0 ≤ s.of k → k = k'
  tight : ∀ k (i : Nat), k < t.n → s.of k = (i : Int) → t.no i k = false ∧ s.u i + s.v k = t.c i k
  fair : ∀ i k, i < r → k < t.n → t.no i k = false → s.u i + s.v k ≤ t.c i k
  free : ∀ k, k < t.n → s.of k = -1 → s.v k = 0
  rest : ∀ i, r < i → s.u i = 0
  nodup : L.Nodup
  sees : ∀ k, k < t.n → (s.seen k = true ↔ k ∈ L)
  lin : ∀ k ∈ L, k < t.n ∧ 0 ≤ s.of k
  vb : ∀ k, k < t.n → k ∉ L → -(254 * M) ≤ s.v k ∧ s.v k ≤ 254 * M
  sb : ∀ k ∈ L, -((2 * (L.length : Int) - 1) * M) ≤ s.v k + s.u r ∧ s.v k + s.u r ≤ (2 * (L.length : Int) - 1) * M
  rb : -(400 * M) ≤ s.u r ∧ s.u r ≤ 400 * M
  way : ∀ (l1 : List Nat) (k : Nat) (l2 : List Nat), L = l1 ++ k :: l2 → s.from_ k = -1 ∨ ∃ b ∈ l2, s.from_ k = (b : Int)
  edge : ∀ k ∈ L, t.no (rowOf s.of r (s.from_ k)) k = false ∧ s.u (rowOf s.of r (s.from_ k)) + s.v k = t.c (rowOf s.of r (s.from_ k)) k
/-- The rows from which was spread: r, and those of the columns of L. -/
def Tree (s : St) (r : Nat) (L : List Nat) (i : Nat) : Prop := i = r ∨ ∃ k ∈ L, s.of k = (i : Int)
/-- Behind a spread from all of the tree. -/
structure Spread (t : Tb) (r : Nat) (s : St) (L : List Nat) : Prop extends Look t r s L where
  fbnd : ∀ k, k < t.n → k ∉ L → s.far k = true → s.least k = 0
  fars : ∀ k, k < t.n → k ∉ L → (s.far k = true ↔ ∀ i, Tree s r L i → t.no i k = true)
  comes : ∀ k, k < t.n → k ∉ L → s.far k = false → (s.from_ k = -1 ∨ ∃ b ∈ L, s.from_ k = (b : Int)) ∧ t.no (rowOf s.of r (s.from_ k)) k = false ∧ s.least k = t.c (rowOf s.of r (s.from_ k)) k - s.u (rowOf s.of r (s.from_ k)) - s.v k
  min : ∀ k, k < t.n → k ∉ L → ∀ i, Tree s r L i → t.no i k = false → s.least k ≤ t.c i k - s.u i - s.v k
  lb : ∀ k, k < t.n → k ∉ L → s.far k = false → -((2 * (L.length : Int) + 1) * M) ≤ s.least k + s.v k + s.u r ∧ s.least k + s.v k + s.u r ≤ (2 * (L.length : Int) + 1) * M
  own : L ≠ [] → ∀ k, k < t.n → t.no r k = false → s.u r + s.v k ≤ t.c r k
/-- Ahead of a spread: L's first column's row (or r) is still to be spread from; `T` says so of the others. -/
structure Ahead (t : Tb) (r : Nat) (s : St) (L : List Nat) : Prop extends Look t r s L where
  fbnd : ∀ k, k < t.n → k ∉ L → s.far k = true → s.least k = 0
  fars : ∀ k, k < t.n → k ∉ L → (s.far k = true ↔ ∀ i, L ≠ [] → Tree s r L.tail i → t.no i k = true)
  comes : ∀ k, k < t.n → k ∉ L → s.far k = false → (s.from_ k = -1 ∨ ∃ b ∈ L.tail, s.from_ k = (b : Int)) ∧ t.no (rowOf s.of r (s.from_ k)) k = false ∧ s.least k = t.c (rowOf s.of r (s.from_ k)) k - s.u (rowOf s.of r (s.from_ k)) - s.v k
  min : ∀ k, k < t.n → k ∉ L → ∀ i, L ≠ [] → Tree s r L.tail i → t.no i k = false → s.least k ≤ t.c i k - s.u i - s.v k
  lb : ∀ k, k < t.n → k ∉ L → s.far k = false → -((2 * (L.length : Int) - 1) * M) ≤ s.least k + s.v k + s.u r ∧ s.least k + s.v k + s.u r ≤ (2 * (L.length : Int) - 1) * M
  own : L ≠ [] → ∀ k, k < t.n → t.no r k = false → s.u r + s.v k ≤ t.c r k
/-- The row from which is spread next, and the column by which it was come to. -/
def nextRow (s : St) (r : Nat) : List Nat → Nat
  | [] => r
  | k :: _ => (s.of k).toNat
def nextBy : List Nat → Int
  | [] => -1
  | k :: _ => (k : Int)
theorem look_start {t : Tb} {r : Nat} {u v of : Nat → Int} (h : Inv t r u v of) (hr : r < t.n) : Ahead t r (noneSeen u v of) [] := by
  refine ⟨⟨hr, h.range, h.onto, h.inj, h.tight, h.fair, h.free, fun i hi => h.rest i (by omega), by simp, ?_, by simp, fun k hk _ => h.vb k hk, by simp, ?_, ?_, by simp⟩, fun _ _ _ _ => rfl, ?_, ?_, fun k _ _ i hL => absurd rfl hL, ?_, fun hL => absurd rfl hL⟩
  · intro k _; simp [noneSeen]
  · have := h.rest r (Nat.le_refl _)
    show -(400 * M) ≤ u r ∧ u r ≤ 400 * M
    rw [this]; unfold M; omega
  · intro l1 k l2 e
    have := congrArg List.length e
    simp at this
  · intro k _ _
    exact ⟨fun _ i hL => absurd rfl hL, fun _ => rfl⟩
  · intro k _ _ hf; simp [noneSeen] at hf
  · intro k _ _ hf; simp [noneSeen] at hf
theorem Look.len {t : Tb} {r : Nat} {s : St} {L : List Nat} (h : Look t r s L) : L.length ≤ r := by
  have hn : (L.map fun k => (s.of k).toNat).Nodup := by
    have : ∀ l : List Nat, l.Nodup → (∀ k ∈ l, k < t.n ∧ 0 ≤ s.of k) → (l.map fun k => (s.of k).toNat).Nodup := by
      intro l
      induction l with
      | nil => intro _ _; simp
      | cons a l ih =>
        intro hn hl
        rw [List.nodup_cons] at hn
        rw [List.map_cons, List.nodup_cons]
        refine ⟨fun hm => ?_, ih hn.2 (fun k hk => hl k (List.mem_cons_of_mem _ hk))⟩
        obtain ⟨b, hb, e⟩ := List.mem_map.1 hm
        have h1 := hl a List.mem_cons_self
        have h2 := hl b (List.mem_cons_of_mem _ hb)
        have e2 := h.inj a b h1.1 h2.1 (by omega) h1.2
        exact hn.1 (e2 ▸ hb)
    exact this L h.nodup h.lin
  have := pigeon r _ hn (fun x hx => by
    obtain ⟨k, hk, rfl⟩ := List.mem_map.1 hx
    obtain ⟨h1, h2⟩ := h.lin k hk
    rcases h.range k h1 with e | ⟨i, e, hi⟩
    · rw [e] at h2; omega
    · rw [e]; simpa using hi)
  simpa using this
end Go.Proofs.YtofomlpdklhigaaGreatDoor.Hand
