/- What Check answers, laid open; how many cells an instance's table has, in plain Lean and walked. -/
import Derived.Test.YtofomlpdklhigaaGreatDoorDh
namespace Go.Proofs.YtofomlpdklhigaaGreatDoor.Hand
open Go.RowKit Go.Proofs.YtofomlpdklhigaaGreatDoorW.PrintWords Go.Proofs.YtofomlpdklhigaaGreatDoorW.PrintLast Go.Proofs.YtofomlpdklhigaaGreatDoorW.PrintMore Go.Proofs.YtofomlpdklhigaaGreatDoor.PSigns
attribute [local go_sem] max2_int min2_int
/-- An instance that may be. -/
structure IOk (x : PI) : Prop where
  kind : 0 ≤ x.kind ∧ x.kind < 4
  k0 : x.kind ≠ 0 → x.cap = 0 ∧ x.items = []
  kc : ¬ (x.kind = 1 ∨ x.kind = 2) → x.cost = []
  k3 : x.kind ≠ 3 → x.size = 0 ∧ x.sets = []
  side : (x.kind = 1 ∨ x.kind = 2) → 1 ≤ x.cost.length ∧ x.cost.length ≤ 64
  nitems : x.items.length ≤ 4096
  nsets : x.sets.length ≤ 4096
  size : 0 ≤ x.size ∧ x.size ≤ 4096
  rows : ∀ r ∈ x.cost, r.length = x.cost.length
  elems : ∀ s ∈ x.sets, ascB x.size (-1) s.f1 = true
  cap : 0 ≤ x.cap ∧ x.cap ≤ 2147483648
  items : ∀ s ∈ x.items, (0 ≤ s.f0 ∧ s.f0 ≤ 2147483648) ∧ 0 ≤ s.f1 ∧ s.f1 ≤ 2147483648
  cost : ∀ r ∈ x.cost, ∀ z ∈ r, -2147483648 ≤ z ∧ z ≤ 2147483648
  costs : ∀ s ∈ x.sets, 0 ≤ s.f0 ∧ s.f0 ≤ 2147483648
  diag : x.kind = 2 → ∀ i, i < x.cost.length → (x.cost.getD i []).getD i 0 = 0
theorem inB_iff {z lo : Int} : inB z lo = true ↔ lo ≤ z ∧ z ≤ 2147483648 := by
  unfold inB
  simp
theorem chk_ok {x : PI} : chk x = 0 ↔ ((0 ≤ x.kind ∧ x.kind < 4) ∧ leanB x = true ∧ fewB x = true ∧ rowsB x = true ∧ setsB x = true ∧ smallB x = true ∧ bareB x = true) := by
  unfold chk
  by_cases h1 : 0 ≤ x.kind ∧ x.kind < 4
  · rw [decide_eq_true h1, if_pos rfl]
    cases leanB x <;> cases fewB x <;> cases rowsB x <;> cases setsB x <;> cases smallB x <;> cases bareB x <;> simp [h1]
  · rw [decide_eq_false h1]
    simp [h1]
theorem iok {x : PI} : chk x = 0 ↔ IOk x := by
  rw [chk_ok]
  constructor
  · rintro ⟨h1, h2, h3, h4, h5, h6, h7⟩
    unfold leanB at h2
    unfold fewB at h3
    unfold smallB at h6
    simp only [Bool.and_eq_true, Bool.or_eq_true, decide_eq_true_eq, Bool.not_eq_true', decide_eq_false_iff_not, List.all_eq_true, inB_iff] at h2 h3 h6
    obtain ⟨⟨l1, l2⟩, l3⟩ := h2
    obtain ⟨⟨⟨f1, f2⟩, f3⟩, f4⟩ := h3
    obtain ⟨⟨⟨s1, s2⟩, s3⟩, s4⟩ := h6
    refine ⟨h1, ?_, ?_, ?_, ?_, f2, f3, f4, ?_, ?_, s1, ?_, ?_, s4, ?_⟩
    · intro h
      rcases l1 with l1 | l1
      · exact absurd l1 h
      · exact ⟨l1.1, List.eq_nil_of_length_eq_zero l1.2⟩
    · intro h
      rcases l2 with l2 | l2
      · exact absurd l2 h
      · exact List.eq_nil_of_length_eq_zero l2
    · intro h
      rcases l3 with l3 | l3
      · exact absurd l3 h
      · exact ⟨l3.1, List.eq_nil_of_length_eq_zero l3.2⟩
    · intro h
      rcases f1 with f1 | f1
      · exact absurd h f1
      · exact f1
    · intro r hr
      have := List.all_eq_true.1 h4 r hr
      simpa using this
    · intro s hs
      exact List.all_eq_true.1 h5 s hs
    · intro s hs
      have := s2 s hs
      unfold itB at this
      simpa [inB_iff] using this
    · intro r hr z hz
      have := List.all_eq_true.1 (s3 r hr) z hz
      simpa [inB_iff] using this
    · intro hk i hi
      have := List.all_eq_true.1 h7 i (List.mem_range.2 hi)
      unfold diagB at this
      rw [decide_eq_true hk] at this
      simpa using this
  · intro h
    refine ⟨h.kind, ?_, ?_, ?_, ?_, ?_, ?_⟩
    · unfold leanB
      simp only [Bool.and_eq_true, Bool.or_eq_true, decide_eq_true_eq]
      refine ⟨⟨?_, ?_⟩, ?_⟩
      · by_cases e : x.kind = 0
        · exact .inl e
        · exact .inr ⟨(h.k0 e).1, by rw [(h.k0 e).2]; rfl⟩
      · by_cases e : x.kind = 1 ∨ x.kind = 2
        · exact .inl e
        · exact .inr (by rw [h.kc e]; rfl)
      · by_cases e : x.kind = 3
        · exact .inl e
        · exact .inr ⟨(h.k3 e).1, by rw [(h.k3 e).2]; rfl⟩
    · unfold fewB
      simp only [Bool.and_eq_true, Bool.or_eq_true, decide_eq_true_eq, Bool.not_eq_true', decide_eq_false_iff_not]
      refine ⟨⟨⟨?_, h.nitems⟩, h.nsets⟩, h.size⟩
      by_cases e : x.kind = 1 ∨ x.kind = 2
      · exact .inr (h.side e)
      · exact .inl e
    · unfold rowsB
      rw [List.all_eq_true]
      intro r hr
      simpa using h.rows r hr
    · unfold setsB
      rw [List.all_eq_true]
      exact h.elems
    · unfold smallB
      simp only [Bool.and_eq_true, List.all_eq_true, inB_iff]
      refine ⟨⟨⟨h.cap, ?_⟩, ?_⟩, h.costs⟩
      · intro s hs
        unfold itB
        simpa [inB_iff] using h.items s hs
      · intro r hr
        unfold rowB
        simp only [List.all_eq_true, inB_iff]
        exact h.cost r hr
    · unfold bareB
      rw [List.all_eq_true]
      intro i hi
      unfold diagB
      by_cases e : x.kind = 2
      · rw [h.diag e i (List.mem_range.1 hi)]
        simp
      · rw [decide_eq_false e]
        rfl
/-! ### the number of cells -/
def wsum (l : List S159) : Int := (l.map (·.f1)).sum
def roomP (x : PI) : Int := if x.cap < wsum x.items then x.cap else wsum x.items
def nP (x : PI) : Int := if x.kind = 0 then x.items.length else if x.kind = 1 then x.cost.length else if x.kind = 2 then (x.cost.length : Int) - 1 else x.sets.length
def aP (x : PI) : Int := if x.kind = 0 then ((x.items.length : Int) + 1) * (roomP x + 1) else if x.kind = 3 then (x.sets.length : Int) + 1 else nP x
def tP (x : PI) : Nat := if x.kind = 0 then 0 else if x.kind = 3 then x.size.toNat else (nP x).toNat
def qP (x : PI) : Int := aP x * 2 ^ tP x
def cellsP (x : PI) : Int × Int := if chk x = 0 then (if 1048576 < qP x then (0, 24) else (qP x, 0)) else (0, chk x)
theorem wsum_bd : ∀ (l : List S159), (∀ s ∈ l, 0 ≤ s.f1 ∧ s.f1 ≤ 2147483648) → 0 ≤ wsum l ∧ wsum l ≤ 2147483648 * l.length
  | [], _ => by simp [wsum]
  | s :: t, h => by
    have ih := wsum_bd t (fun s hs => h s (List.mem_cons_of_mem _ hs))
    have h0 := h s List.mem_cons_self
    have e : wsum (s :: t) = s.f1 + wsum t := by simp [wsum]
    rw [e, List.length_cons]
    omega
theorem room_bd {x : PI} (h : IOk x) : 0 ≤ roomP x ∧ roomP x ≤ 2147483648 := by
  have h1 := wsum_bd x.items (fun s hs => (h.items s hs).2)
  have h2 := h.cap
  unfold roomP
  split <;> omega
theorem two_bd {n : Nat} (h : n ≤ 21) : (2 : Int) ^ n ≤ 2097152 ∧ 0 < (2 : Int) ^ n := by
  refine ⟨?_, Int.pow_pos (by omega)⟩
  have h1 : (2 : Nat) ^ n ≤ 2 ^ 21 := Nat.pow_le_pow_right (by omega) h
  have h2 : ((2 ^ n : Nat) : Int) ≤ ((2 ^ 21 : Nat) : Int) := Int.ofNat_le.2 h1
  rw [Int.natCast_pow] at h2
  exact Int.le_trans h2 (by decide)
theorem two_big {n : Nat} (h : 21 < n) : (1048577 : Int) ≤ 2 ^ n := by
  have h1 : (2 : Nat) ^ 21 ≤ 2 ^ n := Nat.pow_le_pow_right (by omega) (by omega)
  have h2 : ((2 ^ 21 : Nat) : Int) ≤ ((2 ^ n : Nat) : Int) := Int.ofNat_le.2 h1
  rw [Int.natCast_pow 2 n] at h2
  exact Int.le_trans (by decide) h2
theorem n_bd {x : PI} (h : IOk x) : 0 ≤ nP x ∧ nP x ≤ 4096 := by
  have h1 := h.nitems
  have h2 := h.nsets
  unfold nP
  split
  · omega
  · split
    · have := h.side (.inl ‹_›)
      omega
    · split
      · have := h.side (.inr ‹_›)
        omega
      · omega
theorem wsum_take {l : List S159} {k : Nat} (h : k < l.length) : wsum (l.take (k + 1)) = wsum (l.take k) + (l.getD k z159).f1 := by
  unfold wsum
  rw [take_snoc h z159, List.map_append, List.sum_append]
  simp
theorem aP_bd {x : PI} (h : IOk x) : 0 ≤ aP x ∧ aP x ≤ 17592186044416 := by
  have hn := n_bd h
  have hr := room_bd h
  have hni := h.nitems
  have hns := h.nsets
  unfold aP
  split
  · have h1 : ((x.items.length : Int) + 1) * (roomP x + 1) ≤ 4097 * 2147483649 := Int.mul_le_mul (by omega) (by omega) (by omega) (by omega)
    have h0 : 0 ≤ ((x.items.length : Int) + 1) * (roomP x + 1) := Int.mul_nonneg (by omega) (by omega)
    omega
  · split <;> omega
/-! ### grow, twos -/
def growV (a b : Int) : Int := if 0 < a ∧ (1048576 : Int) / a < b then 1048577 else a * b
def twoV (n : Nat) : Int := if 21 < n then 1048577 else 2 ^ n
theorem growV_spec {a b : Int} (_ha : 0 ≤ a) : (1048576 < growV a b ↔ 1048576 < a * b) ∧ (¬ 1048576 < a * b → growV a b = a * b) := by
  unfold growV
  by_cases h : 0 < a ∧ (1048576 : Int) / a < b
  · rw [if_pos h]
    have h1 : 1048576 < a * b := by
      have := (Int.ediv_lt_iff_lt_mul h.1).1 h.2
      rwa [Int.mul_comm] at this
    exact ⟨⟨fun _ => h1, fun _ => by omega⟩, fun h2 => absurd h1 h2⟩
  · rw [if_neg h]
    exact ⟨Iff.rfl, fun _ => rfl⟩
theorem twoV_bd (n : Nat) : 0 ≤ twoV n ∧ twoV n ≤ 4294967296 := by
  unfold twoV
  split
  · omega
  · have := two_bd (n := n) (by omega)
    omega
theorem twoV_spec (n : Nat) {a : Int} (ha : 0 ≤ a) : (1048576 < a * twoV n ↔ 1048576 < a * 2 ^ n) ∧ (¬ 1048576 < a * 2 ^ n → a * twoV n = a * 2 ^ n) := by
  unfold twoV
  by_cases h : 21 < n
  · rw [if_pos h]
    have hb := two_big h
    by_cases h0 : a = 0
    · subst h0
      simp
    · have h1 : a * 1048577 ≤ a * 2 ^ n := Int.mul_le_mul_of_nonneg_left hb ha
      constructor
      · constructor <;> intro _ <;> omega
      · intro h2
        omega
  · rw [if_neg h]
    exact ⟨Iff.rfl, fun _ => rfl⟩
end Go.Proofs.YtofomlpdklhigaaGreatDoor.Hand
