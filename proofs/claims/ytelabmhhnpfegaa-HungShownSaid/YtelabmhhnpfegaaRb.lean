/- The document's least match, in plain Lean: it is the least. Without conditions. -/
import Derived.Test.YtelabmhhnpfegaaHe
import Derived.Test.YtelabmhhnpfegaaPHungLeastx1
namespace Go.Proofs.Ytelabmhhnpfegaa.Hand
def costR (c : Nat → Nat → Int) (σ : Nat → Nat) : Nat → Nat → Int
  | 0, _ => 0
  | m + 1, row => c row (σ row) + costR c σ m (row + 1)
structure PR (n : Nat) (no : Nat → Nat → Bool) (m row : Nat) (used : Nat → Bool) (σ : Nat → Nat) : Prop where
  lt : ∀ i, row ≤ i → i < row + m → σ i < n
  un : ∀ i, row ≤ i → i < row + m → used (σ i) = false
  may : ∀ i, row ≤ i → i < row + m → no i (σ i) = false
  inj : ∀ i j, row ≤ i → i < row + m → row ≤ j → j < row + m → σ i = σ j → i = j
def IsL (n : Nat) (c : Nat → Nat → Int) (no : Nat → Nat → Bool) (m row : Nat) (used : Nat → Bool) : Option Int → Prop
  | none => ∀ σ, ¬ PR n no m row used σ
  | some x => (∃ σ, PR n no m row used σ ∧ costR c σ m row = x) ∧ ∀ σ, PR n no m row used σ → x ≤ costR c σ m row
def lstK (c : Nat → Nat → Int) (no : Nat → Nat → Bool) (F : (Nat → Bool) → Option Int) (row : Nat) (used : Nat → Bool) : Nat → Option Int
  | 0 => none
  | k + 1 => if used k || no row k then lstK c no F row used k else
      match F (upd used k true) with
      | none => lstK c no F row used k
      | some x => match lstK c no F row used k with
        | none => some (c row k + x)
        | some y => if c row k + x < y then some (c row k + x) else some y
def lst (n : Nat) (c : Nat → Nat → Int) (no : Nat → Nat → Bool) : Nat → Nat → (Nat → Bool) → Option Int
  | 0, _, _ => some 0
  | m + 1, row, used => lstK c no (lst n c no m (row + 1)) row used n
theorem costR_congr (c : Nat → Nat → Int) {σ τ : Nat → Nat} : ∀ (m row : Nat), (∀ i, row ≤ i → i < row + m → σ i = τ i) → costR c σ m row = costR c τ m row
  | 0, _, _ => rfl
  | m + 1, row, h => by
    simp only [costR]
    rw [h row (Nat.le_refl _) (by omega), costR_congr c m (row + 1) (fun i h1 h2 => h i (by omega) (by omega))]
theorem PR.step {n : Nat} {no : Nat → Nat → Bool} {m row : Nat} {used : Nat → Bool} {σ : Nat → Nat} (h : PR n no (m + 1) row used σ) :
    σ row < n ∧ used (σ row) = false ∧ no row (σ row) = false ∧ PR n no m (row + 1) (upd used (σ row) true) σ :=
  ⟨h.lt row (Nat.le_refl _) (by omega), h.un row (Nat.le_refl _) (by omega), h.may row (Nat.le_refl _) (by omega), ⟨fun i h1 h2 => h.lt i (by omega) (by omega), fun i h1 h2 => by
    unfold upd
    rw [if_neg (fun e => by have := h.inj i row (by omega) (by omega) (Nat.le_refl _) (by omega) e; omega)]
    exact h.un i (by omega) (by omega), fun i h1 h2 => h.may i (by omega) (by omega), fun i j h1 h2 h3 h4 => h.inj i j (by omega) (by omega) (by omega) (by omega)⟩⟩
theorem PR.cons {n : Nat} {no : Nat → Nat → Bool} {m row : Nat} {used : Nat → Bool} {σ : Nat → Nat} {k : Nat} (hk : k < n) (hu : used k = false) (hn : no row k = false) (h : PR n no m (row + 1) (upd used k true) σ) :
    PR n no (m + 1) row used (upd σ row k) := by
  have at' : ∀ i, row + 1 ≤ i → upd σ row k i = σ i := fun i hi => by
    unfold upd
    rw [if_neg (by omega)]
  have at0 : upd σ row k row = k := by unfold upd; rw [if_pos rfl]
  have hne : ∀ i, row + 1 ≤ i → i < row + 1 + m → σ i ≠ k ∧ used (σ i) = false := fun i h1 h2 => by
    have := h.un i h1 h2
    unfold upd at this
    by_cases e : σ i = k
    · rw [if_pos e] at this; cases this
    · rw [if_neg e] at this; exact ⟨e, this⟩
  have sp : ∀ i, row ≤ i → i = row ∨ row + 1 ≤ i := fun i hi => by omega
  refine ⟨fun i h1 h2 => ?_, fun i h1 h2 => ?_, fun i h1 h2 => ?_, fun i j h1 h2 h3 h4 e => ?_⟩
  · rcases sp i h1 with rfl | hi
    · rw [at0]; exact hk
    · rw [at' i hi]; exact h.lt i hi (by omega)
  · rcases sp i h1 with rfl | hi
    · rw [at0]; exact hu
    · rw [at' i hi]; exact (hne i hi (by omega)).2
  · rcases sp i h1 with rfl | hi
    · rw [at0]; exact hn
    · rw [at' i hi]; exact h.may i hi (by omega)
  · rcases sp i h1 with rfl | hi
    · rcases sp j h3 with rfl | hj
      · rfl
      · rw [at0, at' j hj] at e
        exact absurd e.symm (hne j hj (by omega)).1
    · rcases sp j h3 with rfl | hj
      · rw [at0, at' i hi] at e
        exact absurd e (hne i hi (by omega)).1
      · rw [at' i hi, at' j hj] at e
        exact h.inj i j hi (by omega) hj (by omega) e
/-- Of those whose row goes below k. -/
def IsK (n : Nat) (c : Nat → Nat → Int) (no : Nat → Nat → Bool) (m row : Nat) (used : Nat → Bool) (k : Nat) : Option Int → Prop
  | none => ∀ σ, PR n no (m + 1) row used σ → ¬ σ row < k
  | some x => (∃ σ, PR n no (m + 1) row used σ ∧ σ row < k ∧ costR c σ (m + 1) row = x) ∧ ∀ σ, PR n no (m + 1) row used σ → σ row < k → x ≤ costR c σ (m + 1) row
theorem lstK_ok {n : Nat} {c : Nat → Nat → Int} {no : Nat → Nat → Bool} {m row : Nat} {used : Nat → Bool} {F : (Nat → Bool) → Option Int} (hF : ∀ u, IsL n c no m (row + 1) u (F u)) : ∀ k, k ≤ n → IsK n c no m row used k (lstK c no F row used k)
  | 0, _ => fun σ _ h => by omega
  | k + 1, hk => by
    have ih := lstK_ok hF (used := used) k (by omega)
    have low : ∀ σ : Nat → Nat, σ row < k + 1 → σ row = k ∨ σ row < k := fun σ h => by omega
    unfold lstK
    by_cases hb : (used k || no row k) = true
    · rw [if_pos hb]
      have hno : ∀ σ, PR n no (m + 1) row used σ → σ row ≠ k := fun σ h e => by
        obtain ⟨_, h1, h2, _⟩ := h.step
        rw [e] at h1 h2
        rw [h1, h2] at hb
        cases hb
      cases hl : lstK c no F row used k with
      | none =>
        rw [hl] at ih
        intro σ hσ h
        rcases low σ h with h | h
        · exact hno σ hσ h
        · exact ih σ hσ h
      | some y =>
        rw [hl] at ih
        obtain ⟨⟨σ, h1, h2, h3⟩, h4⟩ := ih
        refine ⟨⟨σ, h1, by omega, h3⟩, fun τ hτ h => ?_⟩
        rcases low τ h with h | h
        · exact absurd h (hno τ hτ)
        · exact h4 τ hτ h
    · rw [if_neg hb]
      have hu : used k = false := by cases e : used k with
        | false => rfl
        | true => rw [e] at hb; exact absurd rfl hb
      have hn : no row k = false := by cases e : no row k with
        | false => rfl
        | true => rw [e] at hb; simp at hb
      have hf := hF (upd used k true)
      cases hx : F (upd used k true) with
      | none =>
        rw [hx] at hf
        have hno : ∀ σ, PR n no (m + 1) row used σ → σ row ≠ k := fun σ h e => by
          obtain ⟨_, _, _, h3⟩ := h.step
          rw [e] at h3
          exact hf σ h3
        cases hl : lstK c no F row used k with
        | none =>
          rw [hl] at ih
          intro σ hσ h
          rcases low σ h with h | h
          · exact hno σ hσ h
          · exact ih σ hσ h
        | some y =>
          rw [hl] at ih
          obtain ⟨⟨σ, h1, h2, h3⟩, h4⟩ := ih
          refine ⟨⟨σ, h1, by omega, h3⟩, fun τ hτ h => ?_⟩
          rcases low τ h with h | h
          · exact absurd h (hno τ hτ)
          · exact h4 τ hτ h
      | some x =>
        rw [hx] at hf
        obtain ⟨⟨σ, g1, g2⟩, g3⟩ := hf
        have mine : PR n no (m + 1) row used (upd σ row k) ∧ upd σ row k row < k + 1 ∧ costR c (upd σ row k) (m + 1) row = c row k + x := by
          have at0 : upd σ row k row = k := by unfold upd; rw [if_pos rfl]
          refine ⟨PR.cons (by omega) hu hn g1, by rw [at0]; omega, ?_⟩
          simp only [costR]
          rw [at0, costR_congr c m (row + 1) (fun i h1 h2 => show upd σ row k i = σ i by unfold upd; rw [if_neg (by omega)]), g2]
        have their : ∀ τ, PR n no (m + 1) row used τ → τ row = k → c row k + x ≤ costR c τ (m + 1) row := fun τ hτ e => by
          obtain ⟨_, _, _, h3⟩ := hτ.step
          rw [e] at h3
          have := g3 τ h3
          simp only [costR]
          rw [e]
          omega
        cases hl : lstK c no F row used k with
        | none =>
          rw [hl] at ih
          refine ⟨⟨_, mine⟩, fun τ hτ h => ?_⟩
          rcases low τ h with h | h
          · exact their τ hτ h
          · exact absurd h (ih τ hτ)
        | some y =>
          rw [hl] at ih
          obtain ⟨⟨ρ, h1, h2, h3⟩, h4⟩ := ih
          by_cases hlt : c row k + x < y
          · simp only [if_pos hlt]
            refine ⟨⟨_, mine⟩, fun τ hτ h => ?_⟩
            rcases low τ h with h | h
            · exact their τ hτ h
            · have := h4 τ hτ h
              omega
          · simp only [if_neg hlt]
            refine ⟨⟨ρ, h1, by omega, h3⟩, fun τ hτ h => ?_⟩
            rcases low τ h with h | h
            · have := their τ hτ h
              omega
            · exact h4 τ hτ h
theorem lst_ok (n : Nat) (c : Nat → Nat → Int) (no : Nat → Nat → Bool) : ∀ (m row : Nat) (used : Nat → Bool), IsL n c no m row used (lst n c no m row used)
  | 0, row, used => ⟨⟨fun _ => 0, ⟨fun i h1 h2 => by omega, fun i h1 h2 => by omega, fun i h1 h2 => by omega, fun i j h1 h2 => by omega⟩, rfl⟩, fun _ _ => Int.le_refl _⟩
  | m + 1, row, used => by
    have h := lstK_ok (used := used) (fun u => lst_ok n c no m (row + 1) u) n (Nat.le_refl _)
    show IsL n c no (m + 1) row used (lstK c no (lst n c no m (row + 1)) row used n)
    cases hl : lstK c no (lst n c no m (row + 1)) row used n with
    | none =>
      rw [hl] at h
      exact fun σ hσ => h σ hσ hσ.step.1
    | some x =>
      rw [hl] at h
      obtain ⟨⟨σ, h1, _, h3⟩, h4⟩ := h
      exact ⟨⟨σ, h1, h3⟩, fun τ hτ => h4 τ hτ hτ.step.1⟩
theorem costR_bd {n : Nat} {c : Nat → Nat → Int} {B : Int} (hB : ∀ i k, i < n → k < n → -B ≤ c i k ∧ c i k ≤ B) {σ : Nat → Nat} : ∀ (m row : Nat), row + m ≤ n → (∀ i, row ≤ i → i < row + m → σ i < n) → -(m * B) ≤ costR c σ m row ∧ costR c σ m row ≤ m * B
  | 0, _, _, _ => by simp [costR]
  | m + 1, row, hr, h => by
    have ih := costR_bd hB (σ := σ) m (row + 1) (by omega) (fun i h1 h2 => h i (by omega) (by omega))
    have h1 := hB row (σ row) (by omega) (h row (Nat.le_refl _) (by omega))
    simp only [costR]
    have e : ((m + 1 : Nat) : Int) * B = m * B + B := by
      rw [Int.natCast_succ, Int.add_mul, Int.one_mul]
    rw [e]
    omega
theorem lst_bd {n : Nat} {c : Nat → Nat → Int} {no : Nat → Nat → Bool} {B : Int} (hB : ∀ i k, i < n → k < n → -B ≤ c i k ∧ c i k ≤ B) {m row : Nat} {used : Nat → Bool} (hr : row + m ≤ n) {x : Int} (h : lst n c no m row used = some x) : -(m * B) ≤ x ∧ x ≤ m * B := by
  have := lst_ok n c no m row used
  rw [h] at this
  obtain ⟨⟨σ, h1, h2⟩, _⟩ := this
  rw [← h2]
  exact costR_bd hB m row hr h1.lt
theorem costR_sum (c : Nat → Nat → Int) (σ : Nat → Nat) : ∀ (m row : Nat), costR c σ m row = sumTo m (fun i => c (row + i) (σ (row + i)))
  | 0, _ => rfl
  | m + 1, row => by
    simp only [costR]
    rw [costR_sum c σ m (row + 1)]
    unfold sumTo
    rw [List.range_succ_eq_map]
    simp only [List.map_cons, List.map_map, List.sum_cons, Nat.add_zero]
    congr 2
    apply List.map_congr_left
    intro i _
    show c (row + 1 + i) (σ (row + 1 + i)) = c (row + (i + 1)) (σ (row + (i + 1)))
    rw [show row + 1 + i = row + (i + 1) by omega]
theorem lst_least (n : Nat) (c : Nat → Nat → Int) (no : Nat → Nat → Bool) : IsLeast n c no (lst n c no n 0 (fun _ => false)) := by
  have h := lst_ok n c no n 0 (fun _ => false)
  have toP : ∀ {σ}, PM n no σ → PR n no n 0 (fun _ => false) σ := fun h => ⟨fun i _ h2 => h.inj.lt i (by omega), fun _ _ _ => rfl, fun i _ h2 => h.may i (by omega), fun i j _ h2 _ h4 => h.inj.inj i j (by omega) (by omega)⟩
  have ofP : ∀ {σ}, PR n no n 0 (fun _ => false) σ → PM n no σ := fun h => ⟨⟨fun i hi => h.lt i (by omega) (by omega), fun i j hi hj => h.inj i j (by omega) (by omega) (by omega) (by omega)⟩, fun i hi => h.may i (by omega) (by omega)⟩
  have ec : ∀ σ, costR c σ n 0 = cost n c σ := fun σ => by
    rw [costR_sum]
    unfold cost
    exact sumTo_congr (fun i _ => by rw [Nat.zero_add])
  cases hl : lst n c no n 0 (fun _ => false) with
  | none =>
    rw [hl] at h
    exact fun σ hσ => h σ (toP hσ)
  | some x =>
    rw [hl] at h
    obtain ⟨⟨σ, h1, h2⟩, h3⟩ := h
    exact ⟨⟨σ, ofP h1, by rw [← ec, h2]⟩, fun τ hτ => by rw [← ec]; exact h3 τ (toP hτ)⟩
end Go.Proofs.Ytelabmhhnpfegaa.Hand
/- The printed form of the document's least match comes to it. Without conditions beside the table's own. -/
namespace Go.Proofs.Ytelabmhhnpfegaa.Hand
open Go.RowKit Go.Proofs.YtelabmhhnpfegaaW.PrintWords Go.Proofs.Ytelabmhhnpfegaa.PHungLeast
def lsI (n : Nat) (f : Nat → Int) : List Int := (List.range n).map f
def lsB (n : Nat) (f : Nat → Bool) : List Bool := (List.range n).map f
def lsII (n : Nat) (c : Nat → Nat → Int) : List (List Int) := (List.range n).map fun i => lsI n (c i)
def lsBB (n : Nat) (c : Nat → Nat → Bool) : List (List Bool) := (List.range n).map fun i => lsB n (c i)
theorem lsI_len {n : Nat} {f : Nat → Int} : (lsI n f).length = n := by simp [lsI]
theorem lsB_len {n : Nat} {f : Nat → Bool} : (lsB n f).length = n := by simp [lsB]
theorem lsII_len {n : Nat} {c : Nat → Nat → Int} : (lsII n c).length = n := by simp [lsII]
theorem lsBB_len {n : Nat} {c : Nat → Nat → Bool} : (lsBB n c).length = n := by simp [lsBB]
theorem map_getD {α : Type} (n : Nat) (f : Nat → α) (d : α) {k : Nat} (hk : k < n) : ((List.range n).map f).getD k d = f k := by
  rw [List.getD_eq_getElem?_getD]
  simp [hk]
theorem rd_lsI {n k : Nat} {f : Nat → Int} (hk : k < n) : rd (lsI n f) (k : Int) = f k := by
  unfold rd lsI
  rw [Int.toNat_natCast, map_getD n f 0 hk]
theorem rd_lsB {n k : Nat} {f : Nat → Bool} (hk : k < n) : rdOf false (lsB n f) (k : Int) = f k := by
  unfold rdOf lsB
  rw [Int.toNat_natCast, map_getD n f false hk]
theorem rd_lsII {n k : Nat} {c : Nat → Nat → Int} (hk : k < n) : rd_L1 (lsII n c) (k : Int) = lsI n (c k) := by
  unfold rd_L1 lsII
  rw [Int.toNat_natCast, map_getD n _ [] hk]
theorem rd_lsBB {n k : Nat} {c : Nat → Nat → Bool} (hk : k < n) : rd_L3 (lsBB n c) (k : Int) = lsB n (c k) := by
  unfold rd_L3 lsBB
  rw [Int.toNat_natCast, map_getD n _ [] hk]
theorem lsB_set {n k : Nat} {f : Nat → Bool} (x : Bool) : (lsB n f).set ((k : Int)).toNat x = lsB n (upd f k x) := by
  rw [Int.toNat_natCast]
  apply List.ext_getElem?
  intro i
  unfold lsB upd
  rw [List.getElem?_set]
  by_cases hi : k = i
  · subst hi
    by_cases hk : k < n
    · simp [hk]
    · simp [hk]
  · rw [if_neg hi]
    by_cases hk : i < n
    · simp only [List.getElem?_map, List.getElem?_range hk, Option.map_some]
      rw [if_neg (fun e => hi e.symm)]
    · have : n ≤ i := by omega
      simp [this]
theorem upd_back {f : Nat → Bool} {k : Nat} (h : f k = false) : upd (upd f k true) k false = f := by
  funext j
  unfold upd
  by_cases hj : j = k
  · rw [if_pos hj, hj, h]
  · rw [if_neg hj, if_neg hj]
theorem wrap_in {z : Int} (h : -9223372036854775808 ≤ z ∧ z ≤ 9223372036854775807) : wrap64 z = z := by
  unfold wrap64
  omega
section
variable {n : Nat} {c : Nat → Nat → Int} {no : Nat → Nat → Bool}
theorem loop_ok (hn : n ≤ 64) (hc : ∀ i k, i < n → k < n → -2147483648 ≤ c i k ∧ c i k ≤ 2147483648) {m row : Nat} (hr : row < n) {F : (Nat → Bool) → Option Int} {used : Nat → Bool}
    (hF : ∀ u, ∃ K, ∀ k, K ≤ k → secateurref29_Least.f k (lsII n c) (lsBB n no) ((row + 1 : Nat) : Int) (lsB n u) = some ((F u).getD 0, (F u).isSome, lsB n u))
    (hb : ∀ u x, F u = some x → -(m * 2147483648) ≤ x ∧ x ≤ m * 2147483648) (hm : m ≤ 64) : ∀ (d k : Nat), k + d = n →
    ∃ K, ∀ q, K ≤ q → secateurref29_Least.l0 q (lsII n c) (lsBB n no) (row : Int) (lsB n used) ((lstK c no F row used k).getD 0) ((lstK c no F row used k).isSome) (k : Int) = some ((lstK c no F row used n).getD 0, (lstK c no F row used n).isSome, lsB n used)
  | 0, k, hk => ⟨1, fun q hq => by
    obtain ⟨q, rfl⟩ : ∃ p, q = p + 1 := ⟨q - 1, by omega⟩
    obtain rfl : k = n := by omega
    simp only [secateurref29_Least.l0]
    rw [if_neg (by rw [lsII_len]; omega)]⟩
  | d + 1, k, hk => by
    have hkn : k < n := by omega
    obtain ⟨K1, h1⟩ := loop_ok hn hc hr hF hb hm d (k + 1) (by omega)
    obtain ⟨K2, h2⟩ := hF (upd used k true)
    refine ⟨K1 + K2 + 2, fun q hq => ?_⟩
    obtain ⟨q, rfl⟩ : ∃ p, q = p + 2 := ⟨q - 2, by omega⟩
    have e1 := h1 q (by omega)
    have e2 := h2 q (by omega)
    have w1 : wrap64 ((k : Int) + 1) = ((k + 1 : Nat) : Int) := by rw [wrap_in (by omega)]; omega
    have w2 : wrap64 ((row : Int) + 1) = ((row + 1 : Nat) : Int) := by rw [wrap_in (by omega)]; omega
    have ej : secateurref29_Least.l0 (q + 2) (lsII n c) (lsBB n no) (row : Int) (lsB n used) ((lstK c no F row used k).getD 0) ((lstK c no F row used k).isSome) (k : Int) = secateurref29_Least.j1 (q + 1) (lsII n c) (lsBB n no) (row : Int) (lsB n used) ((lstK c no F row used k).getD 0) ((lstK c no F row used k).isSome) (k : Int) (used k || no row k) := by
      simp only [secateurref29_Least.l0]
      rw [if_pos (by rw [lsII_len]; omega), if_pos (by omega), if_pos (by rw [lsB_len]; omega), rd_lsB hkn]
      by_cases hu : used k = true
      · rw [if_pos hu, hu]
        rfl
      · rw [if_neg hu, if_pos (by omega), if_pos (by rw [lsBB_len]; omega), rd_lsBB hr, if_pos (by rw [lsB_len]; omega), rd_lsB hkn]
        have hu' : used k = false := by simpa using hu
        rw [hu']
        rfl
    rw [ej]
    by_cases hbl : (used k || no row k) = true
    · have el : lstK c no F row used (k + 1) = lstK c no F row used k := by
        show (if (used k || no row k) = true then _ else _) = _
        rw [if_pos hbl]
      rw [el] at e1
      simp only [secateurref29_Least.j1]
      rw [if_pos hbl, w1]
      exact e1
    · have hu : used k = false := by cases e : used k with
        | false => rfl
        | true => rw [e] at hbl; exact absurd rfl hbl
      have hcc := hc row k hr hkn
      simp only [secateurref29_Least.j1]
      rw [if_neg hbl, if_pos (by omega), if_pos (by rw [lsB_len]; omega), w2, lsB_set, e2]
      simp only [Option.bind_some]
      rw [lsB_set, upd_back hu, w1]
      cases hx : F (upd used k true) with
      | none =>
        have el : lstK c no F row used (k + 1) = lstK c no F row used k := by
          show (if (used k || no row k) = true then _ else _) = _
          rw [if_neg hbl, hx]
        rw [el] at e1
        simp only [Option.getD_none, Option.isSome_none]
        rw [if_neg (by decide)]
        exact e1
      | some x =>
        have hbx := hb _ _ hx
        have wx : wrap64 (c row k + x) = c row k + x := wrap_in (by omega)
        simp only [Option.getD_some, Option.isSome_some]
        rw [if_pos trivial]
        cases hy : lstK c no F row used k with
        | none =>
          have el : lstK c no F row used (k + 1) = some (c row k + x) := by
            show (if (used k || no row k) = true then _ else _) = _
            rw [if_neg hbl, hx, hy]
          rw [el] at e1
          simp only [Option.getD_some, Option.isSome_some, Option.getD_none, Option.isSome_none, Bool.false_eq_true, if_false] at e1 ⊢
          rw [if_pos (by omega), if_pos (by rw [lsII_len]; omega), rd_lsII hr, if_pos (by rw [lsI_len]; omega), rd_lsI hkn, wx]
          exact e1
        | some y =>
          simp only [Option.getD_some, Option.isSome_some, if_true]
          rw [if_pos (by omega), if_pos (by rw [lsII_len]; omega), rd_lsII hr, if_pos (by rw [lsI_len]; omega), rd_lsI hkn, wx]
          by_cases hlt : c row k + x < y
          · have el : lstK c no F row used (k + 1) = some (c row k + x) := by
              show (if (used k || no row k) = true then _ else _) = _
              rw [if_neg hbl, hx, hy]
              exact if_pos hlt
            rw [el] at e1
            rw [if_pos hlt]
            exact e1
          · have el : lstK c no F row used (k + 1) = some y := by
              show (if (used k || no row k) = true then _ else _) = _
              rw [if_neg hbl, hx, hy]
              exact if_neg hlt
            rw [el] at e1
            rw [if_neg hlt]
            exact e1
theorem least_ok (hn : n ≤ 64) (hc : ∀ i k, i < n → k < n → -2147483648 ≤ c i k ∧ c i k ≤ 2147483648) : ∀ (m row : Nat) (used : Nat → Bool), row + m = n →
    ∃ K, ∀ k, K ≤ k → secateurref29_Least.f k (lsII n c) (lsBB n no) (row : Int) (lsB n used) = some ((lst n c no m row used).getD 0, (lst n c no m row used).isSome, lsB n used)
  | 0, row, used, h => ⟨1, fun k hk => by
    obtain ⟨k, rfl⟩ : ∃ p, k = p + 1 := ⟨k - 1, by omega⟩
    simp only [secateurref29_Least.f]
    rw [if_pos (by rw [lsII_len]; omega)]
    rfl⟩
  | m + 1, row, used, h => by
    obtain ⟨K, hK⟩ := loop_ok (used := used) hn hc (m := m) (row := row) (by omega) (fun u => least_ok hn hc m (row + 1) u (by omega)) (fun u x hx => lst_bd hc (by omega) hx) (by omega) n 0 (by omega)
    refine ⟨K + 1, fun k hk => ?_⟩
    obtain ⟨k, rfl⟩ : ∃ p, k = p + 1 := ⟨k - 1, by omega⟩
    have := hK k (by omega)
    simp only [secateurref29_Least.f]
    rw [if_neg (by rw [lsII_len]; omega)]
    exact this
end
end Go.Proofs.Ytelabmhhnpfegaa.Hand
