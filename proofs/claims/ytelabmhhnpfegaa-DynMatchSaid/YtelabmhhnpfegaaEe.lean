/- The table over all sets of columns, in plain Lean: it tells the least match. No condition. -/
import Derived.Test.YtelabmhhnpfegaaEd
import Derived.Test.YtelabmhhnpfegaaJb
namespace Go.Proofs.Ytelabmhhnpfegaa.Hand
open Go.RowKit Go.Proofs.Ytelabmhhnpfegaa.PDynCells
def pop : Nat → Nat → Nat
  | 0, _ => 0
  | k + 1, m => m % 2 + pop k (m / 2)
theorem half_pow (m j : Nat) : m / 2 ^ (j + 1) = m / 2 / 2 ^ j := by rw [Nat.pow_succ, Nat.mul_comm, Nat.div_div_eq_div_mul]
theorem pop_add : ∀ k j m, j < k → m / 2 ^ j % 2 = 0 → pop k (m + 2 ^ j) = pop k m + 1
  | 0, _, _, h, _ => absurd h (Nat.not_lt_zero _)
  | k + 1, 0, m, _, h => by
    rw [Nat.pow_zero, Nat.div_one] at h
    rw [Nat.pow_zero, pop, pop, show (m + 1) / 2 = m / 2 by omega]
    omega
  | k + 1, j + 1, m, hj, h => by
    rw [half_pow] at h
    have hp : 2 ^ (j + 1) = 2 ^ j * 2 := Nat.pow_succ ..
    rw [pop, pop, show (m + 2 ^ (j + 1)) % 2 = m % 2 by omega, show (m + 2 ^ (j + 1)) / 2 = m / 2 + 2 ^ j by omega, pop_add k j (m / 2) (by omega) h]
    omega
theorem bit_add : ∀ j k m, m / 2 ^ j % 2 = 0 → (m + 2 ^ j) / 2 ^ k % 2 = if k = j then 1 else m / 2 ^ k % 2
  | 0, 0, m, h => by
    rw [Nat.pow_zero, Nat.div_one] at h
    rw [Nat.pow_zero, Nat.div_one, if_pos rfl]
    omega
  | 0, k + 1, m, h => by
    rw [Nat.pow_zero, Nat.div_one] at h
    rw [Nat.pow_zero, if_neg (by omega), half_pow, half_pow, show (m + 1) / 2 = m / 2 by omega]
  | j + 1, 0, m, h => by
    have hp : 2 ^ (j + 1) = 2 ^ j * 2 := Nat.pow_succ ..
    rw [Nat.pow_zero, Nat.div_one, Nat.div_one, if_neg (by omega)]
    omega
  | j + 1, k + 1, m, h => by
    rw [half_pow] at h
    have hp : 2 ^ (j + 1) = 2 ^ j * 2 := Nat.pow_succ ..
    rw [half_pow, half_pow, show (m + 2 ^ (j + 1)) / 2 = m / 2 + 2 ^ j by omega, bit_add j k (m / 2) h]
    by_cases e : k = j
    · rw [if_pos e, if_pos (by omega)]
    · rw [if_neg e, if_neg (by omega)]
theorem bit_lt : ∀ n j m, m < 2 ^ n → j < n → m / 2 ^ j % 2 = 0 → m + 2 ^ j < 2 ^ n
  | 0, _, _, _, h, _ => absurd h (Nat.not_lt_zero _)
  | n + 1, 0, m, hm, _, h => by
    have hp : 2 ^ (n + 1) = 2 ^ n * 2 := Nat.pow_succ ..
    rw [Nat.pow_zero, Nat.div_one] at h
    rw [Nat.pow_zero]
    omega
  | n + 1, j + 1, m, hm, hj, h => by
    have hp : 2 ^ (n + 1) = 2 ^ n * 2 := Nat.pow_succ ..
    have hp2 : 2 ^ (j + 1) = 2 ^ j * 2 := Nat.pow_succ ..
    rw [half_pow] at h
    have := bit_lt n j (m / 2) (by omega) (by omega) h
    omega
theorem bit_some : ∀ n m, m < 2 ^ n → m ≠ 0 → ∃ k, k < n ∧ m / 2 ^ k % 2 = 1
  | 0, m, h, h0 => by rw [Nat.pow_zero] at h; omega
  | n + 1, m, h, h0 => by
    have hp : 2 ^ (n + 1) = 2 ^ n * 2 := Nat.pow_succ ..
    by_cases e : m % 2 = 1
    · exact ⟨0, by omega, by rw [Nat.pow_zero, Nat.div_one]; exact e⟩
    · obtain ⟨k, hk, hb⟩ := bit_some n (m / 2) (by omega) (by omega)
      exact ⟨k + 1, by omega, by rw [half_pow]; exact hb⟩
theorem bit_sub : ∀ k m, m / 2 ^ k % 2 = 1 → 2 ^ k ≤ m ∧ (m - 2 ^ k) / 2 ^ k % 2 = 0
  | 0, m, h => by
    rw [Nat.pow_zero, Nat.div_one] at h
    rw [Nat.pow_zero, Nat.div_one]
    omega
  | k + 1, m, h => by
    have hp : 2 ^ (k + 1) = 2 ^ k * 2 := Nat.pow_succ ..
    rw [half_pow] at h
    obtain ⟨h1, h2⟩ := bit_sub k (m / 2) h
    refine ⟨by omega, ?_⟩
    rw [half_pow, show (m - 2 ^ (k + 1)) / 2 = m / 2 - 2 ^ k by omega]
    exact h2
theorem pop_zero : ∀ k, pop k 0 = 0
  | 0 => rfl
  | k + 1 => by rw [pop, Nat.zero_mod, Nat.zero_div, pop_zero k]
theorem pop_le : ∀ k n m, m < 2 ^ n → pop k m ≤ n
  | 0, n, m, _ => Nat.zero_le _
  | k + 1, 0, m, h => by
    rw [Nat.pow_zero] at h
    obtain rfl : m = 0 := by omega
    rw [pop_zero]
    exact Nat.le_refl _
  | k + 1, n + 1, m, h => by
    have hp : 2 ^ (n + 1) = 2 ^ n * 2 := Nat.pow_succ ..
    have := pop_le k n (m / 2) (by omega)
    rw [pop]
    omega
theorem pop_full : ∀ k n m, m < 2 ^ n → pop k m = n → m = 2 ^ n - 1
  | _, 0, m, h, _ => by rw [Nat.pow_zero] at h ⊢; omega
  | 0, n + 1, m, _, hp => by cases hp
  | k + 1, n + 1, m, h, hp => by
    have h2 : 2 ^ (n + 1) = 2 ^ n * 2 := Nat.pow_succ ..
    have h0 : 0 < 2 ^ n := Nat.pow_pos (by omega)
    rw [pop] at hp
    have := pop_le k n (m / 2) (by omega)
    have := pop_full k n (m / 2) (by omega) (by omega)
    omega
/-- What is kept while the table is filled. -/
structure DpI (K n : Nat) (c : Nat → Nat → Int) (M j : Nat) (T : Nat → S152) : Prop where
  zero : T 0 = ⟨0, true, -1, 0⟩
  link : ∀ X, X ≠ 0 → (T X).f1 = true → ∃ Y k, k < n ∧ Y / 2 ^ k % 2 = 0 ∧ X = Y + 2 ^ k ∧ Y ≤ M ∧ Y < 2 ^ n ∧ (T Y).f1 = true ∧ T X = ⟨(T Y).f0 + c (pop K Y) k, true, k, Y⟩
  done : ∀ m k, (m < M ∨ m = M ∧ k < j) → k < n → m / 2 ^ k % 2 = 0 → m < 2 ^ n → (T (m + 2 ^ k)).f1 = true ∧ (T (m + 2 ^ k)).f0 ≤ (T m).f0 + c (pop K m) k
section
variable {K n M j : Nat} {c : Nat → Nat → Int} {T : Nat → S152}
theorem DpI.ok (h : DpI K n c M j T) {m : Nat} (hm : m ≤ M) (hn : m < 2 ^ n) : (T m).f1 = true := by
  by_cases e : m = 0
  · rw [e, h.zero]
  · obtain ⟨k, hk, hb⟩ := bit_some n m hn e
    obtain ⟨h1, h2⟩ := bit_sub k m hb
    have hp : 0 < 2 ^ k := Nat.pow_pos (by omega)
    have := (h.done (m - 2 ^ k) k (.inl (by omega)) hk h2 (by omega)).1
    rwa [show m - 2 ^ k + 2 ^ k = m by omega] at this
theorem DpI.start : DpI K n c 0 0 (upd (fun _ => z152) 0 ⟨0, true, -1, 0⟩) where
  zero := upd_self _ _ _
  link X hX h := by
    rw [upd_ne _ _ hX] at h
    cases h
  done m k hm := by omega
theorem DpI.skip (h : DpI K n c M j T) (hb : M / 2 ^ j % 2 ≠ 0) : DpI K n c M (j + 1) T where
  zero := h.zero
  link := h.link
  done m k hm hk hmk hmn := by
    refine h.done m k ?_ hk hmk hmn
    rcases hm with hm | ⟨rfl, hm⟩
    · exact .inl hm
    · by_cases e : k = j
      · rw [e] at hmk
        exact absurd hmk hb
      · exact .inr ⟨rfl, by omega⟩
theorem offS_ok (s : S152) (a p q : Int) : (offS s a p q).f1 = true ∧ (offS s a p q).f0 ≤ a ∧ (s.f1 = true → (offS s a p q).f0 ≤ s.f0) := by
  unfold offS
  split
  · rename_i h
    exact ⟨h.1, by omega, fun _ => Int.le_refl _⟩
  · rename_i h
    refine ⟨rfl, Int.le_refl _, fun hs => ?_⟩
    show a ≤ s.f0
    by_cases hl : a < s.f0
    · omega
    · exact absurd ⟨hs, hl⟩ h
theorem DpI.put (h : DpI K n c M j T) (hM : M < 2 ^ n) (hj : j < n) (hb : M / 2 ^ j % 2 = 0) :
    DpI K n c M (j + 1) (upd T (M + 2 ^ j) (offS (T (M + 2 ^ j)) ((T M).f0 + c (pop K M) j) j M)) := by
  have hp : 0 < 2 ^ j := Nat.pow_pos (by omega)
  have old : ∀ Y, Y ≤ M → upd T (M + 2 ^ j) (offS (T (M + 2 ^ j)) ((T M).f0 + c (pop K M) j) j M) Y = T Y := fun Y hY => upd_ne _ _ (by omega)
  obtain ⟨o1, o2, o3⟩ := offS_ok (T (M + 2 ^ j)) ((T M).f0 + c (pop K M) j) j M
  refine ⟨by rw [old 0 (Nat.zero_le _)]; exact h.zero, fun X hX hok => ?_, fun m k hm hk hmk hmn => ?_⟩
  · by_cases e : X = M + 2 ^ j
    · subst e
      rw [upd_self] at hok ⊢
      unfold offS at hok ⊢
      split at hok
      · rename_i hc
        rw [if_pos hc]
        obtain ⟨Y, k, a1, a2, a3, a4, a5, a6, a7⟩ := h.link _ hX hc.1
        have oY := old Y a4
        unfold offS at oY
        rw [if_pos hc] at oY
        exact ⟨Y, k, a1, a2, a3, a4, a5, by rw [oY]; exact a6, by rw [oY]; exact a7⟩
      · rename_i hc
        rw [if_neg hc]
        have oM := old M (Nat.le_refl _)
        unfold offS at oM
        rw [if_neg hc] at oM
        exact ⟨M, j, hj, hb, rfl, Nat.le_refl _, hM, by rw [oM]; exact h.ok (Nat.le_refl _) hM, by rw [oM]⟩
    · rw [upd_ne _ _ e] at hok ⊢
      obtain ⟨Y, k, a1, a2, a3, a4, a5, a6, a7⟩ := h.link X hX hok
      exact ⟨Y, k, a1, a2, a3, a4, a5, by rw [old Y a4]; exact a6, by rw [old Y a4]; exact a7⟩
  · have hmM : m ≤ M := by omega
    rw [old m hmM]
    by_cases e : m + 2 ^ k = M + 2 ^ j
    · rw [e, upd_self]
      refine ⟨o1, ?_⟩
      by_cases e2 : m = M ∧ k = j
      · obtain ⟨rfl, rfl⟩ := e2
        exact o2
      · have hold := h.done m k (by
          rcases hm with hm | ⟨rfl, hm⟩
          · exact .inl hm
          · exact .inr ⟨rfl, by
              have : k ≠ j := fun e3 => e2 ⟨rfl, e3⟩
              omega⟩) hk hmk hmn
        rw [e] at hold
        have := o3 hold.1
        omega
    · rw [upd_ne _ _ e]
      refine h.done m k ?_ hk hmk hmn
      rcases hm with hm | ⟨rfl, hm⟩
      · exact .inl hm
      · exact .inr ⟨rfl, by
          have : k ≠ j := fun e3 => e (by rw [e3])
          omega⟩
theorem DpI.next (h : DpI K n c M n T) : DpI K n c (M + 1) 0 T where
  zero := h.zero
  link X hX hok := by
    obtain ⟨Y, k, a1, a2, a3, a4, a5, a6, a7⟩ := h.link X hX hok
    exact ⟨Y, k, a1, a2, a3, by omega, a5, a6, a7⟩
  done m k hm hk hmk hmn := h.done m k (by omega) hk hmk hmn
end
/-- The set of the columns that the rows ahead of i take. -/
def msk (σ : Nat → Nat) : Nat → Nat
  | 0 => 0
  | i + 1 => msk σ i + 2 ^ σ i
theorem msk_congr {σ τ : Nat → Nat} : ∀ i, (∀ r, r < i → σ r = τ r) → msk σ i = msk τ i
  | 0, _ => rfl
  | i + 1, h => by rw [msk, msk, msk_congr i (fun r hr => h r (by omega)), h i (by omega)]
theorem msk_all {K n : Nat} {σ : Nat → Nat} (hl : ∀ r, r < n → σ r < n) (hK : n ≤ K) : ∀ i, i ≤ n → (∀ r s, r < i → s < i → σ r = σ s → r = s) →
    msk σ i < 2 ^ n ∧ pop K (msk σ i) = i ∧ ∀ k, (msk σ i / 2 ^ k % 2 = 1 ↔ ∃ r, r < i ∧ σ r = k)
  | 0, _, _ => ⟨Nat.pow_pos (by omega), pop_zero K, fun k => by rw [msk, Nat.zero_div]; exact ⟨fun h => (by cases h), fun ⟨r, h, _⟩ => absurd h (Nat.not_lt_zero _)⟩⟩
  | i + 1, hi, hinj => by
    obtain ⟨h1, h2, h3⟩ := msk_all hl hK i (by omega) (fun r s hr hs e => hinj r s (by omega) (by omega) e)
    have hz : msk σ i / 2 ^ σ i % 2 = 0 := by
      have : ¬ msk σ i / 2 ^ σ i % 2 = 1 := fun h => by
        obtain ⟨r, hr, e⟩ := (h3 _).1 h
        have := hinj r i (by omega) (by omega) e
        omega
      omega
    have hs := hl i (by omega)
    refine ⟨bit_lt n _ _ h1 hs hz, by rw [msk, pop_add K _ _ (by omega) hz, h2], fun k => ?_⟩
    rw [msk, bit_add _ _ _ hz]
    by_cases e : k = σ i
    · rw [if_pos e]
      exact ⟨fun _ => ⟨i, by omega, e.symm⟩, fun _ => rfl⟩
    · rw [if_neg e, h3]
      constructor
      · rintro ⟨r, hr, he⟩
        exact ⟨r, by omega, he⟩
      · rintro ⟨r, hr, he⟩
        refine ⟨r, ?_, he⟩
        have : r ≠ i := fun h => e (by rw [← he, h])
        omega
section
variable {K n : Nat} {c : Nat → Nat → Int} {T : Nat → S152}
theorem DpI.le (h : DpI K n c (2 ^ n) 0 T) (hK : n ≤ K) {σ : Nat → Nat} (hl : ∀ r, r < n → σ r < n) (hinj : ∀ r s, r < n → s < n → σ r = σ s → r = s) : ∀ i, i ≤ n → (T (msk σ i)).f0 ≤ sumTo i (fun r => c r (σ r))
  | 0, _ => by rw [msk, h.zero]; exact Int.le_refl _
  | i + 1, hi => by
    have ih := DpI.le h hK hl hinj i (by omega)
    obtain ⟨h1, h2, h3⟩ := msk_all hl hK i (by omega) (fun r s hr hs e => hinj r s (by omega) (by omega) e)
    have hz : msk σ i / 2 ^ σ i % 2 = 0 := by
      have : ¬ msk σ i / 2 ^ σ i % 2 = 1 := fun h => by
        obtain ⟨r, hr, e⟩ := (h3 _).1 h
        have := hinj r i (by omega) (by omega) e
        omega
      omega
    have := (h.done (msk σ i) (σ i) (.inl h1) (hl i (by omega)) hz h1).2
    rw [h2] at this
    rw [sumTo_succ, msk]
    omega
/-- What each cell tells is so much as some rows cost, and its moves are theirs. -/
theorem DpI.real (h : DpI K n c (2 ^ n) 0 T) (hK : n ≤ K) : ∀ (f X : Nat), X ≤ f → X < 2 ^ n → ∃ σ : Nat → Nat, (∀ r, r < pop K X → σ r < n) ∧ (∀ r s, r < pop K X → s < pop K X → σ r = σ s → r = s) ∧ msk σ (pop K X) = X ∧ (T X).f0 = sumTo (pop K X) (fun r => c r (σ r)) ∧
    (∀ k, (X / 2 ^ k % 2 = 1 ↔ ∃ r, r < pop K X ∧ σ r = k)) ∧ ∃ l, Chain (2 ^ n) T X l ∧ l.reverse = (List.range (pop K X)).map fun r => ((σ r : Nat) : Int)
  | f, X, hf, hX => by
    by_cases e : X = 0
    · subst e
      refine ⟨fun _ => 0, ?_, ?_, ?_, ?_, fun k => ?_, [], .nil 0 (by rw [h.zero]; show (-1 : Int) < 0; decide) hX, by rw [pop_zero]; rfl⟩
      · intro r hr; rw [pop_zero] at hr; omega
      · intro r s hr; rw [pop_zero] at hr; omega
      · rw [pop_zero]; rfl
      · rw [pop_zero, h.zero]; rfl
      · rw [Nat.zero_div, pop_zero]
        exact ⟨fun h => (by cases h), fun ⟨r, h, _⟩ => absurd h (Nat.not_lt_zero _)⟩
    · obtain ⟨Y, k, a1, a2, a3, a4, a5, a6, a7⟩ := h.link X e (h.ok (by omega) hX)
      have hp : 0 < 2 ^ k := Nat.pow_pos (by omega)
      match f, hf with
      | 0, hf => omega
      | f + 1, hf =>
        obtain ⟨σ, s1, s2, s3, s4, s5, l, s6, s7⟩ := DpI.real h hK f Y (by omega) a5
        have hpop : pop K X = pop K Y + 1 := by rw [a3, pop_add K k Y (by omega) a2]
        obtain ⟨p, hpY⟩ : ∃ p, p = pop K Y := ⟨_, rfl⟩
        rw [← hpY] at s1 s2 s3 s4 s5 s7 hpop
        have hno : ∀ r, r < p → σ r ≠ k := fun r hr er => by
          have := (s5 k).2 ⟨r, hr, er⟩
          omega
        rw [hpop]
        refine ⟨upd σ p k, fun r hr => ?_, fun r s hr hs ers => ?_, ?_, ?_, fun k' => ?_, (T X).f2 :: l, ?_, ?_⟩
        · by_cases er : r = p
          · rw [er, upd_self]; exact a1
          · rw [upd_ne _ _ er]; exact s1 r (by omega)
        · by_cases er : r = p
          · by_cases es : s = p
            · omega
            · rw [er, upd_self, upd_ne _ _ es] at ers
              exact absurd ers.symm (hno s (by omega))
          · by_cases es : s = p
            · rw [es, upd_self, upd_ne _ _ er] at ers
              exact absurd ers (hno r (by omega))
            · rw [upd_ne _ _ er, upd_ne _ _ es] at ers
              exact s2 r s (by omega) (by omega) ers
        · rw [msk, upd_self, msk_congr (τ := σ) p (fun r hr => upd_ne _ _ (by omega)), s3, a3]
        · rw [sumTo_succ, upd_self, sumTo_congr (g := fun r => c r (σ r)) (fun r hr => by rw [upd_ne _ _ (by omega)]), ← s4, a7, hpY]
        · rw [a3, bit_add _ _ _ a2]
          by_cases ek : k' = k
          · rw [if_pos ek]
            exact ⟨fun _ => ⟨p, by omega, by rw [upd_self, ek]⟩, fun _ => rfl⟩
          · rw [if_neg ek, s5]
            constructor
            · rintro ⟨r, hr, he⟩
              exact ⟨r, by omega, by rw [upd_ne _ _ (by omega)]; exact he⟩
            · rintro ⟨r, hr, he⟩
              by_cases er : r = p
              · rw [er, upd_self] at he
                omega
              · rw [upd_ne _ _ er] at he
                exact ⟨r, by omega, he⟩
        · exact .cons X Y l hX (by rw [a7]; exact Int.natCast_nonneg _) (by rw [a7]) s6
        · rw [List.reverse_cons, s7, List.range_succ, List.map_append, a7]
          congr 1
          · refine List.map_congr_left (fun r hr => ?_)
            rw [upd_ne _ _ (by have := List.mem_range.1 hr; omega)]
          · show [((k : Nat) : Int)] = [((upd σ p k p : Nat) : Int)]
            rw [upd_self]
theorem DpI.least (h : DpI K n c (2 ^ n) 0 T) (hK : n ≤ K) : ∃ σ, PM n (fun _ _ => false) σ ∧ (T (2 ^ n - 1)).f0 = cost n c σ ∧ IsLeast n c (fun _ _ => false) (some (T (2 ^ n - 1)).f0) ∧ ∃ l, Chain (2 ^ n) T (2 ^ n - 1) l ∧ l.reverse = (List.range n).map fun r => ((σ r : Nat) : Int) := by
  have h0 : 0 < 2 ^ n := Nat.pow_pos (by omega)
  have hall : ∀ m, pop m (2 ^ m - 1) = m ∧ True := fun m => ⟨by
    induction m with
    | zero => rfl
    | succ m ih =>
      have h2 : 2 ^ (m + 1) = 2 ^ m * 2 := Nat.pow_succ ..
      have h0 : 0 < 2 ^ m := Nat.pow_pos (by omega)
      rw [pop, show (2 ^ (m + 1) - 1) / 2 = 2 ^ m - 1 by omega, ih]
      omega, trivial⟩
  have hmore : ∀ d m x, x < 2 ^ m → pop (m + d) x = pop m x := fun d m => by
    induction m with
    | zero =>
      intro x hx
      rw [Nat.pow_zero] at hx
      obtain rfl : x = 0 := by omega
      rw [pop_zero, pop_zero]
    | succ m ih =>
      intro x hx
      have h2 : 2 ^ (m + 1) = 2 ^ m * 2 := Nat.pow_succ ..
      rw [show m + 1 + d = (m + d) + 1 by omega, pop, pop, ih (x / 2) (by omega)]
  have hpop : pop K (2 ^ n - 1) = n := by
    have := hmore (K - n) n (2 ^ n - 1) (by omega)
    rw [show n + (K - n) = K by omega] at this
    rw [this, (hall n).1]
  obtain ⟨σ, s1, s2, s3, s4, s5, l, s6, s7⟩ := DpI.real h hK _ (2 ^ n - 1) (Nat.le_refl _) (by omega)
  rw [hpop] at s1 s2 s4 s7
  have pm : PM n (fun _ _ => false) σ := ⟨⟨s1, s2⟩, fun _ _ => rfl⟩
  refine ⟨σ, pm, s4, ⟨⟨σ, pm, s4.symm⟩, fun τ hτ => ?_⟩, l, s6, s7⟩
  have h1 := DpI.le h hK hτ.inj.lt hτ.inj.inj n (Nat.le_refl _)
  obtain ⟨t1, t2, _⟩ := msk_all (K := K) hτ.inj.lt hK n (Nat.le_refl _) hτ.inj.inj
  rw [pop_full K n _ t1 t2] at h1
  exact h1
end
end Go.Proofs.Ytelabmhhnpfegaa.Hand
