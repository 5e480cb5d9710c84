/- Texts Ds Dkr Dt Ec Ed Ee Eo Ef Eg Rq Rp, cut to what is used. -/
import Derived.StillTailTactics
import Derived.Deep.QuietTactic
import Derived.BigQuiet
import Derived.Lib.BufferMore
import Derived.Test.YtelabmhhnpfegaaXa0
import Derived.Test.YtelabmhhnpfegaaXa2
import Derived.Test.YtelabmhhnpfegaaXa3
import Derived.Test.YtelabmhhnpfegaaXa4
import Derived.Test.YtelabmhhnpfegaaXa6
import Derived.Test.YtelabmhhnpfegaaXb0
import Derived.Test.YtelabmhhnpfegaaXb1
import Derived.Test.YtelabmhhnpfegaaXb3
set_option linter.unusedVariables false
set_option linter.unusedSimpArgs false
section
namespace Go.Proofs.Ytelabmhhnpfegaa.Hand
open Go.RowKit Go.Proofs.YtelabmhhnpfegaaW.PrintWords Go.Proofs.YtelabmhhnpfegaaW.PrintLast Go.Proofs.YtelabmhhnpfegaaW.PrintMore Go.Proofs.Ytelabmhhnpfegaa.PDynCells
attribute [local go_sem] max2_int min2_int
end Go.Proofs.Ytelabmhhnpfegaa.Hand
end
section
namespace Go.Proofs.Ytelabmhhnpfegaa.PDynCells
open Go.RowKit Go.Proofs.YtelabmhhnpfegaaW.PrintWords Go.Proofs.YtelabmhhnpfegaaW.PrintLast Go.Proofs.YtelabmhhnpfegaaW.PrintMore
attribute [local go_sem] max2_int min2_int max_two min_two max_three min_three max_four min_four
def slices_Reverse_int_int.l0 : Nat → List Int → Int → Int → Option (List Int)
 | 0, _, _, _ => none
 | k + 1, x0, x2, x3 => if x2 < x3 then (if 0 ≤ x3 then (if x3 < (x0.length : Int) then (if 0 ≤ x2 then (if x2 < (x0.length : Int) then (slices_Reverse_int_int.l0 k ((x0.set (x2 : Int).toNat (rd x0 x3)).set (x3 : Int).toNat (rd x0 x2)) (wrap64 (x2 + 1)) (wrap64 (x3 - 1))) else (none)) else (none)) else (none)) else (none)) else (some x0)
def slices_Reverse_int_int.f (k : Nat) (l0 : List Int) : Option (List Int) := slices_Reverse_int_int.l0 k l0 0 (wrap64 ((l0.length : Int) - 1))
theorem slices_Reverse_int_int.mono_l : ∀ k, (∀ y0 y1 y2, LeO (slices_Reverse_int_int.l0 k y0 y1 y2) (slices_Reverse_int_int.l0 (k + 1) y0 y1 y2))
 | 0 => fun _ _ _ r h => by simp [slices_Reverse_int_int.l0] at h
 | k + 1 => by
  have ih0 := slices_Reverse_int_int.mono_l k
  ·intro y0 y1 y2
   unfold slices_Reverse_int_int.l0
   repeat' first
   | (with_reducible exact ih0 _ _ _)
   | (with_reducible exact LeO.refl _)
   | (with_reducible exact LeO.none _)
   | (with_reducible refine LeO.ite ?_ ?_)
   | (with_reducible refine LeO.bind ?_ (fun _ => ?_))
   | exact ih0 _ _ _
   | exact LeO.none _
   | refine LeO.ite ?_ ?_
   | refine LeO.bind ?_ (fun _ => ?_)
theorem slices_Reverse_int_int.mono : ∀ a0 k, LeO (slices_Reverse_int_int.f k a0) (slices_Reverse_int_int.f (k + 1) a0) := by
 intro a0 k
 have ih0 := slices_Reverse_int_int.mono_l k
 unfold slices_Reverse_int_int.f
 repeat' first
   | (with_reducible exact ih0 _ _ _)
   | (with_reducible exact LeO.refl _)
   | (with_reducible exact LeO.none _)
   | (with_reducible refine LeO.ite ?_ ?_)
   | (with_reducible refine LeO.bind ?_ (fun _ => ?_))
   | exact ih0 _ _ _
   | exact LeO.none _
   | refine LeO.ite ?_ ?_
   | refine LeO.bind ?_ (fun _ => ?_)
def slices_Reverse_int_int.B3 : List Nat := [0, 0, 0, 0, 0, 0, 48, 112, 0, 0, 768, 1792, 4083, 8179, 16383, 32767]
end Go.Proofs.Ytelabmhhnpfegaa.PDynCells
end
section
namespace Go.Proofs.Ytelabmhhnpfegaa.Hand
open Go.RowKit Go.Proofs.YtelabmhhnpfegaaW.PrintWords Go.Proofs.YtelabmhhnpfegaaW.PrintLast Go.Proofs.YtelabmhhnpfegaaW.PrintMore Go.Proofs.Ytelabmhhnpfegaa.PDynCells
end Go.Proofs.Ytelabmhhnpfegaa.Hand
end
section
namespace Go.Proofs.Ytelabmhhnpfegaa.Hand
open Go.RowKit Go.Proofs.YtelabmhhnpfegaaW.PrintWords Go.Proofs.YtelabmhhnpfegaaW.PrintLast Go.Proofs.YtelabmhhnpfegaaW.PrintMore Go.Proofs.Ytelabmhhnpfegaa.PDynCells
def fldS (s : S152) (j : Nat) : Value := if j = 0 then .int .i64 s.f0 else if j = 1 then .bool s.f1 else if j = 2 then .int .i64 s.f2 else .int .i64 s.f3
def tabS (n : Nat) (f : Nat → S152) : Array Value := ((List.range (n * 4)).map fun j => fldS (f (j / 4)) (j % 4)).toArray
theorem tabS_at {n : Nat} {f : Nat → S152} {j : Nat} (h : j < n * 4) : (tabS n f)[j]? = some (fldS (f (j / 4)) (j % 4)) := by simp [tabS, h]
theorem tabS_get {n : Nat} {f : Nat → S152} {i j : Nat} (hi : i < n) (hj : j < 4) : (tabS n f)[i * 4 + j]? = some (fldS (f i) j) := by
 rw [tabS_at (by omega), show (i * 4 + j) / 4 = i by omega, show (i * 4 + j) % 4 = j by omega]
theorem tabS_set (n : Nat) (f : Nat → S152) (i : Nat) (s : S152) : ((((tabS n f).setIfInBounds (i * 4) (.int .i64 s.f0)).setIfInBounds (i * 4 + 1) (.bool s.f1)).setIfInBounds (i * 4 + 2) (.int .i64 s.f2)).setIfInBounds (i * 4 + 3) (.int .i64 s.f3) = tabS n (upd f i s) := by
 have hsz : (tabS n f).size = n * 4 := by simp [tabS]
 apply Array.ext_getElem?
 intro j
 by_cases hl : j < n * 4
 ·rw [tabS_at hl]
  by_cases hi : j / 4 = i
  ·rw [hi, upd_self]
   have h4 : j % 4 = 0 ∨ j % 4 = 1 ∨ j % 4 = 2 ∨ j % 4 = 3 := by omega
   rcases h4 with h | h | h | h <;> rw [h]
   ·obtain rfl : j = i * 4 := by omega
    simp [hsz, hl, fldS]
   ·obtain rfl : j = i * 4 + 1 := by omega
    simp [hsz, hl, fldS]
   ·obtain rfl : j = i * 4 + 2 := by omega
    simp [hsz, hl, fldS]
   ·obtain rfl : j = i * 4 + 3 := by omega
    simp [hsz, hl, fldS]
  ·rw [upd_ne _ _ hi, Array.getElem?_setIfInBounds, if_neg (by omega), Array.getElem?_setIfInBounds, if_neg (by omega), Array.getElem?_setIfInBounds, if_neg (by omega), Array.getElem?_setIfInBounds, if_neg (by omega), tabS_at hl]
 ·rw [Array.getElem?_eq_none (by simp [hsz]; omega), Array.getElem?_eq_none (by simp [tabS]; omega)]
def SB (w : World) (g n : Nat) (f : Nat → S152) : Prop := w.heap[g]? = some (.cells (tabS n f) 152 (0, 0))
section
variable {w : World} {g n i : Nat} {f : Nat → S152}
theorem SB.c0 (h : SB w g n f) (hi : i < n) : w.cell? ⟨g, i * 4, none⟩ = some (.int .i64 (f i).f0) := (blk_cell h _).trans (tabS_get (j := 0) hi (by omega))
theorem SB.c1 (h : SB w g n f) (hi : i < n) : w.cell? ⟨g, i * 4 + 1, none⟩ = some (.bool (f i).f1) := (blk_cell h _).trans (tabS_get hi (by omega))
theorem SB.c2 (h : SB w g n f) (hi : i < n) : w.cell? ⟨g, i * 4 + 2, none⟩ = some (.int .i64 (f i).f2) := (blk_cell h _).trans (tabS_get hi (by omega))
theorem SB.c3 (h : SB w g n f) (hi : i < n) : w.cell? ⟨g, i * 4 + 3, none⟩ = some (.int .i64 (f i).f3) := (blk_cell h _).trans (tabS_get hi (by omega))
theorem SB.z (h : SB w g n f) (i : Nat) : w.frozen? ⟨g, i, none⟩ = false := blk_frozen h i
theorem SB.set (h : SB w g n f) (i : Nat) (s : S152) : SB ((((w.setCell ⟨g, i * 4, none⟩ (.int .i64 s.f0)).setCell ⟨g, i * 4 + 1, none⟩ (.bool s.f1)).setCell ⟨g, i * 4 + 2, none⟩ (.int .i64 s.f2)).setCell ⟨g, i * 4 + 3, none⟩ (.int .i64 s.f3)) g n (upd f i s) := by
 unfold SB
 rw [← tabS_set]
 exact blk_set (blk_set (blk_set (blk_set h _ _) _ _) _ _) _ _
end
def offS (s : S152) (a p q : Int) : S152 := if s.f1 = true ∧ ¬ a < s.f0 then s else ⟨a, true, p, q⟩
end Go.Proofs.Ytelabmhhnpfegaa.Hand
end
section
namespace Go.Proofs.Ytelabmhhnpfegaa.Hand
open Go.RowKit Go.Proofs.YtelabmhhnpfegaaW.PrintWords Go.Proofs.YtelabmhhnpfegaaW.PrintLast Go.Proofs.YtelabmhhnpfegaaW.PrintMore Go.Proofs.Ytelabmhhnpfegaa.PDynCells
inductive Chain (n : Nat) (T : Nat → S152) : Nat → List Int → Prop
 | nil (X : Nat) (h : (T X).f2 < 0) (hX : X < n) : Chain n T X []
 | cons (X Y : Nat) (l : List Int) (hX : X < n) (h : 0 ≤ (T X).f2) (e : (T X).f3 = (Y : Int)) (hl : Chain n T Y l) : Chain n T X ((T X).f2 :: l)
theorem Chain.lt {n : Nat} {T : Nat → S152} {X : Nat} {l : List Int} (h : Chain n T X l) : X < n := by cases h <;> assumption
end Go.Proofs.Ytelabmhhnpfegaa.Hand
end
section
namespace Go.Proofs.Ytelabmhhnpfegaa.Hand
open Go.RowKit Go.Proofs.Ytelabmhhnpfegaa.PDynCells
def pop : Nat → Nat → Nat
 | 0, _ => 0
 | k + 1, m => m % 2 + pop k (m / 2)
theorem half_pow (m j : Nat) : m / 2 ^ (j + 1) = m / 2 / 2 ^ j := by rw [Nat.pow_succ, Nat.mul_comm, Nat.div_div_eq_div_mul]
theorem pop_add : ∀ k j m, j < k → m / 2 ^ j % 2 = 0 → pop k (m + 2 ^ j) = pop k m + 1
 | 0, _, _, h, _ => absurd h (Nat.not_lt_zero _)
 | k + 1, 0, m, _, h => by
  rw [Nat.pow_zero, Nat.div_one] at h
  rw [Nat.pow_zero, pop, pop, show (m + 1) / 2 = m / 2 by omega]
  omega
 | k + 1, j + 1, m, hj, h => by
  rw [half_pow] at h
  have hp : 2 ^ (j + 1) = 2 ^ j * 2 := Nat.pow_succ ..
  rw [pop, pop, show (m + 2 ^ (j + 1)) % 2 = m % 2 by omega, show (m + 2 ^ (j + 1)) / 2 = m / 2 + 2 ^ j by omega, pop_add k j (m / 2) (by omega) h]
  omega
theorem bit_add : ∀ j k m, m / 2 ^ j % 2 = 0 → (m + 2 ^ j) / 2 ^ k % 2 = if k = j then 1 else m / 2 ^ k % 2
 | 0, 0, m, h => by
  rw [Nat.pow_zero, Nat.div_one] at h
  rw [Nat.pow_zero, Nat.div_one, if_pos rfl]
  omega
 | 0, k + 1, m, h => by
  rw [Nat.pow_zero, Nat.div_one] at h
  rw [Nat.pow_zero, if_neg (by omega), half_pow, half_pow, show (m + 1) / 2 = m / 2 by omega]
 | j + 1, 0, m, h => by
  have hp : 2 ^ (j + 1) = 2 ^ j * 2 := Nat.pow_succ ..
  rw [Nat.pow_zero, Nat.div_one, Nat.div_one, if_neg (by omega)]
  omega
 | j + 1, k + 1, m, h => by
  rw [half_pow] at h
  have hp : 2 ^ (j + 1) = 2 ^ j * 2 := Nat.pow_succ ..
  rw [half_pow, half_pow, show (m + 2 ^ (j + 1)) / 2 = m / 2 + 2 ^ j by omega, bit_add j k (m / 2) h]
  by_cases e : k = j
  ·rw [if_pos e, if_pos (by omega)]
  ·rw [if_neg e, if_neg (by omega)]
theorem bit_lt : ∀ n j m, m < 2 ^ n → j < n → m / 2 ^ j % 2 = 0 → m + 2 ^ j < 2 ^ n
 | 0, _, _, _, h, _ => absurd h (Nat.not_lt_zero _)
 | n + 1, 0, m, hm, _, h => by
  have hp : 2 ^ (n + 1) = 2 ^ n * 2 := Nat.pow_succ ..
  rw [Nat.pow_zero, Nat.div_one] at h
  rw [Nat.pow_zero]
  omega
 | n + 1, j + 1, m, hm, hj, h => by
  have hp : 2 ^ (n + 1) = 2 ^ n * 2 := Nat.pow_succ ..
  have hp2 : 2 ^ (j + 1) = 2 ^ j * 2 := Nat.pow_succ ..
  rw [half_pow] at h
  have := bit_lt n j (m / 2) (by omega) (by omega) h
  omega
theorem bit_some : ∀ n m, m < 2 ^ n → m ≠ 0 → ∃ k, k < n ∧ m / 2 ^ k % 2 = 1
 | 0, m, h, h0 => by rw [Nat.pow_zero] at h; omega
 | n + 1, m, h, h0 => by
  have hp : 2 ^ (n + 1) = 2 ^ n * 2 := Nat.pow_succ ..
  by_cases e : m % 2 = 1
  ·exact ⟨0, by omega, by rw [Nat.pow_zero, Nat.div_one]; exact e⟩
  ·obtain ⟨k, hk, hb⟩ := bit_some n (m / 2) (by omega) (by omega)
   exact ⟨k + 1, by omega, by rw [half_pow]; exact hb⟩
theorem bit_sub : ∀ k m, m / 2 ^ k % 2 = 1 → 2 ^ k ≤ m ∧ (m - 2 ^ k) / 2 ^ k % 2 = 0
 | 0, m, h => by
  rw [Nat.pow_zero, Nat.div_one] at h
  rw [Nat.pow_zero, Nat.div_one]
  omega
 | k + 1, m, h => by
  have hp : 2 ^ (k + 1) = 2 ^ k * 2 := Nat.pow_succ ..
  rw [half_pow] at h
  obtain ⟨h1, h2⟩ := bit_sub k (m / 2) h
  refine ⟨by omega, ?_⟩
  rw [half_pow, show (m - 2 ^ (k + 1)) / 2 = m / 2 - 2 ^ k by omega]
  exact h2
theorem pop_zero : ∀ k, pop k 0 = 0
 | 0 => rfl
 | k + 1 => by rw [pop, Nat.zero_mod, Nat.zero_div, pop_zero k]
theorem pop_le : ∀ k n m, m < 2 ^ n → pop k m ≤ n
 | 0, n, m, _ => Nat.zero_le _
 | k + 1, 0, m, h => by
  rw [Nat.pow_zero] at h
  obtain rfl : m = 0 := by omega
  rw [pop_zero]
  exact Nat.le_refl _
 | k + 1, n + 1, m, h => by
  have hp : 2 ^ (n + 1) = 2 ^ n * 2 := Nat.pow_succ ..
  have := pop_le k n (m / 2) (by omega)
  rw [pop]
  omega
theorem pop_full : ∀ k n m, m < 2 ^ n → pop k m = n → m = 2 ^ n - 1
 | _, 0, m, h, _ => by rw [Nat.pow_zero] at h ⊢; omega
 | 0, n + 1, m, _, hp => by cases hp
 | k + 1, n + 1, m, h, hp => by
  have h2 : 2 ^ (n + 1) = 2 ^ n * 2 := Nat.pow_succ ..
  have h0 : 0 < 2 ^ n := Nat.pow_pos (by omega)
  rw [pop] at hp
  have := pop_le k n (m / 2) (by omega)
  have := pop_full k n (m / 2) (by omega) (by omega)
  omega
structure DpI (K n : Nat) (c : Nat → Nat → Int) (M j : Nat) (T : Nat → S152) : Prop where
 zero : T 0 = ⟨0, true, -1, 0⟩
 link : ∀ X, X ≠ 0 → (T X).f1 = true → ∃ Y k, k < n ∧ Y / 2 ^ k % 2 = 0 ∧ X = Y + 2 ^ k ∧ Y ≤ M ∧ Y < 2 ^ n ∧ (T Y).f1 = true ∧ T X = ⟨(T Y).f0 + c (pop K Y) k, true, k, Y⟩
 done : ∀ m k, (m < M ∨ m = M ∧ k < j) → k < n → m / 2 ^ k % 2 = 0 → m < 2 ^ n → (T (m + 2 ^ k)).f1 = true ∧ (T (m + 2 ^ k)).f0 ≤ (T m).f0 + c (pop K m) k
section
variable {K n M j : Nat} {c : Nat → Nat → Int} {T : Nat → S152}
theorem DpI.ok (h : DpI K n c M j T) {m : Nat} (hm : m ≤ M) (hn : m < 2 ^ n) : (T m).f1 = true := by
 by_cases e : m = 0
 ·rw [e, h.zero]
 ·obtain ⟨k, hk, hb⟩ := bit_some n m hn e
  obtain ⟨h1, h2⟩ := bit_sub k m hb
  have hp : 0 < 2 ^ k := Nat.pow_pos (by omega)
  have := (h.done (m - 2 ^ k) k (.inl (by omega)) hk h2 (by omega)).1
  rwa [show m - 2 ^ k + 2 ^ k = m by omega] at this
theorem DpI.start : DpI K n c 0 0 (upd (fun _ => z152) 0 ⟨0, true, -1, 0⟩) where
 zero := upd_self _ _ _
 link X hX h := by
  rw [upd_ne _ _ hX] at h
  cases h
 done m k hm := by omega
theorem DpI.skip (h : DpI K n c M j T) (hb : M / 2 ^ j % 2 ≠ 0) : DpI K n c M (j + 1) T where
 zero := h.zero
 link := h.link
 done m k hm hk hmk hmn := by
  refine h.done m k ?_ hk hmk hmn
  rcases hm with hm | ⟨rfl, hm⟩
  ·exact .inl hm
  ·by_cases e : k = j
   ·rw [e] at hmk
    exact absurd hmk hb
   ·exact .inr ⟨rfl, by omega⟩
theorem offS_ok (s : S152) (a p q : Int) : (offS s a p q).f1 = true ∧ (offS s a p q).f0 ≤ a ∧ (s.f1 = true → (offS s a p q).f0 ≤ s.f0) := by
 unfold offS
 split
 ·rename_i h
  exact ⟨h.1, by omega, fun _ => Int.le_refl _⟩
 ·rename_i h
  refine ⟨rfl, Int.le_refl _, fun hs => ?_⟩
  show a ≤ s.f0
  by_cases hl : a < s.f0
  ·omega
  ·exact absurd ⟨hs, hl⟩ h
theorem DpI.put (h : DpI K n c M j T) (hM : M < 2 ^ n) (hj : j < n) (hb : M / 2 ^ j % 2 = 0) :
  DpI K n c M (j + 1) (upd T (M + 2 ^ j) (offS (T (M + 2 ^ j)) ((T M).f0 + c (pop K M) j) j M)) := by
 have hp : 0 < 2 ^ j := Nat.pow_pos (by omega)
 have old : ∀ Y, Y ≤ M → upd T (M + 2 ^ j) (offS (T (M + 2 ^ j)) ((T M).f0 + c (pop K M) j) j M) Y = T Y := fun Y hY => upd_ne _ _ (by omega)
 obtain ⟨o1, o2, o3⟩ := offS_ok (T (M + 2 ^ j)) ((T M).f0 + c (pop K M) j) j M
 refine ⟨by rw [old 0 (Nat.zero_le _)]; exact h.zero, fun X hX hok => ?_, fun m k hm hk hmk hmn => ?_⟩
 ·by_cases e : X = M + 2 ^ j
  ·subst e
   rw [upd_self] at hok ⊢
   unfold offS at hok ⊢
   split at hok
   ·rename_i hc
    rw [if_pos hc]
    obtain ⟨Y, k, a1, a2, a3, a4, a5, a6, a7⟩ := h.link _ hX hc.1
    have oY := old Y a4
    unfold offS at oY
    rw [if_pos hc] at oY
    exact ⟨Y, k, a1, a2, a3, a4, a5, by rw [oY]; exact a6, by rw [oY]; exact a7⟩
   ·rename_i hc
    rw [if_neg hc]
    have oM := old M (Nat.le_refl _)
    unfold offS at oM
    rw [if_neg hc] at oM
    exact ⟨M, j, hj, hb, rfl, Nat.le_refl _, hM, by rw [oM]; exact h.ok (Nat.le_refl _) hM, by rw [oM]⟩
  ·rw [upd_ne _ _ e] at hok ⊢
   obtain ⟨Y, k, a1, a2, a3, a4, a5, a6, a7⟩ := h.link X hX hok
   exact ⟨Y, k, a1, a2, a3, a4, a5, by rw [old Y a4]; exact a6, by rw [old Y a4]; exact a7⟩
 ·have hmM : m ≤ M := by omega
  rw [old m hmM]
  by_cases e : m + 2 ^ k = M + 2 ^ j
  ·rw [e, upd_self]
   refine ⟨o1, ?_⟩
   by_cases e2 : m = M ∧ k = j
   ·obtain ⟨rfl, rfl⟩ := e2
    exact o2
   ·have hold := h.done m k (by
     rcases hm with hm | ⟨rfl, hm⟩
     ·exact .inl hm
     ·exact .inr ⟨rfl, by
       have : k ≠ j := fun e3 => e2 ⟨rfl, e3⟩
       omega⟩) hk hmk hmn
    rw [e] at hold
    have := o3 hold.1
    omega
  ·rw [upd_ne _ _ e]
   refine h.done m k ?_ hk hmk hmn
   rcases hm with hm | ⟨rfl, hm⟩
   ·exact .inl hm
   ·exact .inr ⟨rfl, by
     have : k ≠ j := fun e3 => e (by rw [e3])
     omega⟩
theorem DpI.next (h : DpI K n c M n T) : DpI K n c (M + 1) 0 T where
 zero := h.zero
 link X hX hok := by
  obtain ⟨Y, k, a1, a2, a3, a4, a5, a6, a7⟩ := h.link X hX hok
  exact ⟨Y, k, a1, a2, a3, by omega, a5, a6, a7⟩
 done m k hm hk hmk hmn := h.done m k (by omega) hk hmk hmn
end
def msk (σ : Nat → Nat) : Nat → Nat
 | 0 => 0
 | i + 1 => msk σ i + 2 ^ σ i
theorem msk_congr {σ τ : Nat → Nat} : ∀ i, (∀ r, r < i → σ r = τ r) → msk σ i = msk τ i
 | 0, _ => rfl
 | i + 1, h => by rw [msk, msk, msk_congr i (fun r hr => h r (by omega)), h i (by omega)]
theorem msk_all {K n : Nat} {σ : Nat → Nat} (hl : ∀ r, r < n → σ r < n) (hK : n ≤ K) : ∀ i, i ≤ n → (∀ r s, r < i → s < i → σ r = σ s → r = s) →
  msk σ i < 2 ^ n ∧ pop K (msk σ i) = i ∧ ∀ k, (msk σ i / 2 ^ k % 2 = 1 ↔ ∃ r, r < i ∧ σ r = k)
 | 0, _, _ => ⟨Nat.pow_pos (by omega), pop_zero K, fun k => by rw [msk, Nat.zero_div]; exact ⟨fun h => (by cases h), fun ⟨r, h, _⟩ => absurd h (Nat.not_lt_zero _)⟩⟩
 | i + 1, hi, hinj => by
  obtain ⟨h1, h2, h3⟩ := msk_all hl hK i (by omega) (fun r s hr hs e => hinj r s (by omega) (by omega) e)
  have hz : msk σ i / 2 ^ σ i % 2 = 0 := by
   have : ¬ msk σ i / 2 ^ σ i % 2 = 1 := fun h => by
    obtain ⟨r, hr, e⟩ := (h3 _).1 h
    have := hinj r i (by omega) (by omega) e
    omega
   omega
  have hs := hl i (by omega)
  refine ⟨bit_lt n _ _ h1 hs hz, by rw [msk, pop_add K _ _ (by omega) hz, h2], fun k => ?_⟩
  rw [msk, bit_add _ _ _ hz]
  by_cases e : k = σ i
  ·rw [if_pos e]
   exact ⟨fun _ => ⟨i, by omega, e.symm⟩, fun _ => rfl⟩
  ·rw [if_neg e, h3]
   constructor
   ·rintro ⟨r, hr, he⟩
    exact ⟨r, by omega, he⟩
   ·rintro ⟨r, hr, he⟩
    refine ⟨r, ?_, he⟩
    have : r ≠ i := fun h => e (by rw [← he, h])
    omega
section
variable {K n : Nat} {c : Nat → Nat → Int} {T : Nat → S152}
theorem DpI.le (h : DpI K n c (2 ^ n) 0 T) (hK : n ≤ K) {σ : Nat → Nat} (hl : ∀ r, r < n → σ r < n) (hinj : ∀ r s, r < n → s < n → σ r = σ s → r = s) : ∀ i, i ≤ n → (T (msk σ i)).f0 ≤ sumTo i (fun r => c r (σ r))
 | 0, _ => by rw [msk, h.zero]; exact Int.le_refl _
 | i + 1, hi => by
  have ih := DpI.le h hK hl hinj i (by omega)
  obtain ⟨h1, h2, h3⟩ := msk_all hl hK i (by omega) (fun r s hr hs e => hinj r s (by omega) (by omega) e)
  have hz : msk σ i / 2 ^ σ i % 2 = 0 := by
   have : ¬ msk σ i / 2 ^ σ i % 2 = 1 := fun h => by
    obtain ⟨r, hr, e⟩ := (h3 _).1 h
    have := hinj r i (by omega) (by omega) e
    omega
   omega
  have := (h.done (msk σ i) (σ i) (.inl h1) (hl i (by omega)) hz h1).2
  rw [h2] at this
  rw [sumTo_succ, msk]
  omega
theorem DpI.real (h : DpI K n c (2 ^ n) 0 T) (hK : n ≤ K) : ∀ (f X : Nat), X ≤ f → X < 2 ^ n → ∃ σ : Nat → Nat, (∀ r, r < pop K X → σ r < n) ∧ (∀ r s, r < pop K X → s < pop K X → σ r = σ s → r = s) ∧ msk σ (pop K X) = X ∧ (T X).f0 = sumTo (pop K X) (fun r => c r (σ r)) ∧
  (∀ k, (X / 2 ^ k % 2 = 1 ↔ ∃ r, r < pop K X ∧ σ r = k)) ∧ ∃ l, Chain (2 ^ n) T X l ∧ l.reverse = (List.range (pop K X)).map fun r => ((σ r : Nat) : Int)
 | f, X, hf, hX => by
  by_cases e : X = 0
  ·subst e
   refine ⟨fun _ => 0, ?_, ?_, ?_, ?_, fun k => ?_, [], .nil 0 (by rw [h.zero]; show (-1 : Int) < 0; decide) hX, by rw [pop_zero]; rfl⟩
   ·intro r hr; rw [pop_zero] at hr; omega
   ·intro r s hr; rw [pop_zero] at hr; omega
   ·rw [pop_zero]; rfl
   ·rw [pop_zero, h.zero]; rfl
   ·rw [Nat.zero_div, pop_zero]
    exact ⟨fun h => (by cases h), fun ⟨r, h, _⟩ => absurd h (Nat.not_lt_zero _)⟩
  ·obtain ⟨Y, k, a1, a2, a3, a4, a5, a6, a7⟩ := h.link X e (h.ok (by omega) hX)
   have hp : 0 < 2 ^ k := Nat.pow_pos (by omega)
   match f, hf with
   | 0, hf => omega
   | f + 1, hf =>
    obtain ⟨σ, s1, s2, s3, s4, s5, l, s6, s7⟩ := DpI.real h hK f Y (by omega) a5
    have hpop : pop K X = pop K Y + 1 := by rw [a3, pop_add K k Y (by omega) a2]
    obtain ⟨p, hpY⟩ : ∃ p, p = pop K Y := ⟨_, rfl⟩
    rw [← hpY] at s1 s2 s3 s4 s5 s7 hpop
    have hno : ∀ r, r < p → σ r ≠ k := fun r hr er => by
     have := (s5 k).2 ⟨r, hr, er⟩
     omega
    rw [hpop]
    refine ⟨upd σ p k, fun r hr => ?_, fun r s hr hs ers => ?_, ?_, ?_, fun k' => ?_, (T X).f2 :: l, ?_, ?_⟩
    ·by_cases er : r = p
     ·rw [er, upd_self]; exact a1
     ·rw [upd_ne _ _ er]; exact s1 r (by omega)
    ·by_cases er : r = p
     ·by_cases es : s = p
      ·omega
      ·rw [er, upd_self, upd_ne _ _ es] at ers
       exact absurd ers.symm (hno s (by omega))
     ·by_cases es : s = p
      ·rw [es, upd_self, upd_ne _ _ er] at ers
       exact absurd ers (hno r (by omega))
      ·rw [upd_ne _ _ er, upd_ne _ _ es] at ers
       exact s2 r s (by omega) (by omega) ers
    ·rw [msk, upd_self, msk_congr (τ := σ) p (fun r hr => upd_ne _ _ (by omega)), s3, a3]
    ·rw [sumTo_succ, upd_self, sumTo_congr (g := fun r => c r (σ r)) (fun r hr => by rw [upd_ne _ _ (by omega)]), ← s4, a7, hpY]
    ·rw [a3, bit_add _ _ _ a2]
     by_cases ek : k' = k
     ·rw [if_pos ek]
      exact ⟨fun _ => ⟨p, by omega, by rw [upd_self, ek]⟩, fun _ => rfl⟩
     ·rw [if_neg ek, s5]
      constructor
      ·rintro ⟨r, hr, he⟩
       exact ⟨r, by omega, by rw [upd_ne _ _ (by omega)]; exact he⟩
      ·rintro ⟨r, hr, he⟩
       by_cases er : r = p
       ·rw [er, upd_self] at he
        omega
       ·rw [upd_ne _ _ er] at he
        exact ⟨r, by omega, he⟩
    ·exact .cons X Y l hX (by rw [a7]; exact Int.natCast_nonneg _) (by rw [a7]) s6
    ·rw [List.reverse_cons, s7, List.range_succ, List.map_append, a7]
     congr 1
     ·refine List.map_congr_left (fun r hr => ?_)
      rw [upd_ne _ _ (by have := List.mem_range.1 hr; omega)]
     ·show [((k : Nat) : Int)] = [((upd σ p k p : Nat) : Int)]
      rw [upd_self]
theorem DpI.least (h : DpI K n c (2 ^ n) 0 T) (hK : n ≤ K) : ∃ σ, PM n (fun _ _ => false) σ ∧ (T (2 ^ n - 1)).f0 = cost n c σ ∧ IsLeast n c (fun _ _ => false) (some (T (2 ^ n - 1)).f0) ∧ ∃ l, Chain (2 ^ n) T (2 ^ n - 1) l ∧ l.reverse = (List.range n).map fun r => ((σ r : Nat) : Int) := by
 have h0 : 0 < 2 ^ n := Nat.pow_pos (by omega)
 have hall : ∀ m, pop m (2 ^ m - 1) = m ∧ True := fun m => ⟨by
  induction m with
  | zero => rfl
  | succ m ih =>
   have h2 : 2 ^ (m + 1) = 2 ^ m * 2 := Nat.pow_succ ..
   have h0 : 0 < 2 ^ m := Nat.pow_pos (by omega)
   rw [pop, show (2 ^ (m + 1) - 1) / 2 = 2 ^ m - 1 by omega, ih]
   omega, trivial⟩
 have hmore : ∀ d m x, x < 2 ^ m → pop (m + d) x = pop m x := fun d m => by
  induction m with
  | zero =>
   intro x hx
   rw [Nat.pow_zero] at hx
   obtain rfl : x = 0 := by omega
   rw [pop_zero, pop_zero]
  | succ m ih =>
   intro x hx
   have h2 : 2 ^ (m + 1) = 2 ^ m * 2 := Nat.pow_succ ..
   rw [show m + 1 + d = (m + d) + 1 by omega, pop, pop, ih (x / 2) (by omega)]
 have hpop : pop K (2 ^ n - 1) = n := by
  have := hmore (K - n) n (2 ^ n - 1) (by omega)
  rw [show n + (K - n) = K by omega] at this
  rw [this, (hall n).1]
 obtain ⟨σ, s1, s2, s3, s4, s5, l, s6, s7⟩ := DpI.real h hK _ (2 ^ n - 1) (Nat.le_refl _) (by omega)
 rw [hpop] at s1 s2 s4 s7
 have pm : PM n (fun _ _ => false) σ := ⟨⟨s1, s2⟩, fun _ _ => rfl⟩
 refine ⟨σ, pm, s4, ⟨⟨σ, pm, s4.symm⟩, fun τ hτ => ?_⟩, l, s6, s7⟩
 have h1 := DpI.le h hK hτ.inj.lt hτ.inj.inj n (Nat.le_refl _)
 obtain ⟨t1, t2, _⟩ := msk_all (K := K) hτ.inj.lt hK n (Nat.le_refl _) hτ.inj.inj
 rw [pop_full K n _ t1 t2] at h1
 exact h1
end
end Go.Proofs.Ytelabmhhnpfegaa.Hand
end
section
namespace Go.Proofs.Ytelabmhhnpfegaa.PDynCells
open Go.RowKit Go.Proofs.YtelabmhhnpfegaaW.PrintWords Go.Proofs.YtelabmhhnpfegaaW.PrintLast Go.Proofs.YtelabmhhnpfegaaW.PrintMore
def bits_OnesCount64.f (a0 : Int) : Option (Int) := some (Go.bits .and .i64 (wrap64 (IntKind.u64.wrap ((IntKind.u64.wrap ((IntKind.u64.wrap ((Go.bits .and .u64 (IntKind.u64.wrap (((IntKind.u64.wrap ((Go.bits .and .u64 ((IntKind.u64.wrap ((Go.bits .and .u64 (a0 / 2) 6148914691236517205) + (Go.bits .and .u64 a0 6148914691236517205))) / 4) 3689348814741910323) + (Go.bits .and .u64 (IntKind.u64.wrap ((Go.bits .and .u64 (a0 / 2) 6148914691236517205) + (Go.bits .and .u64 a0 6148914691236517205))) 3689348814741910323))) / 16) + (IntKind.u64.wrap ((Go.bits .and .u64 ((IntKind.u64.wrap ((Go.bits .and .u64 (a0 / 2) 6148914691236517205) + (Go.bits .and .u64 a0 6148914691236517205))) / 4) 3689348814741910323) + (Go.bits .and .u64 (IntKind.u64.wrap ((Go.bits .and .u64 (a0 / 2) 6148914691236517205) + (Go.bits .and .u64 a0 6148914691236517205))) 3689348814741910323))))) 1085102592571150095) + ((Go.bits .and .u64 (IntKind.u64.wrap (((IntKind.u64.wrap ((Go.bits .and .u64 ((IntKind.u64.wrap ((Go.bits .and .u64 (a0 / 2) 6148914691236517205) + (Go.bits .and .u64 a0 6148914691236517205))) / 4) 3689348814741910323) + (Go.bits .and .u64 (IntKind.u64.wrap ((Go.bits .and .u64 (a0 / 2) 6148914691236517205) + (Go.bits .and .u64 a0 6148914691236517205))) 3689348814741910323))) / 16) + (IntKind.u64.wrap ((Go.bits .and .u64 ((IntKind.u64.wrap ((Go.bits .and .u64 (a0 / 2) 6148914691236517205) + (Go.bits .and .u64 a0 6148914691236517205))) / 4) 3689348814741910323) + (Go.bits .and .u64 (IntKind.u64.wrap ((Go.bits .and .u64 (a0 / 2) 6148914691236517205) + (Go.bits .and .u64 a0 6148914691236517205))) 3689348814741910323))))) 1085102592571150095) / 256))) + ((IntKind.u64.wrap ((Go.bits .and .u64 (IntKind.u64.wrap (((IntKind.u64.wrap ((Go.bits .and .u64 ((IntKind.u64.wrap ((Go.bits .and .u64 (a0 / 2) 6148914691236517205) + (Go.bits .and .u64 a0 6148914691236517205))) / 4) 3689348814741910323) + (Go.bits .and .u64 (IntKind.u64.wrap ((Go.bits .and .u64 (a0 / 2) 6148914691236517205) + (Go.bits .and .u64 a0 6148914691236517205))) 3689348814741910323))) / 16) + (IntKind.u64.wrap ((Go.bits .and .u64 ((IntKind.u64.wrap ((Go.bits .and .u64 (a0 / 2) 6148914691236517205) + (Go.bits .and .u64 a0 6148914691236517205))) / 4) 3689348814741910323) + (Go.bits .and .u64 (IntKind.u64.wrap ((Go.bits .and .u64 (a0 / 2) 6148914691236517205) + (Go.bits .and .u64 a0 6148914691236517205))) 3689348814741910323))))) 1085102592571150095) + ((Go.bits .and .u64 (IntKind.u64.wrap (((IntKind.u64.wrap ((Go.bits .and .u64 ((IntKind.u64.wrap ((Go.bits .and .u64 (a0 / 2) 6148914691236517205) + (Go.bits .and .u64 a0 6148914691236517205))) / 4) 3689348814741910323) + (Go.bits .and .u64 (IntKind.u64.wrap ((Go.bits .and .u64 (a0 / 2) 6148914691236517205) + (Go.bits .and .u64 a0 6148914691236517205))) 3689348814741910323))) / 16) + (IntKind.u64.wrap ((Go.bits .and .u64 ((IntKind.u64.wrap ((Go.bits .and .u64 (a0 / 2) 6148914691236517205) + (Go.bits .and .u64 a0 6148914691236517205))) / 4) 3689348814741910323) + (Go.bits .and .u64 (IntKind.u64.wrap ((Go.bits .and .u64 (a0 / 2) 6148914691236517205) + (Go.bits .and .u64 a0 6148914691236517205))) 3689348814741910323))))) 1085102592571150095) / 256))) / 65536))) + ((IntKind.u64.wrap ((IntKind.u64.wrap ((Go.bits .and .u64 (IntKind.u64.wrap (((IntKind.u64.wrap ((Go.bits .and .u64 ((IntKind.u64.wrap ((Go.bits .and .u64 (a0 / 2) 6148914691236517205) + (Go.bits .and .u64 a0 6148914691236517205))) / 4) 3689348814741910323) + (Go.bits .and .u64 (IntKind.u64.wrap ((Go.bits .and .u64 (a0 / 2) 6148914691236517205) + (Go.bits .and .u64 a0 6148914691236517205))) 3689348814741910323))) / 16) + (IntKind.u64.wrap ((Go.bits .and .u64 ((IntKind.u64.wrap ((Go.bits .and .u64 (a0 / 2) 6148914691236517205) + (Go.bits .and .u64 a0 6148914691236517205))) / 4) 3689348814741910323) + (Go.bits .and .u64 (IntKind.u64.wrap ((Go.bits .and .u64 (a0 / 2) 6148914691236517205) + (Go.bits .and .u64 a0 6148914691236517205))) 3689348814741910323))))) 1085102592571150095) + ((Go.bits .and .u64 (IntKind.u64.wrap (((IntKind.u64.wrap ((Go.bits .and .u64 ((IntKind.u64.wrap ((Go.bits .and .u64 (a0 / 2) 6148914691236517205) + (Go.bits .and .u64 a0 6148914691236517205))) / 4) 3689348814741910323) + (Go.bits .and .u64 (IntKind.u64.wrap ((Go.bits .and .u64 (a0 / 2) 6148914691236517205) + (Go.bits .and .u64 a0 6148914691236517205))) 3689348814741910323))) / 16) + (IntKind.u64.wrap ((Go.bits .and .u64 ((IntKind.u64.wrap ((Go.bits .and .u64 (a0 / 2) 6148914691236517205) + (Go.bits .and .u64 a0 6148914691236517205))) / 4) 3689348814741910323) + (Go.bits .and .u64 (IntKind.u64.wrap ((Go.bits .and .u64 (a0 / 2) 6148914691236517205) + (Go.bits .and .u64 a0 6148914691236517205))) 3689348814741910323))))) 1085102592571150095) / 256))) + ((IntKind.u64.wrap ((Go.bits .and .u64 (IntKind.u64.wrap (((IntKind.u64.wrap ((Go.bits .and .u64 ((IntKind.u64.wrap ((Go.bits .and .u64 (a0 / 2) 6148914691236517205) + (Go.bits .and .u64 a0 6148914691236517205))) / 4) 3689348814741910323) + (Go.bits .and .u64 (IntKind.u64.wrap ((Go.bits .and .u64 (a0 / 2) 6148914691236517205) + (Go.bits .and .u64 a0 6148914691236517205))) 3689348814741910323))) / 16) + (IntKind.u64.wrap ((Go.bits .and .u64 ((IntKind.u64.wrap ((Go.bits .and .u64 (a0 / 2) 6148914691236517205) + (Go.bits .and .u64 a0 6148914691236517205))) / 4) 3689348814741910323) + (Go.bits .and .u64 (IntKind.u64.wrap ((Go.bits .and .u64 (a0 / 2) 6148914691236517205) + (Go.bits .and .u64 a0 6148914691236517205))) 3689348814741910323))))) 1085102592571150095) + ((Go.bits .and .u64 (IntKind.u64.wrap (((IntKind.u64.wrap ((Go.bits .and .u64 ((IntKind.u64.wrap ((Go.bits .and .u64 (a0 / 2) 6148914691236517205) + (Go.bits .and .u64 a0 6148914691236517205))) / 4) 3689348814741910323) + (Go.bits .and .u64 (IntKind.u64.wrap ((Go.bits .and .u64 (a0 / 2) 6148914691236517205) + (Go.bits .and .u64 a0 6148914691236517205))) 3689348814741910323))) / 16) + (IntKind.u64.wrap ((Go.bits .and .u64 ((IntKind.u64.wrap ((Go.bits .and .u64 (a0 / 2) 6148914691236517205) + (Go.bits .and .u64 a0 6148914691236517205))) / 4) 3689348814741910323) + (Go.bits .and .u64 (IntKind.u64.wrap ((Go.bits .and .u64 (a0 / 2) 6148914691236517205) + (Go.bits .and .u64 a0 6148914691236517205))) 3689348814741910323))))) 1085102592571150095) / 256))) / 65536))) / 4294967296)))) 127)
def bits_OnesCount.f (a0 : Int) : Option (Int) := (bits_OnesCount64.f a0).bind fun t208 => (some t208)
end Go.Proofs.Ytelabmhhnpfegaa.PDynCells
namespace Go.Proofs.Ytelabmhhnpfegaa.Hand
open Go.RowKit Go.Proofs.YtelabmhhnpfegaaW.PrintWords Go.Proofs.YtelabmhhnpfegaaW.PrintLast Go.Proofs.YtelabmhhnpfegaaW.PrintMore Go.Proofs.Ytelabmhhnpfegaa.PDynCells
end Go.Proofs.Ytelabmhhnpfegaa.Hand
end
section
namespace Go.Proofs.Ytelabmhhnpfegaa.Hand
open Go.RowKit Go.Proofs.YtelabmhhnpfegaaW.PrintWords Go.Proofs.YtelabmhhnpfegaaW.PrintLast Go.Proofs.YtelabmhhnpfegaaW.PrintMore Go.Proofs.Ytelabmhhnpfegaa.PDynCells
def costA (x : PI) : Nat → Nat → Int := fun i k => (x.cost.getD i []).getD k 0
theorem least_is (x : PI) (hn : x.cost.length ≤ 9) : ∃ z, IsLeast x.cost.length (costA x) (fun _ _ => false) (some z) := by
 have key : ∀ M, M ≤ 2 ^ x.cost.length → ∃ T, DpI 9 x.cost.length (costA x) M 0 T := by
  intro M
  induction M with
  | zero => exact fun _ => ⟨_, DpI.start⟩
  | succ M ih =>
   intro hM
   obtain ⟨T, hT⟩ := ih (by omega)
   have key2 : ∀ j, j ≤ x.cost.length → ∃ T, DpI 9 x.cost.length (costA x) M j T := by
    intro j
    induction j with
    | zero => exact fun _ => ⟨T, hT⟩
    | succ j ih =>
     intro hj
     obtain ⟨T, hT⟩ := ih (by omega)
     by_cases hb : M / 2 ^ j % 2 = 0
     ·exact ⟨_, hT.put (by omega) (by omega) hb⟩
     ·exact ⟨_, hT.skip hb⟩
   obtain ⟨T, hT⟩ := key2 _ (Nat.le_refl _)
   exact ⟨T, hT.next⟩
 obtain ⟨T, hT⟩ := key _ (Nat.le_refl _)
 obtain ⟨σ, _, _, h, _⟩ := hT.least hn
 exact ⟨_, h⟩
theorem DpI.bd {K n M j : Nat} {c : Nat → Nat → Int} {T : Nat → S152} (h : DpI K n c M j T) (hc : ∀ i k, -2147483648 ≤ c i k ∧ c i k ≤ 2147483648) : ∀ (f X : Nat), X ≤ f → (T X).f1 = true → -(2147483648 * X) ≤ (T X).f0 ∧ (T X).f0 ≤ 2147483648 * X
 | f, X, hf, hok => by
  by_cases e : X = 0
  ·subst e
   rw [h.zero]
   exact ⟨Int.le_refl _, Int.le_refl _⟩
  ·obtain ⟨Y, k, a1, a2, a3, a4, a5, a6, a7⟩ := h.link X e hok
   have hp : 0 < 2 ^ k := Nat.pow_pos (by omega)
   match f, hf with
   | 0, hf => omega
   | f + 1, hf =>
    have ih := DpI.bd h hc f Y (by omega) a6
    have := hc (pop K Y) k
    rw [a7]
    show -(2147483648 * (X : Int)) ≤ (T Y).f0 + c (pop K Y) k ∧ (T Y).f0 + c (pop K Y) k ≤ 2147483648 * X
    omega
theorem costA_bd {x : PI} (hb : ∀ r ∈ x.cost, ∀ z ∈ r, -2147483648 ≤ z ∧ z ≤ 2147483648) (i k : Nat) : -2147483648 ≤ costA x i k ∧ costA x i k ≤ 2147483648 := by
 unfold costA
 have hr : ∀ z ∈ x.cost.getD i [], -2147483648 ≤ z ∧ z ≤ 2147483648 := by
  by_cases hi : i < x.cost.length
  ·rw [List.getD_eq_getElem?_getD, List.getElem?_eq_getElem hi, Option.getD_some]
   exact hb _ (List.getElem_mem _)
  ·rw [List.getD_eq_getElem?_getD, List.getElem?_eq_none (by omega)]
   intro z hz
   cases hz
 obtain ⟨r, hr'⟩ : ∃ r, r = x.cost.getD i [] := ⟨_, rfl⟩
 rw [← hr'] at hr ⊢
 by_cases hk : k < r.length
 ·rw [List.getD_eq_getElem?_getD, List.getElem?_eq_getElem hk, Option.getD_some]
  exact hr _ (List.getElem_mem _)
 ·rw [List.getD_eq_getElem?_getD, List.getElem?_eq_none (by omega)]
  decide
end Go.Proofs.Ytelabmhhnpfegaa.Hand
end
section
namespace Go.Proofs.Ytelabmhhnpfegaa.Hand
open Go.RowKit Go.Proofs.YtelabmhhnpfegaaW.PrintWords Go.Proofs.YtelabmhhnpfegaaW.PrintLast Go.Proofs.YtelabmhhnpfegaaW.PrintMore Go.Proofs.Ytelabmhhnpfegaa.PDynCells
def tabV (n : Nat) (f : Nat → Value) : Array Value := ((List.range n).map f).toArray
theorem tabV_get {n : Nat} {f : Nat → Value} {i : Nat} (h : i < n) : (tabV n f)[i]? = some (f i) := by simp [tabV, h]
theorem tabV_set (n : Nat) (f : Nat → Value) (i : Nat) (x : Value) : (tabV n f).setIfInBounds i x = tabV n (upd f i x) := by
 apply Array.ext_getElem?
 intro j
 rw [Array.getElem?_setIfInBounds]
 by_cases h : i = j
 ·subst h
  rw [if_pos rfl]
  by_cases hl : i < n
  ·rw [tabV_get hl, upd_self]
   simp [tabV, hl]
  ·simp [tabV, hl]
 ·rw [if_neg h]
  by_cases hl : j < n
  ·rw [tabV_get hl, tabV_get hl, upd_ne _ _ (fun e => h e.symm)]
  ·simp [tabV, hl]
theorem made_V (z : Value) (n : Nat) : madeCells #[z] n = tabV n (fun _ => z) := by
 apply Array.ext_getElem?
 intro j
 by_cases hl : j < n
 ·rw [tabV_get hl]; simp [madeCells, hl, Nat.mod_one]
 ·simp [madeCells, tabV, hl]
theorem infoR35 : (Try.prog.info? 35).map (fun i => (i.zero, i.size, i.bytes)) = some (some (.slice none 0 0), 1, 24) := by kernel_rfl
theorem mk23 (n : Nat) (hn : n ≤ 64) (W : World) : (Instr.makeSlice 23 (.int .i64 (n : Int)) (.int .i64 (n : Int))).run Try.prog W = .ok (.slice (some ⟨W.heap.size, 0, none⟩) n n) (W.alloc (.cells (tabV n fun _ => .slice none 0 0) 35)) := by
 rw [← made_V]
 exact print_make_of 23 35 (.slice none 0 0) 24 Try.underlying23 infoR35 rfl (by omega) n (by omega) W
def Rows (w : World) (g n i : Nat) : Prop := ∃ f : Nat → Value, w.heap[g]? = some (.cells (tabV n f) 35 (0, 0)) ∧ ∀ k, k < i → ∃ b, f k = .slice (some ⟨b, 0, none⟩) n n ∧ b ≠ g ∧ BB w b n (fun _ => false)
theorem Rows.below {w w1 : World} {g n i : Nat} (h : Rows w g n i) (hb : Below w.heap.size w w1) : Rows w1 g n i := by
 obtain ⟨f, h1, h2⟩ := h
 refine ⟨f, blk_below h1 hb, fun k hk => ?_⟩
 obtain ⟨b, e, hne, hB⟩ := h2 k hk
 exact ⟨b, e, hne, blk_below hB hb⟩
theorem Rows.next {w : World} {g n i : Nat} (h : Rows w g n i) : Rows ((w.alloc (.cells (tabB n fun _ => false) 4)).setCell ⟨g, i, none⟩ (.slice (some ⟨w.heap.size, 0, none⟩) n n)) g n (i + 1) := by
 have hb : Below w.heap.size w (w.alloc (.cells (tabB n fun _ => false) 4)) := below_alloc (Below.refl _ _) _
 obtain ⟨f, h1, h2⟩ := h
 have hg : g < w.heap.size := by
  by_cases hg : g < w.heap.size
  ·exact hg
  ·rw [Array.getElem?_eq_none (by omega)] at h1
   cases h1
 refine ⟨upd f i (.slice (some ⟨w.heap.size, 0, none⟩) n n), by rw [← tabV_set]; exact blk_set (blk_below h1 hb) i _, fun k hk => ?_⟩
 by_cases e : k = i
 ·refine ⟨w.heap.size, by rw [e, upd_self], by omega, ?_⟩
  exact blk_far (heap_alloc_new _ _) (by show w.heap.size ≠ g; omega) _
 ·obtain ⟨b, e1, hne, hB⟩ := h2 k (by omega)
  exact ⟨b, by rw [upd_ne _ _ e]; exact e1, hne, blk_far (blk_below hB hb) hne _⟩
set_option maxHeartbeats 1000000 in
set_option maxRecDepth 100000 in
theorem exact_any (w : World) (x : PI) (v : Value) (h : InstC w x v) (hx : PIok x) (hi : IOk x) (hk : x.kind = 1) (z : Int) (hz : IsLeast x.cost.length (costA x) (fun _ _ => false) (some z)) :
  Calls Try.prog 28 #[v] w fun e w' => ∃ C : Nat, e = .returned (.tuple #[.slice (some ⟨C, 0, none⟩) x.cost.length x.cost.length, .int .i64 z, .bool true]) ∧ Aside0 ((∃ σ, PM x.cost.length (fun _ _ => false) σ ∧ cost x.cost.length (costA x) σ = z ∧ IB w' C 3 x.cost.length (fun i => ((σ i : Nat) : Int))) ∧ Below w.heap.size w w') := by
 have HI := Aside0.mk h
 have HX := Aside0.mk hx
 have IOa := Aside0.mk hi
 obtain ⟨A2, c2, A3, c3, A5, c5, rfl, h2, l2, h3, l3, h5, l5⟩ := h
 have H3 := Aside0.mk h3
 obtain ⟨n, hn1⟩ : ∃ n, n = x.cost.length := ⟨_, rfl⟩
 have n64 : n ≤ 64 := by rw [hn1]; exact (hi.side (.inl hk)).2
 rw [← hn1] at HI H3 hz ⊢
 have HZ := Aside0.mk hz
 have HN := Aside0.mk hn1
 have CK : Aside0 (chk x = 0) := ⟨iok.2 hi⟩
 rw [hk] at HI ⊢
 clear h2 h3 h5 l2 l3 l5 hz hn1 hx hi hk
 have hu54 := Try.underlying54
 have hu27 := Try.underlying27
 have hu32 := Try.underlying32
 go_enter Try.func28, Try.ntmps28
 go_upto_region 1 with fail
 obtain ⟨W1, hW1⟩ : ∃ W, W = w.alloc (.cells #[.int .i64 1, .int .i64 x.cap, .slice A2 x.items.length c2, .slice A3 n c3, .int .i64 x.size, .slice A5 x.sets.length c5] 54) := ⟨_, rfl⟩
 rw [← hW1]
 have B1 : Aside0 (Below w.heap.size w W1) := ⟨by rw [hW1]; exact below_alloc (Below.refl _ _) _⟩
 obtain ⟨p1, hp1⟩ : ∃ p, p = w.heap.size := ⟨_, rfl⟩
 have Q1 : Aside0 (W1.heap[p1]? = some (.cells #[.int .i64 1, .int .i64 x.cap, .slice A2 x.items.length c2, .slice A3 n c3, .int .i64 x.size, .slice A5 x.sets.length c5] 54 (0, 0))) := ⟨by rw [hW1, hp1]; exact heap_alloc_new _ _⟩
 rw [← hp1]
 clear hW1 hp1
 obtain ⟨q0, q1, q2, q3, q4, q5, _⟩ := six Q1.out (Below.refl _ _)
 go_wp2_with fail
 clear q0 q1 q2 q3 q4 q5
 refine (icheck_any W1 x _ (HI.out.below B1.out) HX.out).mono ?_
 rintro _ W2 ⟨rfl, B2'⟩
 have B2 := Aside0.mk B2'
 clear B2'
 rw [CK.out]
 obtain ⟨q0, q1, q2, q3, q4, q5, _⟩ := six Q1.out B2.out
 have mk1 := mk23 n n64
 go_upto_region 4 with fail
 clear q0 q1 q2 q3 q4 q5 mk1
 obtain ⟨W3, hW3⟩ : ∃ W, W = W2.alloc (.cells (tabV n fun _ => .slice none 0 0) 35) := ⟨_, rfl⟩
 rw [← hW3]
 obtain ⟨g, hg⟩ : ∃ p, p = W2.heap.size := ⟨_, rfl⟩
 rw [← hg]
 have B3 : Aside0 (Below W1.heap.size W1 W3) := ⟨by rw [hW3]; exact B2.out.alloc B2.out.size _⟩
 have K0 : Aside0 (Rows W3 g n 0 ∧ Below W1.heap.size W1 W3) := ⟨⟨_, by rw [hW3, hg]; exact heap_alloc_new _ _, fun k hk => absurd hk (Nat.not_lt_zero _)⟩, B3.out⟩
 have HG : Aside0 (W1.heap.size ≤ g) := ⟨by rw [hg]; exact B2.out.size⟩
 clear hW3 hg B3
 go_wp2_with fail
 go_loopw [23] (fun v23 wr => ∃ i : Nat, i ≤ n ∧ v23 = .int .i64 (i : Int) ∧ Aside0 (Rows wr g n i ∧ Below W1.heap.size W1 wr)) (fun v23 _ => n - (intOf v23).toNat)
 case atStart => exact ⟨0, Nat.zero_le _, rfl, K0⟩
 case round =>
  clear K0
  obtain ⟨i, hi, rfl, KK⟩ := hrel
  by_cases hlt : i < n
  ·obtain ⟨f, f1, f2⟩ := KK.out.1
   obtain ⟨vi, hvi⟩ : ∃ v, v = f i := ⟨_, rfl⟩
   have hb4 : Below wr.heap.size wr (wr.alloc (.cells (tabB n fun _ => false) 4)) := below_alloc (Below.refl _ _) _
   have ci : (wr.alloc (.cells (tabB n fun _ => false) 4)).cell? ⟨g, i, none⟩ = some vi := by rw [hvi]; exact (blk_cell (blk_below f1 hb4) i).trans (tabV_get hlt)
   have hz : ∀ j, (wr.alloc (.cells (tabB n fun _ => false) 4)).frozen? ⟨g, j, none⟩ = false := blk_frozen (blk_below f1 hb4)
   have q3 : wr.cell? ⟨p1, 3, none⟩ = some (.slice A3 n c3) := (blk_cell (blk_below Q1.out KK.out.2) 3).trans rfl
   have N1 : Aside0 (Rows ((wr.alloc (.cells (tabB n fun _ => false) 4)).setCell ⟨g, i, none⟩ (.slice (some ⟨wr.heap.size, 0, none⟩) n n)) g n (i + 1) ∧ Below W1.heap.size W1 ((wr.alloc (.cells (tabB n fun _ => false) 4)).setCell ⟨g, i, none⟩ (.slice (some ⟨wr.heap.size, 0, none⟩) n n))) := ⟨KK.out.1.next, (KK.out.2.alloc KK.out.2.size _).setCell HG.out _⟩
   have mk2 := mk35 n n64
   clear f1 f2 hvi hb4
   go_wp2_with fail
   exact ⟨⟨i + 1, by omega, by go_num, N1⟩, by simp [intOf]; omega⟩
  ·obtain rfl : n = i := by omega
   have BW := Aside0.mk (B1.out.trans (KK.out.2.mono B1.out.size))
   have TT : Aside0 (TabR wr A3 (some ⟨g, 0, none⟩) ⟨n, costA x, fun _ _ => false⟩ ∧ TbOk ⟨n, costA x, fun _ _ => false⟩) := ⟨⟨fun i hi => by
    obtain ⟨ar, AY, cY, e, y0, ly, hy⟩ := at_L2 H3.out (i : Int) (by omega) (by have : i < n := hi; omega)
    have hi' : i < n := hi
    have hlen : (rd_L2 x.cost (i : Int)).length = n := by
     unfold rd_L2
     rw [Int.toNat_natCast, List.getD_eq_getElem?_getD, List.getElem?_eq_getElem (by rw [← HN.out]; exact hi'), Option.getD_some]
     exact (IOa.out.rows _ (List.getElem_mem _)).trans HN.out.symm
    rw [hlen] at y0 ly hy
    rw [Int.toNat_natCast] at y0
    obtain ⟨aY, eY, _⟩ := at_Int hy 0 (by omega)
    refine ⟨ar, aY, cY, e, ?_, fun k hk => ?_⟩
    ·rw [← eY]; exact pw_cell_below BW.out y0
    ·obtain ⟨aZ, eZ, y1⟩ := at_Int hy k hk
     rw [eY] at eZ
     injection eZ with eZ
     rw [← eZ] at y1
     have := pw_cell_below BW.out y1
     unfold rd_L2 at this
     rwa [Int.toNat_natCast] at this, fun i hi => by
    obtain ⟨f, f1, f2⟩ := KK.out.1
    obtain ⟨b, e, hne, hB⟩ := f2 i hi
    have hadd : ∀ g i : Nat, (⟨g, 0, none⟩ : Addr).add i = ⟨g, i, none⟩ := fun g i => by unfold Addr.add; split <;> simp_all
    refine ⟨⟨g, 0, none⟩, ⟨b, 0, none⟩, n, rfl, ?_, fun k hk => ?_⟩
    ·rw [hadd, blk_cell f1 i, tabV_get hi, e]
    ·rw [hadd]; exact hB.c hk⟩, ⟨n64, fun i k _ _ => costA_bd IOa.out.cost i k⟩⟩
   have q3 : wr.cell? ⟨p1, 3, none⟩ = some (.slice A3 n c3) := (blk_cell (blk_below Q1.out KK.out.2) 3).trans rfl
   go_wp2_with fail
   clear q3
   refine (solve_any wr A3 (some ⟨g, 0, none⟩) c3 n ⟨n, costA x, fun _ _ => false⟩ TT.out.1 TT.out.2).mono ?_
   rintro _ w5 ⟨m, okv, rfl, ⟨ok, rfl, TL'⟩⟩
   have TL := Aside0.mk TL'
   clear TL'
   have hok : ok = true := by
    cases ok with
    | true => rfl
    | false =>
     obtain ⟨σ, hσ, _⟩ := HZ.out.1
     exact absurd hσ ((TL.out.no rfl).2 σ)
   subst hok
   obtain ⟨σ, u, v, of, C, r, cc, hm, DN, I1, I2, I3⟩ := TL.out.yes rfl
   have hcz : cost n (costA x) σ = z := by
    have h1 := DN.least
    have h2 := IsLeast.uniq h1 HZ.out
    injection h2
   have hm' : m = .agg #[.slice (some ⟨C, 0, none⟩) n n, .int .i64 z, .slice (some ⟨r, 0, none⟩) n n, .slice (some ⟨cc, 0, none⟩) n n] := by rw [hm, ← hcz]
   subst hm'
   have SG : Aside0 (PM n (fun _ _ => false) σ ∧ cost n (costA x) σ = z ∧ IB w5 C 3 n (fun i => ((σ i : Nat) : Int)) ∧ Below w.heap.size w w5) := ⟨DN.pm, hcz, I1, BW.out.trans (TL.out.below.mono BW.out.size)⟩
   clear hm DN I1 I2 I3 hcz TL
   go_upto_region 10 with fail
   obtain ⟨W6, hW6⟩ : ∃ W, W = w5.alloc (.cells #[.slice (some ⟨C, 0, none⟩) n n, .int .i64 z, .slice (some ⟨r, 0, none⟩) n n, .slice (some ⟨cc, 0, none⟩) n n] 32) := ⟨_, rfl⟩
   rw [← hW6]
   obtain ⟨p6, hp6⟩ : ∃ p, p = w5.heap.size := ⟨_, rfl⟩
   rw [← hp6]
   have Q6 : Aside0 (W6.heap[p6]? = some (.cells #[.slice (some ⟨C, 0, none⟩) n n, .int .i64 z, .slice (some ⟨r, 0, none⟩) n n, .slice (some ⟨cc, 0, none⟩) n n] 32 (0, 0))) := ⟨by rw [hW6, hp6]; exact heap_alloc_new _ _⟩
   have B6 : Aside0 (Below w5.heap.size w5 W6) := ⟨by rw [hW6]; exact below_alloc (Below.refl _ _) _⟩
   clear hW6 hp6
   have r0 : W6.cell? ⟨p6, 0, none⟩ = some (.slice (some ⟨C, 0, none⟩) n n) := (blk_cell Q6.out 0).trans rfl
   have r1 : W6.cell? ⟨p6, 1, none⟩ = some (.int .i64 z) := (blk_cell Q6.out 1).trans rfl
   go_quiet (fail)
   go_wp2_with fail
   refine bodyPost_ret (v := .tuple #[.slice (some ⟨C, 0, none⟩) n n, .int .i64 z, .bool true]) (by simp [results, Try.results28, go_sem]) rfl ?_
   have B7 := pw_below_drewN B6.out nq
   exact ⟨C, rfl, ⟨⟨σ, SG.out.1, SG.out.2.1, blk_below SG.out.2.2.1 B7⟩, SG.out.2.2.2.trans (B7.mono SG.out.2.2.2.size)⟩⟩
end Go.Proofs.Ytelabmhhnpfegaa.Hand
end
section
namespace Go.Proofs.Ytelabmhhnpfegaa.Hand
open Go.RowKit Go.Proofs.YtelabmhhnpfegaaW.PrintWords Go.Proofs.YtelabmhhnpfegaaW.PrintLast Go.Proofs.YtelabmhhnpfegaaW.PrintMore Go.Proofs.Ytelabmhhnpfegaa.PDynCells
structure Answ (x : PI) (f : Bool) (z : Int) (l : List Int) : Prop where
 yes : f = true → mayP x l = true ∧ cosP x l = (z, 0) ∧ ∀ y, mayP x y = true → z ≤ (cosP x y).1
 no : f = false → l = [] ∧ z = 0 ∧ ∀ y, mayP x y = false
theorem cos_may {x : PI} (hc : chk x = 0) {y : List Int} : (cosP x y).2 = 0 ↔ mayP x y = true := by
 unfold cosP valP
 rw [if_pos hc]
 by_cases h : mayP x y = true
 ·simp [h]
 ·simp [h]
theorem Answ.same {x : PI} (hc : chk x = 0) {f f' : Bool} {z z' : Int} {l : List Int} {L : List (List Int)} (h : Answ x f z l) (hall : ∀ y, mayP x y = true → y ∈ L) (hb : BstP x L f' z') : f = f' ∧ z = z' := by
 cases f with
 | true =>
  obtain ⟨h1, h2, h3⟩ := h.yes rfl
  cases f' with
  | false => exact absurd ((cos_may hc).2 h1) ((hb.1 rfl).2 l (hall l h1))
  | true =>
   obtain ⟨⟨y, hy1, hy2⟩, hy3⟩ := hb.2 rfl
   have h4 := hy3 l (hall l h1) ((cos_may hc).2 h1)
   have h5 := h3 y ((cos_may hc).1 (by rw [hy2]))
   rw [h2] at h4
   rw [hy2] at h5
   simp only at h4 h5
   exact ⟨rfl, by omega⟩
 | false =>
  obtain ⟨h1, h2, h3⟩ := h.no rfl
  cases f' with
  | false => exact ⟨rfl, by rw [h2, (hb.1 rfl).1]⟩
  | true =>
   obtain ⟨⟨y, hy1, hy2⟩, _⟩ := hb.2 rfl
   have := (cos_may hc (y := y)).1 (by rw [hy2])
   rw [h3 y] at this
   cases this
theorem ord_nodup {xs : List Int} {n : Nat} (h : ordB xs n = true) : xs.Nodup := by
 obtain ⟨h1, h2⟩ := (each_ord xs n).2 h
 obtain ⟨_, _, h3⟩ := ord_in h
 rw [List.nodup_iff_count]
 intro a
 have hc : List.count a xs = cntE xs a := rfl
 rw [hc]
 by_cases ha : a ∈ xs
 ·have hb := h3 a ha
  obtain ⟨k, rfl⟩ := Int.eq_ofNat_of_zero_le hb.1
  rw [h1 k (by omega)]
  exact Nat.le_refl _
 ·have : ¬ 0 < cntE xs a := fun h => ha (mem_cnt.1 h)
  omega
theorem getD_inj {xs : List Int} (h : xs.Nodup) {i j : Nat} (hi : i < xs.length) (hj : j < xs.length) (e : xs.getD i 0 = xs.getD j 0) : i = j := by
 rw [List.getD_eq_getElem?_getD, List.getElem?_eq_getElem hi, List.getD_eq_getElem?_getD, List.getElem?_eq_getElem hj, Option.getD_some, Option.getD_some] at e
 have hp := List.pairwise_iff_getElem.1 h
 rcases Nat.lt_trichotomy i j with hl | hl | hl
 ·exact absurd e (hp i j hi hj hl)
 ·exact hl
 ·exact absurd e.symm (hp j i hj hi hl)
def mapP (n : Nat) (τ : Nat → Nat) : List Int := (List.range n).map fun r => ((τ r : Nat) : Int)
theorem mapP_len (n : Nat) (τ : Nat → Nat) : (mapP n τ).length = n := by simp [mapP]
theorem mapP_get {n : Nat} {τ : Nat → Nat} {i : Nat} (h : i < n) : (mapP n τ).getD i 0 = ((τ i : Nat) : Int) := by
 simp [mapP, List.getD_eq_getElem?_getD, h]
theorem ord_map {n : Nat} {τ : Nat → Nat} (h1 : ∀ r, r < n → τ r < n) (h2 : ∀ r s, r < n → s < n → τ r = τ s → r = s) : ordB (mapP n τ) n = true := by
 unfold ordB
 rw [Bool.and_eq_true, decide_eq_true_eq, List.all_eq_true]
 refine ⟨mapP_len n τ, fun k hk => decide_eq_true ?_⟩
 have hk' := List.mem_range.1 hk
 obtain ⟨r, hr, he⟩ := (show Inj n τ from ⟨h1, h2⟩).onto hk'
 exact List.mem_map.2 ⟨r, List.mem_range.2 hr, by rw [he]⟩
def funP (y : List Int) (r : Nat) : Nat := (y.getD r 0).toNat
theorem funP_inj {y : List Int} {n : Nat} (h : ordB y n = true) : Inj n (funP y) := by
 obtain ⟨h1, h2, h3⟩ := ord_in h
 have hnd := ord_nodup h
 refine ⟨fun r hr => ?_, fun r s hr hs e => ?_⟩
 ·have := h3 _ (getD_mem' (l := y) (i := r) (by omega))
  unfold funP
  omega
 ·have g1 := h3 _ (getD_mem' (l := y) (i := r) (by omega))
  have g2 := h3 _ (getD_mem' (l := y) (i := s) (by omega))
  unfold funP at e
  exact getD_inj hnd (by omega) (by omega) (by omega)
theorem may_1 {x : PI} (hk : x.kind = 1) {y : List Int} : mayP x y = ordB y x.cost.length := by
 unfold mayP
 rw [if_neg (by omega), if_pos hk]
theorem cos_1 {x : PI} (hc : chk x = 0) (hk : x.kind = 1) {y : List Int} (h : mayP x y = true) {τ : Nat → Nat} (ht : ∀ r, r < x.cost.length → funP y r = τ r) : cosP x y = (cost x.cost.length (costA x) τ, 0) := by
 unfold cosP valP
 rw [if_pos hc, if_pos h, if_neg (by omega)]
 rw [may_1 hk] at h
 have : sumTo y.length (partC x y) = cost x.cost.length (costA x) τ := by
  unfold cost
  rw [(ord_in h).1]
  refine sumTo_congr (fun i hi => ?_)
  unfold partC
  rw [if_neg (by omega), if_pos hk, ← ht i hi]
  rfl
 rw [this]
theorem answ_1 {x : PI} (hc : chk x = 0) (hk : x.kind = 1) {z : Int} (hz : IsLeast x.cost.length (costA x) (fun _ _ => false) (some z)) {σ : Nat → Nat} (hσ : PM x.cost.length (fun _ _ => false) σ) (hcz : cost x.cost.length (costA x) σ = z) : Answ x true z (mapP x.cost.length σ) := by
 have hm : mayP x (mapP x.cost.length σ) = true := by
  rw [may_1 hk]
  exact ord_map hσ.inj.lt hσ.inj.inj
 refine ⟨fun _ => ⟨hm, ?_, fun y hy => ?_⟩, fun h => by cases h⟩
 ·rw [cos_1 hc hk hm (τ := σ) (fun r hr => by unfold funP; rw [mapP_get hr]; rfl), hcz]
 ·rw [cos_1 hc hk hy (τ := funP y) (fun _ _ => rfl)]
  rw [may_1 hk] at hy
  exact hz.2 _ ⟨funP_inj hy, fun _ _ => rfl⟩
theorem kindT_bd (k : Int) : 0 ≤ kindT k ∧ kindT k ≤ 3 := by
 unfold kindT
 have h1 := Int.tmod_lt_of_pos k (show (0 : Int) < 4 by decide)
 have h2 : -4 < k.tmod 4 := Int.lt_tmod_of_pos k (by decide)
 rw [Int.tmod_eq_emod_of_nonneg (a := k.tmod 4 + 4) (by omega)]
 omega
theorem tame_asc {size : Int} : ∀ (l : List Int) (a : Int), l.Pairwise (· < ·) → (∀ e ∈ l, a < e ∧ e < size) → ascB size a l = true
 | [], _, _, _ => rfl
 | e :: t, a, hp, hb => by
  have h1 := hb e List.mem_cons_self
  rw [ascB, if_neg (by omega), if_neg (by omega)]
  exact tame_asc t e hp.tail (fun y hy => ⟨(List.pairwise_cons.1 hp).1 y hy, (hb y (List.mem_cons_of_mem _ hy)).2⟩)
theorem tame_iok {most : Nat} {k : Int} {y : PI} (t : TameP most k y) (hm : most ≤ 64) : IOk y := by
 have hk := kindT_bd k
 rw [← t.kind] at hk
 have h1 := t.items.1
 have h2 := t.cost.1
 have h3 := t.sets.1
 refine ⟨⟨hk.1, by omega⟩, fun h => ?_, fun h => ?_, fun h => ?_, fun h => ?_, by omega, by omega, ⟨t.size.1, by have := t.size.2; omega⟩, fun r hr => (t.cost.2 r hr).1, fun s hs => ?_, t.cap, t.items.2, fun r hr => (t.cost.2 r hr).2, fun s hs => (t.sets.2 s hs).1, t.diag⟩
 ·by_cases h3 : y.kind = 3
  ·exact ⟨(t.k3 h3).2.2, (t.k3 h3).2.1⟩
  ·exact ⟨(t.k1 h h3).2.2.2.1, (t.k1 h h3).2.1⟩
 ·by_cases h0 : y.kind = 0
  ·exact (t.k0 h0).1
  ·exact (t.k3 (by omega)).1
 ·by_cases h0 : y.kind = 0
  ·exact ⟨(t.k0 h0).2.2, (t.k0 h0).2.1⟩
  ·exact ⟨(t.k1 h0 h).2.2.2.2, (t.k1 h0 h).2.2.1⟩
 ·exact ⟨(t.k1 (by omega) (by omega)).1, by omega⟩
 ·exact tame_asc _ _ (t.sets.2 s hs).2.1 (fun e he => by have := (t.sets.2 s hs).2.2 e he; omega)
theorem asc_le {size : Int} {l : List Int} (h : ascB size (-1) l = true) : (l.length : Int) ≤ max 0 size := by
 have := (asc_bd l (-1) (by omega) h).2
 rcases this with rfl | h
 ·simp; omega
 ·omega
theorem tame_els {most : Nat} {k : Int} {y : PI} (t : TameP most k y) : ∀ s ∈ y.sets, s.f1.length ≤ 8 := fun s hs => by
 have h := asc_le (tame_asc _ (-1) (t.sets.2 s hs).2.1 (fun e he => by have := (t.sets.2 s hs).2.2 e he; omega : ∀ e ∈ s.f1, -1 < e ∧ e < y.size))
 have := t.size
 omega
theorem tame_pok {most : Nat} {k : Int} {y : PI} (t : TameP most k y) (hm : most ≤ 64) : PIok y := by
 have h1 := t.items.1
 have h2 := t.cost.1
 have h3 := t.sets.1
 refine ⟨by omega, by omega, by omega, fun r hr => ?_, fun s hs => ?_⟩
 ·have := (t.cost.2 r hr).1
  omega
 ·have := tame_els t s hs
  omega
theorem cut_tame {most : Nat} {k : Int} {y : PI} (t : TameP most k y) (hm : most ≤ 40) : cutI y = y := by
 have h1 := t.items.1
 have h2 := t.cost.1
 have h3 := t.sets.1
 have e1 : (y.cost.take 70).map (·.take 70) = y.cost := by
  rw [List.take_of_length_le (by omega)]
  refine (List.map_congr_left (g := id) (fun r hr => ?_)).trans (List.map_id _)
  exact List.take_of_length_le (by have := (t.cost.2 r hr).1; omega)
 have e2 : (y.sets.take 40).map cutS = y.sets := by
  rw [List.take_of_length_le (by omega)]
  refine (List.map_congr_left (g := id) (fun r hr => ?_)).trans (List.map_id _)
  unfold cutS
  rw [List.take_of_length_le (by have := tame_els t r hr; omega)]
  rfl
 unfold cutI
 rw [e1, e2, List.take_of_length_le (by omega)]
end Go.Proofs.Ytelabmhhnpfegaa.Hand
end
section
namespace Go.Proofs.Ytelabmhhnpfegaa.Hand
open Go.RowKit Go.Proofs.Ytelabmhhnpfegaa.PDynCells
theorem vis_mem {x : PI} (hk : x.kind = 1) {n : Nat} (hn : x.cost.length = n) (h6 : n ≤ 6) {y : List Int} (h : mayP x y = true) : y ∈ visI n := by
 rw [may_1 hk, hn] at h
 obtain ⟨h1, h2, h3⟩ := ord_in h
 have hnd := ord_nodup h
 have e : toI (y.map Int.toNat) = y := by
  unfold toI
  rw [List.map_map]
  refine (List.map_congr_left fun a ha => ?_).trans (List.map_id y)
  have := h3 a ha
  show ((a.toNat : Nat) : Int) = a
  omega
 refine List.mem_map.2 ⟨y.map Int.toNat, ?_, e⟩
 have hv := (visit_all ⟨n, by omega⟩).1
 rw [show visit 721 (List.range n) = permsL n (List.range n) from hv]
 refine permsL_mem n _ _ (List.length_range) (perm_range n _ ?_ ?_ ?_)
 ·refine List.Pairwise.map _ (R := fun a b => a ≠ b ∧ 0 ≤ a ∧ 0 ≤ b) (fun a b hab he => hab.1 (by omega)) ?_
  refine List.Pairwise.imp_of_mem (fun ha hb hab => ⟨hab, (h3 _ ha).1, (h3 _ hb).1⟩) hnd
 ·intro k hk'
  obtain ⟨a, ha, rfl⟩ := List.mem_map.1 hk'
  have := h3 a ha
  omega
 ·rw [List.length_map, h1]
end Go.Proofs.Ytelabmhhnpfegaa.Hand
end
