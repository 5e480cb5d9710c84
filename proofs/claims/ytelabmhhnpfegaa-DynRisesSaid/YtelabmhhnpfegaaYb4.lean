/- Texts Ei Ek Eo Ef El Km Ka Ej Kd Mi Ke Mh Du, cut to what is used. -/
import Derived.Laws.EntriesVeiled
import Derived.Test.YtelabmhhnpfegaaYa0
import Derived.Test.YtelabmhhnpfegaaYa7
import Derived.Test.YtelabmhhnpfegaaYb3
set_option linter.unusedVariables false
set_option linter.unusedSimpArgs false
section
namespace Go.Proofs.Ytelabmhhnpfegaa.Hand
open Go.RowKit Go.Proofs.Ytelabmhhnpfegaa.PDynCells
def tgtC (S : Nat) (ms : Nat → Nat) (k h : Nat) (b : Bool) : Nat := if b = true then (k + 1) * S + (h ||| ms k) else (k + 1) * S + h
def giveC (S : Nat) (cs : Nat → Int) (c : S152) (k h : Nat) (b : Bool) : S152 := if b = true then ⟨c.f0 + cs k, true, k, ((k * S + h : Nat) : Int)⟩ else ⟨c.f0, true, c.f2, c.f3⟩
structure CvI (K S : Nat) (ms : Nat → Nat) (cs : Nat → Int) (P : Nat → Nat → Bool → Prop) (T : Nat → S152) : Prop where
 zero : T 0 = ⟨0, true, -1, 0⟩
 part : ∀ k h b, P k h b → k < K ∧ h < S
 link : ∀ X, X ≠ 0 → (T X).f1 = true → ∃ k h b, P k h b ∧ (T (k * S + h)).f1 = true ∧ X = tgtC S ms k h b ∧ T X = giveC S cs (T (k * S + h)) k h b
 done : ∀ k h b, P k h b → (T (k * S + h)).f1 = true → (T (tgtC S ms k h b)).f1 = true ∧ (T (tgtC S ms k h b)).f0 ≤ (giveC S cs (T (k * S + h)) k h b).f0
section
variable {K S : Nat} {ms : Nat → Nat} {cs : Nat → Int} {P : Nat → Nat → Bool → Prop} {T : Nat → S152}
theorem tgtC_ge (k h : Nat) (b : Bool) : (k + 1) * S ≤ tgtC S ms k h b := by
 unfold tgtC
 split <;> omega
theorem src_lt {k k' h' : Nat} (hk : k' ≤ k) (hh : h' < S) : k' * S + h' < (k + 1) * S := by
 have h1 : (k' + 1) * S ≤ (k + 1) * S := Nat.mul_le_mul_right S (by omega)
 rw [Nat.succ_mul] at h1
 omega
theorem CvI.start : CvI K S ms cs (fun _ _ _ => False) (upd (fun _ => z152) 0 ⟨0, true, -1, 0⟩) where
 zero := upd_self _ _ _
 part _ _ _ h := h.elim
 link X hX h := by
  rw [upd_ne _ _ hX] at h
  cases h
 done _ _ _ h := h.elim
theorem CvI.skip (h : CvI K S ms cs P T) {k g : Nat} (hk : k < K) (hg : g < S) (hno : (T (k * S + g)).f1 = false) : CvI K S ms cs (fun k' h' b' => P k' h' b' ∨ (k' = k ∧ h' = g)) T where
 zero := h.zero
 part k' h' b hh := by
  rcases hh with hh | ⟨rfl, rfl⟩
  ·exact h.part _ _ _ hh
  ·exact ⟨hk, hg⟩
 link X hX hok := by
  obtain ⟨k', h', b, a1, a2, a3, a4⟩ := h.link X hX hok
  exact ⟨k', h', b, .inl a1, a2, a3, a4⟩
 done k' h' b hh hok := by
  rcases hh with hh | ⟨rfl, rfl⟩
  ·exact h.done _ _ _ hh hok
  ·rw [hno] at hok
   cases hok
theorem CvI.put (h : CvI K S ms cs P T) {k g : Nat} {b : Bool} (hk : k < K) (hg : g < S) (hP : ∀ k' h' b', P k' h' b' → k' ≤ k) (hok : (T (k * S + g)).f1 = true) :
  CvI K S ms cs (fun k' h' b' => P k' h' b' ∨ (k' = k ∧ h' = g ∧ b' = b))
   (upd T (tgtC S ms k g b) (offS (T (tgtC S ms k g b)) (giveC S cs (T (k * S + g)) k g b).f0 (giveC S cs (T (k * S + g)) k g b).f2 (giveC S cs (T (k * S + g)) k g b).f3)) := by
 obtain ⟨X0, hX0⟩ : ∃ X, X = tgtC S ms k g b := ⟨_, rfl⟩
 obtain ⟨c, hc⟩ : ∃ c, c = giveC S cs (T (k * S + g)) k g b := ⟨_, rfl⟩
 rw [← hX0, ← hc]
 have hc1 : c.f1 = true := by rw [hc]; unfold giveC; split <;> rfl
 have hge : (k + 1) * S ≤ X0 := by rw [hX0]; exact tgtC_ge k g b
 have hpos : 0 < (k + 1) * S := Nat.lt_of_le_of_lt (Nat.zero_le _) (src_lt (k := k) (Nat.le_refl k) hg)
 obtain ⟨v, hv⟩ : ∃ v, v = offS (T X0) c.f0 c.f2 c.f3 := ⟨_, rfl⟩
 obtain ⟨o1, o2, o3⟩ := offS_ok (T X0) c.f0 c.f2 c.f3
 rw [← hv] at o1 o2 o3 ⊢
 have old : ∀ k' h', k' ≤ k → h' < S → upd T X0 v (k' * S + h') = T (k' * S + h') := fun k' h' a1 a2 => upd_ne _ _ (by have := src_lt a1 a2; omega)
 have old0 : upd T X0 v 0 = T 0 := upd_ne _ _ (by omega)
 refine ⟨by rw [old0]; exact h.zero, fun k' h' b' hh => ?_, fun X hX hXok => ?_, fun k' h' b' hh hsrc => ?_⟩
 ·rcases hh with hh | ⟨rfl, rfl, _⟩
  ·exact h.part _ _ _ hh
  ·exact ⟨hk, hg⟩
 ·by_cases e : X = X0
  ·subst e
   rw [upd_self] at hXok ⊢
   by_cases hkeep : (T X).f1 = true ∧ ¬ c.f0 < (T X).f0
   ·have ev : v = T X := by rw [hv]; exact if_pos hkeep
    obtain ⟨k', h', b', a1, a2, a3, a4⟩ := h.link X hX hkeep.1
    have hp := h.part _ _ _ a1
    have ho := old k' h' (hP _ _ _ a1) hp.2
    exact ⟨k', h', b', .inl a1, by rw [ho]; exact a2, a3, by rw [ho, ev]; exact a4⟩
   ·have ev : v = c := by
     rw [hv]
     unfold offS
     rw [if_neg hkeep]
     obtain ⟨c0, c1, c2, c3⟩ := c
     rw [show c1 = true from hc1]
    have ho := old k g (Nat.le_refl k) hg
    exact ⟨k, g, b, .inr ⟨rfl, rfl, rfl⟩, by rw [ho]; exact hok, hX0, by rw [ho, ev, hc]⟩
  ·rw [upd_ne _ _ e] at hXok ⊢
   obtain ⟨k', h', b', a1, a2, a3, a4⟩ := h.link X hX hXok
   have ho := old k' h' (hP _ _ _ a1) (h.part _ _ _ a1).2
   exact ⟨k', h', b', .inl a1, by rw [ho]; exact a2, a3, by rw [ho]; exact a4⟩
 ·rcases hh with hh | ⟨rfl, rfl, rfl⟩
  ·have ho := old k' h' (hP _ _ _ hh) (h.part _ _ _ hh).2
   rw [ho] at hsrc ⊢
   have hd := h.done k' h' b' hh hsrc
   by_cases e : tgtC S ms k' h' b' = X0
   ·rw [e] at hd ⊢
    rw [upd_self]
    have := o3 hd.1
    exact ⟨o1, by omega⟩
   ·rw [upd_ne _ _ e]
    exact hd
  ·have ho := old k' h' (Nat.le_refl k') hg
   rw [ho, ← hX0, upd_self, ← hc]
   exact ⟨o1, o2⟩
end
def unC (ms : Nat → Nat) (β : Nat → Bool) : Nat → Nat
 | 0 => 0
 | i + 1 => if β i = true then unC ms β i ||| ms i else unC ms β i
def sumC (cs : Nat → Int) (β : Nat → Bool) (i : Nat) : Int := sumTo i (fun r => if β r = true then cs r else 0)
theorem unC_congr {ms : Nat → Nat} {β γ : Nat → Bool} : ∀ i, (∀ r, r < i → β r = γ r) → unC ms β i = unC ms γ i
 | 0, _ => rfl
 | i + 1, h => by rw [unC, unC, unC_congr i (fun r hr => h r (by omega)), h i (by omega)]
theorem unC_lt {ms : Nat → Nat} {β : Nat → Bool} {n K : Nat} (hm : ∀ k, k < K → ms k < 2 ^ n) : ∀ i, i ≤ K → unC ms β i < 2 ^ n
 | 0, _ => Nat.pow_pos (by omega)
 | i + 1, hi => by
  have ih := unC_lt (β := β) hm i (by omega)
  rw [unC]
  split
  ·exact Nat.or_lt_two_pow ih (hm i (by omega))
  ·exact ih
section
variable {K n : Nat} {ms : Nat → Nat} {cs : Nat → Int} {P : Nat → Nat → Bool → Prop} {T : Nat → S152}
theorem CvI.le (h : CvI K (2 ^ n) ms cs P T) (hP : ∀ k g b, k < K → g < 2 ^ n → P k g b) (hm : ∀ k, k < K → ms k < 2 ^ n) (β : Nat → Bool) : ∀ i, i ≤ K → (T (i * 2 ^ n + unC ms β i)).f1 = true ∧ (T (i * 2 ^ n + unC ms β i)).f0 ≤ sumC cs β i
 | 0, _ => by
  rw [unC, Nat.zero_mul, h.zero]
  exact ⟨rfl, Int.le_refl _⟩
 | i + 1, hi => by
  obtain ⟨h1, h2⟩ := CvI.le h hP hm β i (by omega)
  have hlt := unC_lt (β := β) hm i (by omega)
  have hd := h.done i (unC ms β i) (β i) (hP _ _ _ (by omega) hlt) h1
  have hs : sumC cs β (i + 1) = sumC cs β i + (if β i = true then cs i else 0) := sumTo_succ _ _
  rw [hs, unC]
  unfold tgtC giveC at hd
  by_cases hb : β i = true
  ·rw [if_pos hb, if_pos hb] at hd
   rw [if_pos hb, if_pos hb]
   exact ⟨hd.1, by have := hd.2; simp only at this; omega⟩
  ·rw [if_neg hb, if_neg hb] at hd
   rw [if_neg hb, if_neg hb]
   exact ⟨hd.1, by have := hd.2; simp only at this; omega⟩
theorem lay_eq {S i k u h : Nat} (hu : u < S) (hh : h < S) (e : i * S + u = k * S + h) : i = k ∧ u = h := by
 rcases Nat.lt_trichotomy i k with hl | hl | hl
 ·have := Nat.mul_le_mul_right S (show i + 1 ≤ k by omega)
  rw [Nat.succ_mul] at this
  omega
 ·subst hl
  exact ⟨rfl, by omega⟩
 ·have := Nat.mul_le_mul_right S (show k + 1 ≤ i by omega)
  rw [Nat.succ_mul] at this
  omega
theorem CvI.real (h : CvI K (2 ^ n) ms cs P T) (hm : ∀ k, k < K → ms k < 2 ^ n) : ∀ (f X : Nat), X ≤ f → (T X).f1 = true → ∃ (i : Nat) (β : Nat → Bool), i ≤ K ∧ X = i * 2 ^ n + unC ms β i ∧ (T X).f0 = sumC cs β i ∧
  ∃ l, Chain ((K + 1) * 2 ^ n) T X l ∧ l.reverse = ((List.range i).filter β).map fun (r : Nat) => (r : Int)
 | f, X, hf, hok => by
  have hS : 0 < 2 ^ n := Nat.pow_pos (by omega)
  by_cases e : X = 0
  ·subst e
   refine ⟨0, fun _ => false, Nat.zero_le _, by rw [unC, Nat.zero_mul], by rw [h.zero]; rfl, [], .nil 0 (by rw [h.zero]; show (-1 : Int) < 0; decide) (Nat.mul_pos (by omega) hS), rfl⟩
  ·obtain ⟨k, g, b, a1, a2, a3, a4⟩ := h.link X e hok
   obtain ⟨hk, hg⟩ := h.part _ _ _ a1
   have hlt : k * 2 ^ n + g < X := by
    rw [a3]
    exact Nat.lt_of_lt_of_le (src_lt (Nat.le_refl k) hg) (tgtC_ge k g b)
   match f, hf with
   | 0, hf => omega
   | f + 1, hf =>
    obtain ⟨i, β, b1, b2, b3, l, b4, b5⟩ := CvI.real h hm f (k * 2 ^ n + g) (by omega) a2
    obtain ⟨e1, e2⟩ := lay_eq hg (unC_lt (β := β) hm i b1) b2
    subst e1
    have keep : ∀ v, unC ms (upd β k v) k = g := fun v => by rw [unC_congr (γ := β) k (fun r hr => upd_ne _ _ (by omega)), ← e2]
    have ksum : ∀ v, sumC cs (upd β k v) (k + 1) = sumC cs β k + (if v = true then cs k else 0) := fun v => by
     show sumTo (k + 1) _ = sumTo k _ + _
     rw [sumTo_succ, upd_self]
     congr 1
     exact sumTo_congr (fun r hr => by rw [upd_ne _ _ (by omega)])
    have kfil : ∀ v, (List.range k).filter (upd β k v) = (List.range k).filter β := fun v => List.filter_congr (fun r hr => by rw [upd_ne _ _ (by have := List.mem_range.1 hr; omega)])
    have hXN : X < (K + 1) * 2 ^ n := by
     have h1 : (k + 1 + 1) * 2 ^ n ≤ (K + 1) * 2 ^ n := Nat.mul_le_mul_right _ (by omega)
     have h2 : X < (k + 1 + 1) * 2 ^ n := by
      rw [a3]
      unfold tgtC
      split
      ·exact src_lt (Nat.le_refl _) (Nat.or_lt_two_pow hg (hm k hk))
      ·exact src_lt (Nat.le_refl _) hg
     omega
    cases b with
    | true =>
     have a3' : X = (k + 1) * 2 ^ n + (g ||| ms k) := a3
     have a4' : T X = ⟨(T (k * 2 ^ n + g)).f0 + cs k, true, k, ((k * 2 ^ n + g : Nat) : Int)⟩ := a4
     refine ⟨k + 1, upd β k true, by omega, ?_, ?_, (T X).f2 :: l, ?_, ?_⟩
     ·rw [unC, upd_self, if_pos rfl, keep, a3']
     ·rw [a4', ksum, if_pos rfl, ← b3]
     ·exact .cons X (k * 2 ^ n + g) l hXN (by rw [a4']; exact Int.natCast_nonneg _) (by rw [a4']) b4
     ·rw [List.reverse_cons, b5, List.range_succ, List.filter_append, kfil, List.map_append, a4']
      congr 1
      simp [upd_self]
    | false =>
     have a3' : X = (k + 1) * 2 ^ n + g := a3
     have a4' : T X = ⟨(T (k * 2 ^ n + g)).f0, true, (T (k * 2 ^ n + g)).f2, (T (k * 2 ^ n + g)).f3⟩ := a4
     refine ⟨k + 1, upd β k false, by omega, ?_, ?_, l, ?_, ?_⟩
     ·rw [unC, upd_self, if_neg (by decide), keep, a3']
     ·rw [a4', ksum, if_neg (by decide), Int.add_zero, ← b3]
     ·cases b4 with
      | nil _ hn _ => exact .nil X (by rw [a4']; exact hn) hXN
      | cons _ Z l' _ hp he hl =>
       have : (T (k * 2 ^ n + g)).f2 = (T X).f2 := by rw [a4']
       rw [this]
       exact .cons X Z l' hXN (by rw [← this]; exact hp) (by rw [a4']; exact he) hl
     ·rw [b5, List.range_succ, List.filter_append, kfil]
      simp [upd_self]
theorem CvI.least (h : CvI K (2 ^ n) ms cs P T) (hP : ∀ k g b, k < K → g < 2 ^ n → P k g b) (hm : ∀ k, k < K → ms k < 2 ^ n) :
  ((T (K * 2 ^ n + (2 ^ n - 1))).f1 = true → ∃ β, unC ms β K = 2 ^ n - 1 ∧ (T (K * 2 ^ n + (2 ^ n - 1))).f0 = sumC cs β K ∧ (∀ γ, unC ms γ K = 2 ^ n - 1 → (T (K * 2 ^ n + (2 ^ n - 1))).f0 ≤ sumC cs γ K) ∧
   ∃ l, Chain ((K + 1) * 2 ^ n) T (K * 2 ^ n + (2 ^ n - 1)) l ∧ l.reverse = ((List.range K).filter β).map fun (r : Nat) => (r : Int)) ∧
  ((T (K * 2 ^ n + (2 ^ n - 1))).f1 = false → ∀ γ, unC ms γ K ≠ 2 ^ n - 1) := by
 have hS : 0 < 2 ^ n := Nat.pow_pos (by omega)
 refine ⟨fun hok => ?_, fun hno γ hg => ?_⟩
 ·obtain ⟨i, β, b1, b2, b3, l, b4, b5⟩ := CvI.real h hm _ _ (Nat.le_refl _) hok
  obtain ⟨e1, e2⟩ := lay_eq (by omega) (unC_lt (β := β) hm i b1) b2
  subst e1
  refine ⟨β, e2.symm, b3, fun γ hg => ?_, l, b4, b5⟩
  have := (CvI.le h hP hm γ K (Nat.le_refl _)).2
  rwa [hg] at this
 ·have := (CvI.le h hP hm γ K (Nat.le_refl _)).1
  rw [hg, hno] at this
  cases this
end
end Go.Proofs.Ytelabmhhnpfegaa.Hand
end
section
namespace Go.Proofs.Ytelabmhhnpfegaa.Hand
open Go.RowKit Go.Proofs.YtelabmhhnpfegaaW.PrintWords Go.Proofs.YtelabmhhnpfegaaW.PrintLast Go.Proofs.YtelabmhhnpfegaaW.PrintMore Go.Proofs.Ytelabmhhnpfegaa.PDynCells
end Go.Proofs.Ytelabmhhnpfegaa.Hand
end
section
namespace Go.Proofs.Ytelabmhhnpfegaa.PDynCells
open Go.RowKit Go.Proofs.YtelabmhhnpfegaaW.PrintWords Go.Proofs.YtelabmhhnpfegaaW.PrintLast Go.Proofs.YtelabmhhnpfegaaW.PrintMore
def bits_OnesCount64.f (a0 : Int) : Option (Int) := some (Go.bits .and .i64 (wrap64 (IntKind.u64.wrap ((IntKind.u64.wrap ((IntKind.u64.wrap ((Go.bits .and .u64 (IntKind.u64.wrap (((IntKind.u64.wrap ((Go.bits .and .u64 ((IntKind.u64.wrap ((Go.bits .and .u64 (a0 / 2) 6148914691236517205) + (Go.bits .and .u64 a0 6148914691236517205))) / 4) 3689348814741910323) + (Go.bits .and .u64 (IntKind.u64.wrap ((Go.bits .and .u64 (a0 / 2) 6148914691236517205) + (Go.bits .and .u64 a0 6148914691236517205))) 3689348814741910323))) / 16) + (IntKind.u64.wrap ((Go.bits .and .u64 ((IntKind.u64.wrap ((Go.bits .and .u64 (a0 / 2) 6148914691236517205) + (Go.bits .and .u64 a0 6148914691236517205))) / 4) 3689348814741910323) + (Go.bits .and .u64 (IntKind.u64.wrap ((Go.bits .and .u64 (a0 / 2) 6148914691236517205) + (Go.bits .and .u64 a0 6148914691236517205))) 3689348814741910323))))) 1085102592571150095) + ((Go.bits .and .u64 (IntKind.u64.wrap (((IntKind.u64.wrap ((Go.bits .and .u64 ((IntKind.u64.wrap ((Go.bits .and .u64 (a0 / 2) 6148914691236517205) + (Go.bits .and .u64 a0 6148914691236517205))) / 4) 3689348814741910323) + (Go.bits .and .u64 (IntKind.u64.wrap ((Go.bits .and .u64 (a0 / 2) 6148914691236517205) + (Go.bits .and .u64 a0 6148914691236517205))) 3689348814741910323))) / 16) + (IntKind.u64.wrap ((Go.bits .and .u64 ((IntKind.u64.wrap ((Go.bits .and .u64 (a0 / 2) 6148914691236517205) + (Go.bits .and .u64 a0 6148914691236517205))) / 4) 3689348814741910323) + (Go.bits .and .u64 (IntKind.u64.wrap ((Go.bits .and .u64 (a0 / 2) 6148914691236517205) + (Go.bits .and .u64 a0 6148914691236517205))) 3689348814741910323))))) 1085102592571150095) / 256))) + ((IntKind.u64.wrap ((Go.bits .and .u64 (IntKind.u64.wrap (((IntKind.u64.wrap ((Go.bits .and .u64 ((IntKind.u64.wrap ((Go.bits .and .u64 (a0 / 2) 6148914691236517205) + (Go.bits .and .u64 a0 6148914691236517205))) / 4) 3689348814741910323) + (Go.bits .and .u64 (IntKind.u64.wrap ((Go.bits .and .u64 (a0 / 2) 6148914691236517205) + (Go.bits .and .u64 a0 6148914691236517205))) 3689348814741910323))) / 16) + (IntKind.u64.wrap ((Go.bits .and .u64 ((IntKind.u64.wrap ((Go.bits .and .u64 (a0 / 2) 6148914691236517205) + (Go.bits .and .u64 a0 6148914691236517205))) / 4) 3689348814741910323) + (Go.bits .and .u64 (IntKind.u64.wrap ((Go.bits .and .u64 (a0 / 2) 6148914691236517205) + (Go.bits .and .u64 a0 6148914691236517205))) 3689348814741910323))))) 1085102592571150095) + ((Go.bits .and .u64 (IntKind.u64.wrap (((IntKind.u64.wrap ((Go.bits .and .u64 ((IntKind.u64.wrap ((Go.bits .and .u64 (a0 / 2) 6148914691236517205) + (Go.bits .and .u64 a0 6148914691236517205))) / 4) 3689348814741910323) + (Go.bits .and .u64 (IntKind.u64.wrap ((Go.bits .and .u64 (a0 / 2) 6148914691236517205) + (Go.bits .and .u64 a0 6148914691236517205))) 3689348814741910323))) / 16) + (IntKind.u64.wrap ((Go.bits .and .u64 ((IntKind.u64.wrap ((Go.bits .and .u64 (a0 / 2) 6148914691236517205) + (Go.bits .and .u64 a0 6148914691236517205))) / 4) 3689348814741910323) + (Go.bits .and .u64 (IntKind.u64.wrap ((Go.bits .and .u64 (a0 / 2) 6148914691236517205) + (Go.bits .and .u64 a0 6148914691236517205))) 3689348814741910323))))) 1085102592571150095) / 256))) / 65536))) + ((IntKind.u64.wrap ((IntKind.u64.wrap ((Go.bits .and .u64 (IntKind.u64.wrap (((IntKind.u64.wrap ((Go.bits .and .u64 ((IntKind.u64.wrap ((Go.bits .and .u64 (a0 / 2) 6148914691236517205) + (Go.bits .and .u64 a0 6148914691236517205))) / 4) 3689348814741910323) + (Go.bits .and .u64 (IntKind.u64.wrap ((Go.bits .and .u64 (a0 / 2) 6148914691236517205) + (Go.bits .and .u64 a0 6148914691236517205))) 3689348814741910323))) / 16) + (IntKind.u64.wrap ((Go.bits .and .u64 ((IntKind.u64.wrap ((Go.bits .and .u64 (a0 / 2) 6148914691236517205) + (Go.bits .and .u64 a0 6148914691236517205))) / 4) 3689348814741910323) + (Go.bits .and .u64 (IntKind.u64.wrap ((Go.bits .and .u64 (a0 / 2) 6148914691236517205) + (Go.bits .and .u64 a0 6148914691236517205))) 3689348814741910323))))) 1085102592571150095) + ((Go.bits .and .u64 (IntKind.u64.wrap (((IntKind.u64.wrap ((Go.bits .and .u64 ((IntKind.u64.wrap ((Go.bits .and .u64 (a0 / 2) 6148914691236517205) + (Go.bits .and .u64 a0 6148914691236517205))) / 4) 3689348814741910323) + (Go.bits .and .u64 (IntKind.u64.wrap ((Go.bits .and .u64 (a0 / 2) 6148914691236517205) + (Go.bits .and .u64 a0 6148914691236517205))) 3689348814741910323))) / 16) + (IntKind.u64.wrap ((Go.bits .and .u64 ((IntKind.u64.wrap ((Go.bits .and .u64 (a0 / 2) 6148914691236517205) + (Go.bits .and .u64 a0 6148914691236517205))) / 4) 3689348814741910323) + (Go.bits .and .u64 (IntKind.u64.wrap ((Go.bits .and .u64 (a0 / 2) 6148914691236517205) + (Go.bits .and .u64 a0 6148914691236517205))) 3689348814741910323))))) 1085102592571150095) / 256))) + ((IntKind.u64.wrap ((Go.bits .and .u64 (IntKind.u64.wrap (((IntKind.u64.wrap ((Go.bits .and .u64 ((IntKind.u64.wrap ((Go.bits .and .u64 (a0 / 2) 6148914691236517205) + (Go.bits .and .u64 a0 6148914691236517205))) / 4) 3689348814741910323) + (Go.bits .and .u64 (IntKind.u64.wrap ((Go.bits .and .u64 (a0 / 2) 6148914691236517205) + (Go.bits .and .u64 a0 6148914691236517205))) 3689348814741910323))) / 16) + (IntKind.u64.wrap ((Go.bits .and .u64 ((IntKind.u64.wrap ((Go.bits .and .u64 (a0 / 2) 6148914691236517205) + (Go.bits .and .u64 a0 6148914691236517205))) / 4) 3689348814741910323) + (Go.bits .and .u64 (IntKind.u64.wrap ((Go.bits .and .u64 (a0 / 2) 6148914691236517205) + (Go.bits .and .u64 a0 6148914691236517205))) 3689348814741910323))))) 1085102592571150095) + ((Go.bits .and .u64 (IntKind.u64.wrap (((IntKind.u64.wrap ((Go.bits .and .u64 ((IntKind.u64.wrap ((Go.bits .and .u64 (a0 / 2) 6148914691236517205) + (Go.bits .and .u64 a0 6148914691236517205))) / 4) 3689348814741910323) + (Go.bits .and .u64 (IntKind.u64.wrap ((Go.bits .and .u64 (a0 / 2) 6148914691236517205) + (Go.bits .and .u64 a0 6148914691236517205))) 3689348814741910323))) / 16) + (IntKind.u64.wrap ((Go.bits .and .u64 ((IntKind.u64.wrap ((Go.bits .and .u64 (a0 / 2) 6148914691236517205) + (Go.bits .and .u64 a0 6148914691236517205))) / 4) 3689348814741910323) + (Go.bits .and .u64 (IntKind.u64.wrap ((Go.bits .and .u64 (a0 / 2) 6148914691236517205) + (Go.bits .and .u64 a0 6148914691236517205))) 3689348814741910323))))) 1085102592571150095) / 256))) / 65536))) / 4294967296)))) 127)
set_option maxHeartbeats 8000000 in
set_option maxRecDepth 100000 in
theorem bits_OnesCount64.calls (a0 : Int) (r : Int) (w : World) (h : bits_OnesCount64.f a0 = some r) :
  Calls Try.prog 127 #[.int .u64 a0] w fun e w' => e = .returned (.int .i64 r) ∧ Drawn0 w w' := by
 have H : (some (Go.bits .and .i64 (wrap64 (IntKind.u64.wrap ((IntKind.u64.wrap ((IntKind.u64.wrap ((Go.bits .and .u64 (IntKind.u64.wrap (((IntKind.u64.wrap ((Go.bits .and .u64 ((IntKind.u64.wrap ((Go.bits .and .u64 (a0 / 2) 6148914691236517205) + (Go.bits .and .u64 a0 6148914691236517205))) / 4) 3689348814741910323) + (Go.bits .and .u64 (IntKind.u64.wrap ((Go.bits .and .u64 (a0 / 2) 6148914691236517205) + (Go.bits .and .u64 a0 6148914691236517205))) 3689348814741910323))) / 16) + (IntKind.u64.wrap ((Go.bits .and .u64 ((IntKind.u64.wrap ((Go.bits .and .u64 (a0 / 2) 6148914691236517205) + (Go.bits .and .u64 a0 6148914691236517205))) / 4) 3689348814741910323) + (Go.bits .and .u64 (IntKind.u64.wrap ((Go.bits .and .u64 (a0 / 2) 6148914691236517205) + (Go.bits .and .u64 a0 6148914691236517205))) 3689348814741910323))))) 1085102592571150095) + ((Go.bits .and .u64 (IntKind.u64.wrap (((IntKind.u64.wrap ((Go.bits .and .u64 ((IntKind.u64.wrap ((Go.bits .and .u64 (a0 / 2) 6148914691236517205) + (Go.bits .and .u64 a0 6148914691236517205))) / 4) 3689348814741910323) + (Go.bits .and .u64 (IntKind.u64.wrap ((Go.bits .and .u64 (a0 / 2) 6148914691236517205) + (Go.bits .and .u64 a0 6148914691236517205))) 3689348814741910323))) / 16) + (IntKind.u64.wrap ((Go.bits .and .u64 ((IntKind.u64.wrap ((Go.bits .and .u64 (a0 / 2) 6148914691236517205) + (Go.bits .and .u64 a0 6148914691236517205))) / 4) 3689348814741910323) + (Go.bits .and .u64 (IntKind.u64.wrap ((Go.bits .and .u64 (a0 / 2) 6148914691236517205) + (Go.bits .and .u64 a0 6148914691236517205))) 3689348814741910323))))) 1085102592571150095) / 256))) + ((IntKind.u64.wrap ((Go.bits .and .u64 (IntKind.u64.wrap (((IntKind.u64.wrap ((Go.bits .and .u64 ((IntKind.u64.wrap ((Go.bits .and .u64 (a0 / 2) 6148914691236517205) + (Go.bits .and .u64 a0 6148914691236517205))) / 4) 3689348814741910323) + (Go.bits .and .u64 (IntKind.u64.wrap ((Go.bits .and .u64 (a0 / 2) 6148914691236517205) + (Go.bits .and .u64 a0 6148914691236517205))) 3689348814741910323))) / 16) + (IntKind.u64.wrap ((Go.bits .and .u64 ((IntKind.u64.wrap ((Go.bits .and .u64 (a0 / 2) 6148914691236517205) + (Go.bits .and .u64 a0 6148914691236517205))) / 4) 3689348814741910323) + (Go.bits .and .u64 (IntKind.u64.wrap ((Go.bits .and .u64 (a0 / 2) 6148914691236517205) + (Go.bits .and .u64 a0 6148914691236517205))) 3689348814741910323))))) 1085102592571150095) + ((Go.bits .and .u64 (IntKind.u64.wrap (((IntKind.u64.wrap ((Go.bits .and .u64 ((IntKind.u64.wrap ((Go.bits .and .u64 (a0 / 2) 6148914691236517205) + (Go.bits .and .u64 a0 6148914691236517205))) / 4) 3689348814741910323) + (Go.bits .and .u64 (IntKind.u64.wrap ((Go.bits .and .u64 (a0 / 2) 6148914691236517205) + (Go.bits .and .u64 a0 6148914691236517205))) 3689348814741910323))) / 16) + (IntKind.u64.wrap ((Go.bits .and .u64 ((IntKind.u64.wrap ((Go.bits .and .u64 (a0 / 2) 6148914691236517205) + (Go.bits .and .u64 a0 6148914691236517205))) / 4) 3689348814741910323) + (Go.bits .and .u64 (IntKind.u64.wrap ((Go.bits .and .u64 (a0 / 2) 6148914691236517205) + (Go.bits .and .u64 a0 6148914691236517205))) 3689348814741910323))))) 1085102592571150095) / 256))) / 65536))) + ((IntKind.u64.wrap ((IntKind.u64.wrap ((Go.bits .and .u64 (IntKind.u64.wrap (((IntKind.u64.wrap ((Go.bits .and .u64 ((IntKind.u64.wrap ((Go.bits .and .u64 (a0 / 2) 6148914691236517205) + (Go.bits .and .u64 a0 6148914691236517205))) / 4) 3689348814741910323) + (Go.bits .and .u64 (IntKind.u64.wrap ((Go.bits .and .u64 (a0 / 2) 6148914691236517205) + (Go.bits .and .u64 a0 6148914691236517205))) 3689348814741910323))) / 16) + (IntKind.u64.wrap ((Go.bits .and .u64 ((IntKind.u64.wrap ((Go.bits .and .u64 (a0 / 2) 6148914691236517205) + (Go.bits .and .u64 a0 6148914691236517205))) / 4) 3689348814741910323) + (Go.bits .and .u64 (IntKind.u64.wrap ((Go.bits .and .u64 (a0 / 2) 6148914691236517205) + (Go.bits .and .u64 a0 6148914691236517205))) 3689348814741910323))))) 1085102592571150095) + ((Go.bits .and .u64 (IntKind.u64.wrap (((IntKind.u64.wrap ((Go.bits .and .u64 ((IntKind.u64.wrap ((Go.bits .and .u64 (a0 / 2) 6148914691236517205) + (Go.bits .and .u64 a0 6148914691236517205))) / 4) 3689348814741910323) + (Go.bits .and .u64 (IntKind.u64.wrap ((Go.bits .and .u64 (a0 / 2) 6148914691236517205) + (Go.bits .and .u64 a0 6148914691236517205))) 3689348814741910323))) / 16) + (IntKind.u64.wrap ((Go.bits .and .u64 ((IntKind.u64.wrap ((Go.bits .and .u64 (a0 / 2) 6148914691236517205) + (Go.bits .and .u64 a0 6148914691236517205))) / 4) 3689348814741910323) + (Go.bits .and .u64 (IntKind.u64.wrap ((Go.bits .and .u64 (a0 / 2) 6148914691236517205) + (Go.bits .and .u64 a0 6148914691236517205))) 3689348814741910323))))) 1085102592571150095) / 256))) + ((IntKind.u64.wrap ((Go.bits .and .u64 (IntKind.u64.wrap (((IntKind.u64.wrap ((Go.bits .and .u64 ((IntKind.u64.wrap ((Go.bits .and .u64 (a0 / 2) 6148914691236517205) + (Go.bits .and .u64 a0 6148914691236517205))) / 4) 3689348814741910323) + (Go.bits .and .u64 (IntKind.u64.wrap ((Go.bits .and .u64 (a0 / 2) 6148914691236517205) + (Go.bits .and .u64 a0 6148914691236517205))) 3689348814741910323))) / 16) + (IntKind.u64.wrap ((Go.bits .and .u64 ((IntKind.u64.wrap ((Go.bits .and .u64 (a0 / 2) 6148914691236517205) + (Go.bits .and .u64 a0 6148914691236517205))) / 4) 3689348814741910323) + (Go.bits .and .u64 (IntKind.u64.wrap ((Go.bits .and .u64 (a0 / 2) 6148914691236517205) + (Go.bits .and .u64 a0 6148914691236517205))) 3689348814741910323))))) 1085102592571150095) + ((Go.bits .and .u64 (IntKind.u64.wrap (((IntKind.u64.wrap ((Go.bits .and .u64 ((IntKind.u64.wrap ((Go.bits .and .u64 (a0 / 2) 6148914691236517205) + (Go.bits .and .u64 a0 6148914691236517205))) / 4) 3689348814741910323) + (Go.bits .and .u64 (IntKind.u64.wrap ((Go.bits .and .u64 (a0 / 2) 6148914691236517205) + (Go.bits .and .u64 a0 6148914691236517205))) 3689348814741910323))) / 16) + (IntKind.u64.wrap ((Go.bits .and .u64 ((IntKind.u64.wrap ((Go.bits .and .u64 (a0 / 2) 6148914691236517205) + (Go.bits .and .u64 a0 6148914691236517205))) / 4) 3689348814741910323) + (Go.bits .and .u64 (IntKind.u64.wrap ((Go.bits .and .u64 (a0 / 2) 6148914691236517205) + (Go.bits .and .u64 a0 6148914691236517205))) 3689348814741910323))))) 1085102592571150095) / 256))) / 65536))) / 4294967296)))) 127)) = some r := h
 clear h
 obtain rfl := Option.some.inj H
 go_enter Try.func127, Try.ntmps127
 go_wp2
 go_ret
 exact ⟨by first | rfl | (simp; done) | (simp [*]; done), by repeat (first | exact Drawn0.refl _ | apply Drawn0.step)⟩
def bits_OnesCount.f (a0 : Int) : Option (Int) := (bits_OnesCount64.f a0).bind fun t208 => (some t208)
set_option maxHeartbeats 8000000 in
set_option maxRecDepth 100000 in
theorem bits_OnesCount.calls (a0 : Int) (r : Int) (w : World) (h : bits_OnesCount.f a0 = some r) :
  Calls Try.prog 91 #[.int .u64 a0] w fun e w' => e = .returned (.int .i64 r) ∧ Drawn0 w w' := by
 have H : ((bits_OnesCount64.f a0).bind fun t208 => (some t208)) = some r := h
 clear h
 replace H := Option.bind_eq_some_iff.mp H
 obtain ⟨t208, A20, H⟩ := H
 replace H : (some t208) = some r := H
 have A2 := Aside0.mk A20
 clear A20
 obtain rfl := Option.some.inj H
 go_enter Try.func91, Try.ntmps91
 go_wp2_with (first | ((with_reducible refine gate_callee (f := 127) rfl ?_); refine goesL_ (some 7) rfl rfl Try.func127 (by kernel_rfl) rfl #[.int .u64 a0] rfl (by (try simp only [List.map_toArray, List.map_cons, List.map_nil]); first | done | rfl | (simp only [List.length_drop, List.length_take]; rfl)) ?_; (with_reducible refine (bits_OnesCount64.calls a0 t208 _ A2.out).mono ?_); rintro e w' ⟨rfl, ⟨nd, rfl⟩⟩; refine ⟨_, rfl, ?_⟩))
 go_ret
 exact ⟨by first | rfl | (simp; done) | (simp [*]; done), by repeat (first | exact Drawn0.refl _ | apply Drawn0.step)⟩
end Go.Proofs.Ytelabmhhnpfegaa.PDynCells
namespace Go.Proofs.Ytelabmhhnpfegaa.Hand
open Go.RowKit Go.Proofs.YtelabmhhnpfegaaW.PrintWords Go.Proofs.YtelabmhhnpfegaaW.PrintLast Go.Proofs.YtelabmhhnpfegaaW.PrintMore Go.Proofs.Ytelabmhhnpfegaa.PDynCells
end Go.Proofs.Ytelabmhhnpfegaa.Hand
end
section
namespace Go.Proofs.Ytelabmhhnpfegaa.Hand
open Go.RowKit Go.Proofs.YtelabmhhnpfegaaW.PrintWords Go.Proofs.YtelabmhhnpfegaaW.PrintLast Go.Proofs.YtelabmhhnpfegaaW.PrintMore Go.Proofs.Ytelabmhhnpfegaa.PDynCells
end Go.Proofs.Ytelabmhhnpfegaa.Hand
end
section
namespace Go.Proofs.Ytelabmhhnpfegaa.Hand
open Go.RowKit Go.Proofs.YtelabmhhnpfegaaW.PrintWords Go.Proofs.YtelabmhhnpfegaaW.PrintLast Go.Proofs.YtelabmhhnpfegaaW.PrintMore Go.Proofs.Ytelabmhhnpfegaa.PDynCells
end Go.Proofs.Ytelabmhhnpfegaa.Hand
end
section
namespace Go.Proofs.Ytelabmhhnpfegaa.Hand
open Go.RowKit Go.Proofs.YtelabmhhnpfegaaW.PrintWords Go.Proofs.YtelabmhhnpfegaaW.PrintLast Go.Proofs.YtelabmhhnpfegaaW.PrintMore Go.Proofs.Ytelabmhhnpfegaa.PDynCells
end Go.Proofs.Ytelabmhhnpfegaa.Hand
end
section
namespace Go.Proofs.Ytelabmhhnpfegaa.Hand
open Go.RowKit Go.Proofs.YtelabmhhnpfegaaW.PrintWords Go.Proofs.YtelabmhhnpfegaaW.PrintLast Go.Proofs.YtelabmhhnpfegaaW.PrintMore Go.Proofs.Ytelabmhhnpfegaa.PDynCells
end Go.Proofs.Ytelabmhhnpfegaa.Hand
end
section
namespace Go.Proofs.Ytelabmhhnpfegaa.Hand
open Go.RowKit Go.Proofs.Ytelabmhhnpfegaa.PDynCells
inductive Way2 (N : Nat) (T : Nat → S152) : Nat → List Int → Prop
 | one (X : Nat) (hX : X < N) (e : (T X).f3 = -1) : Way2 N T X [(T X).f2]
 | cons (X Y : Nat) (l : List Int) (hX : X < N) (e : (T X).f3 = (Y : Int)) (hl : Way2 N T Y l) : Way2 N T X ((T X).f2 :: l)
structure TrI (n : Nat) (c : Nat → Nat → Int) (P : Nat → Nat → Nat → Prop) (T : Nat → S152) : Prop where
 part : ∀ u l k, P u l k → u < 2 ^ n ∧ l < n ∧ k < n ∧ u / 2 ^ k % 2 = 0
 base : ∀ k, k < n → (T (n * 2 ^ k + k)).f1 = true ∧ (T (n * 2 ^ k + k)).f0 ≤ c 0 (k + 1)
 link : ∀ X, (T X).f1 = true → (∃ k, k < n ∧ X = n * 2 ^ k + k ∧ T X = ⟨c 0 (k + 1), true, ((k + 1 : Nat) : Int), -1⟩) ∨
  ∃ u l k, P u l k ∧ (T (n * u + l)).f1 = true ∧ X = n * (u + 2 ^ k) + k ∧ T X = ⟨(T (n * u + l)).f0 + c (l + 1) (k + 1), true, ((k + 1 : Nat) : Int), ((n * u + l : Nat) : Int)⟩
 done : ∀ u l k, P u l k → (T (n * u + l)).f1 = true → (T (n * (u + 2 ^ k) + k)).f1 = true ∧ (T (n * (u + 2 ^ k) + k)).f0 ≤ (T (n * u + l)).f0 + c (l + 1) (k + 1)
section
variable {n : Nat} {c : Nat → Nat → Int} {P : Nat → Nat → Nat → Prop} {T : Nat → S152}
theorem cell_lt {u u' l' : Nat} (hu : u' < u) (hl : l' < n) : n * u' + l' < n * u := by
 have h1 : n * (u' + 1) ≤ n * u := Nat.mul_le_mul_left n (by omega)
 rw [Nat.mul_succ] at h1
 omega
theorem cell_eq {u l u' l' : Nat} (hl : l < n) (hl' : l' < n) (e : n * u + l = n * u' + l') : u = u' ∧ l = l' := by
 rcases Nat.lt_trichotomy u u' with h | h | h
 ·have := cell_lt h hl
  omega
 ·subst h
  exact ⟨rfl, by omega⟩
 ·have := cell_lt h hl'
  omega
theorem TrI.skip (h : TrI n c P T) {u l k : Nat} (hu : u < 2 ^ n) (hl : l < n) (hk : k < n) (hb : u / 2 ^ k % 2 = 0) (hno : (T (n * u + l)).f1 = false) : TrI n c (fun u' l' k' => P u' l' k' ∨ (u' = u ∧ l' = l ∧ k' = k)) T where
 part u' l' k' hh := by
  rcases hh with hh | ⟨rfl, rfl, rfl⟩
  ·exact h.part _ _ _ hh
  ·exact ⟨hu, hl, hk, hb⟩
 base := h.base
 link X hok := by
  rcases h.link X hok with a | ⟨u', l', k', a1, a2⟩
  ·exact .inl a
  ·exact .inr ⟨u', l', k', .inl a1, a2⟩
 done u' l' k' hh hok := by
  rcases hh with hh | ⟨rfl, rfl, rfl⟩
  ·exact h.done _ _ _ hh hok
  ·rw [hno] at hok
   cases hok
theorem TrI.put (h : TrI n c P T) {u l k : Nat} (hu : u < 2 ^ n) (hl : l < n) (hk : k < n) (hb : u / 2 ^ k % 2 = 0) (hP : ∀ u' l' k', P u' l' k' → u' ≤ u) (hok : (T (n * u + l)).f1 = true) :
  TrI n c (fun u' l' k' => P u' l' k' ∨ (u' = u ∧ l' = l ∧ k' = k))
   (upd T (n * (u + 2 ^ k) + k) (offS (T (n * (u + 2 ^ k) + k)) ((T (n * u + l)).f0 + c (l + 1) (k + 1)) ((k + 1 : Nat) : Int) ((n * u + l : Nat) : Int))) := by
 have hp : 0 < 2 ^ k := Nat.pow_pos (by omega)
 obtain ⟨X0, hX0⟩ : ∃ X, X = n * (u + 2 ^ k) + k := ⟨_, rfl⟩
 obtain ⟨a, ha⟩ : ∃ a, a = (T (n * u + l)).f0 + c (l + 1) (k + 1) := ⟨_, rfl⟩
 rw [← hX0, ← ha]
 obtain ⟨v, hv⟩ : ∃ v, v = offS (T X0) a ((k + 1 : Nat) : Int) ((n * u + l : Nat) : Int) := ⟨_, rfl⟩
 obtain ⟨o1, o2, o3⟩ := offS_ok (T X0) a ((k + 1 : Nat) : Int) ((n * u + l : Nat) : Int)
 rw [← hv] at o1 o2 o3 ⊢
 have old : ∀ u' l', u' ≤ u → l' < n → upd T X0 v (n * u' + l') = T (n * u' + l') := fun u' l' a1 a2 => upd_ne _ _ (by
  have := cell_lt (n := n) (show u' < u + 2 ^ k by omega) a2
  omega)
 refine ⟨fun u' l' k' hh => ?_, fun k' hk' => ?_, fun X hXok => ?_, fun u' l' k' hh hsrc => ?_⟩
 ·rcases hh with hh | ⟨rfl, rfl, rfl⟩
  ·exact h.part _ _ _ hh
  ·exact ⟨hu, hl, hk, hb⟩
 ·have hb' := h.base k' hk'
  by_cases e : n * 2 ^ k' + k' = X0
  ·rw [e] at hb' ⊢
   rw [upd_self]
   have := o3 hb'.1
   exact ⟨o1, by omega⟩
  ·rw [upd_ne _ _ e]
   exact hb'
 ·by_cases e : X = X0
  ·subst e
   rw [upd_self] at hXok ⊢
   by_cases hkeep : (T X).f1 = true ∧ ¬ a < (T X).f0
   ·have ev : v = T X := by rw [hv]; exact if_pos hkeep
    rcases h.link X hkeep.1 with ⟨k', a1, a2, a3⟩ | ⟨u', l', k', a1, a2, a3, a4⟩
    ·exact .inl ⟨k', a1, a2, by rw [ev]; exact a3⟩
    ·have hp' := h.part _ _ _ a1
     have ho := old u' l' (hP _ _ _ a1) hp'.2.1
     exact .inr ⟨u', l', k', .inl a1, by rw [ho]; exact a2, a3, by rw [ho, ev]; exact a4⟩
   ·have ev : v = ⟨a, true, ((k + 1 : Nat) : Int), ((n * u + l : Nat) : Int)⟩ := by
     rw [hv]
     unfold offS
     rw [if_neg hkeep]
    have ho := old u l (Nat.le_refl u) hl
    exact .inr ⟨u, l, k, .inr ⟨rfl, rfl, rfl⟩, by rw [ho]; exact hok, hX0, by rw [ho, ev, ha]⟩
  ·rw [upd_ne _ _ e] at hXok ⊢
   rcases h.link X hXok with a0 | ⟨u', l', k', a1, a2, a3, a4⟩
   ·exact .inl a0
   ·have ho := old u' l' (hP _ _ _ a1) (h.part _ _ _ a1).2.1
    exact .inr ⟨u', l', k', .inl a1, by rw [ho]; exact a2, a3, by rw [ho]; exact a4⟩
 ·rcases hh with hh | ⟨rfl, rfl, rfl⟩
  ·have ho := old u' l' (hP _ _ _ hh) (h.part _ _ _ hh).2.1
   rw [ho] at hsrc ⊢
   have hd := h.done u' l' k' hh hsrc
   by_cases e : n * (u' + 2 ^ k') + k' = X0
   ·rw [e] at hd ⊢
    rw [upd_self]
    have := o3 hd.1
    exact ⟨o1, by omega⟩
   ·rw [upd_ne _ _ e]
    exact hd
  ·have ho := old u' l' (Nat.le_refl u') hl
   rw [ho, ← hX0, upd_self, ← ha]
   exact ⟨o1, o2⟩
def wayC (c : Nat → Nat → Int) (σ : Nat → Nat) : Nat → Int
 | 0 => c 0 (σ 0 + 1)
 | i + 1 => wayC c σ i + c (σ i + 1) (σ (i + 1) + 1)
theorem wayC_congr {c : Nat → Nat → Int} {σ τ : Nat → Nat} : ∀ i, (∀ r, r ≤ i → σ r = τ r) → wayC c σ i = wayC c τ i
 | 0, h => by rw [wayC, wayC, h 0 (Nat.le_refl 0)]
 | i + 1, h => by rw [wayC, wayC, wayC_congr i (fun r hr => h r (by omega)), h i (by omega), h (i + 1) (Nat.le_refl _)]
theorem TrI.le (h : TrI n c P T) (hP : ∀ u l k, u < 2 ^ n → l < n → k < n → u / 2 ^ k % 2 = 0 → P u l k) {σ : Nat → Nat} (hl : ∀ r, r < n → σ r < n) (hinj : ∀ r s, r < n → s < n → σ r = σ s → r = s) :
  ∀ i, i < n → (T (n * msk σ (i + 1) + σ i)).f1 = true ∧ (T (n * msk σ (i + 1) + σ i)).f0 ≤ wayC c σ i
 | 0, hi => by
  have := h.base (σ 0) (hl 0 hi)
  rw [msk, msk, Nat.zero_add]
  exact this
 | i + 1, hi => by
  obtain ⟨h1, h2⟩ := TrI.le h hP hl hinj i (by omega)
  obtain ⟨m1, m2, m3⟩ := msk_all (K := n) hl (Nat.le_refl n) (i + 1) (by omega) (fun r s hr hs e => hinj r s (by omega) (by omega) e)
  have hz : msk σ (i + 1) / 2 ^ σ (i + 1) % 2 = 0 := by
   have : ¬ msk σ (i + 1) / 2 ^ σ (i + 1) % 2 = 1 := fun h => by
    obtain ⟨r, hr, e⟩ := (m3 _).1 h
    have := hinj r (i + 1) (by omega) (by omega) e
    omega
   omega
  have hd := h.done _ _ _ (hP (msk σ (i + 1)) (σ i) (σ (i + 1)) m1 (hl i (by omega)) (hl (i + 1) hi) hz) h1
  rw [msk, wayC]
  exact ⟨hd.1, by have := hd.2; omega⟩
theorem TrI.real (h : TrI n c P T) : ∀ (f X : Nat), X ≤ f → (T X).f1 = true → ∃ (i : Nat) (σ : Nat → Nat), i < n ∧ (∀ r, σ r < n) ∧ (∀ r s, r ≤ i → s ≤ i → σ r = σ s → r = s) ∧ X = n * msk σ (i + 1) + σ i ∧ (T X).f0 = wayC c σ i ∧
  ∃ l, Way2 (n * 2 ^ n) T X l ∧ l.reverse = (List.range (i + 1)).map fun r => ((σ r + 1 : Nat) : Int)
 | f, X, hf, hok => by
  rcases h.link X hok with ⟨k, hk, hX, hT⟩ | ⟨u, l, k, a1, a2, a3, a4⟩
  ·refine ⟨0, fun _ => k, by omega, fun _ => hk, fun r s hr hs _ => by omega, by rw [msk, msk, Nat.zero_add]; exact hX, by rw [hT]; rfl, [(T X).f2], ?_, ?_⟩
   ·refine .one X ?_ (by rw [hT])
    rw [hX]
    exact cell_lt (Nat.pow_lt_pow_right (by omega) hk) hk
   ·rw [hT]
    rfl
  ·obtain ⟨hu, hl, hk, hb⟩ := h.part _ _ _ a1
   have hp : 0 < 2 ^ k := Nat.pow_pos (by omega)
   have hlt : n * u + l < X := by
    have := cell_lt (n := n) (show u < u + 2 ^ k by omega) hl
    omega
   match f, hf with
   | 0, hf => omega
   | f + 1, hf =>
    obtain ⟨i, σ, s0, s1, s2, s3, s4, m, s5, s6⟩ := TrI.real h f (n * u + l) (by omega) a2
    obtain ⟨e1, e2⟩ := cell_eq hl (s1 i) s3
    obtain ⟨m1, m2, m3⟩ := msk_all (K := n) (fun r _ => s1 r) (Nat.le_refl n) (i + 1) (by omega) (fun r s hr hs e => s2 r s (by omega) (by omega) e)
    rw [← e1] at m1 m2 m3
    have hno : ∀ r, r ≤ i → σ r ≠ k := fun r hr er => by
     have := (m3 k).2 ⟨r, by omega, er⟩
     omega
    have hlt2 := bit_lt n k u hu hk hb
    have hi2 : i + 1 < n := by
     have h1 := pop_add n k u hk hb
     have h2 := pop_le n n (u + 2 ^ k) hlt2
     omega
    have hmsk : msk (upd σ (i + 1) k) (i + 1 + 1) = u + 2 ^ k := by
     rw [msk, upd_self, msk_congr (τ := σ) (i + 1) (fun r hr => upd_ne _ _ (by omega)), ← e1]
    refine ⟨i + 1, upd σ (i + 1) k, hi2, fun r => ?_, fun r s hr hs ers => ?_, ?_, ?_, (T X).f2 :: m, ?_, ?_⟩
    ·by_cases er : r = i + 1
     ·rw [er, upd_self]; exact hk
     ·rw [upd_ne _ _ er]; exact s1 r
    ·by_cases er : r = i + 1
     ·by_cases es : s = i + 1
      ·omega
      ·rw [er, upd_self, upd_ne _ _ es] at ers
       exact absurd ers.symm (hno s (by omega))
     ·by_cases es : s = i + 1
      ·rw [es, upd_self, upd_ne _ _ er] at ers
       exact absurd ers (hno r (by omega))
      ·rw [upd_ne _ _ er, upd_ne _ _ es] at ers
       exact s2 r s (by omega) (by omega) ers
    ·rw [hmsk, upd_self, a3]
    ·rw [wayC, upd_self, upd_ne _ _ (show i ≠ i + 1 by omega), wayC_congr (τ := σ) i (fun r hr => upd_ne _ _ (by omega)), ← s4, a4, ← e2]
    ·refine .cons X (n * u + l) m ?_ (by rw [a4]) s5
     rw [a3]
     exact cell_lt hlt2 hk
    ·rw [List.reverse_cons, s6, List.range_succ (n := i + 1), List.map_append, a4]
     congr 1
     ·refine List.map_congr_left (fun r hr => ?_)
      rw [upd_ne _ _ (by have := List.mem_range.1 hr; omega)]
     ·show [((k + 1 : Nat) : Int)] = [((upd σ (i + 1) k (i + 1) + 1 : Nat) : Int)]
      rw [upd_self]
theorem msk_full {n : Nat} {σ : Nat → Nat} (hl : ∀ r, r < n → σ r < n) (hinj : ∀ r s, r < n → s < n → σ r = σ s → r = s) : msk σ n = 2 ^ n - 1 := by
 obtain ⟨m1, m2, _⟩ := msk_all (K := n) hl (Nat.le_refl n) n (Nat.le_refl n) hinj
 exact pop_full n n _ m1 m2
theorem TrI.there (h : TrI n c P T) (hP : ∀ u l k, u < 2 ^ n → l < n → k < n → u / 2 ^ k % 2 = 0 → P u l k) {l : Nat} (hl : l < n) : (T (n * (2 ^ n - 1) + l)).f1 = true := by
 obtain ⟨σ, hσ⟩ : ∃ σ : Nat → Nat, σ = fun r => if r = n - 1 then l else if r = l then n - 1 else r := ⟨_, rfl⟩
 have h1 : ∀ r, r < n → σ r < n := fun r hr => by
  rw [hσ]
  show (if r = n - 1 then l else if r = l then n - 1 else r) < n
  split
  ·exact hl
  ·split <;> omega
 have h2 : ∀ r s, r < n → s < n → σ r = σ s → r = s := fun r s hr hs e => by
  rw [hσ] at e
  have e' : (if r = n - 1 then l else if r = l then n - 1 else r) = (if s = n - 1 then l else if s = l then n - 1 else s) := e
  split at e' <;> split at e' <;> (try split at e') <;> (try split at e') <;> omega
 obtain ⟨m, hm⟩ : ∃ m, n = m + 1 := ⟨n - 1, by omega⟩
 have h3 := (h.le hP h1 h2 m (by omega)).1
 have h4 := msk_full h1 h2
 have h5 : σ m = l := by
  rw [hσ]
  exact if_pos (by omega)
 rw [hm] at h4
 rw [h4, h5, ← hm] at h3
 exact h3
theorem TrI.round (h : TrI n c P T) (hP : ∀ u l k, u < 2 ^ n → l < n → k < n → u / 2 ^ k % 2 = 0 → P u l k) (hn : 0 < n) :
  (∀ l, l < n → ∃ σ : Nat → Nat, (∀ r, r < n → σ r < n) ∧ (∀ r s, r < n → s < n → σ r = σ s → r = s) ∧ σ (n - 1) = l ∧ (T (n * (2 ^ n - 1) + l)).f0 = wayC c σ (n - 1) ∧
   ∃ m, Way2 (n * 2 ^ n) T (n * (2 ^ n - 1) + l) m ∧ m.reverse = (List.range n).map fun r => ((σ r + 1 : Nat) : Int)) ∧
  ∀ σ : Nat → Nat, (∀ r, r < n → σ r < n) → (∀ r s, r < n → s < n → σ r = σ s → r = s) → (T (n * (2 ^ n - 1) + σ (n - 1))).f0 ≤ wayC c σ (n - 1) := by
 have h0 : 0 < 2 ^ n := Nat.pow_pos (by omega)
 refine ⟨fun l hl => ?_, fun σ h1 h2 => ?_⟩
 ·obtain ⟨i, σ, s0, s1, s2, s3, s4, m, s5, s6⟩ := TrI.real h _ _ (Nat.le_refl _) (h.there hP hl)
  obtain ⟨e1, e2⟩ := cell_eq hl (s1 i) s3
  obtain ⟨m1, m2, _⟩ := msk_all (K := n) (fun r _ => s1 r) (Nat.le_refl n) (i + 1) (by omega) (fun r s hr hs e => s2 r s (by omega) (by omega) e)
  have hin : i + 1 = n := by
   rw [← e1] at m2
   have hall : ∀ m, pop m (2 ^ m - 1) = m := fun m => by
    induction m with
    | zero => rfl
    | succ m ih =>
     have h2 : 2 ^ (m + 1) = 2 ^ m * 2 := Nat.pow_succ ..
     have h0 : 0 < 2 ^ m := Nat.pow_pos (by omega)
     rw [pop, show (2 ^ (m + 1) - 1) / 2 = 2 ^ m - 1 by omega, ih]
     omega
   rw [← m2, hall]
  have hi : n - 1 = i := by omega
  refine ⟨σ, fun r _ => s1 r, fun r s hr hs e => s2 r s (by omega) (by omega) e, by rw [hi]; exact e2.symm, by rw [hi]; exact s4, m, s5, ?_⟩
  rw [s6, hin]
 ·have h3 := (h.le hP h1 h2 (n - 1) (by omega)).2
  rw [show n - 1 + 1 = n by omega, msk_full h1 h2] at h3
  exact h3
end
end Go.Proofs.Ytelabmhhnpfegaa.Hand
end
section
namespace Go.Proofs.Ytelabmhhnpfegaa.Hand
open Go.RowKit Go.Proofs.Ytelabmhhnpfegaa.PDynCells
structure Bs (n : Nat) (c : Nat → Nat → Int) (k : Nat) (T : Nat → S152) : Prop where
 set : ∀ j, j < k → T (n * 2 ^ j + j) = ⟨c 0 (j + 1), true, ((j + 1 : Nat) : Int), -1⟩
 only : ∀ X, (T X).f1 = true → ∃ j, j < k ∧ X = n * 2 ^ j + j
theorem Bs.start (n : Nat) (c : Nat → Nat → Int) : Bs n c 0 (fun _ => z152) := ⟨fun _ h => by omega, fun _ h => by cases h⟩
theorem Bs.put {n k : Nat} {c : Nat → Nat → Int} {T : Nat → S152} (h : Bs n c k T) (hk : k < n) : Bs n c (k + 1) (upd T (n * 2 ^ k + k) ⟨c 0 (k + 1), true, ((k + 1 : Nat) : Int), -1⟩) := by
 refine ⟨fun j hj => ?_, fun X hX => ?_⟩
 ·by_cases e : j = k
  ·subst e
   exact upd_self _ _ _
  ·have := cell_lt (n := n) (Nat.pow_lt_pow_right (show 1 < 2 by omega) (show j < k by omega)) (show j < n by omega)
   rw [upd_ne _ _ (by omega)]
   exact h.set j (by omega)
 ·by_cases e : X = n * 2 ^ k + k
  ·exact ⟨k, Nat.lt_succ_self _, e⟩
  ·rw [upd_ne _ _ e] at hX
   obtain ⟨j, hj, e'⟩ := h.only X hX
   exact ⟨j, by omega, e'⟩
structure EndI (val : Nat → Int) (pl : Nat → Nat) (l : Nat) (E : S152) : Prop where
 zero : l = 0 → E = z152
 some : 0 < l → E.f1 = true ∧ ∃ j, j < l ∧ E.f0 = val j ∧ E.f3 = ((pl j : Nat) : Int)
 le : ∀ j, j < l → E.f0 ≤ val j
theorem EndI.start (val : Nat → Int) (pl : Nat → Nat) : EndI val pl 0 z152 := ⟨fun _ => rfl, fun h => by omega, fun _ h => by omega⟩
theorem EndI.put {val : Nat → Int} {pl : Nat → Nat} {l : Nat} {E : S152} (h : EndI val pl l E) : EndI val pl (l + 1) (offS E (val l) 0 ((pl l : Nat) : Int)) := by
 refine ⟨fun h => by omega, fun _ => ?_, fun j hj => ?_⟩
 ·unfold offS
  split
  ·rename_i hk
   by_cases h0 : l = 0
   ·have := h.zero h0
    rw [this] at hk
    exact absurd hk.1 (by decide)
   ·obtain ⟨a, j, b1, b2, b3⟩ := h.some (by omega)
    exact ⟨a, j, by omega, b2, b3⟩
  ·exact ⟨rfl, l, Nat.lt_succ_self _, rfl, rfl⟩
 ·obtain ⟨o1, o2, o3⟩ := offS_ok E (val l) 0 ((pl l : Nat) : Int)
  by_cases e : j = l
  ·subst e
   exact o2
  ·have h1 := o3 (h.some (by omega)).1
   have h2 := h.le j (by omega)
   omega
end Go.Proofs.Ytelabmhhnpfegaa.Hand
end
section
namespace Go.Proofs.Ytelabmhhnpfegaa.Hand
open Go.RowKit Go.Proofs.Ytelabmhhnpfegaa.PDynCells
end Go.Proofs.Ytelabmhhnpfegaa.Hand
end
section
namespace Go.Proofs.Ytelabmhhnpfegaa.Hand
open Go.RowKit Go.Proofs.YtelabmhhnpfegaaW.PrintWords Go.Proofs.YtelabmhhnpfegaaW.PrintLast Go.Proofs.YtelabmhhnpfegaaW.PrintMore Go.Proofs.Ytelabmhhnpfegaa.PDynCells
end Go.Proofs.Ytelabmhhnpfegaa.Hand
end
section
namespace Go.Proofs.Ytelabmhhnpfegaa.Hand
open Go.RowKit Go.Proofs.Ytelabmhhnpfegaa.PDynCells
end Go.Proofs.Ytelabmhhnpfegaa.Hand
end
section
namespace Go.Proofs.Ytelabmhhnpfegaa.Hand
open Go.RowKit Go.Proofs.YtelabmhhnpfegaaW.PrintWords Go.Proofs.YtelabmhhnpfegaaW.PrintLast Go.Proofs.YtelabmhhnpfegaaW.PrintMore Go.Proofs.Ytelabmhhnpfegaa.PDynCells
theorem cells_ok {x : PI} (h : (cellsP x).2 = 0) : IOk x ∧ qP x ≤ 1048576 := by
 unfold cellsP at h
 split at h
 ·rename_i h0
  split at h
  ·cases h
  ·exact ⟨iok.1 h0, by omega⟩
 ·rename_i h0
  exact absurd h h0
theorem room_small {x : PI} (h : (cellsP x).2 = 0) (hk : x.kind = 0) : roomP x ≤ 1048576 := by
 obtain ⟨hi, hq⟩ := cells_ok h
 have hb := room_bd hi
 unfold qP aP tP at hq
 rw [if_pos hk, if_pos hk, Int.pow_zero, Int.mul_one] at hq
 have h1 : (1 : Int) * (roomP x + 1) ≤ ((x.items.length : Int) + 1) * (roomP x + 1) := Int.mul_le_mul_of_nonneg_right (by omega) (by omega)
 omega
set_option maxHeartbeats 400000 in
set_option maxRecDepth 100000 in
theorem front_ok (w : World) (x : PI) (v : Value) (h : InstC w x v) (hx : PIok x) (he : (cellsP x).2 = 0) (hk : x.kind = 0) :
  Calls Try.prog 25 #[v] w fun e w' => ∃ (a : Addr) (c : Nat), e = .returned (.tuple #[.slice (some a) (roomP x + 1).toNat c, .int .i64 0]) ∧ Aside0 ((Kd.int .i64).C w' (some a) (roomP x + 1).toNat (rowK (roomP x + 1).toNat x.items x.items.length) ∧ Below w.heap.size w w') := by
 have HI := Aside0.mk h
 have IOa := Aside0.mk (cells_ok he).1
 have RS := Aside0.mk (room_small he hk)
 obtain ⟨A2, c2, A3, c3, A5, c5, rfl, h2, l2, h3, l3, h5, l5⟩ := h
 clear h2 h3 h5
 obtain ⟨y, hy⟩ : ∃ z, z = (cellsP x).1 := ⟨_, rfl⟩
 have HZ := Aside0.mk (And.intro he hy)
 have g : (x.kind != 0) = false := by rw [hk]; rfl
 obtain ⟨n2, hn2⟩ : ∃ n, n = x.items.length := ⟨_, rfl⟩
 have b2 : n2 ≤ 4096 := by rw [hn2]; exact IOa.out.nitems
 rw [← hn2] at HI l2 ⊢
 have HN := Aside0.mk hn2
 obtain ⟨m, hm⟩ : ∃ m, m = (roomP x + 1).toNat := ⟨_, rfl⟩
 rw [← hm]
 have m0 : 0 < m := by have := room_bd IOa.out; omega
 have HM := Aside0.mk hm
 clear he hy hk hn2 hm
 have hu54 := Try.underlying54
 go_enter Try.func25, Try.ntmps25
 go_wp2_with fail
 obtain ⟨W1, hW1⟩ : ∃ W, W = w.alloc (.cells #[.int .i64 x.kind, .int .i64 x.cap, .slice A2 n2 c2, .slice A3 x.cost.length c3, .int .i64 x.size, .slice A5 x.sets.length c5] 54) := ⟨_, rfl⟩
 rw [← hW1]
 have B1 : Aside0 (Below w.heap.size w W1) := ⟨by rw [hW1]; exact below_alloc (Below.refl _ _) _⟩
 obtain ⟨p1, hp1⟩ : ∃ p, p = w.heap.size := ⟨_, rfl⟩
 have Q1 : Aside0 (W1.heap[p1]? = some (.cells #[.int .i64 x.kind, .int .i64 x.cap, .slice A2 n2 c2, .slice A3 x.cost.length c3, .int .i64 x.size, .slice A5 x.sets.length c5] 54 (0, 0))) := ⟨by rw [hW1, hp1]; exact heap_alloc_new _ _⟩
 rw [← hp1]
 clear hW1 hp1
 refine (cells_any W1 x _ (HI.out.below B1.out) hx).mono ?_
 rintro _ W2 ⟨rfl, B2'⟩
 have B2 := Aside0.mk (B1.out.trans (B2'.mono B1.out.size))
 have Q2 : Aside0 (W2.heap[p1]? = some (.cells #[.int .i64 x.kind, .int .i64 x.cap, .slice A2 n2 c2, .slice A3 x.cost.length c3, .int .i64 x.size, .slice A5 x.sets.length c5] 54 (0, 0))) := ⟨blk_below Q1.out B2'⟩
 clear B2'
 rw [HZ.out.1, ← HZ.out.2]
 have q0 : W2.cell? ⟨p1, 0, none⟩ = some (.int .i64 x.kind) := (blk_cell Q2.out 0).trans rfl
 have q1 : W2.cell? ⟨p1, 1, none⟩ = some (.int .i64 x.cap) := (blk_cell Q2.out 1).trans rfl
 have q2 : W2.cell? ⟨p1, 2, none⟩ = some (.slice A2 n2 c2) := (blk_cell Q2.out 2).trans rfl
 have q3 : W2.cell? ⟨p1, 3, none⟩ = some (.slice A3 x.cost.length c3) := (blk_cell Q2.out 3).trans rfl
 have q4 : W2.cell? ⟨p1, 4, none⟩ = some (.int .i64 x.size) := (blk_cell Q2.out 4).trans rfl
 have q5 : W2.cell? ⟨p1, 5, none⟩ = some (.slice A5 x.sets.length c5) := (blk_cell Q2.out 5).trans rfl
 go_wp2_with fail
 clear q0 q1 q2 q3 q4 q5
 refine (rows_any W2 x _ (HI.out.below B2.out) IOa.out RS.out).mono ?_
 rintro _ W3 ⟨vt, rfl, HT⟩
 rw [← HM.out, ← HN.out] at HT
 obtain ⟨gt, ct, rfl⟩ : ∃ g c, vt = .slice (some ⟨g, 0, none⟩) (n2 + 1) c := by
  obtain ⟨g, cap, e, _⟩ := Kd.R_form HT.out.1 (by rw [rowsP_len]; omega)
  rw [rowsP_len] at e
  exact ⟨_, cap, e⟩
 obtain ⟨ar, AY, cY, e, y0, ly, hy⟩ := at_L2 (R_C HT.out.1).1 (n2 : Int) (by omega) (by omega)
 injection e with e
 subst e
 have hyE : rd_L2 (rowsP m x.items n2) (n2 : Int) = rowK m x.items n2 := by unfold rd_L2; rw [Int.toNat_natCast]; exact rowsP_get m x.items (Nat.le_refl _)
 rw [hyE, rowK_len] at y0 hy
 rw [Int.toNat_natCast, show (⟨gt, 0, none⟩ : Addr).add n2 = ⟨gt, n2, none⟩ by unfold Addr.add; split <;> simp_all] at y0
 obtain ⟨aY, e⟩ : ∃ a, AY = some a := by
  obtain ⟨_, _, hc⟩ := hy
  obtain ⟨a, e, _⟩ := hc (by omega)
  exact ⟨a, e⟩
 subst e
 have HY := Aside0.mk hy
 clear hyE hy
 have hk1 : wrap64 ((n2 : Int) + 1 - 1) = (n2 : Int) := by unfold wrap64; omega
 have hk2 : (n2 : Int) + 1 - 1 = (n2 : Int) := by omega
 go_wp2_with fail
 go_ret2
 exact ⟨_, _, rfl, ⟨HY.out, B2.out.trans (HT.out.2.mono B2.out.size)⟩⟩
set_option maxHeartbeats 1000000 in
set_option maxRecDepth 100000 in
theorem best_call0 (w : World) (x : PI) (v : Value) (h : InstC w x v) (hx : PIok x) (he : (cellsP x).2 = 0) (hk : x.kind = 0) (z : Int) (b : Bool) (Q : Value → World → World → Prop)
  (hc : ∀ W, Below w.heap.size w W → Calls Try.prog 54 #[v] W fun e w' => ∃ vr, e = .returned (.tuple #[vr, .int .i64 z, .bool b]) ∧ Aside0 (Q vr W w' ∧ Below W.heap.size W w')) :
  Calls Try.prog 27 #[v] w fun e w' => ∃ vr, e = .returned (.tuple #[vr, .int .i64 z, .bool b, .int .i64 0]) ∧ Aside0 (∃ W wz, Below w.heap.size w W ∧ Q vr W wz ∧ Below w.heap.size w wz ∧ wz.heap = w'.heap ∧ Below w.heap.size w w') := by
 have HI := Aside0.mk h
 have HC := Aside0.mk hc
 obtain ⟨A2, c2, A3, c3, A5, c5, rfl, h2, l2, h3, l3, h5, l5⟩ := h
 clear h2 h3 h5 hc
 obtain ⟨y, hy⟩ : ∃ z, z = (cellsP x).1 := ⟨_, rfl⟩
 have HZ := Aside0.mk (And.intro he hy)
 rw [hk] at HI HC ⊢
 have HK := Aside0.mk hk
 clear he hy hk
 have hu54 := Try.underlying54
 have hu116 := Try.underlying116
 go_enter Try.func27, Try.ntmps27
 go_wp2_with fail
 obtain ⟨W1, hW1⟩ : ∃ W, W = w.alloc (.cells #[.int .i64 0, .int .i64 x.cap, .slice A2 x.items.length c2, .slice A3 x.cost.length c3, .int .i64 x.size, .slice A5 x.sets.length c5] 54) := ⟨_, rfl⟩
 rw [← hW1]
 have B1 : Aside0 (Below w.heap.size w W1) := ⟨by rw [hW1]; exact below_alloc (Below.refl _ _) _⟩
 obtain ⟨p1, hp1⟩ : ∃ p, p = w.heap.size := ⟨_, rfl⟩
 have Q1 : Aside0 (W1.heap[p1]? = some (.cells #[.int .i64 0, .int .i64 x.cap, .slice A2 x.items.length c2, .slice A3 x.cost.length c3, .int .i64 x.size, .slice A5 x.sets.length c5] 54 (0, 0))) := ⟨by rw [hW1, hp1]; exact heap_alloc_new _ _⟩
 rw [← hp1]
 clear hW1 hp1
 refine (cells_any W1 x _ (HI.out.below B1.out) hx).mono ?_
 rintro _ W2 ⟨rfl, B2'⟩
 have B2 := Aside0.mk (B1.out.trans (B2'.mono B1.out.size))
 have Q2 : Aside0 (W2.heap[p1]? = some (.cells #[.int .i64 0, .int .i64 x.cap, .slice A2 x.items.length c2, .slice A3 x.cost.length c3, .int .i64 x.size, .slice A5 x.sets.length c5] 54 (0, 0))) := ⟨blk_below Q1.out B2'⟩
 clear B2'
 rw [HZ.out.1, ← HZ.out.2]
 go_upto_region 5 with fail
 obtain ⟨W3, hW3⟩ : ∃ W, W = W2.alloc (.cells #[.func (.func 54) #[] #[], .func (.func 55) #[] #[], .func (.func 56) #[] #[], .func (.func 57) #[] #[]] 116) := ⟨_, rfl⟩
 rw [← hW3]
 have B3 : Aside0 (Below W2.heap.size W2 W3) := ⟨by rw [hW3]; exact below_alloc (Below.refl _ _) _⟩
 obtain ⟨g3, hg3⟩ : ∃ p, p = W2.heap.size := ⟨_, rfl⟩
 have Q3 : Aside0 (W3.heap[g3]? = some (.cells #[.func (.func 54) #[] #[], .func (.func 55) #[] #[], .func (.func 56) #[] #[], .func (.func 57) #[] #[]] 116 (0, 0))) := ⟨by rw [hW3, hg3]; exact heap_alloc_new _ _⟩
 rw [← hg3]
 clear hW3 hg3
 have R3 : Aside0 (W3.heap[p1]? = some (.cells #[.int .i64 0, .int .i64 x.cap, .slice A2 x.items.length c2, .slice A3 x.cost.length c3, .int .i64 x.size, .slice A5 x.sets.length c5] 54 (0, 0))) := ⟨blk_below Q2.out B3.out⟩
 have B4' : Aside0 (Below w.heap.size w W3.drew) := ⟨below_drew (B2.out.trans (B3.out.mono B2.out.size))⟩
 have q0 : W3.drew.cell? ⟨p1, 0, none⟩ = some (.int .i64 0) := (blk_cell R3.out 0).trans rfl
 have q1 : W3.drew.cell? ⟨p1, 1, none⟩ = some (.int .i64 x.cap) := (blk_cell R3.out 1).trans rfl
 have q2 : W3.drew.cell? ⟨p1, 2, none⟩ = some (.slice A2 x.items.length c2) := (blk_cell R3.out 2).trans rfl
 have q3 : W3.drew.cell? ⟨p1, 3, none⟩ = some (.slice A3 x.cost.length c3) := (blk_cell R3.out 3).trans rfl
 have q4 : W3.drew.cell? ⟨p1, 4, none⟩ = some (.int .i64 x.size) := (blk_cell R3.out 4).trans rfl
 have q5 : W3.drew.cell? ⟨p1, 5, none⟩ = some (.slice A5 x.sets.length c5) := (blk_cell R3.out 5).trans rfl
 have q6 : W3.drew.cell? ⟨g3, 0, none⟩ = some (.func (.func 54) #[] #[]) := (blk_cell Q3.out 0).trans rfl
 refine start_ (n := 13) (S := fun w' => w'.cell? ⟨p1, 0, none⟩ = some (.int .i64 0) ∧ w'.cell? ⟨p1, 1, none⟩ = some (.int .i64 x.cap) ∧ w'.cell? ⟨p1, 2, none⟩ = some (.slice A2 x.items.length c2) ∧ w'.cell? ⟨p1, 3, none⟩ = some (.slice A3 x.cost.length c3) ∧ w'.cell? ⟨p1, 4, none⟩ = some (.int .i64 x.size) ∧ w'.cell? ⟨p1, 5, none⟩ = some (.slice A5 x.sets.length c5) ∧ w'.cell? ⟨g3, 0, none⟩ = some (.func (.func 54) #[] #[])) (ds := [5]) #[false, false, false, false, false, false, false, false, false, false, false, false, false] (by kernel_rfl) rfl rfl ⟨q0, q1, q2, q3, q4, q5, q6⟩ (fun hHeld => ?_)
 clear q0 q1 q2 q3 q4 q5 q6
 refine puU 0 (some 22) ?_ rfl rfl (by kernel_rfl) (fun _ _ _ h => h) (Or.inl ⟨by rfl, ?_⟩) ?_ ?_ ?_
 rotate_left
 ·intro w'
  go_simp
  with_reducible rfl
 rotate_left
 ·simp only [Act.put, lsA, lsB, lsC]
  rfl
 refine taU 1 (some 23) ?_ rfl rfl (by kernel_rfl) (fun _ _ _ h => h) (Or.inl ⟨by rfl, ?_⟩) hHeld ?_ ?_ ?_
 rotate_left
 ·rintro w' ⟨s0, s1, s2, s3, s4, s5, s6⟩
  go_simp
  with_reducible rfl
 rotate_left
 ·simp only [Act.put, lsA, lsB, lsC]
  rfl
 refine puU 2 (some 24) ?_ rfl rfl (by kernel_rfl) (fun _ _ _ h => h) (Or.inl ⟨by rfl, ?_⟩) ?_ ?_ ?_
 rotate_left
 ·intro w'
  go_simp
  with_reducible rfl
 rotate_left
 ·simp only [Act.put, lsA, lsB, lsC]
  rfl
 refine taU 3 (some 25) ?_ rfl rfl (by kernel_rfl) (fun _ _ _ h => h) (Or.inl ⟨by rfl, ?_⟩) hHeld ?_ ?_ ?_
 rotate_left
 ·rintro w' ⟨s0, s1, s2, s3, s4, s5, s6⟩
  go_simp
  with_reducible rfl
 rotate_left
 ·simp only [Act.put, lsA, lsB, lsC]
  rfl
 refine taU 4 (some 26) ?_ rfl rfl (by kernel_rfl) (fun _ _ _ h => h) (Or.inl ⟨by rfl, ?_⟩) hHeld ?_ ?_ ?_
 rotate_left
 ·rintro w' ⟨s0, s1, s2, s3, s4, s5, s6⟩
  go_simp
  with_reducible rfl
 rotate_left
 ·simp only [Act.put, lsA, lsB, lsC]
  rfl
 refine last_ (i := 5) (N := some 27) #[true, true, true, true, true, true, false, false, false, false, false, false, false] rfl rfl (by kernel_rfl) (by decide) (fun K hK => ?_)
 have he := enters_ Try.func54 (by kernel_rfl) rfl #[.agg #[.int .i64 0, .int .i64 x.cap, .slice A2 x.items.length c2, .slice A3 x.cost.length c3, .int .i64 x.size, .slice A5 x.sets.length c5]] W3.drew
 refine call_ 54 #[.agg #[.int .i64 0, .int .i64 x.cap, .slice A2 x.items.length c2, .slice A3 x.cost.length c3, .int .i64 x.size, .slice A5 x.sets.length c5]] (by rfl) rfl (by unfold execOp; simp [resolve, Deferred.ofValue, invoke, Act.eval, he]) ?_
 refine (HC.out W3.drew B4'.out).mono ?_
 rintro _ w9 ⟨vr, rfl, H9⟩
 refine ⟨_, rfl, ?_⟩
 refine hK.out _ _ ?_
 clear hK K he
 refine norm_ (a' := ?_) ?_ ?_
 rotate_left
 ·show Act.put _ (some 27) _ = _
  simp only [Act.put, lsA, lsB, lsC]
  rfl
 refine puU 6 (some 21) ?_ rfl rfl (by kernel_rfl) (fun _ _ _ h => h) (Or.inl ⟨by rfl, ?_⟩) ?_ ?_ ?_
 rotate_left
 ·intro w'
  go_simp
  with_reducible rfl
 rotate_left
 ·simp only [Act.put, lsA, lsB, lsC]
  rfl
 refine puU 7 (some 28) ?_ rfl rfl (by kernel_rfl) (fun _ _ _ h => h) (Or.inl ⟨by rfl, ?_⟩) ?_ ?_ ?_
 rotate_left
 ·intro w'
  go_simp
  with_reducible rfl
 rotate_left
 ·simp only [Act.put, lsA, lsB, lsC]
  rfl
 refine puU 8 (some 29) ?_ rfl rfl (by kernel_rfl) (fun _ _ _ h => h) (Or.inl ⟨by rfl, ?_⟩) ?_ ?_ ?_
 rotate_left
 ·intro w'
  go_simp
  with_reducible rfl
 rotate_left
 ·simp only [Act.put, lsA, lsB, lsC]
  rfl
 refine puU 9 (some 30) ?_ rfl rfl (by kernel_rfl) (fun _ _ _ h => h) (Or.inl ⟨by rfl, ?_⟩) ?_ ?_ ?_
 rotate_left
 ·intro w'
  go_simp
  with_reducible rfl
 rotate_left
 ·simp only [Act.put, lsA, lsB, lsC]
  rfl
 refine puU 10 (some 9) ?_ rfl rfl (by kernel_rfl) (fun _ _ _ h => h) (Or.inl ⟨by rfl, ?_⟩) ?_ ?_ ?_
 rotate_left
 ·intro w'
  go_simp
  with_reducible rfl
 rotate_left
 ·simp only [Act.put, lsA, lsB, lsC]
  rfl
 refine puU 11 (some 10) ?_ rfl rfl (by kernel_rfl) (fun _ _ _ h => h) (Or.inl ⟨by rfl, ?_⟩) ?_ ?_ ?_
 rotate_left
 ·intro w'
  go_simp
  with_reducible rfl
 rotate_left
 ·simp only [Act.put, lsA, lsB, lsC]
  rfl
 refine puU 12 (some 11) ?_ rfl rfl (by kernel_rfl) (fun _ _ _ h => h) (Or.inl ⟨by rfl, ?_⟩) ?_ ?_ ?_
 rotate_left
 ·intro w'
  go_simp
  with_reducible rfl
 rotate_left
 ·simp only [Act.put, lsA, lsB, lsC]
  rfl
 refine done_ (by kernel_rfl) ?_
 have BZ : Aside0 (Below w.heap.size w w9) := ⟨B4'.out.trans (H9.out.2.mono B4'.out.size)⟩
 go_wp2_with fail
 refine bodyPost_ret (v := .tuple #[vr, .int .i64 z, .bool b, .int .i64 0]) (by simp [results, Try.results27, go_sem]) rfl ?_
 exact ⟨_, rfl, ⟨_, _, B4'.out, H9.out.1, BZ.out, rfl, BZ.out⟩⟩
theorem best_0 (w : World) (x : PI) (v : Value) (h : InstC w x v) (hx : PIok x) (he : (cellsP x).2 = 0) (hk : x.kind = 0) :
  Calls Try.prog 27 #[v] w fun e w' => ∃ v, e = .returned (.tuple #[v, .int .i64 (-(rowK (roomP x + 1).toNat x.items x.items.length).getD (roomP x).toNat 0), .bool true, .int .i64 0]) ∧ Aside0 ((∃ A n c, v = .slice A n c ∧ (Kd.int .i64).C w' A n (tbk (roomP x + 1).toNat x.items x.items.length (roomP x).toNat).reverse) ∧ Below w.heap.size w w') := by
 refine (best_call0 w x v h hx he hk _ _ (fun vr W w' => (Kd.int .i64).R 3 w' W.heap.size (fun _ => True) vr (tbk (roomP x + 1).toNat x.items x.items.length (roomP x).toNat).reverse) (fun W hb => (knapsack_any W x v (h.below hb) (cells_ok he).1 (room_small he hk)).mono (fun _ _ ⟨vr, e, H⟩ => ⟨vr, e, H⟩))).mono ?_
 rintro _ w' ⟨vr, rfl, ⟨W, wz, b1, hr, b2, e, b3⟩⟩
 refine ⟨vr, rfl, ⟨?_, b3⟩⟩
 obtain ⟨A, c, rfl⟩ := Kd.R_slice hr
 refine ⟨A, _, c, rfl, ?_⟩
 refine (R_C (Kd.R_step hr (fun k _ _ => by rw [e]))).1
end Go.Proofs.Ytelabmhhnpfegaa.Hand
end
