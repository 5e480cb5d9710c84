/- Texts Ei Ek Eo Ef, cut to what is used. -/
import Derived.Test.YtelabmhhnpfegaaZa0
import Derived.Test.YtelabmhhnpfegaaZa8
import Derived.Test.YtelabmhhnpfegaaZc3
set_option linter.unusedVariables false
set_option linter.unusedSimpArgs false
section
namespace Go.Proofs.Ytelabmhhnpfegaa.Hand
open Go.RowKit Go.Proofs.Ytelabmhhnpfegaa.PDynCells
def tgtC (S : Nat) (ms : Nat → Nat) (k h : Nat) (b : Bool) : Nat := if b = true then (k + 1) * S + (h ||| ms k) else (k + 1) * S + h
def giveC (S : Nat) (cs : Nat → Int) (c : S152) (k h : Nat) (b : Bool) : S152 := if b = true then ⟨c.f0 + cs k, true, k, ((k * S + h : Nat) : Int)⟩ else ⟨c.f0, true, c.f2, c.f3⟩
structure CvI (K S : Nat) (ms : Nat → Nat) (cs : Nat → Int) (P : Nat → Nat → Bool → Prop) (T : Nat → S152) : Prop where
 zero : T 0 = ⟨0, true, -1, 0⟩
 part : ∀ k h b, P k h b → k < K ∧ h < S
 link : ∀ X, X ≠ 0 → (T X).f1 = true → ∃ k h b, P k h b ∧ (T (k * S + h)).f1 = true ∧ X = tgtC S ms k h b ∧ T X = giveC S cs (T (k * S + h)) k h b
 done : ∀ k h b, P k h b → (T (k * S + h)).f1 = true → (T (tgtC S ms k h b)).f1 = true ∧ (T (tgtC S ms k h b)).f0 ≤ (giveC S cs (T (k * S + h)) k h b).f0
section
variable {K S : Nat} {ms : Nat → Nat} {cs : Nat → Int} {P : Nat → Nat → Bool → Prop} {T : Nat → S152}
theorem tgtC_ge (k h : Nat) (b : Bool) : (k + 1) * S ≤ tgtC S ms k h b := by
 unfold tgtC
 split <;> omega
theorem src_lt {k k' h' : Nat} (hk : k' ≤ k) (hh : h' < S) : k' * S + h' < (k + 1) * S := by
 have h1 : (k' + 1) * S ≤ (k + 1) * S := Nat.mul_le_mul_right S (by omega)
 rw [Nat.succ_mul] at h1
 omega
theorem CvI.start : CvI K S ms cs (fun _ _ _ => False) (upd (fun _ => z152) 0 ⟨0, true, -1, 0⟩) where
 zero := upd_self _ _ _
 part _ _ _ h := h.elim
 link X hX h := by
  rw [upd_ne _ _ hX] at h
  cases h
 done _ _ _ h := h.elim
theorem CvI.same (h : CvI K S ms cs P T) {Q : Nat → Nat → Bool → Prop} (hq : ∀ k h b, P k h b ↔ Q k h b) : CvI K S ms cs Q T where
 zero := h.zero
 part k h' b hh := h.part k h' b ((hq _ _ _).2 hh)
 link X hX hok := by
  obtain ⟨k, h', b, a1, a2, a3, a4⟩ := h.link X hX hok
  exact ⟨k, h', b, (hq _ _ _).1 a1, a2, a3, a4⟩
 done k h' b hh := h.done k h' b ((hq _ _ _).2 hh)
theorem CvI.skip (h : CvI K S ms cs P T) {k g : Nat} (hk : k < K) (hg : g < S) (hno : (T (k * S + g)).f1 = false) : CvI K S ms cs (fun k' h' b' => P k' h' b' ∨ (k' = k ∧ h' = g)) T where
 zero := h.zero
 part k' h' b hh := by
  rcases hh with hh | ⟨rfl, rfl⟩
  ·exact h.part _ _ _ hh
  ·exact ⟨hk, hg⟩
 link X hX hok := by
  obtain ⟨k', h', b, a1, a2, a3, a4⟩ := h.link X hX hok
  exact ⟨k', h', b, .inl a1, a2, a3, a4⟩
 done k' h' b hh hok := by
  rcases hh with hh | ⟨rfl, rfl⟩
  ·exact h.done _ _ _ hh hok
  ·rw [hno] at hok
   cases hok
theorem CvI.put (h : CvI K S ms cs P T) {k g : Nat} {b : Bool} (hk : k < K) (hg : g < S) (hP : ∀ k' h' b', P k' h' b' → k' ≤ k) (hok : (T (k * S + g)).f1 = true) :
  CvI K S ms cs (fun k' h' b' => P k' h' b' ∨ (k' = k ∧ h' = g ∧ b' = b))
   (upd T (tgtC S ms k g b) (offS (T (tgtC S ms k g b)) (giveC S cs (T (k * S + g)) k g b).f0 (giveC S cs (T (k * S + g)) k g b).f2 (giveC S cs (T (k * S + g)) k g b).f3)) := by
 obtain ⟨X0, hX0⟩ : ∃ X, X = tgtC S ms k g b := ⟨_, rfl⟩
 obtain ⟨c, hc⟩ : ∃ c, c = giveC S cs (T (k * S + g)) k g b := ⟨_, rfl⟩
 rw [← hX0, ← hc]
 have hc1 : c.f1 = true := by rw [hc]; unfold giveC; split <;> rfl
 have hge : (k + 1) * S ≤ X0 := by rw [hX0]; exact tgtC_ge k g b
 have hpos : 0 < (k + 1) * S := Nat.lt_of_le_of_lt (Nat.zero_le _) (src_lt (k := k) (Nat.le_refl k) hg)
 obtain ⟨v, hv⟩ : ∃ v, v = offS (T X0) c.f0 c.f2 c.f3 := ⟨_, rfl⟩
 obtain ⟨o1, o2, o3⟩ := offS_ok (T X0) c.f0 c.f2 c.f3
 rw [← hv] at o1 o2 o3 ⊢
 have old : ∀ k' h', k' ≤ k → h' < S → upd T X0 v (k' * S + h') = T (k' * S + h') := fun k' h' a1 a2 => upd_ne _ _ (by have := src_lt a1 a2; omega)
 have old0 : upd T X0 v 0 = T 0 := upd_ne _ _ (by omega)
 refine ⟨by rw [old0]; exact h.zero, fun k' h' b' hh => ?_, fun X hX hXok => ?_, fun k' h' b' hh hsrc => ?_⟩
 ·rcases hh with hh | ⟨rfl, rfl, _⟩
  ·exact h.part _ _ _ hh
  ·exact ⟨hk, hg⟩
 ·by_cases e : X = X0
  ·subst e
   rw [upd_self] at hXok ⊢
   by_cases hkeep : (T X).f1 = true ∧ ¬ c.f0 < (T X).f0
   ·have ev : v = T X := by rw [hv]; exact if_pos hkeep
    obtain ⟨k', h', b', a1, a2, a3, a4⟩ := h.link X hX hkeep.1
    have hp := h.part _ _ _ a1
    have ho := old k' h' (hP _ _ _ a1) hp.2
    exact ⟨k', h', b', .inl a1, by rw [ho]; exact a2, a3, by rw [ho, ev]; exact a4⟩
   ·have ev : v = c := by
     rw [hv]
     unfold offS
     rw [if_neg hkeep]
     obtain ⟨c0, c1, c2, c3⟩ := c
     rw [show c1 = true from hc1]
    have ho := old k g (Nat.le_refl k) hg
    exact ⟨k, g, b, .inr ⟨rfl, rfl, rfl⟩, by rw [ho]; exact hok, hX0, by rw [ho, ev, hc]⟩
  ·rw [upd_ne _ _ e] at hXok ⊢
   obtain ⟨k', h', b', a1, a2, a3, a4⟩ := h.link X hX hXok
   have ho := old k' h' (hP _ _ _ a1) (h.part _ _ _ a1).2
   exact ⟨k', h', b', .inl a1, by rw [ho]; exact a2, a3, by rw [ho]; exact a4⟩
 ·rcases hh with hh | ⟨rfl, rfl, rfl⟩
  ·have ho := old k' h' (hP _ _ _ hh) (h.part _ _ _ hh).2
   rw [ho] at hsrc ⊢
   have hd := h.done k' h' b' hh hsrc
   by_cases e : tgtC S ms k' h' b' = X0
   ·rw [e] at hd ⊢
    rw [upd_self]
    have := o3 hd.1
    exact ⟨o1, by omega⟩
   ·rw [upd_ne _ _ e]
    exact hd
  ·have ho := old k' h' (Nat.le_refl k') hg
   rw [ho, ← hX0, upd_self, ← hc]
   exact ⟨o1, o2⟩
end
def unC (ms : Nat → Nat) (β : Nat → Bool) : Nat → Nat
 | 0 => 0
 | i + 1 => if β i = true then unC ms β i ||| ms i else unC ms β i
def sumC (cs : Nat → Int) (β : Nat → Bool) (i : Nat) : Int := sumTo i (fun r => if β r = true then cs r else 0)
theorem unC_congr {ms : Nat → Nat} {β γ : Nat → Bool} : ∀ i, (∀ r, r < i → β r = γ r) → unC ms β i = unC ms γ i
 | 0, _ => rfl
 | i + 1, h => by rw [unC, unC, unC_congr i (fun r hr => h r (by omega)), h i (by omega)]
theorem unC_lt {ms : Nat → Nat} {β : Nat → Bool} {n K : Nat} (hm : ∀ k, k < K → ms k < 2 ^ n) : ∀ i, i ≤ K → unC ms β i < 2 ^ n
 | 0, _ => Nat.pow_pos (by omega)
 | i + 1, hi => by
  have ih := unC_lt (β := β) hm i (by omega)
  rw [unC]
  split
  ·exact Nat.or_lt_two_pow ih (hm i (by omega))
  ·exact ih
section
variable {K n : Nat} {ms : Nat → Nat} {cs : Nat → Int} {P : Nat → Nat → Bool → Prop} {T : Nat → S152}
theorem CvI.le (h : CvI K (2 ^ n) ms cs P T) (hP : ∀ k g b, k < K → g < 2 ^ n → P k g b) (hm : ∀ k, k < K → ms k < 2 ^ n) (β : Nat → Bool) : ∀ i, i ≤ K → (T (i * 2 ^ n + unC ms β i)).f1 = true ∧ (T (i * 2 ^ n + unC ms β i)).f0 ≤ sumC cs β i
 | 0, _ => by
  rw [unC, Nat.zero_mul, h.zero]
  exact ⟨rfl, Int.le_refl _⟩
 | i + 1, hi => by
  obtain ⟨h1, h2⟩ := CvI.le h hP hm β i (by omega)
  have hlt := unC_lt (β := β) hm i (by omega)
  have hd := h.done i (unC ms β i) (β i) (hP _ _ _ (by omega) hlt) h1
  have hs : sumC cs β (i + 1) = sumC cs β i + (if β i = true then cs i else 0) := sumTo_succ _ _
  rw [hs, unC]
  unfold tgtC giveC at hd
  by_cases hb : β i = true
  ·rw [if_pos hb, if_pos hb] at hd
   rw [if_pos hb, if_pos hb]
   exact ⟨hd.1, by have := hd.2; simp only at this; omega⟩
  ·rw [if_neg hb, if_neg hb] at hd
   rw [if_neg hb, if_neg hb]
   exact ⟨hd.1, by have := hd.2; simp only at this; omega⟩
theorem lay_eq {S i k u h : Nat} (hu : u < S) (hh : h < S) (e : i * S + u = k * S + h) : i = k ∧ u = h := by
 rcases Nat.lt_trichotomy i k with hl | hl | hl
 ·have := Nat.mul_le_mul_right S (show i + 1 ≤ k by omega)
  rw [Nat.succ_mul] at this
  omega
 ·subst hl
  exact ⟨rfl, by omega⟩
 ·have := Nat.mul_le_mul_right S (show k + 1 ≤ i by omega)
  rw [Nat.succ_mul] at this
  omega
theorem CvI.real (h : CvI K (2 ^ n) ms cs P T) (hm : ∀ k, k < K → ms k < 2 ^ n) : ∀ (f X : Nat), X ≤ f → (T X).f1 = true → ∃ (i : Nat) (β : Nat → Bool), i ≤ K ∧ X = i * 2 ^ n + unC ms β i ∧ (T X).f0 = sumC cs β i ∧
  ∃ l, Chain ((K + 1) * 2 ^ n) T X l ∧ l.reverse = ((List.range i).filter β).map fun (r : Nat) => (r : Int)
 | f, X, hf, hok => by
  have hS : 0 < 2 ^ n := Nat.pow_pos (by omega)
  by_cases e : X = 0
  ·subst e
   refine ⟨0, fun _ => false, Nat.zero_le _, by rw [unC, Nat.zero_mul], by rw [h.zero]; rfl, [], .nil 0 (by rw [h.zero]; show (-1 : Int) < 0; decide) (Nat.mul_pos (by omega) hS), rfl⟩
  ·obtain ⟨k, g, b, a1, a2, a3, a4⟩ := h.link X e hok
   obtain ⟨hk, hg⟩ := h.part _ _ _ a1
   have hlt : k * 2 ^ n + g < X := by
    rw [a3]
    exact Nat.lt_of_lt_of_le (src_lt (Nat.le_refl k) hg) (tgtC_ge k g b)
   match f, hf with
   | 0, hf => omega
   | f + 1, hf =>
    obtain ⟨i, β, b1, b2, b3, l, b4, b5⟩ := CvI.real h hm f (k * 2 ^ n + g) (by omega) a2
    obtain ⟨e1, e2⟩ := lay_eq hg (unC_lt (β := β) hm i b1) b2
    subst e1
    have keep : ∀ v, unC ms (upd β k v) k = g := fun v => by rw [unC_congr (γ := β) k (fun r hr => upd_ne _ _ (by omega)), ← e2]
    have ksum : ∀ v, sumC cs (upd β k v) (k + 1) = sumC cs β k + (if v = true then cs k else 0) := fun v => by
     show sumTo (k + 1) _ = sumTo k _ + _
     rw [sumTo_succ, upd_self]
     congr 1
     exact sumTo_congr (fun r hr => by rw [upd_ne _ _ (by omega)])
    have kfil : ∀ v, (List.range k).filter (upd β k v) = (List.range k).filter β := fun v => List.filter_congr (fun r hr => by rw [upd_ne _ _ (by have := List.mem_range.1 hr; omega)])
    have hXN : X < (K + 1) * 2 ^ n := by
     have h1 : (k + 1 + 1) * 2 ^ n ≤ (K + 1) * 2 ^ n := Nat.mul_le_mul_right _ (by omega)
     have h2 : X < (k + 1 + 1) * 2 ^ n := by
      rw [a3]
      unfold tgtC
      split
      ·exact src_lt (Nat.le_refl _) (Nat.or_lt_two_pow hg (hm k hk))
      ·exact src_lt (Nat.le_refl _) hg
     omega
    cases b with
    | true =>
     have a3' : X = (k + 1) * 2 ^ n + (g ||| ms k) := a3
     have a4' : T X = ⟨(T (k * 2 ^ n + g)).f0 + cs k, true, k, ((k * 2 ^ n + g : Nat) : Int)⟩ := a4
     refine ⟨k + 1, upd β k true, by omega, ?_, ?_, (T X).f2 :: l, ?_, ?_⟩
     ·rw [unC, upd_self, if_pos rfl, keep, a3']
     ·rw [a4', ksum, if_pos rfl, ← b3]
     ·exact .cons X (k * 2 ^ n + g) l hXN (by rw [a4']; exact Int.natCast_nonneg _) (by rw [a4']) b4
     ·rw [List.reverse_cons, b5, List.range_succ, List.filter_append, kfil, List.map_append, a4']
      congr 1
      simp [upd_self]
    | false =>
     have a3' : X = (k + 1) * 2 ^ n + g := a3
     have a4' : T X = ⟨(T (k * 2 ^ n + g)).f0, true, (T (k * 2 ^ n + g)).f2, (T (k * 2 ^ n + g)).f3⟩ := a4
     refine ⟨k + 1, upd β k false, by omega, ?_, ?_, l, ?_, ?_⟩
     ·rw [unC, upd_self, if_neg (by decide), keep, a3']
     ·rw [a4', ksum, if_neg (by decide), Int.add_zero, ← b3]
     ·cases b4 with
      | nil _ hn _ => exact .nil X (by rw [a4']; exact hn) hXN
      | cons _ Z l' _ hp he hl =>
       have : (T (k * 2 ^ n + g)).f2 = (T X).f2 := by rw [a4']
       rw [this]
       exact .cons X Z l' hXN (by rw [← this]; exact hp) (by rw [a4']; exact he) hl
     ·rw [b5, List.range_succ, List.filter_append, kfil]
      simp [upd_self]
theorem CvI.least (h : CvI K (2 ^ n) ms cs P T) (hP : ∀ k g b, k < K → g < 2 ^ n → P k g b) (hm : ∀ k, k < K → ms k < 2 ^ n) :
  ((T (K * 2 ^ n + (2 ^ n - 1))).f1 = true → ∃ β, unC ms β K = 2 ^ n - 1 ∧ (T (K * 2 ^ n + (2 ^ n - 1))).f0 = sumC cs β K ∧ (∀ γ, unC ms γ K = 2 ^ n - 1 → (T (K * 2 ^ n + (2 ^ n - 1))).f0 ≤ sumC cs γ K) ∧
   ∃ l, Chain ((K + 1) * 2 ^ n) T (K * 2 ^ n + (2 ^ n - 1)) l ∧ l.reverse = ((List.range K).filter β).map fun (r : Nat) => (r : Int)) ∧
  ((T (K * 2 ^ n + (2 ^ n - 1))).f1 = false → ∀ γ, unC ms γ K ≠ 2 ^ n - 1) := by
 have hS : 0 < 2 ^ n := Nat.pow_pos (by omega)
 refine ⟨fun hok => ?_, fun hno γ hg => ?_⟩
 ·obtain ⟨i, β, b1, b2, b3, l, b4, b5⟩ := CvI.real h hm _ _ (Nat.le_refl _) hok
  obtain ⟨e1, e2⟩ := lay_eq (by omega) (unC_lt (β := β) hm i b1) b2
  subst e1
  refine ⟨β, e2.symm, b3, fun γ hg => ?_, l, b4, b5⟩
  have := (CvI.le h hP hm γ K (Nat.le_refl _)).2
  rwa [hg] at this
 ·have := (CvI.le h hP hm γ K (Nat.le_refl _)).1
  rw [hg, hno] at this
  cases this
end
end Go.Proofs.Ytelabmhhnpfegaa.Hand
end
section
namespace Go.Proofs.Ytelabmhhnpfegaa.Hand
open Go.RowKit Go.Proofs.YtelabmhhnpfegaaW.PrintWords Go.Proofs.YtelabmhhnpfegaaW.PrintLast Go.Proofs.YtelabmhhnpfegaaW.PrintMore Go.Proofs.Ytelabmhhnpfegaa.PDynCells
set_option maxRecDepth 100000 in
theorem or_8 : ∀ a : Fin 256, ∀ b : Fin 256, Go.bits .or .i64 ((a.val : Nat) : Int) ((b.val : Nat) : Int) = ((a.val ||| b.val : Nat) : Int) := by decide +kernel
def mskE (l : List Int) : Nat := l.foldl (fun m e => m ||| 2 ^ e.toNat) 0
theorem mskE_take {l : List Int} {i : Nat} (h : i < l.length) : mskE (l.take (i + 1)) = mskE (l.take i) ||| 2 ^ (l.getD i 0).toNat := by
 unfold mskE
 rw [take_snoc h 0, List.foldl_append]
 rfl
set_option maxHeartbeats 1000000 in
set_option maxRecDepth 100000 in
theorem elements_any (w : World) (A : Option Addr) (cst : Int) (n c : Nat) (l : List Int) (hC : (Kd.int .i64).C w A n l) (hn : n ≤ 17592186044416) (hb : ∀ e ∈ l, 0 ≤ e ∧ e < 8) :
  Calls Try.prog 94 #[.agg #[.int .i64 cst, .slice A n c]] w fun e w' => e = .returned (.int .i64 ((mskE l : Nat) : Int)) ∧ mskE l < 256 ∧ Below w.heap.size w w' := by
 have HC := Aside0.mk hC
 have HL : Aside0 (l.length = n) := ⟨hC.1⟩
 have HB := Aside0.mk hb
 obtain ⟨r, hr⟩ : ∃ r, r = mskE l := ⟨_, rfl⟩
 rw [← hr]
 have HR := Aside0.mk hr
 clear hC hb hr
 have hu102 := Try.underlying102
 go_enter Try.func94, Try.ntmps94
 go_upto_region 1 with fail
 obtain ⟨W1, hW1⟩ : ∃ W, W = w.alloc (.cells #[.int .i64 cst, .slice A n c] 102) := ⟨_, rfl⟩
 rw [← hW1]
 have B1 : Aside0 (Below w.heap.size w W1) := ⟨by rw [hW1]; exact below_alloc (Below.refl _ _) _⟩
 obtain ⟨p1, hp1⟩ : ∃ p, p = w.heap.size := ⟨_, rfl⟩
 have Q1 : Aside0 (W1.heap[p1]? = some (.cells #[.int .i64 cst, .slice A n c] 102 (0, 0))) := ⟨by rw [hW1, hp1]; exact heap_alloc_new _ _⟩
 rw [← hp1]
 clear hW1 hp1
 have q1 : W1.cell? ⟨p1, 1, none⟩ = some (.slice A n c) := (blk_cell Q1.out 1).trans rfl
 go_wp2_with fail
 clear q1
 have K0 : Aside0 ((0 : Nat) = mskE (l.take 0)) := ⟨rfl⟩
 go_loop [3, 9] (fun v3 v9 => ∃ i m : Nat, i ≤ n ∧ m < 256 ∧ v3 = .int .i64 (m : Int) ∧ v9 = .int .i64 (i : Int) ∧ Aside0 (m = mskE (l.take i))) (fun _ v9 => n - (intOf v9).toNat)
 case atStart => exact ⟨0, 0, Nat.zero_le _, by decide, rfl, rfl, K0⟩
 case round =>
  clear K0
  obtain ⟨i, m, hi, hm, rfl, rfl, KK⟩ := hrel
  by_cases hlt : i < n
  ·obtain ⟨ad, eA, c1'⟩ := at_Int HC.out i hlt
   subst eA
   have c1 := pw_cell_below B1.out c1'
   have hil : i < l.length := by rw [HL.out]; exact hlt
   have eb := HB.out (l.getD i 0) (getD_lt hil)
   obtain ⟨e, he⟩ : ∃ e : Nat, (e : Int) = l.getD i 0 := ⟨(l.getD i 0).toNat, by omega⟩
   rw [← he] at c1 eb
   have he8 : e < 8 := by omega
   have NX := mskE_take hil
   rw [← KK.out, ← he, Int.toNat_natCast] at NX
   obtain ⟨P, hP⟩ : ∃ P : Nat, P = 2 ^ e := ⟨_, rfl⟩
   have hP5 : P < 256 := by
    rw [hP]
    exact Nat.lt_of_le_of_lt (Nat.pow_le_pow_right (by omega) (show e ≤ 7 by omega)) (by decide)
   have hmin : min e 64 = e := by omega
   have f0 : ((2 : Int) ^ e) = (P : Int) := by rw [hP, Int.natCast_pow]; rfl
   have f1 : IntKind.i64.wrap ((2 : Int) ^ e) = (P : Int) := by rw [f0, i64_w]; unfold wrap64; omega
   have f2 : wrap64 ((2 : Int) ^ e) = (P : Int) := by rw [f0]; unfold wrap64; omega
   have f3 : IntKind.i64.wrap ((2 : Int) ^ min e 64) = (P : Int) := by rw [hmin]; exact f1
   have f4 : wrap64 ((2 : Int) ^ min e 64) = (P : Int) := by rw [hmin]; exact f2
   have f5 : IntKind.i64.wrap (1 * (2 : Int) ^ min e 64) = (P : Int) := by rw [Int.one_mul]; exact f3
   have f6 : wrap64 (1 * (2 : Int) ^ min e 64) = (P : Int) := by rw [Int.one_mul]; exact f4
   have hor := or_8 ⟨m, hm⟩ ⟨P, hP5⟩
   simp only at hor
   have hx : m ||| P < 256 := Nat.or_lt_two_pow (n := 8) hm hP5
   rw [← hP] at NX
   obtain ⟨X, hX⟩ : ∃ X, X = m ||| P := ⟨_, rfl⟩
   rw [← hX] at hor hx NX
   have N1 : Aside0 (X = mskE (l.take (i + 1))) := ⟨NX.symm⟩
   clear he eb hP hX NX f0 c1' hil
   go_wp2_with fail
   exact ⟨⟨i + 1, X, by omega, hx, rfl, by go_num, N1⟩, by simp [intOf]; omega⟩
  ·obtain rfl : n = i := by omega
   have E : Aside0 (m = r) := ⟨by
    have h1 := KK.out
    rw [List.take_of_length_le (by rw [HL.out]; exact Nat.le_refl _)] at h1
    rw [h1, HR.out]⟩
   go_wp2_with fail
   go_ret
   exact ⟨by rw [E.out]; rfl, by rw [← E.out]; exact hm, B1.out⟩
end Go.Proofs.Ytelabmhhnpfegaa.Hand
end
section
namespace Go.Proofs.Ytelabmhhnpfegaa.PDynCells
open Go.RowKit Go.Proofs.YtelabmhhnpfegaaW.PrintWords Go.Proofs.YtelabmhhnpfegaaW.PrintLast Go.Proofs.YtelabmhhnpfegaaW.PrintMore
def bits_OnesCount64.f (a0 : Int) : Option (Int) := some (Go.bits .and .i64 (wrap64 (IntKind.u64.wrap ((IntKind.u64.wrap ((IntKind.u64.wrap ((Go.bits .and .u64 (IntKind.u64.wrap (((IntKind.u64.wrap ((Go.bits .and .u64 ((IntKind.u64.wrap ((Go.bits .and .u64 (a0 / 2) 6148914691236517205) + (Go.bits .and .u64 a0 6148914691236517205))) / 4) 3689348814741910323) + (Go.bits .and .u64 (IntKind.u64.wrap ((Go.bits .and .u64 (a0 / 2) 6148914691236517205) + (Go.bits .and .u64 a0 6148914691236517205))) 3689348814741910323))) / 16) + (IntKind.u64.wrap ((Go.bits .and .u64 ((IntKind.u64.wrap ((Go.bits .and .u64 (a0 / 2) 6148914691236517205) + (Go.bits .and .u64 a0 6148914691236517205))) / 4) 3689348814741910323) + (Go.bits .and .u64 (IntKind.u64.wrap ((Go.bits .and .u64 (a0 / 2) 6148914691236517205) + (Go.bits .and .u64 a0 6148914691236517205))) 3689348814741910323))))) 1085102592571150095) + ((Go.bits .and .u64 (IntKind.u64.wrap (((IntKind.u64.wrap ((Go.bits .and .u64 ((IntKind.u64.wrap ((Go.bits .and .u64 (a0 / 2) 6148914691236517205) + (Go.bits .and .u64 a0 6148914691236517205))) / 4) 3689348814741910323) + (Go.bits .and .u64 (IntKind.u64.wrap ((Go.bits .and .u64 (a0 / 2) 6148914691236517205) + (Go.bits .and .u64 a0 6148914691236517205))) 3689348814741910323))) / 16) + (IntKind.u64.wrap ((Go.bits .and .u64 ((IntKind.u64.wrap ((Go.bits .and .u64 (a0 / 2) 6148914691236517205) + (Go.bits .and .u64 a0 6148914691236517205))) / 4) 3689348814741910323) + (Go.bits .and .u64 (IntKind.u64.wrap ((Go.bits .and .u64 (a0 / 2) 6148914691236517205) + (Go.bits .and .u64 a0 6148914691236517205))) 3689348814741910323))))) 1085102592571150095) / 256))) + ((IntKind.u64.wrap ((Go.bits .and .u64 (IntKind.u64.wrap (((IntKind.u64.wrap ((Go.bits .and .u64 ((IntKind.u64.wrap ((Go.bits .and .u64 (a0 / 2) 6148914691236517205) + (Go.bits .and .u64 a0 6148914691236517205))) / 4) 3689348814741910323) + (Go.bits .and .u64 (IntKind.u64.wrap ((Go.bits .and .u64 (a0 / 2) 6148914691236517205) + (Go.bits .and .u64 a0 6148914691236517205))) 3689348814741910323))) / 16) + (IntKind.u64.wrap ((Go.bits .and .u64 ((IntKind.u64.wrap ((Go.bits .and .u64 (a0 / 2) 6148914691236517205) + (Go.bits .and .u64 a0 6148914691236517205))) / 4) 3689348814741910323) + (Go.bits .and .u64 (IntKind.u64.wrap ((Go.bits .and .u64 (a0 / 2) 6148914691236517205) + (Go.bits .and .u64 a0 6148914691236517205))) 3689348814741910323))))) 1085102592571150095) + ((Go.bits .and .u64 (IntKind.u64.wrap (((IntKind.u64.wrap ((Go.bits .and .u64 ((IntKind.u64.wrap ((Go.bits .and .u64 (a0 / 2) 6148914691236517205) + (Go.bits .and .u64 a0 6148914691236517205))) / 4) 3689348814741910323) + (Go.bits .and .u64 (IntKind.u64.wrap ((Go.bits .and .u64 (a0 / 2) 6148914691236517205) + (Go.bits .and .u64 a0 6148914691236517205))) 3689348814741910323))) / 16) + (IntKind.u64.wrap ((Go.bits .and .u64 ((IntKind.u64.wrap ((Go.bits .and .u64 (a0 / 2) 6148914691236517205) + (Go.bits .and .u64 a0 6148914691236517205))) / 4) 3689348814741910323) + (Go.bits .and .u64 (IntKind.u64.wrap ((Go.bits .and .u64 (a0 / 2) 6148914691236517205) + (Go.bits .and .u64 a0 6148914691236517205))) 3689348814741910323))))) 1085102592571150095) / 256))) / 65536))) + ((IntKind.u64.wrap ((IntKind.u64.wrap ((Go.bits .and .u64 (IntKind.u64.wrap (((IntKind.u64.wrap ((Go.bits .and .u64 ((IntKind.u64.wrap ((Go.bits .and .u64 (a0 / 2) 6148914691236517205) + (Go.bits .and .u64 a0 6148914691236517205))) / 4) 3689348814741910323) + (Go.bits .and .u64 (IntKind.u64.wrap ((Go.bits .and .u64 (a0 / 2) 6148914691236517205) + (Go.bits .and .u64 a0 6148914691236517205))) 3689348814741910323))) / 16) + (IntKind.u64.wrap ((Go.bits .and .u64 ((IntKind.u64.wrap ((Go.bits .and .u64 (a0 / 2) 6148914691236517205) + (Go.bits .and .u64 a0 6148914691236517205))) / 4) 3689348814741910323) + (Go.bits .and .u64 (IntKind.u64.wrap ((Go.bits .and .u64 (a0 / 2) 6148914691236517205) + (Go.bits .and .u64 a0 6148914691236517205))) 3689348814741910323))))) 1085102592571150095) + ((Go.bits .and .u64 (IntKind.u64.wrap (((IntKind.u64.wrap ((Go.bits .and .u64 ((IntKind.u64.wrap ((Go.bits .and .u64 (a0 / 2) 6148914691236517205) + (Go.bits .and .u64 a0 6148914691236517205))) / 4) 3689348814741910323) + (Go.bits .and .u64 (IntKind.u64.wrap ((Go.bits .and .u64 (a0 / 2) 6148914691236517205) + (Go.bits .and .u64 a0 6148914691236517205))) 3689348814741910323))) / 16) + (IntKind.u64.wrap ((Go.bits .and .u64 ((IntKind.u64.wrap ((Go.bits .and .u64 (a0 / 2) 6148914691236517205) + (Go.bits .and .u64 a0 6148914691236517205))) / 4) 3689348814741910323) + (Go.bits .and .u64 (IntKind.u64.wrap ((Go.bits .and .u64 (a0 / 2) 6148914691236517205) + (Go.bits .and .u64 a0 6148914691236517205))) 3689348814741910323))))) 1085102592571150095) / 256))) + ((IntKind.u64.wrap ((Go.bits .and .u64 (IntKind.u64.wrap (((IntKind.u64.wrap ((Go.bits .and .u64 ((IntKind.u64.wrap ((Go.bits .and .u64 (a0 / 2) 6148914691236517205) + (Go.bits .and .u64 a0 6148914691236517205))) / 4) 3689348814741910323) + (Go.bits .and .u64 (IntKind.u64.wrap ((Go.bits .and .u64 (a0 / 2) 6148914691236517205) + (Go.bits .and .u64 a0 6148914691236517205))) 3689348814741910323))) / 16) + (IntKind.u64.wrap ((Go.bits .and .u64 ((IntKind.u64.wrap ((Go.bits .and .u64 (a0 / 2) 6148914691236517205) + (Go.bits .and .u64 a0 6148914691236517205))) / 4) 3689348814741910323) + (Go.bits .and .u64 (IntKind.u64.wrap ((Go.bits .and .u64 (a0 / 2) 6148914691236517205) + (Go.bits .and .u64 a0 6148914691236517205))) 3689348814741910323))))) 1085102592571150095) + ((Go.bits .and .u64 (IntKind.u64.wrap (((IntKind.u64.wrap ((Go.bits .and .u64 ((IntKind.u64.wrap ((Go.bits .and .u64 (a0 / 2) 6148914691236517205) + (Go.bits .and .u64 a0 6148914691236517205))) / 4) 3689348814741910323) + (Go.bits .and .u64 (IntKind.u64.wrap ((Go.bits .and .u64 (a0 / 2) 6148914691236517205) + (Go.bits .and .u64 a0 6148914691236517205))) 3689348814741910323))) / 16) + (IntKind.u64.wrap ((Go.bits .and .u64 ((IntKind.u64.wrap ((Go.bits .and .u64 (a0 / 2) 6148914691236517205) + (Go.bits .and .u64 a0 6148914691236517205))) / 4) 3689348814741910323) + (Go.bits .and .u64 (IntKind.u64.wrap ((Go.bits .and .u64 (a0 / 2) 6148914691236517205) + (Go.bits .and .u64 a0 6148914691236517205))) 3689348814741910323))))) 1085102592571150095) / 256))) / 65536))) / 4294967296)))) 127)
set_option maxHeartbeats 8000000 in
set_option maxRecDepth 100000 in
theorem bits_OnesCount64.calls (a0 : Int) (r : Int) (w : World) (h : bits_OnesCount64.f a0 = some r) :
  Calls Try.prog 127 #[.int .u64 a0] w fun e w' => e = .returned (.int .i64 r) ∧ Drawn0 w w' := by
 have H : (some (Go.bits .and .i64 (wrap64 (IntKind.u64.wrap ((IntKind.u64.wrap ((IntKind.u64.wrap ((Go.bits .and .u64 (IntKind.u64.wrap (((IntKind.u64.wrap ((Go.bits .and .u64 ((IntKind.u64.wrap ((Go.bits .and .u64 (a0 / 2) 6148914691236517205) + (Go.bits .and .u64 a0 6148914691236517205))) / 4) 3689348814741910323) + (Go.bits .and .u64 (IntKind.u64.wrap ((Go.bits .and .u64 (a0 / 2) 6148914691236517205) + (Go.bits .and .u64 a0 6148914691236517205))) 3689348814741910323))) / 16) + (IntKind.u64.wrap ((Go.bits .and .u64 ((IntKind.u64.wrap ((Go.bits .and .u64 (a0 / 2) 6148914691236517205) + (Go.bits .and .u64 a0 6148914691236517205))) / 4) 3689348814741910323) + (Go.bits .and .u64 (IntKind.u64.wrap ((Go.bits .and .u64 (a0 / 2) 6148914691236517205) + (Go.bits .and .u64 a0 6148914691236517205))) 3689348814741910323))))) 1085102592571150095) + ((Go.bits .and .u64 (IntKind.u64.wrap (((IntKind.u64.wrap ((Go.bits .and .u64 ((IntKind.u64.wrap ((Go.bits .and .u64 (a0 / 2) 6148914691236517205) + (Go.bits .and .u64 a0 6148914691236517205))) / 4) 3689348814741910323) + (Go.bits .and .u64 (IntKind.u64.wrap ((Go.bits .and .u64 (a0 / 2) 6148914691236517205) + (Go.bits .and .u64 a0 6148914691236517205))) 3689348814741910323))) / 16) + (IntKind.u64.wrap ((Go.bits .and .u64 ((IntKind.u64.wrap ((Go.bits .and .u64 (a0 / 2) 6148914691236517205) + (Go.bits .and .u64 a0 6148914691236517205))) / 4) 3689348814741910323) + (Go.bits .and .u64 (IntKind.u64.wrap ((Go.bits .and .u64 (a0 / 2) 6148914691236517205) + (Go.bits .and .u64 a0 6148914691236517205))) 3689348814741910323))))) 1085102592571150095) / 256))) + ((IntKind.u64.wrap ((Go.bits .and .u64 (IntKind.u64.wrap (((IntKind.u64.wrap ((Go.bits .and .u64 ((IntKind.u64.wrap ((Go.bits .and .u64 (a0 / 2) 6148914691236517205) + (Go.bits .and .u64 a0 6148914691236517205))) / 4) 3689348814741910323) + (Go.bits .and .u64 (IntKind.u64.wrap ((Go.bits .and .u64 (a0 / 2) 6148914691236517205) + (Go.bits .and .u64 a0 6148914691236517205))) 3689348814741910323))) / 16) + (IntKind.u64.wrap ((Go.bits .and .u64 ((IntKind.u64.wrap ((Go.bits .and .u64 (a0 / 2) 6148914691236517205) + (Go.bits .and .u64 a0 6148914691236517205))) / 4) 3689348814741910323) + (Go.bits .and .u64 (IntKind.u64.wrap ((Go.bits .and .u64 (a0 / 2) 6148914691236517205) + (Go.bits .and .u64 a0 6148914691236517205))) 3689348814741910323))))) 1085102592571150095) + ((Go.bits .and .u64 (IntKind.u64.wrap (((IntKind.u64.wrap ((Go.bits .and .u64 ((IntKind.u64.wrap ((Go.bits .and .u64 (a0 / 2) 6148914691236517205) + (Go.bits .and .u64 a0 6148914691236517205))) / 4) 3689348814741910323) + (Go.bits .and .u64 (IntKind.u64.wrap ((Go.bits .and .u64 (a0 / 2) 6148914691236517205) + (Go.bits .and .u64 a0 6148914691236517205))) 3689348814741910323))) / 16) + (IntKind.u64.wrap ((Go.bits .and .u64 ((IntKind.u64.wrap ((Go.bits .and .u64 (a0 / 2) 6148914691236517205) + (Go.bits .and .u64 a0 6148914691236517205))) / 4) 3689348814741910323) + (Go.bits .and .u64 (IntKind.u64.wrap ((Go.bits .and .u64 (a0 / 2) 6148914691236517205) + (Go.bits .and .u64 a0 6148914691236517205))) 3689348814741910323))))) 1085102592571150095) / 256))) / 65536))) + ((IntKind.u64.wrap ((IntKind.u64.wrap ((Go.bits .and .u64 (IntKind.u64.wrap (((IntKind.u64.wrap ((Go.bits .and .u64 ((IntKind.u64.wrap ((Go.bits .and .u64 (a0 / 2) 6148914691236517205) + (Go.bits .and .u64 a0 6148914691236517205))) / 4) 3689348814741910323) + (Go.bits .and .u64 (IntKind.u64.wrap ((Go.bits .and .u64 (a0 / 2) 6148914691236517205) + (Go.bits .and .u64 a0 6148914691236517205))) 3689348814741910323))) / 16) + (IntKind.u64.wrap ((Go.bits .and .u64 ((IntKind.u64.wrap ((Go.bits .and .u64 (a0 / 2) 6148914691236517205) + (Go.bits .and .u64 a0 6148914691236517205))) / 4) 3689348814741910323) + (Go.bits .and .u64 (IntKind.u64.wrap ((Go.bits .and .u64 (a0 / 2) 6148914691236517205) + (Go.bits .and .u64 a0 6148914691236517205))) 3689348814741910323))))) 1085102592571150095) + ((Go.bits .and .u64 (IntKind.u64.wrap (((IntKind.u64.wrap ((Go.bits .and .u64 ((IntKind.u64.wrap ((Go.bits .and .u64 (a0 / 2) 6148914691236517205) + (Go.bits .and .u64 a0 6148914691236517205))) / 4) 3689348814741910323) + (Go.bits .and .u64 (IntKind.u64.wrap ((Go.bits .and .u64 (a0 / 2) 6148914691236517205) + (Go.bits .and .u64 a0 6148914691236517205))) 3689348814741910323))) / 16) + (IntKind.u64.wrap ((Go.bits .and .u64 ((IntKind.u64.wrap ((Go.bits .and .u64 (a0 / 2) 6148914691236517205) + (Go.bits .and .u64 a0 6148914691236517205))) / 4) 3689348814741910323) + (Go.bits .and .u64 (IntKind.u64.wrap ((Go.bits .and .u64 (a0 / 2) 6148914691236517205) + (Go.bits .and .u64 a0 6148914691236517205))) 3689348814741910323))))) 1085102592571150095) / 256))) + ((IntKind.u64.wrap ((Go.bits .and .u64 (IntKind.u64.wrap (((IntKind.u64.wrap ((Go.bits .and .u64 ((IntKind.u64.wrap ((Go.bits .and .u64 (a0 / 2) 6148914691236517205) + (Go.bits .and .u64 a0 6148914691236517205))) / 4) 3689348814741910323) + (Go.bits .and .u64 (IntKind.u64.wrap ((Go.bits .and .u64 (a0 / 2) 6148914691236517205) + (Go.bits .and .u64 a0 6148914691236517205))) 3689348814741910323))) / 16) + (IntKind.u64.wrap ((Go.bits .and .u64 ((IntKind.u64.wrap ((Go.bits .and .u64 (a0 / 2) 6148914691236517205) + (Go.bits .and .u64 a0 6148914691236517205))) / 4) 3689348814741910323) + (Go.bits .and .u64 (IntKind.u64.wrap ((Go.bits .and .u64 (a0 / 2) 6148914691236517205) + (Go.bits .and .u64 a0 6148914691236517205))) 3689348814741910323))))) 1085102592571150095) + ((Go.bits .and .u64 (IntKind.u64.wrap (((IntKind.u64.wrap ((Go.bits .and .u64 ((IntKind.u64.wrap ((Go.bits .and .u64 (a0 / 2) 6148914691236517205) + (Go.bits .and .u64 a0 6148914691236517205))) / 4) 3689348814741910323) + (Go.bits .and .u64 (IntKind.u64.wrap ((Go.bits .and .u64 (a0 / 2) 6148914691236517205) + (Go.bits .and .u64 a0 6148914691236517205))) 3689348814741910323))) / 16) + (IntKind.u64.wrap ((Go.bits .and .u64 ((IntKind.u64.wrap ((Go.bits .and .u64 (a0 / 2) 6148914691236517205) + (Go.bits .and .u64 a0 6148914691236517205))) / 4) 3689348814741910323) + (Go.bits .and .u64 (IntKind.u64.wrap ((Go.bits .and .u64 (a0 / 2) 6148914691236517205) + (Go.bits .and .u64 a0 6148914691236517205))) 3689348814741910323))))) 1085102592571150095) / 256))) / 65536))) / 4294967296)))) 127)) = some r := h
 clear h
 obtain rfl := Option.some.inj H
 go_enter Try.func127, Try.ntmps127
 go_wp2
 go_ret
 exact ⟨by first | rfl | (simp; done) | (simp [*]; done), by repeat (first | exact Drawn0.refl _ | apply Drawn0.step)⟩
def bits_OnesCount.f (a0 : Int) : Option (Int) := (bits_OnesCount64.f a0).bind fun t208 => (some t208)
set_option maxHeartbeats 8000000 in
set_option maxRecDepth 100000 in
theorem bits_OnesCount.calls (a0 : Int) (r : Int) (w : World) (h : bits_OnesCount.f a0 = some r) :
  Calls Try.prog 91 #[.int .u64 a0] w fun e w' => e = .returned (.int .i64 r) ∧ Drawn0 w w' := by
 have H : ((bits_OnesCount64.f a0).bind fun t208 => (some t208)) = some r := h
 clear h
 replace H := Option.bind_eq_some_iff.mp H
 obtain ⟨t208, A20, H⟩ := H
 replace H : (some t208) = some r := H
 have A2 := Aside0.mk A20
 clear A20
 obtain rfl := Option.some.inj H
 go_enter Try.func91, Try.ntmps91
 go_wp2_with (first | ((with_reducible refine gate_callee (f := 127) rfl ?_); refine goesL_ (some 7) rfl rfl Try.func127 (by kernel_rfl) rfl #[.int .u64 a0] rfl (by (try simp only [List.map_toArray, List.map_cons, List.map_nil]); first | done | rfl | (simp only [List.length_drop, List.length_take]; rfl)) ?_; (with_reducible refine (bits_OnesCount64.calls a0 t208 _ A2.out).mono ?_); rintro e w' ⟨rfl, ⟨nd, rfl⟩⟩; refine ⟨_, rfl, ?_⟩))
 go_ret
 exact ⟨by first | rfl | (simp; done) | (simp [*]; done), by repeat (first | exact Drawn0.refl _ | apply Drawn0.step)⟩
end Go.Proofs.Ytelabmhhnpfegaa.PDynCells
namespace Go.Proofs.Ytelabmhhnpfegaa.Hand
open Go.RowKit Go.Proofs.YtelabmhhnpfegaaW.PrintWords Go.Proofs.YtelabmhhnpfegaaW.PrintLast Go.Proofs.YtelabmhhnpfegaaW.PrintMore Go.Proofs.Ytelabmhhnpfegaa.PDynCells
set_option maxRecDepth 100000 in
theorem ones_f : ∀ m : Fin 512, bits_OnesCount.f ((m.val : Nat) : Int) = some ((pop 9 m.val : Nat) : Int) := by decide +kernel
theorem ones_any (m : Nat) (hm : m < 512) (w : World) : Calls Try.prog 91 #[.int .u64 (m : Int)] w fun e w' => e = .returned (.int .i64 ((pop 9 m : Nat) : Int)) ∧ Drawn0 w w' :=
 bits_OnesCount.calls _ _ w (ones_f ⟨m, hm⟩)
theorem bit_sh : ∀ m : Fin 512, ∀ j : Fin 9, Go.bits .and .i64 (((m.val : Nat) : Int) / 2 ^ j.val) 1 = ((m.val / 2 ^ j.val % 2 : Nat) : Int) := by decide +kernel
theorem bit_or : ∀ m : Fin 512, ∀ j : Fin 9, m.val / 2 ^ j.val % 2 = 0 → Go.bits .or .i64 ((m.val : Nat) : Int) (2 ^ j.val) = ((m.val + 2 ^ j.val : Nat) : Int) := by decide +kernel
end Go.Proofs.Ytelabmhhnpfegaa.Hand
end
section
namespace Go.Proofs.Ytelabmhhnpfegaa.Hand
open Go.RowKit Go.Proofs.YtelabmhhnpfegaaW.PrintWords Go.Proofs.YtelabmhhnpfegaaW.PrintLast Go.Proofs.YtelabmhhnpfegaaW.PrintMore Go.Proofs.Ytelabmhhnpfegaa.PDynCells
theorem made_S (n : Nat) : madeCells #[.int .i64 0, .bool false, .int .i64 0, .int .i64 0] (n * 4) = tabS n (fun _ => z152) := by
 apply Array.ext_getElem?
 intro j
 by_cases hl : j < n * 4
 ·rw [tabS_at hl]
  have h4 : j % 4 = 0 ∨ j % 4 = 1 ∨ j % 4 = 2 ∨ j % 4 = 3 := by omega
  rcases h4 with h | h | h | h <;> simp [madeCells, hl, h, fldS, z152]
 ·simp [madeCells, tabS, hl]
theorem infoS152 : (Try.prog.info? 152).map (fun i => (i.zero, i.size, i.bytes)) = some (some (.agg #[.int .i64 0, .bool false, .int .i64 0, .int .i64 0]), 4, 32) := by kernel_rfl
theorem mkS (n : Nat) (hn : n ≤ 1048576) (W : World) : (Instr.makeSlice 150 (.int .i64 (n : Int)) (.int .i64 (n : Int))).run Try.prog W = .ok (.slice (some ⟨W.heap.size, 0, none⟩) n n) (W.alloc (.cells (tabS n fun _ => z152) 152)) := by
 obtain ⟨i, hi, hzz⟩ := Option.map_eq_some_iff.1 infoS152
 simp only [Prod.mk.injEq] at hzz
 obtain ⟨hz, hs, hb⟩ := hzz
 have h := run_make (P := Try.prog) W 150 152 i _ Try.underlying150 hi hz .i64 .i64 (n : Int) (n : Int) (by omega) (Int.le_refl _) (by rw [hb]; omega) (by omega)
 rw [hs, Int.toNat_natCast] at h
 rw [← made_S]
 exact h
def costA (x : PI) : Nat → Nat → Int := fun i k => (x.cost.getD i []).getD k 0
theorem least_is (x : PI) (hn : x.cost.length ≤ 9) : ∃ z, IsLeast x.cost.length (costA x) (fun _ _ => false) (some z) := by
 have key : ∀ M, M ≤ 2 ^ x.cost.length → ∃ T, DpI 9 x.cost.length (costA x) M 0 T := by
  intro M
  induction M with
  | zero => exact fun _ => ⟨_, DpI.start⟩
  | succ M ih =>
   intro hM
   obtain ⟨T, hT⟩ := ih (by omega)
   have key2 : ∀ j, j ≤ x.cost.length → ∃ T, DpI 9 x.cost.length (costA x) M j T := by
    intro j
    induction j with
    | zero => exact fun _ => ⟨T, hT⟩
    | succ j ih =>
     intro hj
     obtain ⟨T, hT⟩ := ih (by omega)
     by_cases hb : M / 2 ^ j % 2 = 0
     ·exact ⟨_, hT.put (by omega) (by omega) hb⟩
     ·exact ⟨_, hT.skip hb⟩
   obtain ⟨T, hT⟩ := key2 _ (Nat.le_refl _)
   exact ⟨T, hT.next⟩
 obtain ⟨T, hT⟩ := key _ (Nat.le_refl _)
 obtain ⟨σ, _, _, h, _⟩ := hT.least hn
 exact ⟨_, h⟩
theorem DpI.bd {K n M j : Nat} {c : Nat → Nat → Int} {T : Nat → S152} (h : DpI K n c M j T) (hc : ∀ i k, -2147483648 ≤ c i k ∧ c i k ≤ 2147483648) : ∀ (f X : Nat), X ≤ f → (T X).f1 = true → -(2147483648 * X) ≤ (T X).f0 ∧ (T X).f0 ≤ 2147483648 * X
 | f, X, hf, hok => by
  by_cases e : X = 0
  ·subst e
   rw [h.zero]
   exact ⟨Int.le_refl _, Int.le_refl _⟩
  ·obtain ⟨Y, k, a1, a2, a3, a4, a5, a6, a7⟩ := h.link X e hok
   have hp : 0 < 2 ^ k := Nat.pow_pos (by omega)
   match f, hf with
   | 0, hf => omega
   | f + 1, hf =>
    have ih := DpI.bd h hc f Y (by omega) a6
    have := hc (pop K Y) k
    rw [a7]
    show -(2147483648 * (X : Int)) ≤ (T Y).f0 + c (pop K Y) k ∧ (T Y).f0 + c (pop K Y) k ≤ 2147483648 * X
    omega
theorem costA_bd {x : PI} (hb : ∀ r ∈ x.cost, ∀ z ∈ r, -2147483648 ≤ z ∧ z ≤ 2147483648) (i k : Nat) : -2147483648 ≤ costA x i k ∧ costA x i k ≤ 2147483648 := by
 unfold costA
 have hr : ∀ z ∈ x.cost.getD i [], -2147483648 ≤ z ∧ z ≤ 2147483648 := by
  by_cases hi : i < x.cost.length
  ·rw [List.getD_eq_getElem?_getD, List.getElem?_eq_getElem hi, Option.getD_some]
   exact hb _ (List.getElem_mem _)
  ·rw [List.getD_eq_getElem?_getD, List.getElem?_eq_none (by omega)]
   intro z hz
   cases hz
 obtain ⟨r, hr'⟩ : ∃ r, r = x.cost.getD i [] := ⟨_, rfl⟩
 rw [← hr'] at hr ⊢
 by_cases hk : k < r.length
 ·rw [List.getD_eq_getElem?_getD, List.getElem?_eq_getElem hk, Option.getD_some]
  exact hr _ (List.getElem_mem _)
 ·rw [List.getD_eq_getElem?_getD, List.getElem?_eq_none (by omega)]
  decide
set_option maxHeartbeats 1000000 in
set_option maxRecDepth 100000 in
theorem assignment_any (w : World) (x : PI) (v : Value) (h : InstC w x v) (hn : x.cost.length ≤ 9) (hrows : ∀ r ∈ x.cost, r.length = x.cost.length) (hb : ∀ r ∈ x.cost, ∀ z ∈ r, -2147483648 ≤ z ∧ z ≤ 2147483648) (z : Int) (hz : IsLeast x.cost.length (costA x) (fun _ _ => false) (some z)) :
  Calls Try.prog 55 #[v] w fun e w' => ∃ vr, e = .returned (.tuple #[vr, .int .i64 z, .bool true]) ∧ Aside0 ((∃ σ, PM x.cost.length (fun _ _ => false) σ ∧ cost x.cost.length (costA x) σ = z ∧ (Kd.int .i64).R 3 w' w.heap.size (fun _ => True) vr ((List.range x.cost.length).map fun r => ((σ r : Nat) : Int))) ∧ Below w.heap.size w w') := by
 have HI := Aside0.mk h
 obtain ⟨A2, c2, A3, c3, A5, c5, rfl, h2, l2, h3, l3, h5, l5⟩ := h
 have H3 := Aside0.mk h3
 have HR := Aside0.mk hrows
 have CB := Aside0.mk (costA_bd hb)
 have HZ := Aside0.mk hz
 obtain ⟨c, hc⟩ : ∃ c, c = costA x := ⟨_, rfl⟩
 rw [← hc] at CB HZ ⊢
 have HC := Aside0.mk hc
 obtain ⟨n, hn1⟩ : ∃ n, n = x.cost.length := ⟨_, rfl⟩
 rw [← hn1] at hn HI H3 HR HZ l3 ⊢
 have HN := Aside0.mk hn1
 clear h2 h3 h5 l2 l3 l5 hrows hb hz hc hn1 HI
 have hu54 := Try.underlying54
 have hu152 := Try.underlying152
 obtain ⟨N, hN⟩ : ∃ N : Nat, N = 2 ^ n := ⟨_, rfl⟩
 have hN5 : N ≤ 512 := by
  rw [hN]
  exact Nat.le_trans (Nat.pow_le_pow_right (by omega) hn) (by decide)
 have hN0 : 0 < N := by rw [hN]; exact Nat.pow_pos (by omega)
 have e0 : ((2 : Int) ^ n) = (N : Int) := by rw [hN, Int.natCast_pow]; rfl
 have e1 : IntKind.i64.wrap ((2 : Int) ^ n) = (N : Int) := by rw [e0, i64_w]; unfold wrap64; omega
 have e2 : wrap64 ((2 : Int) ^ n) = (N : Int) := by rw [e0]; unfold wrap64; omega
 have e3 : IntKind.i64.wrap ((2 : Int) ^ min n 64) = (N : Int) := by rw [Nat.min_eq_left (by omega)]; exact e1
 have e4 : wrap64 ((2 : Int) ^ min n 64) = (N : Int) := by rw [Nat.min_eq_left (by omega)]; exact e2
 have e5 : IntKind.i64.wrap (1 * (2 : Int) ^ min n 64) = (N : Int) := by rw [Int.one_mul]; exact e3
 have e6 : wrap64 (1 * (2 : Int) ^ min n 64) = (N : Int) := by rw [Int.one_mul]; exact e4
 have HNN := Aside0.mk hN
 clear hN e0
 have mk1 := mkS N (by omega)
 go_enter Try.func55, Try.ntmps55
 go_upto_region 3 with fail
 clear e1 e2 e3 e4 e5 e6 mk1
 obtain ⟨W0, hW0⟩ : ∃ W, W = w.alloc (.cells #[.int .i64 x.kind, .int .i64 x.cap, .slice A2 x.items.length c2, .slice A3 n c3, .int .i64 x.size, .slice A5 x.sets.length c5] 54) := ⟨_, rfl⟩
 rw [← hW0]
 have B0 : Aside0 (Below w.heap.size w W0) := ⟨by rw [hW0]; exact below_alloc (Below.refl _ _) _⟩
 obtain ⟨W1, hW1⟩ : ∃ W, W = W0.alloc (.cells (tabS N fun _ => z152) 152) := ⟨_, rfl⟩
 rw [← hW1]
 obtain ⟨g, hg⟩ : ∃ g, g = w.heap.size + 1 := ⟨_, rfl⟩
 rw [← hg]
 have hg2 : g = W0.heap.size := by rw [hg, hW0, al_size]
 have S1 : Aside0 (SB W1 g N (fun _ => z152)) := ⟨by rw [hW1, hg2]; exact heap_alloc_new _ _⟩
 have B1 : Aside0 (Below W0.heap.size W0 W1) := ⟨by rw [hW1]; exact below_alloc (Below.refl _ _) _⟩
 obtain ⟨p1, hp1⟩ : ∃ p, p = w.heap.size := ⟨_, rfl⟩
 have Q0 : Aside0 (W0.heap[p1]? = some (.cells #[.int .i64 x.kind, .int .i64 x.cap, .slice A2 x.items.length c2, .slice A3 n c3, .int .i64 x.size, .slice A5 x.sets.length c5] 54 (0, 0))) := ⟨by rw [hW0, hp1]; exact heap_alloc_new _ _⟩
 rw [← hp1]
 have HG : Aside0 (W0.heap.size ≤ g) := ⟨by omega⟩
 clear hW0 hW1 hg hp1 hg2
 have q0 : W1.cell? ⟨g, 0, none⟩ = some (.int .i64 0) := S1.out.c0 hN0
 have q1 : W1.cell? ⟨g, 1, none⟩ = some (.bool false) := S1.out.c1 hN0
 have q2 : W1.cell? ⟨g, 2, none⟩ = some (.int .i64 0) := S1.out.c2 hN0
 have q3 : W1.cell? ⟨g, 3, none⟩ = some (.int .i64 0) := S1.out.c3 hN0
 have hz : ∀ j, W1.frozen? ⟨g, j, none⟩ = false := S1.out.z
 go_upto_region 4 with fail
 clear q0 q1 q2 q3 hz
 obtain ⟨W2, hW2⟩ : ∃ W, W = (((W1.setCell ⟨g, 0, none⟩ (Value.int .i64 0)).setCell ⟨g, 1, none⟩ (Value.bool true)).setCell ⟨g, 2, none⟩ (Value.int .i64 (-1))).setCell ⟨g, 3, none⟩ (Value.int .i64 0) := ⟨_, rfl⟩
 rw [← hW2]
 have K0 : Aside0 (∃ T, SB W2 g N T ∧ DpI 9 n c 0 0 T ∧ Below W0.heap.size W0 W2) := ⟨_, by rw [hW2]; exact S1.out.set 0 ⟨0, true, -1, 0⟩, DpI.start, by rw [hW2]; exact set4_below B1.out HG.out _ _ _ _ _ _ _ _⟩
 clear hW2 S1 B1
 go_wp2_with fail
 go_loopw [23] (fun v23 wr => ∃ M : Nat, M ≤ N ∧ v23 = .int .i64 (M : Int) ∧ Aside0 (∃ T, SB wr g N T ∧ DpI 9 n c M 0 T ∧ Below W0.heap.size W0 wr)) (fun v23 _ => N - (intOf v23).toNat)
 case atStart => exact ⟨0, Nat.zero_le _, rfl, K0⟩
 case round =>
  clear K0
  obtain ⟨M, hM, rfl, KK⟩ := hrel
  by_cases hlt : M < N
  ·go_wp2_with fail
   have hM5 : M < 512 := by omega
   refine (ones_any M hM5 wr).mono ?_
   rintro _ w5 ⟨rfl, ⟨nd, rfl⟩⟩
   obtain ⟨row, hrow⟩ : ∃ r, r = pop 9 M := ⟨_, rfl⟩
   rw [← hrow]
   have hrn : row ≤ n := by rw [hrow]; exact pop_le 9 n M (by rw [← HNN.out]; exact hlt)
   have HROW := Aside0.mk hrow
   clear hrow
   go_wp2_with fail
   have L0 : Aside0 (∃ T, SB (wr.drewN nd) g N T ∧ DpI 9 n c M 0 T ∧ Below W0.heap.size W0 (wr.drewN nd)) := ⟨by
    obtain ⟨T, t1, t2, t3⟩ := KK.out
    exact ⟨T, t1, t2, pw_below_drewN t3 nd⟩⟩
   clear KK
   go_loopw [30] (fun v30 wr => ∃ j : Nat, j ≤ n ∧ v30 = .int .i64 (j : Int) ∧ Aside0 (∃ T, SB wr g N T ∧ DpI 9 n c M j T ∧ Below W0.heap.size W0 wr)) (fun v30 _ => n - (intOf v30).toNat)
   case atStart => exact ⟨0, Nat.zero_le _, rfl, L0⟩
   case round =>
    clear L0
    obtain ⟨j, hj, rfl, KJ⟩ := hrel
    by_cases hjn : j < n
    ·have hsh := bit_sh ⟨M, hM5⟩ ⟨j, by omega⟩
     simp only at hsh
     have hmin : min j 64 = j := by omega
     have hmod : (j : Int) < 64 := by omega
     by_cases hbit : M / 2 ^ j % 2 = 0
     ·rw [hbit] at hsh
      obtain ⟨P, hP⟩ : ∃ P : Nat, P = 2 ^ j := ⟨_, rfl⟩
      have hor := bit_or ⟨M, hM5⟩ ⟨j, by omega⟩ hbit
      simp only at hor
      have hP5 : P ≤ 256 := by
       rw [hP]
       exact Nat.le_trans (Nat.pow_le_pow_right (by omega) (show j ≤ 8 by omega)) (by decide)
      have f0 : ((2 : Int) ^ j) = (P : Int) := by rw [hP, Int.natCast_pow]; rfl
      have f1 : IntKind.i64.wrap ((2 : Int) ^ j) = (P : Int) := by rw [f0, i64_w]; unfold wrap64; omega
      have f2 : wrap64 ((2 : Int) ^ j) = (P : Int) := by rw [f0]; unfold wrap64; omega
      have f3 : IntKind.i64.wrap ((2 : Int) ^ min j 64) = (P : Int) := by rw [hmin]; exact f1
      have f4 : wrap64 ((2 : Int) ^ min j 64) = (P : Int) := by rw [hmin]; exact f2
      have f5 : IntKind.i64.wrap (1 * (2 : Int) ^ min j 64) = (P : Int) := by rw [Int.one_mul]; exact f3
      have f6 : wrap64 (1 * (2 : Int) ^ min j 64) = (P : Int) := by rw [Int.one_mul]; exact f4
      rw [f0, ← hP] at hor
      obtain ⟨X, hX⟩ : ∃ X, X = M + P := ⟨_, rfl⟩
      rw [← hX] at hor
      have hXN : X < N := by
       rw [hX, hP, HNN.out]
       exact bit_lt n j M (by rw [← HNN.out]; exact hlt) hjn hbit
      have hrow1 : row < n := by
       have h1 := pop_add 9 j M (by omega) hbit
       have h2 := pop_le 9 n (M + 2 ^ j) (bit_lt n j M (by rw [← HNN.out]; exact hlt) hjn hbit)
       rw [HROW.out]
       omega
      have HX := Aside0.mk (And.intro hX hP)
      clear f0 hP hX
      go_upto_region 13 with fail
      clear f1 f2 f3 f4 f5 f6 hor hsh
      obtain ⟨T, t1, t2, t3⟩ := KJ.out
      obtain ⟨wo, hwo⟩ : ∃ wo : World, wo = wr := ⟨_, rfl⟩
      rw [← hwo] at t1 t3 ⊢
      clear hwo KJ
      have KT : Aside0 (SB wo.drew g N T ∧ DpI 9 n c M j T ∧ Below W0.heap.size W0 wo.drew) := ⟨t1, t2, below_drew t3⟩
      have ab := t2.bd CB.out M M (Nat.le_refl _) (t2.ok (Nat.le_refl _) (by rw [← HNN.out]; exact hlt))
      have cb := CB.out row j
      obtain ⟨aM, haM⟩ : ∃ z, z = (T M).f0 := ⟨_, rfl⟩
      obtain ⟨cv, hcv⟩ : ∃ z, z = c row j := ⟨_, rfl⟩
      rw [← haM] at ab
      rw [← hcv] at cb
      obtain ⟨ab0, ab1⟩ := ab
      obtain ⟨cb0, cb1⟩ := cb
      obtain ⟨ar, AY, cY, e, y0, ly, hy⟩ := at_L2 H3.out (row : Int) (by omega) (by omega)
      have hlen : (rd_L2 x.cost (row : Int)).length = n := by
       unfold rd_L2
       rw [Int.toNat_natCast, List.getD_eq_getElem?_getD, List.getElem?_eq_getElem (by rw [← HN.out]; exact hrow1), Option.getD_some]
       exact HR.out _ (List.getElem_mem _)
      rw [hlen] at y0 ly hy
      obtain ⟨aY, eY, y1⟩ := at_Int hy j hjn
      subst e eY
      rw [Int.toNat_natCast] at y0
      have hcv2 : (rd_L2 x.cost (row : Int)).getD j 0 = cv := by rw [hcv, HC.out]; unfold rd_L2 costA; rw [Int.toNat_natCast]
      rw [hcv2] at y1
      have BB := B0.out.trans (t3.mono B0.out.size)
      have z0 : wo.drew.cell? ⟨g, M * 4, none⟩ = some (.int .i64 aM) := (t1.c0 hlt).trans (by rw [haM])
      have z1 : wo.drew.cell? ⟨p1, 3, none⟩ = some (.slice (some ar) n c3) := (blk_cell (blk_below Q0.out t3) 3).trans rfl
      have z2 : wo.drew.cell? (ar.add row) = some (.slice (some aY) n cY) := pw_cell_below BB y0
      have z3 : wo.drew.cell? (aY.add j) = some (.int .i64 cv) := pw_cell_below BB y1
      have HV := Aside0.mk (And.intro haM hcv)
      have v1 : wrap64 (aM + cv) = aM + cv := by unfold wrap64; omega
      have v2 : IntKind.i64.wrap (aM + cv) = aM + cv := by rw [i64_w]; exact v1
      clear haM hcv hcv2 hlen y0 y1 ly hy t1 t2 t3 BB
      refine start_ (n := 20) (S := fun w' => w'.cell? ⟨g, M * 4, none⟩ = some (.int .i64 aM) ∧ w'.cell? ⟨p1, 3, none⟩ = some (.slice (some ar) n c3) ∧ w'.cell? (ar.add row) = some (.slice (some aY) n cY) ∧ w'.cell? (aY.add j) = some (.int .i64 cv)) (ds := [19]) #[false, false, false, false, false, false, false, false, false, false, false, false, false, false, false, false, false, false, false, false] (by kernel_rfl) rfl rfl ⟨z0, z1, z2, z3⟩ (fun hHeld => ?_)
      clear z0 z1 z2 z3
      refine puU 0 (some 42) ?_ rfl rfl (by kernel_rfl) (fun _ _ _ h => h) (Or.inl ⟨by rfl, ?_⟩) ?_ ?_ ?_
      rotate_left
      ·intro w'
       go_simp
       with_reducible rfl
      rotate_left
      ·simp only [Act.put, lsA, lsB, lsC]
       rfl
      refine puU 1 (some 43) ?_ rfl rfl (by kernel_rfl) (fun _ _ _ h => h) (Or.inl ⟨by rfl, ?_⟩) ?_ ?_ ?_
      rotate_left
      ·intro w'
       go_simp
       with_reducible rfl
      rotate_left
      ·simp only [Act.put, lsA, lsB, lsC]
       rfl
      refine puU 2 (some 44) ?_ rfl rfl (by kernel_rfl) (fun _ _ _ h => h) (Or.inl ⟨by rfl, ?_⟩) ?_ ?_ ?_
      rotate_left
      ·intro w'
       go_simp
       with_reducible rfl
      rotate_left
      ·simp only [Act.put, lsA, lsB, lsC]
       rfl
      refine puU 3 (some 45) ?_ rfl rfl (by kernel_rfl) (fun _ _ _ h => h) (Or.inl ⟨by rfl, ?_⟩) ?_ ?_ ?_
      rotate_left
      ·intro w'
       go_simp
       with_reducible rfl
      rotate_left
      ·simp only [Act.put, lsA, lsB, lsC]
       rfl
      refine puU 4 (some 46) ?_ rfl rfl (by kernel_rfl) (fun _ _ _ h => h) (Or.inl ⟨by rfl, ?_⟩) ?_ ?_ ?_
      rotate_left
      ·intro w'
       go_simp
       with_reducible rfl
      rotate_left
      ·simp only [Act.put, lsA, lsB, lsC]
       rfl
      refine puU 5 (some 47) ?_ rfl rfl (by kernel_rfl) (fun _ _ _ h => h) (Or.inl ⟨by rfl, ?_⟩) ?_ ?_ ?_
      rotate_left
      ·intro w'
       go_simp
       with_reducible rfl
      rotate_left
      ·simp only [Act.put, lsA, lsB, lsC]
       rfl
      refine puU 6 (some 48) ?_ rfl rfl (by kernel_rfl) (fun _ _ _ h => h) (Or.inl ⟨by rfl, ?_⟩) ?_ ?_ ?_
      rotate_left
      ·intro w'
       go_simp
       with_reducible rfl
      rotate_left
      ·simp only [Act.put, lsA, lsB, lsC]
       rfl
      refine taU 7 (some 49) ?_ rfl rfl (by kernel_rfl) (fun _ _ _ h => h) (Or.inl ⟨by rfl, ?_⟩) hHeld ?_ ?_ ?_
      rotate_left
      ·rintro w' ⟨s0, s1, s2, s3⟩
       go_simp
       with_reducible rfl
      rotate_left
      ·simp only [Act.put, lsA, lsB, lsC]
       rfl
      refine puU 8 (some 50) ?_ rfl rfl (by kernel_rfl) (fun _ _ _ h => h) (Or.inl ⟨by rfl, ?_⟩) ?_ ?_ ?_
      rotate_left
      ·intro w'
       go_simp
       with_reducible rfl
      rotate_left
      ·simp only [Act.put, lsA, lsB, lsC]
       rfl
      refine taU 9 (some 51) ?_ rfl rfl (by kernel_rfl) (fun _ _ _ h => h) (Or.inl ⟨by rfl, ?_⟩) hHeld ?_ ?_ ?_
      rotate_left
      ·rintro w' ⟨s0, s1, s2, s3⟩
       go_simp
       with_reducible rfl
      rotate_left
      ·simp only [Act.put, lsA, lsB, lsC]
       rfl
      refine puU 10 (some 52) ?_ rfl rfl (by kernel_rfl) (fun _ _ _ h => h) (Or.inl ⟨by rfl, ?_⟩) ?_ ?_ ?_
      rotate_left
      ·intro w'
       go_simp
       with_reducible rfl
      rotate_left
      ·simp only [Act.put, lsA, lsB, lsC]
       rfl
      refine puU 11 (some 53) ?_ rfl rfl (by kernel_rfl) (fun _ _ _ h => h) (Or.inl ⟨by rfl, ?_⟩) ?_ ?_ ?_
      rotate_left
      ·intro w'
       go_simp
       with_reducible rfl
      rotate_left
      ·simp only [Act.put, lsA, lsB, lsC]
       rfl
      refine taU 12 (some 54) ?_ rfl rfl (by kernel_rfl) (fun _ _ _ h => h) (Or.inl ⟨by rfl, ?_⟩) hHeld ?_ ?_ ?_
      rotate_left
      ·rintro w' ⟨s0, s1, s2, s3⟩
       go_simp
       with_reducible rfl
      rotate_left
      ·simp only [Act.put, lsA, lsB, lsC]
       rfl
      refine puU 13 (some 55) ?_ rfl rfl (by kernel_rfl) (fun _ _ _ h => h) (Or.inl ⟨by rfl, ?_⟩) ?_ ?_ ?_
      rotate_left
      ·intro w'
       go_simp
       with_reducible rfl
      rotate_left
      ·simp only [Act.put, lsA, lsB, lsC]
       rfl
      refine puU 14 (some 56) ?_ rfl rfl (by kernel_rfl) (fun _ _ _ h => h) (Or.inl ⟨by rfl, ?_⟩) ?_ ?_ ?_
      rotate_left
      ·intro w'
       go_simp
       with_reducible rfl
      rotate_left
      ·simp only [Act.put, lsA, lsB, lsC]
       rfl
      refine taU 15 (some 57) ?_ rfl rfl (by kernel_rfl) (fun _ _ _ h => h) (Or.inl ⟨by rfl, ?_⟩) hHeld ?_ ?_ ?_
      rotate_left
      ·rintro w' ⟨s0, s1, s2, s3⟩
       go_simp
       with_reducible rfl
      rotate_left
      ·simp only [Act.put, lsA, lsB, lsC]
       rfl
      refine puU 16 (some 58) ?_ rfl rfl (by kernel_rfl) (fun _ _ _ h => h) (Or.inl ⟨by rfl, ?_⟩) ?_ ?_ ?_
      rotate_left
      ·intro w'
       go_simp
       with_reducible rfl
      rotate_left
      ·simp only [Act.put, lsA, lsB, lsC]
       rfl
      refine puU 17 (some 59) ?_ rfl rfl (by kernel_rfl) (fun _ _ _ h => h) (Or.inl ⟨by rfl, ?_⟩) ?_ ?_ ?_
      rotate_left
      ·intro w'
       go_simp
       with_reducible rfl
      rotate_left
      ·simp only [Act.put, lsA, lsB, lsC]
       rfl
      refine puU 18 (some 60) ?_ rfl rfl (by kernel_rfl) (fun _ _ _ h => h) (Or.inl ⟨by rfl, ?_⟩) ?_ ?_ ?_
      rotate_left
      ·intro w'
       go_simp
       with_reducible rfl
      rotate_left
      ·simp only [Act.put, lsA, lsB, lsC]
       rfl
      refine last_ (i := 19) (N := some 61) #[true, true, true, true, true, true, true, true, true, true, true, true, true, true, true, true, true, true, true, true] rfl rfl (by kernel_rfl) (by decide) (fun K hK => ?_)
      refine goes_ Try.func92 (by kernel_rfl) rfl #[.pointer (some ⟨g, X * 4, none⟩), .int .i64 (aM + cv), .int .i64 (j : Int), .int .i64 (M : Int)] (by rfl) rfl rfl (by (try simp only [List.map_toArray, List.map_cons, List.map_nil]); first | done | rfl) ?_
      refine (offer_any W0 wo.drew g N X T _ _ _ KT.out.1 hXN KT.out.2.2 HG.out).mono ?_
      rintro _ w6 ⟨rfl, H6⟩
      refine ⟨_, rfl, ?_⟩
      refine hK.out _ _ ?_
      clear hK K
      refine norm_ (a' := ?_) ?_ ?_
      rotate_left
      ·show Act.put _ (some 61) _ = _
       simp only [Act.put, lsA, lsB, lsC]
       rfl
      refine done_ (by kernel_rfl) ?_
      have N1 : Aside0 (∃ T, SB w6 g N T ∧ DpI 9 n c M (j + 1) T ∧ Below W0.heap.size W0 w6) := ⟨_, H6.out.1, by
       have h1 := KT.out.2.1.put (by rw [← HNN.out]; exact hlt) hjn hbit
       rw [← HX.out.2, ← HX.out.1, ← HROW.out, ← HV.out.1, ← HV.out.2] at h1
       exact h1, H6.out.2⟩
      clear hHeld
      go_wp2_with fail
      exact ⟨⟨j + 1, by omega, by go_num, N1⟩, by simp [intOf]; omega⟩
     ·have hb1 : M / 2 ^ j % 2 = 1 := by omega
      rw [hb1] at hsh
      have N1 : Aside0 (∃ T, SB wr g N T ∧ DpI 9 n c M (j + 1) T ∧ Below W0.heap.size W0 wr) := ⟨by
       obtain ⟨T, t1, t2, t3⟩ := KJ.out
       exact ⟨T, t1, t2.skip hbit, t3⟩⟩
      go_wp2_with fail
      exact ⟨⟨j + 1, by omega, by go_num, N1⟩, by simp [intOf]; omega⟩
    ·obtain rfl : n = j := by omega
     have N1 : Aside0 (∃ T, SB wr g N T ∧ DpI 9 n c (M + 1) 0 T ∧ Below W0.heap.size W0 wr) := ⟨by
      obtain ⟨T, t1, t2, t3⟩ := KJ.out
      exact ⟨T, t1, t2.next, t3⟩⟩
     go_wp2_with fail
     exact ⟨⟨M + 1, by omega, by go_num, N1⟩, by simp [intOf]; omega⟩
  ·obtain rfl : N = M := by omega
   have hF0 : ∃ F, N = F + 1 := ⟨N - 1, by omega⟩
   obtain ⟨F, hF⟩ := hF0
   have d1 : (N : Int) - 1 = (F : Int) := by omega
   have d2 : wrap64 ((N : Int) - 1) = (F : Int) := by unfold wrap64; omega
   have hFN : F < N := by omega
   have HF := Aside0.mk (show N - 1 = F by omega)
   clear hF
   go_upto_region 17 with fail
   clear d1 d2
   obtain ⟨T, t1, t2, t3⟩ := KK.out
   rw [HNN.out] at t2
   obtain ⟨σ, s1, s2, s3, l, s4, s5⟩ := t2.least hn
   rw [← HNN.out, HF.out] at s2 s3 s4
   have hzz : (T F).f0 = z := by
    have := s3.uniq HZ.out
    injection this
   obtain ⟨wo, hwo⟩ : ∃ wo : World, wo = wr := ⟨_, rfl⟩
   rw [← hwo] at t1 t3 ⊢
   clear hwo KK
   have KT : Aside0 (SB wo.drew g N T ∧ Below W0.heap.size W0 wo.drew) := ⟨t1, below_drew t3⟩
   have hll : l.length ≤ 4096 := by
    have := congrArg List.length s5
    rw [List.length_reverse, List.length_map, List.length_range] at this
    omega
   have CH : Aside0 (Chain N T F l ∧ l.reverse = ((List.range n).map fun r => ((σ r : Nat) : Int)) ∧ l.length ≤ 4096) := ⟨s4, s5, hll⟩
   have SG : Aside0 (PM n (fun _ _ => false) σ ∧ cost n c σ = z) := ⟨s1, by rw [← hzz, s2]⟩
   have z0 : wo.drew.cell? ⟨g, F * 4, none⟩ = some (.int .i64 z) := (t1.c0 hFN).trans (by rw [hzz])
   have ZZ := Aside0.mk z0
   have z1 : Aside0 (Below wo.drew.heap.size wo.drew wo.drew) := ⟨Below.refl _ _⟩
   clear s1 s2 s3 s4 s5 hll t1 t2 t3 hzz
   refine start_ (n := 11) (S := fun w' => w'.cell? ⟨g, F * 4, none⟩ = some (.int .i64 z) ∧ Aside0 (Below wo.drew.heap.size wo.drew w')) (ds := []) #[false, false, false, false, false, false, false, false, false, false, false] (by kernel_rfl) rfl rfl ⟨z0, z1⟩ (fun hHeld => ?_)
   clear z0 z1
   refine puU 0 (some 67) ?_ rfl rfl (by kernel_rfl) (fun _ _ _ h => h) (Or.inl ⟨by rfl, ?_⟩) ?_ ?_ ?_
   rotate_left
   ·intro w'
    go_simp
    with_reducible rfl
   rotate_left
   ·simp only [Act.put, lsA, lsB, lsC]
    rfl
   refine puU 1 (some 68) ?_ rfl rfl (by kernel_rfl) (fun _ _ _ h => h) (Or.inl ⟨by rfl, ?_⟩) ?_ ?_ ?_
   rotate_left
   ·intro w'
    go_simp
    with_reducible rfl
   rotate_left
   ·simp only [Act.put, lsA, lsB, lsC]
    rfl
   refine puU 3 (some 70) ?_ rfl rfl (by kernel_rfl) (fun _ _ _ h => h) (Or.inl ⟨by rfl, ?_⟩) ?_ ?_ ?_
   rotate_left
   ·intro w'
    go_simp
    with_reducible rfl
   rotate_left
   ·simp only [Act.put, lsA, lsB, lsC]
    rfl
   refine puU 4 (some 71) ?_ rfl rfl (by kernel_rfl) (fun _ _ _ h => h) (Or.inl ⟨by rfl, ?_⟩) ?_ ?_ ?_
   rotate_left
   ·intro w'
    go_simp
    with_reducible rfl
   rotate_left
   ·simp only [Act.put, lsA, lsB, lsC]
    rfl
   refine puU 5 (some 72) ?_ rfl rfl (by kernel_rfl) (fun _ _ _ h => h) (Or.inl ⟨by rfl, ?_⟩) ?_ ?_ ?_
   rotate_left
   ·intro w'
    go_simp
    with_reducible rfl
   rotate_left
   ·simp only [Act.put, lsA, lsB, lsC]
    rfl
   refine puU 6 (some 73) ?_ rfl rfl (by kernel_rfl) (fun _ _ _ h => h) (Or.inl ⟨by rfl, ?_⟩) ?_ ?_ ?_
   rotate_left
   ·intro w'
    go_simp
    with_reducible rfl
   rotate_left
   ·simp only [Act.put, lsA, lsB, lsC]
    rfl
   refine taU 7 (some 74) ?_ rfl rfl (by kernel_rfl) (fun _ _ _ h => h) (Or.inl ⟨by rfl, ?_⟩) hHeld ?_ ?_ ?_
   rotate_left
   ·rintro w' ⟨s0, s1⟩
    go_simp
    with_reducible rfl
   rotate_left
   ·simp only [Act.put, lsA, lsB, lsC]
    rfl
   refine one_ (i := 2) (N := some 69) #[true, true, true, true, true, true, true, true, false, false, false] rfl rfl (by kernel_rfl) (by decide) (fun K hK => ?_)
   refine goes_ Try.func93 (by kernel_rfl) rfl #[.slice (some ⟨g, 0, none⟩) N N, .int .i64 (F : Int)] (by rfl) rfl rfl (by (try simp only [List.map_toArray, List.map_cons, List.map_nil]); first | done | rfl) ?_
   refine (trace_any wo.drew g N T F l KT.out.1 CH.out.1 CH.out.2.2).mono ?_
   rintro _ w6 ⟨vr, rfl, H6⟩
   refine ⟨_, rfl, ?_⟩
   refine hK.out _ _ ⟨(pw_cell_below H6.out.2 ZZ.out), ⟨H6.out.2⟩⟩ (fun _ => ?_)
   clear hK K
   refine norm_ (a' := ?_) ?_ ?_
   rotate_left
   ·show Act.put _ (some 69) _ = _
    simp only [Act.put, lsA, lsB, lsC]
    rfl
   refine puU 8 (some 2) ?_ rfl rfl (by kernel_rfl) (fun _ _ _ h => h) (Or.inl ⟨by rfl, ?_⟩) ?_ ?_ ?_
   rotate_left
   ·intro w'
    go_simp
    with_reducible rfl
   rotate_left
   ·simp only [Act.put, lsA, lsB, lsC]
    rfl
   refine puU 9 (some 3) ?_ rfl rfl (by kernel_rfl) (fun _ _ _ h => h) (Or.inl ⟨by rfl, ?_⟩) ?_ ?_ ?_
   rotate_left
   ·intro w'
    go_simp
    with_reducible rfl
   rotate_left
   ·simp only [Act.put, lsA, lsB, lsC]
    rfl
   refine puU 10 (some 4) ?_ rfl rfl (by kernel_rfl) (fun _ _ _ h => h) (Or.inl ⟨by rfl, ?_⟩) ?_ ?_ ?_
   rotate_left
   ·intro w'
    go_simp
    with_reducible rfl
   rotate_left
   ·simp only [Act.put, lsA, lsB, lsC]
    rfl
   refine done_ (by kernel_rfl) ?_
   go_wp2_with fail
   refine bodyPost_ret (v := .tuple #[vr, .int .i64 z, .bool true]) (by simp [results, Try.results55, go_sem]) rfl ?_
   refine ⟨vr, rfl, ⟨⟨σ, SG.out.1, SG.out.2, ?_⟩, B0.out.trans ((KT.out.2.trans (H6.out.2.mono KT.out.2.size)).mono B0.out.size)⟩⟩
   rw [← CH.out.2.1]
   exact Kd.R_lower H6.out.1 (Nat.le_trans B0.out.size KT.out.2.size)
end Go.Proofs.Ytelabmhhnpfegaa.Hand
end
