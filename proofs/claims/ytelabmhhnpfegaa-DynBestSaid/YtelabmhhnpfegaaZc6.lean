/- Texts Kd Mi, cut to what is used. -/
import Derived.Test.YtelabmhhnpfegaaZa0
import Derived.Test.YtelabmhhnpfegaaZc3
import Derived.Test.YtelabmhhnpfegaaZc5
set_option linter.unusedVariables false
set_option linter.unusedSimpArgs false
section
namespace Go.Proofs.Ytelabmhhnpfegaa.Hand
open Go.RowKit Go.Proofs.Ytelabmhhnpfegaa.PDynCells
def ValT (n u l k : Nat) : Prop := u < 2 ^ n ∧ l < n ∧ k < n ∧ u / 2 ^ k % 2 = 0
def AheadT (n u l k : Nat) (u' l' k' : Nat) : Prop := ValT n u' l' k' ∧ (u' < u ∨ u' = u ∧ (l' < l ∨ l' = l ∧ k' < k))
theorem aheadT_put {n u l k : Nat} (h : ValT n u l k) (u' l' k' : Nat) : (AheadT n u l k u' l' k' ∨ (u' = u ∧ l' = l ∧ k' = k)) ↔ AheadT n u l (k + 1) u' l' k' := by
 constructor
 ·rintro (⟨h1, h2⟩ | ⟨rfl, rfl, rfl⟩)
  ·exact ⟨h1, by omega⟩
  ·exact ⟨h, .inr ⟨rfl, .inr ⟨rfl, Nat.lt_succ_self _⟩⟩⟩
 ·rintro ⟨h1, h2⟩
  by_cases e : u' = u ∧ l' = l ∧ k' = k
  ·exact .inr e
  ·exact .inl ⟨h1, by omega⟩
theorem aheadT_not {n u l k : Nat} (h : ¬ ValT n u l k) (u' l' k' : Nat) : AheadT n u l k u' l' k' ↔ AheadT n u l (k + 1) u' l' k' := by
 constructor
 ·rintro ⟨h1, h2⟩
  exact ⟨h1, by omega⟩
 ·rintro ⟨h1, h2⟩
  refine ⟨h1, ?_⟩
  by_cases e : u' = u ∧ l' = l ∧ k' = k
  ·obtain ⟨rfl, rfl, rfl⟩ := e
   exact absurd h1 h
  ·omega
theorem aheadT_row {n u l : Nat} (u' l' k' : Nat) : AheadT n u l n u' l' k' ↔ AheadT n u (l + 1) 0 u' l' k' := by
 constructor
 ·rintro ⟨h1, h2⟩
  exact ⟨h1, by omega⟩
 ·rintro ⟨h1, h2⟩
  have := h1.2.2.1
  exact ⟨h1, by omega⟩
theorem aheadT_set {n u : Nat} (u' l' k' : Nat) : AheadT n u n 0 u' l' k' ↔ AheadT n (u + 1) 0 0 u' l' k' := by
 constructor
 ·rintro ⟨h1, h2⟩
  exact ⟨h1, by omega⟩
 ·rintro ⟨h1, h2⟩
  have := h1.2.1
  exact ⟨h1, by omega⟩
theorem aheadT_le {n u l k u' l' k' : Nat} (h : AheadT n u l k u' l' k') : u' ≤ u := by
 have := h.2
 omega
structure Bs (n : Nat) (c : Nat → Nat → Int) (k : Nat) (T : Nat → S152) : Prop where
 set : ∀ j, j < k → T (n * 2 ^ j + j) = ⟨c 0 (j + 1), true, ((j + 1 : Nat) : Int), -1⟩
 only : ∀ X, (T X).f1 = true → ∃ j, j < k ∧ X = n * 2 ^ j + j
theorem Bs.start (n : Nat) (c : Nat → Nat → Int) : Bs n c 0 (fun _ => z152) := ⟨fun _ h => by omega, fun _ h => by cases h⟩
theorem Bs.put {n k : Nat} {c : Nat → Nat → Int} {T : Nat → S152} (h : Bs n c k T) (hk : k < n) : Bs n c (k + 1) (upd T (n * 2 ^ k + k) ⟨c 0 (k + 1), true, ((k + 1 : Nat) : Int), -1⟩) := by
 refine ⟨fun j hj => ?_, fun X hX => ?_⟩
 ·by_cases e : j = k
  ·subst e
   exact upd_self _ _ _
  ·have := cell_lt (n := n) (Nat.pow_lt_pow_right (show 1 < 2 by omega) (show j < k by omega)) (show j < n by omega)
   rw [upd_ne _ _ (by omega)]
   exact h.set j (by omega)
 ·by_cases e : X = n * 2 ^ k + k
  ·exact ⟨k, Nat.lt_succ_self _, e⟩
  ·rw [upd_ne _ _ e] at hX
   obtain ⟨j, hj, e'⟩ := h.only X hX
   exact ⟨j, by omega, e'⟩
theorem Bs.tri {n : Nat} {c : Nat → Nat → Int} {T : Nat → S152} (h : Bs n c n T) : TrI n c (AheadT n 0 0 0) T where
 part u l k hh := hh.1
 base k hk := by
  rw [h.set k hk]
  exact ⟨rfl, Int.le_refl _⟩
 link X hX := by
  obtain ⟨j, hj, rfl⟩ := h.only X hX
  exact .inl ⟨j, hj, rfl, h.set j hj⟩
 done u l k hh := by
  have := hh.2
  omega
theorem TrI.bd {n : Nat} {c : Nat → Nat → Int} {P : Nat → Nat → Nat → Prop} {T : Nat → S152} (h : TrI n c P T) (hc : ∀ i k, -2147483648 ≤ c i k ∧ c i k ≤ 2147483648) : ∀ (f X : Nat), X ≤ f → (T X).f1 = true → -(2147483648 * ((X : Int) + 1)) ≤ (T X).f0 ∧ (T X).f0 ≤ 2147483648 * ((X : Int) + 1)
 | f, X, hf, hok => by
  rcases h.link X hok with ⟨k, hk, hX, hT⟩ | ⟨u, l, k, a1, a2, a3, a4⟩
  ·have := hc 0 (k + 1)
   rw [hT]
   show -(2147483648 * ((X : Int) + 1)) ≤ c 0 (k + 1) ∧ c 0 (k + 1) ≤ 2147483648 * ((X : Int) + 1)
   omega
  ·obtain ⟨hu, hl, hk, hb⟩ := h.part _ _ _ a1
   have hp : 0 < 2 ^ k := Nat.pow_pos (by omega)
   have hlt : n * u + l < X := by
    have := cell_lt (n := n) (show u < u + 2 ^ k by omega) hl
    omega
   match f, hf with
   | 0, hf => omega
   | f + 1, hf =>
    have ih := TrI.bd h hc f (n * u + l) (by omega) a2
    have := hc (l + 1) (k + 1)
    rw [a4]
    show -(2147483648 * ((X : Int) + 1)) ≤ (T (n * u + l)).f0 + c (l + 1) (k + 1) ∧ (T (n * u + l)).f0 + c (l + 1) (k + 1) ≤ 2147483648 * ((X : Int) + 1)
    obtain ⟨Z, hZ⟩ : ∃ Z, Z = n * u + l := ⟨_, rfl⟩
    rw [← hZ] at ih hlt ⊢
    omega
structure EndI (val : Nat → Int) (pl : Nat → Nat) (l : Nat) (E : S152) : Prop where
 zero : l = 0 → E = z152
 some : 0 < l → E.f1 = true ∧ ∃ j, j < l ∧ E.f0 = val j ∧ E.f3 = ((pl j : Nat) : Int)
 le : ∀ j, j < l → E.f0 ≤ val j
theorem EndI.start (val : Nat → Int) (pl : Nat → Nat) : EndI val pl 0 z152 := ⟨fun _ => rfl, fun h => by omega, fun _ h => by omega⟩
theorem EndI.put {val : Nat → Int} {pl : Nat → Nat} {l : Nat} {E : S152} (h : EndI val pl l E) : EndI val pl (l + 1) (offS E (val l) 0 ((pl l : Nat) : Int)) := by
 refine ⟨fun h => by omega, fun _ => ?_, fun j hj => ?_⟩
 ·unfold offS
  split
  ·rename_i hk
   by_cases h0 : l = 0
   ·have := h.zero h0
    rw [this] at hk
    exact absurd hk.1 (by decide)
   ·obtain ⟨a, j, b1, b2, b3⟩ := h.some (by omega)
    exact ⟨a, j, by omega, b2, b3⟩
  ·exact ⟨rfl, l, Nat.lt_succ_self _, rfl, rfl⟩
 ·obtain ⟨o1, o2, o3⟩ := offS_ok E (val l) 0 ((pl l : Nat) : Int)
  by_cases e : j = l
  ·subst e
   exact o2
  ·have h1 := o3 (h.some (by omega)).1
   have h2 := h.le j (by omega)
   omega
def rndC (c : Nat → Nat → Int) (n : Nat) (σ : Nat → Nat) : Int := if n = 0 then 0 else wayC c σ (n - 1) + c (σ (n - 1) + 1) 0
def IsPm (n : Nat) (σ : Nat → Nat) : Prop := (∀ r, r < n → σ r < n) ∧ ∀ r s, r < n → s < n → σ r = σ s → r = s
theorem TrI.ends {n : Nat} {c : Nat → Nat → Int} {T : Nat → S152} {E : S152} (h : TrI n c (AheadT n (2 ^ n) 0 0) T) (hn : 0 < n)
  (hE : EndI (fun j => (T (n * (2 ^ n - 1) + j)).f0 + c (j + 1) 0) (fun j => n * (2 ^ n - 1) + j) n E) :
  (∀ σ, IsPm n σ → E.f0 ≤ rndC c n σ) ∧ ∃ σ, IsPm n σ ∧ E.f0 = rndC c n σ ∧ ∃ (X : Nat) (m : List Int), E.f3 = (X : Int) ∧ Way2 (n * 2 ^ n) T X m ∧ m.reverse = (List.range n).map fun r => ((σ r + 1 : Nat) : Int) := by
 obtain ⟨r1, r2⟩ := h.round (fun u l k hu hl hk hb => ⟨⟨hu, hl, hk, hb⟩, .inl hu⟩) hn
 have hr : ∀ σ, rndC c n σ = wayC c σ (n - 1) + c (σ (n - 1) + 1) 0 := fun σ => if_neg (by omega)
 refine ⟨fun σ hσ => ?_, ?_⟩
 ·have h1 := hE.le (σ (n - 1)) (hσ.1 _ (by omega))
  have h2 := r2 σ hσ.1 hσ.2
  rw [hr]
  omega
 ·obtain ⟨_, j, hj, e0, e3⟩ := hE.some hn
  obtain ⟨σ, s1, s2, s3, s4, m, s5, s6⟩ := r1 j hj
  refine ⟨σ, ⟨s1, s2⟩, ?_, _, m, e3, s5, s6⟩
  rw [hr, s3, ← s4, e0]
end Go.Proofs.Ytelabmhhnpfegaa.Hand
end
section
namespace Go.Proofs.Ytelabmhhnpfegaa.Hand
open Go.RowKit Go.Proofs.Ytelabmhhnpfegaa.PDynCells
theorem msk_bit (l : List Int) (hl : ∀ e ∈ l, 0 ≤ e) (i : Nat) : (mskE l).testBit i = decide ((i : Int) ∈ l) := by
 unfold mskE
 have key : ∀ (l : List Int) (m : Nat), (∀ e ∈ l, 0 ≤ e) → (l.foldl (fun m e => m ||| 2 ^ e.toNat) m).testBit i = (m.testBit i || decide ((i : Int) ∈ l)) := by
  intro l
  induction l with
  | nil => intro m _; simp
  | cons e t ih =>
   intro m h
   have he := h e List.mem_cons_self
   rw [List.foldl_cons, ih _ (fun y hy => h y (List.mem_cons_of_mem _ hy)), Nat.testBit_or, Nat.testBit_two_pow, Bool.or_assoc]
   congr 1
   rw [Bool.eq_iff_iff, Bool.or_eq_true, decide_eq_true_eq, decide_eq_true_eq, decide_eq_true_eq, List.mem_cons]
   constructor
   ·rintro (h1 | h1)
    ·exact .inl (by omega)
    ·exact .inr h1
   ·rintro (h1 | h1)
    ·exact .inl (by omega)
    ·exact .inr h1
 rw [key l 0 hl]
 simp
theorem unC_bit (ms : Nat → Nat) (β : Nat → Bool) (i : Nat) : ∀ K, (unC ms β K).testBit i = true ↔ ∃ r, r < K ∧ β r = true ∧ (ms r).testBit i = true
 | 0 => by
  rw [unC, Nat.zero_testBit]
  exact ⟨(fun h => by cases h), fun ⟨r, h, _⟩ => by omega⟩
 | K + 1 => by
  have ih := unC_bit ms β i K
  rw [unC]
  split
  ·rename_i hb
   rw [Nat.testBit_or, Bool.or_eq_true, ih]
   constructor
   ·rintro (⟨r, h1, h2⟩ | h)
    ·exact ⟨r, by omega, h2⟩
    ·exact ⟨K, Nat.lt_succ_self K, hb, h⟩
   ·rintro ⟨r, h1, h2, h3⟩
    by_cases e : r = K
    ·subst e
     exact .inr h3
    ·exact .inl ⟨r, by omega, h2, h3⟩
  ·rename_i hb
   rw [ih]
   constructor
   ·rintro ⟨r, h1, h2⟩
    exact ⟨r, by omega, h2⟩
   ·rintro ⟨r, h1, h2, h3⟩
    by_cases e : r = K
    ·subst e
     exact absurd h2 hb
    ·exact ⟨r, by omega, h2, h3⟩
theorem full_iff {m n : Nat} (hm : m < 2 ^ n) : m = 2 ^ n - 1 ↔ ∀ i, i < n → m.testBit i = true := by
 constructor
 ·rintro rfl i hi
  rw [Nat.testBit_two_pow_sub_one]
  exact decide_eq_true hi
 ·intro h
  apply Nat.eq_of_testBit_eq
  intro i
  rw [Nat.testBit_two_pow_sub_one]
  by_cases hi : i < n
  ·rw [h i hi, decide_eq_true hi]
  ·rw [decide_eq_false hi]
   exact Nat.testBit_lt_two_pow (Nat.lt_of_lt_of_le hm (Nat.pow_le_pow_right (by omega) (by omega)))
theorem els_nn {x : PI} (hi : IOk x) (k : Nat) : ∀ e ∈ (x.sets.getD k ⟨0, []⟩).f1, 0 ≤ e := fun e he => by
 by_cases hk : k < x.sets.length
 ·rw [List.getD_eq_getElem?_getD, List.getElem?_eq_getElem hk, Option.getD_some] at he
  exact (ascB_bd _ (-1) (by omega) (hi.elems _ (List.getElem_mem hk)) e he).1
 ·rw [List.getD_eq_getElem?_getD, List.getElem?_eq_none (by omega)] at he
  exact absurd he List.not_mem_nil
theorem cov_un {x : PI} (hi : IOk x) (β : Nat → Bool) : covB x (chP x.sets.length β) = true ↔ unC (msC x) β x.sets.length = 2 ^ x.size.toNat - 1 := by
 have hs : x.size = (x.size.toNat : Int) := by have := hi.size.1; omega
 rw [full_iff (unC_lt (fun k _ => msC_lt hi hs k) _ (Nat.le_refl _))]
 unfold covB
 rw [List.all_eq_true]
 constructor
 ·intro h i hlt
  have h1 := of_decide_eq_true (h i (List.mem_range.2 hlt))
  obtain ⟨k, hk1, hk2⟩ := List.mem_flatMap.1 h1
  obtain ⟨r, r1, r2, r3⟩ := chP_mem.1 hk1
  rw [unC_bit]
  refine ⟨r, r1, r2, ?_⟩
  unfold msC
  rw [msk_bit _ (els_nn hi r)]
  refine decide_eq_true ?_
  rw [← r3] at hk2
  exact hk2
 ·intro h i hr
  have hlt := List.mem_range.1 hr
  obtain ⟨r, r1, r2, r3⟩ := (unC_bit _ _ _ _).1 (h i hlt)
  unfold msC at r3
  rw [msk_bit _ (els_nn hi r)] at r3
  exact decide_eq_true (List.mem_flatMap.2 ⟨(r : Int), chP_mem.2 ⟨r, r1, r2, rfl⟩, of_decide_eq_true r3⟩)
theorem may_3 {x : PI} (hk : x.kind = 3) {y : List Int} : mayP x y = true ↔ ascB (x.sets.length : Int) (-1) y = true ∧ covB x y = true := by
 unfold mayP
 rw [if_neg (by omega), if_neg (by omega), if_neg (by omega), Bool.and_eq_true]
theorem cos_3 {x : PI} (hc : chk x = 0) (hk : x.kind = 3) {β : Nat → Bool} (h : mayP x (chP x.sets.length β) = true) : cosP x (chP x.sets.length β) = (sumC (csC x) β x.sets.length, 0) := by
 unfold cosP valP
 rw [if_pos hc, if_pos h, if_neg (by omega)]
 have : sumTo (chP x.sets.length β).length (partC x (chP x.sets.length β)) = sumC (csC x) β x.sets.length := by
  have h1 := lsum_chP (fun k => (x.sets.getD k.toNat ⟨0, []⟩).f0) β x.sets.length
  have h2 : sumTo (chP x.sets.length β).length (partC x (chP x.sets.length β)) = lsum (fun k => (x.sets.getD k.toNat ⟨0, []⟩).f0) (chP x.sets.length β) := sumTo_congr (fun i hi => by
   unfold partC
   rw [if_neg (by omega), if_neg (by omega), if_neg (by omega)])
  rw [h2, h1]
  rfl
 rw [this]
theorem answ_3 {x : PI} (hc : chk x = 0) (hk : x.kind = 3) {o : Option Int} (ho : IsLeastC x.sets.length x.size.toNat (msC x) (csC x) o) {l : List Int} (h0 : o = none → l = [])
  (h1 : o.isSome = true → ∃ β, unC (msC x) β x.sets.length = 2 ^ x.size.toNat - 1 ∧ some (sumC (csC x) β x.sets.length) = o ∧ l = ((List.range x.sets.length).filter β).map fun (r : Nat) => (r : Int)) : Answ x o.isSome (o.getD 0) l := by
 have hi := iok.1 hc
 cases o with
 | none =>
  refine ⟨(fun h => by cases h), fun _ => ⟨h0 rfl, rfl, fun y => ?_⟩⟩
  rw [Bool.eq_false_iff]
  intro hy
  obtain ⟨g1, g2⟩ := (may_3 hk).1 hy
  rw [asc_chP _ y g1] at g2
  exact ho _ ((cov_un hi _).1 g2)
 | some z =>
  obtain ⟨β, b1, b2, rfl⟩ := h1 rfl
  have hz : sumC (csC x) β x.sets.length = z := by injection b2
  have hm : mayP x (chP x.sets.length β) = true := (may_3 hk).2 ⟨chP_asc β _, (cov_un hi β).2 b1⟩
  refine ⟨fun _ => ⟨hm, ?_, fun y hy => ?_⟩, (fun h => by cases h)⟩
  ·have := cos_3 hc hk hm
   rw [hz] at this
   exact this
  ·obtain ⟨g1, g2⟩ := (may_3 hk).1 hy
   have e := asc_chP _ y g1
   rw [e] at g2 hy ⊢
   rw [cos_3 hc hk hy]
   exact ho.2 _ ((cov_un hi _).1 g2)
theorem all_3 {x : PI} (hk : x.kind = 3) {y : List Int} (h : mayP x y = true) : y ∈ allP x := by
 obtain ⟨m, h1, h2⟩ := asc_mask ((may_3 hk).1 h).1
 unfold allP
 have hn : (nP x).toNat = x.sets.length := by
  unfold nP
  rw [if_neg (by omega), if_neg (by omega), if_neg (by omega)]
  rfl
 rw [if_neg (by omega), if_neg (by omega), hn]
 exact List.mem_map.2 ⟨m, List.mem_range.2 h1, h2.symm⟩
theorem int_least {P : Int → Prop} {B : Int} (hB : ∀ z, P z → -B ≤ z) (h : ∃ z, P z) : ∃ z, P z ∧ ∀ y, P y → z ≤ y := by
 obtain ⟨z, hz⟩ := h
 have key : ∀ (N : Nat) (z : Int), P z → z + B ≤ N → ∃ z, P z ∧ ∀ y, P y → z ≤ y := by
  intro N
  induction N with
  | zero =>
   intro z hz hN
   refine ⟨z, hz, fun y hy => ?_⟩
   have := hB y hy
   omega
  | succ N ih =>
   intro z hz hN
   by_cases hl : ∀ y, P y → z ≤ y
   ·exact ⟨z, hz, hl⟩
   ·have : ∃ y, P y ∧ ¬ z ≤ y := Classical.byContradiction (fun hn => hl (fun y hy => Classical.byContradiction (fun h => hn ⟨y, hy, h⟩)))
    obtain ⟨y, hy, hlt⟩ := this
    exact ih y hy (by omega)
 exact key (z + B).toNat z hz (by have := hB z hz; omega)
theorem leastC_is {x : PI} (hi : IOk x) : ∃ o, IsLeastC x.sets.length x.size.toNat (msC x) (csC x) o := by
 by_cases h : ∃ β, unC (msC x) β x.sets.length = 2 ^ x.size.toNat - 1
 ·obtain ⟨β, hβ⟩ := h
  have hnn : ∀ γ, 0 ≤ sumC (csC x) γ x.sets.length := fun γ => by
   unfold sumC
   have := sumTo_le (n := x.sets.length) (f := fun _ => 0) (g := fun r => if γ r = true then csC x r else 0) (fun i _ => by
    have := csC_bd hi i
    show (0 : Int) ≤ if γ i = true then csC x i else 0
    split <;> omega)
   have h0 : sumTo x.sets.length (fun _ => (0 : Int)) = 0 := by
    generalize x.sets.length = K
    induction K with
    | zero => rfl
    | succ K ih => rw [sumTo_succ, ih]; rfl
   omega
  obtain ⟨z, ⟨γ, g1, g2⟩, hz⟩ := int_least (P := fun z => ∃ γ, unC (msC x) γ x.sets.length = 2 ^ x.size.toNat - 1 ∧ sumC (csC x) γ x.sets.length = z) (B := 0) (fun z ⟨γ, _, e⟩ => by have := hnn γ; omega) ⟨_, β, hβ, rfl⟩
  exact ⟨some z, ⟨γ, g1, g2⟩, fun δ hδ => hz _ ⟨δ, hδ, rfl⟩⟩
 ·exact ⟨none, fun γ hγ => h ⟨γ, hγ⟩⟩
theorem way_lo {c : Nat → Nat → Int} (hc : ∀ i k, -2147483648 ≤ c i k ∧ c i k ≤ 2147483648) (σ : Nat → Nat) : ∀ i : Nat, -(2147483648 * ((i : Int) + 1)) ≤ wayC c σ i
 | 0 => by
  have := hc 0 (σ 0 + 1)
  rw [wayC]
  omega
 | i + 1 => by
  have ih := way_lo hc σ i
  have := hc (σ i + 1) (σ (i + 1) + 1)
  rw [wayC]
  omega
theorem tour_is {c : Nat → Nat → Int} (hc : ∀ i k, -2147483648 ≤ c i k ∧ c i k ≤ 2147483648) (n : Nat) : ∃ z, (∃ σ, IsPm n σ ∧ rndC c n σ = z) ∧ ∀ σ, IsPm n σ → z ≤ rndC c n σ := by
 obtain ⟨z, ⟨σ, h1, h2⟩, hz⟩ := int_least (P := fun z => ∃ σ, IsPm n σ ∧ rndC c n σ = z) (B := 2147483648 * ((n : Int) + 2)) (fun z ⟨σ, _, e⟩ => by
  unfold rndC at e
  split at e
  ·omega
  ·have h1 := way_lo hc σ (n - 1)
   have h2 := hc (σ (n - 1) + 1) 0
   omega) ⟨_, fun r => r, ⟨fun r hr => hr, fun r s _ _ e => e⟩, rfl⟩
 exact ⟨z, ⟨σ, h1, h2⟩, fun τ hτ => hz _ ⟨τ, hτ, rfl⟩⟩
end Go.Proofs.Ytelabmhhnpfegaa.Hand
end
