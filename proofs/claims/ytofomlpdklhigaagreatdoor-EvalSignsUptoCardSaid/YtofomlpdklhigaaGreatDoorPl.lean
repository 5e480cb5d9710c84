/- Answers in signs: the words of a text, numbers as they are written: plain. -/
import Derived.Lib.AtoiAll
import Derived.Lib.ItoaMem
import Derived.Lib.Join
import Derived.Lib.Slices
namespace Go.Proofs.YtofomlpdklhigaaGreatDoor.Hand
open Go
set_option linter.unusedVariables false
set_option linter.unusedSimpArgs false
/-- The words of a text between blanks. -/
def spl : List UInt8 → List (List UInt8)
  | [] => [[]]
  | c :: r => if c = 32 then [] :: spl r else match spl r with
    | [] => [[c]]
    | w :: ws => (c :: w) :: ws
theorem spl_ne (l : List UInt8) : spl l ≠ [] := by
  cases l with
  | nil => simp [spl]
  | cons c r =>
    unfold spl
    split
    · simp
    · split <;> simp
theorem spl_word : ∀ (w : List UInt8), 32 ∉ w → spl w = [w]
  | [], _ => rfl
  | c :: r, h => by
    have hc : c ≠ 32 := fun e => h (by rw [e]; exact List.mem_cons_self)
    have hr := spl_word r (fun e => h (List.mem_cons_of_mem _ e))
    unfold spl
    rw [if_neg hc, hr]
theorem spl_step : ∀ (w r : List UInt8), 32 ∉ w → spl (w ++ 32 :: r) = w :: spl r
  | [], r, _ => by simp [spl]
  | c :: t, r, h => by
    have hc : c ≠ 32 := fun e => h (by rw [e]; exact List.mem_cons_self)
    have hr := spl_step t r (fun e => h (List.mem_cons_of_mem _ e))
    have e : ∀ m, spl (c :: m) = if c = 32 then [] :: spl m else match spl m with
      | [] => [[c]]
      | w :: ws => (c :: w) :: ws := fun m => by rw [spl]
    show spl (c :: (t ++ 32 :: r)) = _
    rw [e, if_neg hc, hr]
theorem join_cons2 (w v : List UInt8) (ws : List (List UInt8)) (sep : List UInt8) : Lib.join (w :: v :: ws) sep = w ++ (sep ++ Lib.join (v :: ws) sep) := by
  rw [Lib.join_cons, Lib.join_cons]
  simp [Lib.joinTail, List.append_assoc]
theorem spl_join : ∀ (ws : List (List UInt8)), ws ≠ [] → (∀ w ∈ ws, 32 ∉ w) → spl (Lib.join ws [32]) = ws
  | [], h, _ => absurd rfl h
  | [w], _, h => by
    rw [Lib.join_one]
    exact spl_word w (h w List.mem_cons_self)
  | w :: v :: ws, _, h => by
    rw [join_cons2]
    show spl (w ++ 32 :: Lib.join (v :: ws) [32]) = _
    rw [spl_step w _ (h w List.mem_cons_self), spl_join (v :: ws) (by simp) (fun x hx => h x (List.mem_cons_of_mem _ hx))]
theorem join_spl : ∀ (l : List UInt8), Lib.join (spl l) [32] = l
  | [] => by simp [spl, Lib.join_one]
  | c :: r => by
    have ih := join_spl r
    have hne := spl_ne r
    unfold spl
    cases hs : spl r with
    | nil => exact absurd hs hne
    | cons w ws =>
      rw [hs] at ih
      split
      · rename_i hc
        rw [join_cons2, hc, ih]
        rfl
      · simp only
        rw [Lib.join_cons] at ih ⊢
        rw [← ih]
        rfl
/-! numbers -/
def isD (c : UInt8) : Prop := 48 ≤ c.toNat ∧ c.toNat ≤ 57
theorem dig_nat {k : Nat} (h : k < 10) : (UInt8.ofNat (48 + k)).toNat = 48 + k := by
  simp
  omega
theorem dec_isD : ∀ (u : Nat), ∀ c ∈ Lib.decDigits u, isD c := by
  intro u
  induction u using Nat.strongRecOn with
  | _ u ih =>
    intro c hc
    rw [Lib.decDigits] at hc
    split at hc
    · rename_i h
      rw [List.mem_singleton.1 hc]
      unfold isD
      rw [dig_nat h]
      omega
    · rcases List.mem_append.1 hc with hc | hc
      · exact ih (u / 10) (by omega) c hc
      · rw [List.mem_singleton.1 hc]
        unfold isD
        rw [dig_nat (Nat.mod_lt _ (by decide))]
        omega
theorem dec_ne (u : Nat) : Lib.decDigits u ≠ [] := by
  intro h
  have h1 := Lib.decDigits_length u
  rw [h] at h1
  have h2 := Lib.nDigits_pos u
  simp at h1
  omega
theorem itoa_32 (n : Int) : 32 ∉ Lib.itoa n := by
  intro h
  unfold Lib.itoa at h
  split at h
  · rcases List.mem_cons.1 h with h | h
    · cases h
    · have := dec_isD _ _ h
      unfold isD at this
      simp at this
  · have := dec_isD _ _ h
    unfold isD at this
    simp at this
theorem pu_snoc : ∀ (l : List UInt8) (acc v : Nat) (c : UInt8), Lib.parseUint10 acc l = .ok v → isD c → v * 10 + (c.toNat - 48) < 18446744073709551616 → Lib.parseUint10 acc (l ++ [c]) = .ok (v * 10 + (c.toNat - 48))
  | [], acc, v, c, h, hc, hv => by
    simp only [Lib.parseUint10] at h
    injection h with h
    subst h
    show Lib.parseUint10 acc [c] = _
    unfold isD at hc
    simp only [Lib.parseUint10]
    rw [if_pos hc, if_neg (by omega), if_neg (by omega)]
  | b :: r, acc, v, c, h, hc, hv => by
    show Lib.parseUint10 acc (b :: (r ++ [c])) = _
    simp only [Lib.parseUint10] at h ⊢
    split at h
    · rename_i h1
      rw [if_pos h1]
      split at h
      · cases h
      · rename_i h2
        rw [if_neg h2]
        split at h
        · cases h
        · rename_i h3
          rw [if_neg h3]
          exact pu_snoc r _ v c h hc hv
    · cases h
theorem pu_dec (u : Nat) : u < 18446744073709551616 → Lib.parseUint10 0 (Lib.decDigits u) = .ok u := by
  induction u using Nat.strongRecOn with
  | _ u ih =>
    intro hu
    rw [Lib.decDigits]
    split
    · rename_i h
      simp only [Lib.parseUint10]
      rw [dig_nat h, if_pos (by omega), if_neg (by omega), if_neg (by omega)]
      congr 1
      omega
    · have h1 := ih (u / 10) (by omega) (by omega)
      have hd := dig_nat (Nat.mod_lt u (show 10 > 0 by decide))
      rw [pu_snoc _ 0 (u / 10) _ h1 (by unfold isD; rw [hd]; omega) (by rw [hd]; omega), hd]
      congr 1
      omega
theorem atoi_itoa (n : Int) (h0 : -9223372036854775808 ≤ n) (h1 : n ≤ 9223372036854775807) : Lib.atoiAll (Lib.itoa n) = .ok n := by
  by_cases hneg : n < 0
  · obtain ⟨u, rfl⟩ : ∃ u : Nat, n = -(u : Int) := ⟨n.natAbs, by omega⟩
    rw [Lib.itoa_neg u (by omega)]
    have hp : Lib.parseMag (Lib.decDigits u) = .ok u := by
      unfold Lib.parseMag
      rw [if_neg (dec_ne u)]
      exact pu_dec u (by omega)
    unfold Lib.atoiAll
    have e45 : (45 : UInt8).toNat = 45 := by decide
    simp only [e45]
    rw [if_pos (Or.inr trivial), hp]
    simp only
    rw [if_neg (by simp), if_neg (by omega)]
    simp
  · obtain ⟨u, rfl⟩ : ∃ u : Nat, n = (u : Int) := ⟨n.toNat, by omega⟩
    rw [Lib.itoa_nonneg]
    have hp : Lib.parseMag (Lib.decDigits u) = .ok u := by
      unfold Lib.parseMag
      rw [if_neg (dec_ne u)]
      exact pu_dec u (by omega)
    have hD := dec_isD u
    cases hd : Lib.decDigits u with
    | nil => exact absurd hd (dec_ne u)
    | cons c r =>
      rw [hd] at hp hD
      have hc := hD c List.mem_cons_self
      unfold isD at hc
      unfold Lib.atoiAll
      simp only
      rw [if_neg (by omega), hp]
      simp only
      rw [if_neg (by omega), if_neg (by omega), if_neg (by omega)]
/-- The document's reading of a number, byte by byte. -/
def numL (neg : Bool) : List UInt8 → Int → Option Int
  | [], n => some n
  | c :: r, n => if c.toNat < 48 ∨ 57 < c.toNat then none else
    if neg = true then (if n < (-9223372036854775808 + ((c.toNat : Int) - 48)).tdiv 10 then none else numL neg r (10 * n - ((c.toNat : Int) - 48)))
    else (if (9223372036854775807 - ((c.toNat : Int) - 48)).tdiv 10 < n then none else numL neg r (10 * n + ((c.toNat : Int) - 48)))
def negB (l : List UInt8) : Bool := l.head? == some 45
def numO (l : List UInt8) : Option Int := numL (negB l) (if negB l = true then l.tail else l) 0
/-- The document's number of a word, and whether it is written so. -/
def numS (l : List UInt8) : Int × Bool := match numO l with
  | none => (0, false)
  | some n => (n, decide (Lib.itoa n = l))
theorem tdiv_neg (d : Int) (h0 : 0 ≤ d) (h1 : d ≤ 9) (n : Int) : n < (-9223372036854775808 + d).tdiv 10 ↔ 10 * n - d < -9223372036854775808 := by
  have e : (-9223372036854775808 + d) = -(9223372036854775808 - d) := by omega
  rw [e, Int.neg_tdiv, Int.tdiv_eq_ediv_of_nonneg (by omega)]
  omega
theorem tdiv_pos (d : Int) (h0 : 0 ≤ d) (h1 : d ≤ 9) (n : Int) : (9223372036854775807 - d).tdiv 10 < n ↔ 9223372036854775807 < 10 * n + d := by
  rw [Int.tdiv_eq_ediv_of_nonneg (by omega)]
  omega
theorem numL_bd (neg : Bool) : ∀ (l : List UInt8) (n m : Int), -9223372036854775808 ≤ n → n ≤ 9223372036854775807 → (neg = true → n ≤ 0) → (neg = false → 0 ≤ n) → numL neg l n = some m → (-9223372036854775808 ≤ m ∧ m ≤ 9223372036854775807) ∧ (neg = true → m ≤ 0) ∧ (neg = false → 0 ≤ m)
  | [], n, m, h0, h1, h2, h3, h => by
    simp only [numL] at h
    injection h with h
    subst h
    exact ⟨⟨h0, h1⟩, h2, h3⟩
  | c :: r, n, m, h0, h1, h2, h3, h => by
    simp only [numL] at h
    split at h
    · cases h
    · rename_i hc
      have hd0 : 0 ≤ (c.toNat : Int) - 48 := by omega
      have hd1 : (c.toNat : Int) - 48 ≤ 9 := by omega
      split at h
      · rename_i hn
        split at h
        · cases h
        · rename_i hlt
          rw [tdiv_neg _ hd0 hd1] at hlt
          have := h2 hn
          exact numL_bd neg r _ m (by omega) (by omega) (fun _ => by omega) (fun e => by rw [e] at hn; cases hn) h
      · rename_i hn
        split at h
        · cases h
        · rename_i hlt
          rw [tdiv_pos _ hd0 hd1] at hlt
          have hf : neg = false := by simpa using hn
          have := h3 hf
          exact numL_bd neg r _ m (by omega) (by omega) (fun e => absurd e hn) (fun _ => by omega) h
theorem numL_snoc (neg : Bool) : ∀ (l : List UInt8) (n v : Int) (c : UInt8), numL neg l n = some v → numL neg (l ++ [c]) n = numL neg [c] v
  | [], n, v, c, h => by
    simp only [numL] at h
    injection h with h
    subst h
    rfl
  | b :: r, n, v, c, h => by
    show numL neg (b :: (r ++ [c])) n = _
    have e : ∀ (t : List UInt8), numL neg (b :: t) n = if b.toNat < 48 ∨ 57 < b.toNat then none else
      if neg = true then (if n < (-9223372036854775808 + ((b.toNat : Int) - 48)).tdiv 10 then none else numL neg t (10 * n - ((b.toNat : Int) - 48)))
      else (if (9223372036854775807 - ((b.toNat : Int) - 48)).tdiv 10 < n then none else numL neg t (10 * n + ((b.toNat : Int) - 48))) := fun t => by rw [numL]
    rw [e] at h ⊢
    split at h
    · cases h
    · rename_i h1
      rw [if_neg h1]
      split at h
      · rename_i h2
        rw [if_pos h2]
        split at h
        · cases h
        · rename_i h3
          rw [if_neg h3]
          exact numL_snoc neg r _ v c h
      · rename_i h2
        rw [if_neg h2]
        split at h
        · cases h
        · rename_i h3
          rw [if_neg h3]
          exact numL_snoc neg r _ v c h
theorem num_neg (u : Nat) : u ≤ 9223372036854775808 → numL true (Lib.decDigits u) 0 = some (-(u : Int)) := by
  induction u using Nat.strongRecOn with
  | _ u ih =>
    intro hu
    rw [Lib.decDigits]
    split
    · rename_i h
      have hd := dig_nat h
      simp only [numL]
      rw [hd, if_neg (by omega), if_pos trivial, if_neg (by rw [tdiv_neg _ (by omega) (by omega)]; omega)]
      congr 1
      omega
    · have h1 := ih (u / 10) (by omega) (by omega)
      have hd := dig_nat (Nat.mod_lt u (show 10 > 0 by decide))
      rw [numL_snoc true _ _ _ _ h1]
      simp only [numL]
      rw [hd, if_neg (by omega), if_pos trivial, if_neg (by rw [tdiv_neg _ (by omega) (by omega)]; omega)]
      congr 1
      omega
theorem num_pos (u : Nat) : u ≤ 9223372036854775807 → numL false (Lib.decDigits u) 0 = some (u : Int) := by
  induction u using Nat.strongRecOn with
  | _ u ih =>
    intro hu
    rw [Lib.decDigits]
    split
    · rename_i h
      have hd := dig_nat h
      simp only [numL]
      rw [hd, if_neg (by omega), if_neg (by simp), if_neg (by rw [tdiv_pos _ (by omega) (by omega)]; omega)]
      congr 1
      omega
    · have h1 := ih (u / 10) (by omega) (by omega)
      have hd := dig_nat (Nat.mod_lt u (show 10 > 0 by decide))
      rw [numL_snoc false _ _ _ _ h1]
      simp only [numL]
      rw [hd, if_neg (by omega), if_neg (by simp), if_neg (by rw [tdiv_pos _ (by omega) (by omega)]; omega)]
      congr 1
      omega
theorem numS_itoa (n : Int) (h0 : -9223372036854775808 ≤ n) (h1 : n ≤ 9223372036854775807) : numS (Lib.itoa n) = (n, true) := by
  have key : numO (Lib.itoa n) = some n := by
    by_cases hneg : n < 0
    · obtain ⟨u, rfl⟩ : ∃ u : Nat, n = -(u : Int) := ⟨n.natAbs, by omega⟩
      rw [Lib.itoa_neg u (by omega)]
      exact num_neg u (by omega)
    · obtain ⟨u, rfl⟩ : ∃ u : Nat, n = (u : Int) := ⟨n.toNat, by omega⟩
      rw [Lib.itoa_nonneg]
      have hD := dec_isD u
      have hp := num_pos u (by omega)
      cases hd : Lib.decDigits u with
      | nil => exact absurd hd (dec_ne u)
      | cons c r =>
        rw [hd] at hD hp
        have hc := hD c List.mem_cons_self
        unfold isD at hc
        have hn : negB (c :: r) = false := by
          unfold negB
          have : c ≠ 45 := fun e => by rw [e] at hc; simp at hc
          simp [this]
        unfold numO
        rw [hn, if_neg (by simp)]
        exact hp
  unfold numS
  rw [key]
  simp
theorem numS_true {l : List UInt8} (h : (numS l).2 = true) : l = Lib.itoa (numS l).1 ∧ -9223372036854775808 ≤ (numS l).1 ∧ (numS l).1 ≤ 9223372036854775807 := by
  unfold numS at h ⊢
  cases hn : numO l with
  | none => rw [hn] at h; cases h
  | some n =>
    rw [hn] at h
    simp only [decide_eq_true_eq] at h
    refine ⟨h.symm, ?_⟩
    unfold numO at hn
    exact (numL_bd _ _ 0 n (by decide) (by decide) (fun _ => Int.le_refl _) (fun _ => Int.le_refl _) hn).1
/-! parse -/
def atoO (l : List UInt8) : Option Int := match Lib.atoiAll l with
  | .ok n => some n
  | _ => none
def canW (l : List UInt8) : Option Int := if (numS l).2 = true ∧ 0 ≤ (numS l).1 then some (numS l).1 else none
/-- All words' numbers. -/
def allW (f : List UInt8 → Option Int) : List (List UInt8) → Option (List Int)
  | [] => some []
  | w :: ws => match f w with
    | none => none
    | some n => match allW f ws with
      | none => none
      | some ns => some (n :: ns)
def textP (ns : List Int) : List UInt8 := if ns = [] then [45] else Lib.join (ns.map Lib.itoa) [32]
def refP (l : List UInt8) : List Int × Int := if l = [45] then ([], 0) else match allW canW (spl l) with
  | none => ([], 4)
  | some ns => (ns, 0)
def proP (l : List UInt8) : List Int × Int := if l = [45] then ([], 0) else match allW atoO (spl l) with
  | none => ([], 4)
  | some ns => if textP ns = l ∧ 0 ≤ Lib.minOf ns then (ns, 0) else ([], 4)
theorem fold_min : ∀ (l : List Int) (a : Int), 0 ≤ l.foldl min a ↔ 0 ≤ a ∧ ∀ n ∈ l, 0 ≤ n
  | [], a => by simp
  | b :: l, a => by
    rw [List.foldl_cons, fold_min l (min a b)]
    simp only [List.mem_cons, forall_eq_or_imp]
    constructor
    · rintro ⟨h1, h2⟩
      exact ⟨by omega, by omega, h2⟩
    · rintro ⟨h1, h2, h3⟩
      exact ⟨by omega, h3⟩
theorem min_nn {ns : List Int} (h : ns ≠ []) : 0 ≤ Lib.minOf ns ↔ ∀ n ∈ ns, 0 ≤ n := by
  cases ns with
  | nil => exact absurd rfl h
  | cons a l =>
    unfold Lib.minOf
    rw [fold_min]
    simp
theorem allW_itoa (f : List UInt8 → Option Int) : ∀ ns : List Int, (∀ n ∈ ns, f (Lib.itoa n) = some n) → allW f (ns.map Lib.itoa) = some ns
  | [], _ => rfl
  | n :: ns, h => by
    show allW f (Lib.itoa n :: ns.map Lib.itoa) = _
    unfold allW
    rw [h n List.mem_cons_self, allW_itoa f ns (fun m hm => h m (List.mem_cons_of_mem _ hm))]
theorem allW_len (f : List UInt8 → Option Int) : ∀ (ws : List (List UInt8)) (ns : List Int), allW f ws = some ns → ns.length = ws.length
  | [], ns, h => by
    simp only [allW] at h
    injection h with h
    subst h
    rfl
  | w :: ws, ns, h => by
    unfold allW at h
    split at h
    · cases h
    · split at h
      · cases h
      · rename_i m hm
        injection h with h
        subst h
        simp [allW_len f ws m hm]
theorem allW_get (f : List UInt8 → Option Int) : ∀ (ws : List (List UInt8)) (ns : List Int), allW f ws = some ns → ∀ n ∈ ns, ∃ w ∈ ws, f w = some n
  | [], ns, h => by
    simp only [allW] at h
    injection h with h
    subst h
    simp
  | w :: ws, ns, h => by
    unfold allW at h
    split at h
    · cases h
    · rename_i a ha
      split at h
      · cases h
      · rename_i m hm
        injection h with h
        subst h
        intro n hn
        rcases List.mem_cons.1 hn with rfl | hn
        · exact ⟨w, List.mem_cons_self, ha⟩
        · obtain ⟨v, hv, e⟩ := allW_get f ws m hm n hn
          exact ⟨v, List.mem_cons_of_mem _ hv, e⟩
theorem atoO_bd {l : List UInt8} {n : Int} (h : atoO l = some n) : -9223372036854775808 ≤ n ∧ n ≤ 9223372036854775807 := by
  unfold atoO at h
  split at h
  · rename_i v hv
    injection h with h
    subst h
    unfold Lib.atoiAll at hv
    split at hv
    · cases hv
    · simp only at hv
      split at hv
      · cases hv
      · cases hv
      · split at hv
        · cases hv
        · split at hv
          · cases hv
          · injection hv with hv
            split at hv <;> omega
  · cases h
theorem canW_all : ∀ (ws : List (List UInt8)) (ns : List Int), allW canW ws = some ns → ws = ns.map Lib.itoa ∧ ∀ n ∈ ns, 0 ≤ n ∧ n ≤ 9223372036854775807
  | [], ns, h => by
    simp only [allW] at h
    injection h with h
    subst h
    simp
  | w :: ws, ns, h => by
    unfold allW at h
    split at h
    · cases h
    · rename_i a ha
      split at h
      · cases h
      · rename_i m hm
        injection h with h
        subst h
        unfold canW at ha
        split at ha
        · rename_i hc
          injection ha with ha
          subst ha
          obtain ⟨e1, e2, e3⟩ := numS_true hc.1
          obtain ⟨i1, i2⟩ := canW_all ws m hm
          refine ⟨by rw [List.map_cons, ← e1, ← i1], ?_⟩
          intro n hn
          rcases List.mem_cons.1 hn with rfl | hn
          · exact ⟨hc.2, e3⟩
          · exact i2 n hn
        · cases ha
theorem canW_itoa {n : Int} (h0 : 0 ≤ n) (h1 : n ≤ 9223372036854775807) : canW (Lib.itoa n) = some n := by
  unfold canW
  rw [numS_itoa n (by omega) h1, if_pos ⟨rfl, h0⟩]
theorem atoO_itoa {n : Int} (h0 : -9223372036854775808 ≤ n) (h1 : n ≤ 9223372036854775807) : atoO (Lib.itoa n) = some n := by
  unfold atoO
  rw [atoi_itoa n h0 h1]
theorem textP_words {ns : List Int} (h : ns ≠ []) : spl (textP ns) = ns.map Lib.itoa := by
  unfold textP
  rw [if_neg h]
  refine spl_join _ (by simpa using h) (fun w hw => ?_)
  obtain ⟨n, _, rfl⟩ := List.mem_map.1 hw
  exact itoa_32 n
/-- The program's reading is the document's. -/
theorem pro_ref (l : List UInt8) : proP l = refP l := by
  unfold proP refP
  by_cases h45 : l = [45]
  · rw [if_pos h45, if_pos h45]
  · rw [if_neg h45, if_neg h45]
    cases hc : allW canW (spl l) with
    | some ns =>
      obtain ⟨e, hb⟩ := canW_all _ _ hc
      have hne : ns ≠ [] := by
        rintro rfl
        exact spl_ne l e
      have ha : allW atoO (spl l) = some ns := by
        rw [e]
        exact allW_itoa atoO ns (fun n hn => atoO_itoa (by have := (hb n hn).1; omega) (hb n hn).2)
      rw [ha]
      simp only
      have ht : textP ns = l := by
        unfold textP
        rw [if_neg hne, ← e, join_spl]
      rw [if_pos ⟨ht, (min_nn hne).2 fun n hn => (hb n hn).1⟩]
    | none =>
      cases ha : allW atoO (spl l) with
      | none => rfl
      | some ns =>
        simp only
        have hne : ns ≠ [] := by
          rintro rfl
          have := allW_len _ _ _ ha
          exact spl_ne l (List.length_eq_zero_iff.1 this.symm)
        split
        · rename_i h
          have e : spl l = ns.map Lib.itoa := by rw [← textP_words hne, h.1]
          have hcc : allW canW (spl l) = some ns := by
            rw [e]
            refine allW_itoa canW ns (fun n hn => canW_itoa ((min_nn hne).1 h.2 n hn) ?_)
            obtain ⟨w, _, hw⟩ := allW_get _ _ _ ha n hn
            exact (atoO_bd hw).2
          rw [hcc] at hc
          cases hc
        · rfl
/-- Back again. -/
theorem back_P {ns : List Int} (h : ∀ n ∈ ns, 0 ≤ n ∧ n ≤ 9223372036854775807) : proP (textP ns) = (ns, 0) := by
  by_cases hne : ns = []
  · subst hne
    rfl
  · rw [pro_ref]
    unfold refP
    have hs := textP_words hne
    have h45 : textP ns ≠ [45] := by
      intro e
      rw [e] at hs
      have hs' : [[45]] = ns.map Lib.itoa := hs
      cases ns with
      | nil => exact hne rfl
      | cons a l =>
        rw [List.map_cons] at hs'
        injection hs' with h1 _
        have ha := h a List.mem_cons_self
        have h2 := atoi_itoa a (by omega) ha.2
        rw [← h1] at h2
        cases h2
    rw [if_neg h45, hs, allW_itoa canW ns (fun n hn => canW_itoa (h n hn).1 (h n hn).2)]
end Go.Proofs.YtofomlpdklhigaaGreatDoor.Hand
