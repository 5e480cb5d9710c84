/- May a table be: walked. -/
import Derived.Test.YtelabmhhnpfegaaJp
namespace Go.Proofs.Ytelabmhhnpfegaa.Hand
open Go.RowKit Go.Proofs.YtelabmhhnpfegaaW.PrintWords Go.Proofs.YtelabmhhnpfegaaW.PrintMore
def farB (x : Int) : Bool := decide (x < -2147483648) || decide (2147483648 < x)
theorem far_any (x : Int) (w : World) : Calls Try.prog 41 #[.int .i64 x, .int .i64 2147483648] w fun e w' => e = .returned (.bool (farB x)) ∧ w = w' := by
  unfold farB
  cases h1 : decide (x < -2147483648) with
  | true =>
    go_enter Try.func41, Try.ntmps41
    go_wp2
    go_ret
    exact ⟨rfl, rfl⟩
  | false =>
    go_enter Try.func41, Try.ntmps41
    go_wp2
    go_ret
    exact ⟨rfl, rfl⟩
theorem clo_any (x : Int) (w : World) : Calls Try.prog 40 #[.int .i64 x] w fun e w' => e = .returned (.bool (farB x)) ∧ w = w' := by
  go_enter Try.func40, Try.ntmps40
  go_wp2_with (go_at_call 41; refine (far_any _ _).mono ?_; rintro e w' ⟨rfl, rfl⟩)
  go_ret
  exact ⟨rfl, rfl⟩
/-- A row's numbers, as they are read. -/
def RowI (w : World) (A : Option Addr) (n : Nat) (c : Nat → Int) : Prop := ∀ k, k < n → ∃ ad, A = some ad ∧ w.cell? (ad.add k) = some (.int .i64 (c k))
def firstFar (n : Nat) (c : Nat → Int) : Int := match (List.range n).find? (fun k => farB (c k)) with
  | some k => (k : Int)
  | none => -1
theorem firstFar_yes {n k : Nat} {c : Nat → Int} (hk : k < n) (h : ∀ j, j < k → farB (c j) = false) (hb : farB (c k) = true) : firstFar n c = (k : Int) := by
  have : (List.range n).find? (fun k => farB (c k)) = some k := by
    rw [List.find?_eq_some_iff_append]
    refine ⟨hb, List.range k, (List.range (n - k - 1)).map (· + (k + 1)), ?_, fun j hj => by rw [h j (List.mem_range.1 hj)]; rfl⟩
    have e1 : List.range n = List.range k ++ (List.range (n - k)).map (k + ·) := by
      have := List.range_add (n := k) (m := n - k)
      rwa [show k + (n - k) = n by omega] at this
    rw [e1, show n - k = (n - k - 1) + 1 by omega, List.range_succ_eq_map]
    simp [Function.comp_def]
    omega
  unfold firstFar
  rw [this]
theorem firstFar_no {n : Nat} {c : Nat → Int} (h : ∀ j, j < n → farB (c j) = false) : firstFar n c = -1 := by
  have : (List.range n).find? (fun k => farB (c k)) = none := by
    rw [List.find?_eq_none]
    intro j hj
    rw [h j (List.mem_range.1 hj)]
    decide
  unfold firstFar
  rw [this]
set_option maxHeartbeats 400000 in
theorem index_any (A : Option Addr) (n c : Nat) (f : Nat → Int) (w : World) (h : RowI w A n f) (hs : n ≤ 17592186044416) :
    Calls Try.prog 75 #[.slice A n c, .func (.func 40) #[] #[]] w fun e w' => e = .returned (.int .i64 (firstFar n f)) ∧ w = w' := by
  have H := Aside0.mk h
  clear h
  go_enter Try.func75, Try.ntmps75
  go_wp2
  go_loop [8] (fun i => ∃ k : Nat, k ≤ n ∧ i = .int .i64 k ∧ Aside0 (∀ j, j < k → farB (f j) = false)) (fun i => n - (intOf i).toNat)
  case atStart => exact ⟨0, Nat.zero_le _, rfl, Aside0.mk (fun j hj => absurd hj (Nat.not_lt_zero _))⟩
  case round =>
    obtain ⟨k, hk, rfl, ho⟩ := hrel
    by_cases hlt : k < n
    · obtain ⟨ad, rfl, hc⟩ := H.out k hlt
      cases hb : farB (f k) with
      | true =>
        have HB := Aside0.mk hb
        clear hb
        go_wp2_with (go_at_call 40; refine (clo_any _ _).mono ?_; rintro e w' ⟨rfl, rfl⟩; rw [HB.out])
        go_ret
        exact ⟨by rw [firstFar_yes hlt ho.out HB.out]; rfl, rfl⟩
      | false =>
        have HB := Aside0.mk hb
        clear hb
        go_wp2_with (go_at_call 40; refine (clo_any _ _).mono ?_; rintro e w' ⟨rfl, rfl⟩; rw [HB.out])
        go_round
        case rel => exact ⟨k + 1, by omega, by go_num, Aside0.mk (fun j hj => by
          rcases Nat.lt_succ_iff_lt_or_eq.1 hj with h1 | rfl
          · exact ho.out j h1
          · exact HB.out)⟩
        case measure => simp [intOf]; omega
    · obtain rfl : k = n := by omega
      go_wp2
      go_ret
      exact ⟨by rw [firstFar_no ho.out]; rfl, rfl⟩
set_option maxHeartbeats 400000 in
theorem contains_any (A : Option Addr) (n c : Nat) (f : Nat → Int) (w : World) (h : RowI w A n f) (hs : n ≤ 17592186044416) :
    Calls Try.prog 39 #[.slice A n c, .func (.func 40) #[] #[]] w fun e w' => e = .returned (.bool (decide (0 ≤ firstFar n f))) ∧ w = w' := by
  go_enter Try.func39, Try.ntmps39
  go_wp2_with (go_at_call 75; refine (index_any A n c f _ h hs).mono ?_; rintro e w' ⟨rfl, rfl⟩)
  go_ret
  exact ⟨rfl, rfl⟩
theorem firstFar_iff {n : Nat} {c : Nat → Int} : decide (0 ≤ firstFar n c) = false ↔ ∀ j, j < n → farB (c j) = false := by
  constructor
  · intro h j hj
    cases hb : farB (c j) with
    | false => rfl
    | true =>
      exfalso
      have : ∃ k, k ≤ j ∧ farB (c k) = true ∧ ∀ i, i < k → farB (c i) = false := by
        induction j with
        | zero => exact ⟨0, Nat.le_refl _, hb, fun i hi => absurd hi (Nat.not_lt_zero _)⟩
        | succ m ih =>
          by_cases hx : ∃ i, i ≤ m ∧ farB (c i) = true
          · obtain ⟨i, hi, hbi⟩ := hx
            have key : ∀ m, ∀ i, i ≤ m → farB (c i) = true → ∃ k, k ≤ i ∧ farB (c k) = true ∧ ∀ i, i < k → farB (c i) = false := by
              intro m
              induction m with
              | zero => intro i hi hb; exact ⟨0, by omega, by obtain rfl : i = 0 := by omega
                                                              exact hb, fun i hi => absurd hi (Nat.not_lt_zero _)⟩
              | succ m ih =>
                intro i hi hb
                by_cases hy : ∃ j, j < i ∧ farB (c j) = true
                · obtain ⟨j, hj, hbj⟩ := hy
                  obtain ⟨k, a, b, d⟩ := ih j (by omega) hbj
                  exact ⟨k, by omega, b, d⟩
                · refine ⟨i, Nat.le_refl _, hb, fun j hj => ?_⟩
                  cases e : farB (c j) with
                  | false => rfl
                  | true => exact absurd ⟨j, hj, e⟩ hy
            obtain ⟨k, a, b, d⟩ := key m i hi hbi
            exact ⟨k, by omega, b, d⟩
          · refine ⟨m + 1, Nat.le_refl _, hb, fun j hj => ?_⟩
            cases e : farB (c j) with
            | false => rfl
            | true => exact absurd ⟨j, by omega, e⟩ hx
      obtain ⟨k, hk, hbk, hlow⟩ := this
      rw [firstFar_yes (by omega) hlow hbk] at h
      have := of_decide_eq_false h
      omega
  · intro h
    rw [firstFar_no h]
    rfl
/-- The table, whatever it is, as it is read by Check. -/
structure Raw (w : World) (A : Option Addr) (nc : Nat) (B : Option Addr) (nn : Nat) (len mlen : Nat → Nat) (c : Nat → Nat → Int) : Prop where
  cost : ∀ i, i < nc → ∃ ad AR cR, A = some ad ∧ w.cell? (ad.add i) = some (.slice AR (len i) cR) ∧ RowI w AR (len i) (c i)
  no : ∀ i, i < nn → ∃ ad AR cR, B = some ad ∧ w.cell? (ad.add i) = some (.slice AR (mlen i) cR)
def TabMay (nc nn : Nat) (len mlen : Nat → Nat) (c : Nat → Nat → Int) : Prop := nc ≤ 64 ∧ nn = nc ∧ ∀ i, i < nc → len i = nc ∧ mlen i = nc ∧ ∀ k, k < nc → farB (c i k) = false
set_option maxHeartbeats 1000000 in
set_option maxRecDepth 100000 in
theorem check_any (w : World) (A B : Option Addr) (nc nn cA cB : Nat) (len mlen : Nat → Nat) (c : Nat → Nat → Int) (h : Raw w A nc B nn len mlen c) (hl : ∀ i, i < nc → len i ≤ 17592186044416) :
    Calls Try.prog 15 #[.agg #[.slice A nc cA, .slice B nn cB]] w fun e w' => ∃ ok, e = .returned (.bool ok) ∧ (ok = true ↔ TabMay nc nn len mlen c) ∧ Below w.heap.size w w' := by
  have H := Aside0.mk h
  have HL := Aside0.mk hl
  clear h hl
  have hu := Try.underlying27
  by_cases h1 : nc ≤ 64
  · have g1 : decide ((nc : Int) > 64) = false := decide_eq_false (by omega)
    by_cases h2 : nn = nc
    · subst h2
      go_enter Try.func15, Try.ntmps15
      go_wp2_with fail
      have BA : Aside0 (Below w.heap.size w (w.alloc (.cells #[.slice A nn cA, .slice B nn cB] 27))) := ⟨below_alloc (Below.refl _ _) _⟩
      go_loop [21] (fun i => ∃ k : Nat, k ≤ nn ∧ i = .int .i64 k ∧ Aside0 (∀ j, j < k → len j = nn ∧ mlen j = nn ∧ ∀ q, q < nn → farB (c j q) = false)) (fun i => nn - (intOf i).toNat)
      case atStart => exact ⟨0, Nat.zero_le _, rfl, Aside0.mk (fun j hj => absurd hj (Nat.not_lt_zero _))⟩
      case round =>
        obtain ⟨k, hk, rfl, ho⟩ := hrel
        by_cases hlt : k < nn
        · obtain ⟨ad, AR, cR, hA, hc, hrow⟩ := H.out.cost k hlt
          obtain ⟨bd, BR, dR, hB, hd⟩ := H.out.no k hlt
          subst hA
          subst hB
          have hc' := pw_cell_below BA.out hc
          have hd' := pw_cell_below BA.out hd
          have hr' : Aside0 (RowI (w.alloc (.cells #[.slice (some ad) nn cA, .slice (some bd) nn cB] 27)) AR (len k) (c k)) := ⟨fun q hq => by obtain ⟨x, e, hx⟩ := hrow q hq; exact ⟨x, e, pw_cell_below BA.out hx⟩⟩
          clear hc hd hrow
          by_cases e1 : len k = nn
          · rw [e1] at hc' hr'
            by_cases e2 : mlen k = nn
            · rw [e2] at hd'
              have E12 := Aside0.mk (And.intro e1 e2)
              clear e1 e2
              cases hf : decide (0 ≤ firstFar nn (c k)) with
              | true =>
                have HF := Aside0.mk hf
                clear hf
                go_wp2_with (go_at_call 39; refine (contains_any AR nn cR (c k) _ hr'.out (by omega)).mono ?_; rintro e w' ⟨rfl, rfl⟩; rw [HF.out])
                go_ret
                have NO : ¬ TabMay nn nn len mlen c := fun x => by
                  have := firstFar_iff.2 (x.2.2 k hlt).2.2
                  rw [HF.out] at this
                  cases this
                first | exact ⟨false, rfl, ⟨fun x => (by cases x), fun x => absurd x NO⟩, BA.out⟩ | exact .inl ⟨rfl, NO, BA.out⟩
              | false =>
                have HF := Aside0.mk hf
                clear hf
                go_wp2_with (go_at_call 39; refine (contains_any AR nn cR (c k) _ hr'.out (by omega)).mono ?_; rintro e w' ⟨rfl, rfl⟩; rw [HF.out])
                go_round
                case rel => exact ⟨k + 1, by omega, by go_num, Aside0.mk (fun j hj => by
                  rcases Nat.lt_succ_iff_lt_or_eq.1 hj with h1 | rfl
                  · exact ho.out j h1
                  · exact ⟨E12.out.1, E12.out.2, firstFar_iff.1 HF.out⟩)⟩
                case measure => simp [intOf]; omega
            · have g2 : ((mlen k : Int) != (nn : Int)) = true := by simp; omega
              have E2 := Aside0.mk e2
              clear e1 e2
              go_wp2_with fail
              go_ret
              first | exact ⟨false, rfl, ⟨fun x => (by cases x), fun x => absurd (x.2.2 k hlt).2.1 E2.out⟩, BA.out⟩ | exact .inl ⟨rfl, fun x => absurd (x.2.2 k hlt).2.1 E2.out, BA.out⟩
          · have g2 : ((len k : Int) != (nn : Int)) = true := by simp; omega
            have E1 := Aside0.mk e1
            clear e1
            go_wp2_with fail
            go_ret
            first | exact ⟨false, rfl, ⟨fun x => (by cases x), fun x => absurd (x.2.2 k hlt).1 E1.out⟩, BA.out⟩ | exact .inl ⟨rfl, fun x => absurd (x.2.2 k hlt).1 E1.out, BA.out⟩
        · obtain rfl : k = nn := by omega
          go_wp2_with fail
          go_ret
          first | exact ⟨true, rfl, ⟨fun _ => ⟨h1, rfl, ho.out⟩, fun _ => rfl⟩, BA.out⟩ | exact .inr ⟨rfl, ⟨h1, rfl, ho.out⟩, BA.out⟩
    · have g2 : ((nn : Int) != (nc : Int)) = true := by simp; omega
      go_enter Try.func15, Try.ntmps15
      go_wp2_with fail
      go_ret
      first | exact ⟨false, rfl, ⟨fun x => (by cases x), fun x => absurd x.2.1 h2⟩, below_alloc (Below.refl _ _) _⟩ | exact .inl ⟨rfl, fun x => absurd x.2.1 h2, below_alloc (Below.refl _ _) _⟩
  · have g1 : decide ((nc : Int) > 64) = true := decide_eq_true (by omega)
    go_enter Try.func15, Try.ntmps15
    go_wp2_with fail
    go_ret
    first | exact ⟨false, rfl, ⟨fun x => (by cases x), fun x => absurd x.1 h1⟩, below_alloc (Below.refl _ _) _⟩ | exact .inl ⟨rfl, fun x => absurd x.1 h1, below_alloc (Below.refl _ _) _⟩
end Go.Proofs.Ytelabmhhnpfegaa.Hand
