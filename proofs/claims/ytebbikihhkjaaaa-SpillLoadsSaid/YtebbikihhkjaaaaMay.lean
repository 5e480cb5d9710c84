/- The closure of (spill.Note).may, slices.IndexFunc, slices.ContainsFunc and may. -/
import Derived.Test.YtebbikihhkjaaaaProg
import Derived.WalkKit
import Derived.WalkSpells
import Derived.WalkLawsBesides
import Derived.Outline
import Derived.Test.YtebbikihhkjaaaaWWords
import Derived.Test.YtebbikihhkjaaaaWMore
import Derived.Test.YtebbikihhkjaaaaMem
namespace Go.Proofs.Ytebbikihhkjaaaa.Hand
open Go.RowKit Go.Proofs.YtebbikihhkjaaaaW.PrintWords Go.Proofs.YtebbikihhkjaaaaW.PrintMore

def badB (d : Int) : Bool := decide (d < 0) || decide (4096 < d)

set_option maxHeartbeats 400000 in
theorem bad_any (d : Int) (w : World) :
    Calls Try.prog 46 #[.int .i64 d] w fun e w' => e = .returned (.bool (badB d)) ∧ w = w' := by
  have hb : badB d = (decide (d < 0) || decide (4096 < d)) := rfl
  rw [hb]; clear hb
  by_cases h : d < 0
  · have h1 : decide (d < 0) = true := decide_eq_true h
    go_enter Try.func46, Try.ntmps46
    go_wp2
    go_ret
    exact ⟨by simp [h], rfl⟩
  · have h1 : decide (d < 0) = false := decide_eq_false h
    go_enter Try.func46, Try.ntmps46
    go_wp2
    go_ret
    exact ⟨by simp, rfl⟩

theorem ret_int {k : IntKind} {a b : Int} (h : a = b) : Ending.returned (.int k a) = .returned (.int k b) := by rw [h]

/-- Where the first bad one stands, from place i on. -/
def badFrom (xs : List Int) : Int := match xs.findIdx? badB with
  | some i => i
  | none => -1

theorem badFrom_yes {xs : List Int} {k : Nat} (hk : k < xs.length) (ho : ∀ j, j < k → badB (xs.getD j 0) = false) (h : badB (xs.getD k 0) = true) : badFrom xs = k := by
  have : xs.findIdx? badB = some k := by
    rw [List.findIdx?_eq_some_iff_getElem]
    refine ⟨hk, ?_, fun j hj => ?_⟩
    · simpa [List.getD_eq_getElem?_getD, hk] using h
    · have := ho j hj
      simpa [List.getD_eq_getElem?_getD, Nat.lt_trans hj hk] using this
  simp [badFrom, this]
theorem badFrom_no {xs : List Int} (ho : ∀ j, j < xs.length → badB (xs.getD j 0) = false) : badFrom xs = -1 := by
  have : xs.findIdx? badB = none := by
    rw [List.findIdx?_eq_none_iff]
    intro x hx
    obtain ⟨j, hj, rfl⟩ := List.getElem_of_mem hx
    have := ho j hj
    simpa [List.getD_eq_getElem?_getD, hj] using this
  simp [badFrom, this]

set_option maxHeartbeats 400000 in
theorem index_any (A : Option Addr) (c : Nat) (xs : List Int) (w : World) (h : Kd.C (Kd.int .i64) w A xs.length xs) (hs : xs.length ≤ 17592186044416) :
    Calls Try.prog 50 #[.slice A xs.length c, .func (.func 46) #[] #[]] w fun e w' => e = .returned (.int .i64 (badFrom xs)) ∧ w = w' := by
  go_enter Try.func50, Try.ntmps50
  go_wp2
  go_loop [8] (fun i => ∃ k : Nat, k ≤ xs.length ∧ i = .int .i64 k ∧ Aside0 (∀ j, j < k → badB (xs.getD j 0) = false)) (fun i => xs.length - (intOf i).toNat)
  case atStart => exact ⟨0, Nat.zero_le _, rfl, Aside0.mk (fun j hj => absurd hj (Nat.not_lt_zero _))⟩
  case round =>
    obtain ⟨k, hk, rfl, ho⟩ := hrel
    by_cases hlt : k < xs.length
    · obtain ⟨ad, rfl, hc⟩ := Kd.at_int h k (by omega) (by omega)
      simp only [Int.toNat_natCast] at hc
      cases hb : badB (rd xs k) with
      | true =>
        have HB := Aside0.mk hb
        clear hb
        go_wp2_with (go_at_call 46; refine (bad_any _ _).mono ?_; rintro e w' ⟨rfl, rfl⟩; rw [HB.out])
        go_ret
        exact ⟨ret_int (badFrom_yes hlt ho.out HB.out).symm, rfl⟩
      | false =>
        have HB := Aside0.mk hb
        clear hb
        go_wp2_with (go_at_call 46; refine (bad_any _ _).mono ?_; rintro e w' ⟨rfl, rfl⟩; rw [HB.out])
        go_round
        case rel => exact ⟨k + 1, by omega, by go_num, Aside0.mk (fun j hj => by
          rcases Nat.lt_succ_iff_lt_or_eq.1 hj with h1 | rfl
          · exact ho.out j h1
          · exact HB.out)⟩
        case measure => simp [intOf]; omega
    · obtain rfl : k = xs.length := by omega
      go_wp2
      go_ret
      exact ⟨ret_int (badFrom_no ho.out).symm, rfl⟩

set_option maxHeartbeats 400000 in
theorem contains_any (A : Option Addr) (c : Nat) (xs : List Int) (w : World) (h : Kd.C (Kd.int .i64) w A xs.length xs) (hs : xs.length ≤ 17592186044416) :
    Calls Try.prog 47 #[.slice A xs.length c, .func (.func 46) #[] #[]] w fun e w' => e = .returned (.bool (decide (0 ≤ badFrom xs))) ∧ w = w' := by
  go_enter Try.func47, Try.ntmps47
  go_wp2_with (go_at_call 50; refine (index_any A c xs _ h hs).mono ?_; rintro e w' ⟨rfl, rfl⟩)
  go_ret
  exact ⟨rfl, rfl⟩

/-- May a note be? -/
def mayB (d : Int) (path : List Int) : Bool := decide (path.length ≤ 4096) && (d == (path.length : Int)) && !decide (0 ≤ badFrom path)

set_option maxHeartbeats 400000 in
theorem may_any (b d s : Int) (A : Option Addr) (c : Nat) (path : List Int) (w : World) (h : Kd.C (Kd.int .i64) w A path.length path) (hs : path.length ≤ 17592186044416) :
    Calls Try.prog 33 #[.agg #[.int .i64 b, .int .i64 d, .int .i64 s, .slice A path.length c]] w fun e w' => e = .returned (.bool (mayB d path)) ∧ Below w.heap.size w w' := by
  have H := Aside0.mk h
  clear h
  have hu := Try.underlying28
  unfold mayB
  by_cases h1 : path.length ≤ 4096
  · have g1 : decide (path.length ≤ 4096) = true := decide_eq_true h1
    have g1' : decide ((path.length : Int) ≤ 4096) = true := decide_eq_true (by omega)
    cases h2 : (d == (path.length : Int)) with
    | true =>
      go_enter Try.func33, Try.ntmps33
      go_wp2_with (go_at_call 47; refine (contains_any A c path _ (Kd.C_below H.out (below_alloc (Below.refl _ _) _)) hs).mono ?_; rintro e w' ⟨rfl, rfl⟩)
      go_ret
      exact ⟨by simp [h1], below_alloc (Below.refl _ _) _⟩
    | false =>
      go_enter Try.func33, Try.ntmps33
      go_wp2
      go_ret
      exact ⟨by simp, below_alloc (Below.refl _ _) _⟩
  · have g1 : decide (path.length ≤ 4096) = false := decide_eq_false h1
    have g1' : decide ((path.length : Int) ≤ 4096) = false := decide_eq_false (by omega)
    go_enter Try.func33, Try.ntmps33
    go_wp2
    go_ret
    exact ⟨by simp [h1], below_alloc (Below.refl _ _) _⟩
end Go.Proofs.Ytebbikihhkjaaaa.Hand
