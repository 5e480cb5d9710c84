/- The law's signs of life (layer 12): walked. -/
import Derived.StillTailTactics
import Derived.Test.YtofomlpdklhigaaGreatDoorKk
import Derived.Test.YtofomlpdklhigaaGreatDoorSf
import Derived.Test.YtofomlpdklhigaaGreatDoorSe
namespace Go.Proofs.YtofomlpdklhigaaGreatDoor.Hand
open Go.RowKit Go.Proofs.YtofomlpdklhigaaGreatDoorW.PrintWords Go.Proofs.YtofomlpdklhigaaGreatDoorW.PrintLast Go.Proofs.YtofomlpdklhigaaGreatDoorW.PrintMore Go.Proofs.YtofomlpdklhigaaGreatDoor.PSigns
set_option linter.unusedVariables false
set_option linter.unusedSimpArgs false
def betP (k a b : Int) : Bool := if k = 0 then decide (b < a) else if k = 1 ∨ k = 2 ∨ k = 3 then decide (a < b) else false
theorem better_any (w : World) (k a b : Int) (r : Bool) (hr : r = betP k a b) : Calls Tryz.prog 27 #[.int .i64 k, .int .i64 a, .int .i64 b] w fun e w' => e = .returned (.bool r) ∧ w = w' := by
  unfold betP at hr
  by_cases h0 : k = 0
  · subst h0
    rw [if_pos rfl] at hr
    have hr' : decide (b < a) = r := hr.symm
    clear hr
    go_enter Tryz.func27, Tryz.ntmps27
    go_wp2_with fail
    go_ret
    exact ⟨rfl, rfl⟩
  · rw [if_neg h0] at hr
    have g0 : (k == 0) = false := by simpa using h0
    by_cases h1 : k = 1
    · subst h1
      rw [if_pos (.inl rfl)] at hr
      have hr' : decide (a < b) = r := hr.symm
      clear hr h0
      go_enter Tryz.func27, Tryz.ntmps27
      go_wp2_with fail
      go_ret
      exact ⟨rfl, rfl⟩
    · have g1 : (k == 1) = false := by simpa using h1
      by_cases h2 : k = 2
      · subst h2
        rw [if_pos (.inr (.inl rfl))] at hr
        have hr' : decide (a < b) = r := hr.symm
        clear hr h0 h1
        go_enter Tryz.func27, Tryz.ntmps27
        go_wp2_with fail
        go_ret
        exact ⟨rfl, rfl⟩
      · have g2 : (k == 2) = false := by simpa using h2
        by_cases h3 : k = 3
        · subst h3
          rw [if_pos (.inr (.inr rfl))] at hr
          have hr' : decide (a < b) = r := hr.symm
          clear hr h0 h1 h2
          go_enter Tryz.func27, Tryz.ntmps27
          go_wp2_with fail
          go_ret
          exact ⟨rfl, rfl⟩
        · have g3 : (k == 3) = false := by simpa using h3
          rw [if_neg (by omega)] at hr
          subst hr
          clear h0 h1 h2 h3
          go_enter Tryz.func27, Tryz.ntmps27
          go_wp2_with fail
          go_ret
          exact ⟨rfl, rfl⟩
theorem C_two {w : World} {g t : Nat} {a b : Int} (h : w.heap[g]? = some (.cells #[.int .i64 a, .int .i64 b] t (0, 0))) : (Kd.int .i64).C w (some ⟨g, 0, none⟩) 2 [a, b] := by
  refine ⟨rfl, by decide, fun _ => ⟨_, rfl, fun j p hp => ⟨[.int .i64 p], rfl, rfl, fun i u hu => ?_⟩⟩⟩
  obtain rfl : i = 0 := by
    have := (List.getElem?_eq_some_iff.1 hu).1
    simp at this
    exact this
  rw [add_plain, blk_cell h]
  match j, hp with
  | 0, hp => cases hp; cases hu; rfl
  | 1, hp => cases hp; cases hu; rfl
theorem C_rows {w : World} {g t : Nat} {A1 A2 : Option Addr} {r1 r2 : List Int} {c1 c2 : Nat} (h : w.heap[g]? = some (.cells #[.slice A1 r1.length c1, .slice A2 r2.length c2] t (0, 0))) (l1 : r1.length ≤ c1) (l2 : r2.length ≤ c2) (h1 : (Kd.int .i64).C w A1 r1.length r1) (h2 : (Kd.int .i64).C w A2 r2.length r2) :
    (Kd.slice 2 (Kd.int .i64)).C w (some ⟨g, 0, none⟩) 2 [r1, r2] := by
  refine ⟨rfl, by decide, fun _ => ⟨_, rfl, fun j p hp => ?_⟩⟩
  match j, hp with
  | 0, hp =>
    cases hp
    refine ⟨[.slice A1 r1.length c1], rfl, ⟨A1, c1, rfl, l1, h1⟩, fun i u hu => ?_⟩
    obtain rfl : i = 0 := by
      have := (List.getElem?_eq_some_iff.1 hu).1
      simp at this
      exact this
    rw [add_plain, blk_cell h]
    exact hu
  | 1, hp =>
    cases hp
    refine ⟨[.slice A2 r2.length c2], rfl, ⟨A2, c2, rfl, l2, h2⟩, fun i u hu => ?_⟩
    obtain rfl : i = 0 := by
      have := (List.getElem?_eq_some_iff.1 hu).1
      simp at this
      exact this
    rw [add_plain, blk_cell h]
    exact hu
theorem txt_10 : textP [1, 0] = [49, 32, 48] := by
  have e1 : Lib.itoa 1 = [49] := by
    have h := Lib.itoa_nonneg 1
    rw [show ((1 : Nat) : Int) = 1 from rfl] at h
    rw [h, Lib.decDigits_one (by decide)]
    rfl
  have e0 : Lib.itoa 0 = [48] := by
    have h := Lib.itoa_nonneg 0
    rw [show ((0 : Nat) : Int) = 0 from rfl] at h
    rw [h, Lib.decDigits_one (by decide)]
    rfl
  unfold textP
  rw [if_neg (by decide), List.map_cons, List.map_cons, List.map_nil, join_cons2, Lib.join_one, e1, e0]
  rfl
def wkP : PI := ⟨1, 0, [], [[1, 2], [3, 4]], 0, []⟩
theorem wk_ok : PIok wkP := ⟨by decide, by decide, by decide, fun r hr => by
  simp only [wkP, List.mem_cons, List.not_mem_nil, or_false] at hr
  rcases hr with rfl | rfl <;> decide, fun s hs => absurd hs List.not_mem_nil⟩
theorem wk_v1 : (5, 0) = valP wkP [1, 0] := by decide +kernel
theorem wk_v2 : (0, 12) = valP wkP [1, 1] := by decide +kernel
set_option maxHeartbeats 2000000 in
set_option maxRecDepth 100000 in
theorem wakes_any (w : World) {B : Nat} (hLd : Ld B w) : Calls Tryz.prog 10 #[] w fun e w' => e = .returned (.bool true) ∧ Below w.heap.size w w' := by
  have HLD := Aside0.mk hLd
  clear hLd
  have hu76 := Tryz.underlying76
  go_enter Tryz.func10, Tryz.ntmps10
  go_upto_region 2 with fail
  obtain ⟨W1, hW1⟩ : ∃ W, W = (((w.alloc (.cells #[.int .i64 1, .int .i64 2] 2)).alloc (.cells #[.int .i64 3, .int .i64 4] 2)).alloc (.cells #[.slice (some ⟨w.heap.size, 0, none⟩) 2 2, .slice (some ⟨w.heap.size + 1, 0, none⟩) 2 2] 71)).alloc (.cells #[.int .i64 1, .int .i64 0, .slice none 0 0, .slice (some ⟨w.heap.size + 1 + 1, 0, none⟩) 2 2, .int .i64 0, .slice none 0 0] 76) := ⟨_, rfl⟩
  rw [← hW1]
  have B1 : Aside0 (Below w.heap.size w W1) := ⟨by rw [hW1]; exact below_alloc (below_alloc (below_alloc (below_alloc (Below.refl _ _) _) _) _) _⟩
  obtain ⟨p, hp⟩ : ∃ p, p = w.heap.size := ⟨_, rfl⟩
  have X1 : W1.heap[p]? = some (.cells #[.int .i64 1, .int .i64 2] 2 (0, 0)) := by
    rw [hW1, hp]
    simp only [al_get, al_size]
    repeat (first | rw [if_pos trivial] | rw [if_neg (by omega)])
  have X2 : W1.heap[p + 1]? = some (.cells #[.int .i64 3, .int .i64 4] 2 (0, 0)) := by
    rw [hW1, hp]
    simp only [al_get, al_size]
    repeat (first | rw [if_pos trivial] | rw [if_neg (by omega)])
  have X3 : W1.heap[p + 1 + 1]? = some (.cells #[.slice (some ⟨p, 0, none⟩) 2 2, .slice (some ⟨p + 1, 0, none⟩) 2 2] 71 (0, 0)) := by
    rw [hW1, hp]
    simp only [al_get, al_size]
    repeat (first | rw [if_pos trivial] | rw [if_neg (by omega)])
  have X4 : Aside0 (W1.heap[p + 1 + 1 + 1]? = some (.cells #[.int .i64 1, .int .i64 0, .slice none 0 0, .slice (some ⟨p + 1 + 1, 0, none⟩) 2 2, .int .i64 0, .slice none 0 0] 76 (0, 0))) := ⟨by
    rw [hW1, hp]
    simp only [al_get, al_size]
    repeat (first | rw [if_pos trivial] | rw [if_neg (by omega)])⟩
  have IC : Aside0 (InstC W1 wkP (.agg #[.int .i64 1, .int .i64 0, .slice none 0 0, .slice (some ⟨p + 1 + 1, 0, none⟩) 2 2, .int .i64 0, .slice none 0 0])) := ⟨none, 0, some ⟨p + 1 + 1, 0, none⟩, 2, none, 0, rfl, Kd.C_nil _ _, Nat.le_refl _, C_rows (r1 := [1, 2]) (r2 := [3, 4]) X3 (Nat.le_refl _) (Nat.le_refl _) (C_two X1) (C_two X2), Nat.le_refl _, Kd.C_nil _ _, Nat.le_refl _⟩
  rw [← hp]
  clear hW1 hp X1 X2 X3
  obtain ⟨e0, e1, e2, e3, e4, e5, _⟩ := six X4.out (Below.refl _ _)
  go_wp2_with fail
  clear e0 e1 e2 e3 e4 e5
  have A2 : Aside0 ((Kd.int .i64).C (W1.alloc (.cells #[.int .i64 1, .int .i64 0] 3)) (some ⟨W1.heap.size, 0, none⟩) 2 [1, 0] ∧ Below W1.heap.size W1 (W1.alloc (.cells #[.int .i64 1, .int .i64 0] 3))) := ⟨C_two (heap_alloc_new _ _), below_alloc (Below.refl _ _) _⟩
  generalize (W1.alloc (.cells #[.int .i64 1, .int .i64 0] 3)) = W2 at *
  refine (value_any W2 wkP _ (IC.out.below A2.out.2) wk_ok _ 2 2 [1, 0] A2.out.1 (by decide) 5 0 wk_v1).mono ?_
  rintro _ W3 ⟨rfl, HV⟩
  have B3 : Aside0 (Below W1.heap.size W1 W3) := ⟨A2.out.2.trans (HV.out.mono A2.out.2.size)⟩
  clear HV A2
  obtain ⟨e0, e1, e2, e3, e4, e5, _⟩ := six X4.out B3.out
  go_wp2_with fail
  clear e0 e1 e2 e3 e4 e5
  have A4 : Aside0 ((Kd.int .i64).C (W3.alloc (.cells #[.int .i64 1, .int .i64 1] 3)) (some ⟨W3.heap.size, 0, none⟩) 2 [1, 1] ∧ Below W1.heap.size W1 (W3.alloc (.cells #[.int .i64 1, .int .i64 1] 3))) := ⟨C_two (heap_alloc_new _ _), below_alloc B3.out _⟩
  generalize (W3.alloc (.cells #[.int .i64 1, .int .i64 1] 3)) = W4 at *
  refine (value_any W4 wkP _ (IC.out.below A4.out.2) wk_ok _ 2 2 [1, 1] A4.out.1 (by decide) 0 12 wk_v2).mono ?_
  rintro _ W5 ⟨rfl, HV⟩
  have B5 : Aside0 (Below w.heap.size w W5) := ⟨B1.out.trans ((A4.out.2.trans (HV.out.mono A4.out.2.size)).mono B1.out.size)⟩
  clear HV A4 B3 B1 IC X4
  go_wp2_with fail
  refine (better_any _ 0 2 1 true (by decide)).mono ?_
  rintro _ _ ⟨rfl, rfl⟩
  go_wp2_with fail
  refine (better_any _ 3 1 2 true (by decide)).mono ?_
  rintro _ _ ⟨rfl, rfl⟩
  go_wp2_with fail
  have X6 := C_two (heap_alloc_new W5 (.cells #[.int .i64 1, .int .i64 0] 3))
  have B6 : Aside0 (Below w.heap.size w (W5.alloc (.cells #[.int .i64 1, .int .i64 0] 3))) := ⟨below_alloc B5.out _⟩
  generalize hW6 : W5.heap.size = g6 at *
  generalize (W5.alloc (.cells #[.int .i64 1, .int .i64 0] 3)) = W6 at *
  refine (text_any W6 _ 2 2 [1, 0] X6 (by decide) (by decide) (HLD.out.to B6.out)).mono ?_
  rintro _ W7 ⟨rfl, B7⟩
  have B8 := Aside0.mk (B6.out.trans (B7.mono B6.out.size))
  clear B7 X6
  have hcmp := sB_eqL (textP [1, 0]) [49, 32, 48]
  rw [show decide (textP [1, 0] = [49, 32, 48]) = true from by rw [txt_10]; rfl] at hcmp
  go_wp2_with fail
  go_ret
  exact ⟨rfl, B8.out⟩
end Go.Proofs.YtofomlpdklhigaaGreatDoor.Hand
