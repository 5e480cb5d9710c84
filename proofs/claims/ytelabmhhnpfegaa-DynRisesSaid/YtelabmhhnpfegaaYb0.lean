/- Texts Mo Mp Dn Do Dp, cut to what is used. -/
import Derived.StillTailTactics
import Derived.Deep.QuietTactic
import Derived.BigQuiet
import Derived.Test.YtelabmhhnpfegaaYa0
import Derived.Test.YtelabmhhnpfegaaYa3
import Derived.Test.YtelabmhhnpfegaaYa9
set_option linter.unusedVariables false
set_option linter.unusedSimpArgs false
section
namespace Go.Proofs.Ytelabmhhnpfegaa.PDynCells
open Go.RowKit Go.Proofs.YtelabmhhnpfegaaW.PrintWords Go.Proofs.YtelabmhhnpfegaaW.PrintLast Go.Proofs.YtelabmhhnpfegaaW.PrintMore
attribute [local go_sem] max2_int min2_int max_two min_two max_three min_three max_four min_four
theorem info29 : (Try.prog.info? 29).map (fun i => (i.zero, i.size, i.bytes)) = some (some (.slice none 0 0), 1, 24) := by kernel_rfl
mutual
def secateurref13_orders.l0 : Nat → List Int → Int → List (List Int) → Int → Option ((List (List Int)))
 | 0, _, _, _, _ => none
 | k + 1, x0, x1, x5, x6 => if x6 < x1 then (secateurref13_orders.l1 k x0 x1 x5 x6 false 0) else (some x5)
def secateurref13_orders.l1 : Nat → List Int → Int → List (List Int) → Int → Bool → Int → Option ((List (List Int)))
 | 0, _, _, _, _, _, _ => none
 | k + 1, x0, x1, x5, x6, x7, x8 => if x8 < (x0.length : Int) then (if x7 = true then (secateurref13_orders.l1 k x0 x1 x5 x6 true (wrap64 (x8 + 1))) else (if 0 ≤ x8 then (secateurref13_orders.l1 k x0 x1 x5 x6 ((rd x0 x8) == x6) (wrap64 (x8 + 1))) else (none))) else (if x7 = true then (secateurref13_orders.l0 k x0 x1 x5 (wrap64 (x6 + 1))) else (if ([] : List Int).length + x0.length < 17592186044416 then ((some (([] : List Int) ++ x0 : List Int)).bind fun y276 => (if y276.length < 17592186044416 then ((secateurref13_orders.f k (y276 ++ [x6]) x1).bind fun t282 => (if x5.length + t282.length < 5864062014805 then (secateurref13_orders.l0 k x0 x1 (x5 ++ t282) (wrap64 (x6 + 1))) else (none))) else (none))) else (none)))
def secateurref13_orders.f : Nat → List Int → Int → Option ((List (List Int)))
 | 0, _, _ => none
 | k + 1, l0, a1 => if (l0.length : Int) = a1 then (some (([l0] : List (List Int)))) else (secateurref13_orders.l0 k l0 a1 ([] : List (List Int)) 0)
end
theorem secateurref13_orders.mono_l : ∀ k, (∀ y0 y1, LeO (secateurref13_orders.f k y0 y1) (secateurref13_orders.f (k + 1) y0 y1)) ∧ (∀ y0 y1 y2 y3, LeO (secateurref13_orders.l0 k y0 y1 y2 y3) (secateurref13_orders.l0 (k + 1) y0 y1 y2 y3)) ∧ (∀ y0 y1 y2 y3 y4 y5, LeO (secateurref13_orders.l1 k y0 y1 y2 y3 y4 y5) (secateurref13_orders.l1 (k + 1) y0 y1 y2 y3 y4 y5))
 | 0 => ⟨fun _ _ r h => by simp [secateurref13_orders.f] at h, fun _ _ _ _ r h => by simp [secateurref13_orders.l0] at h, fun _ _ _ _ _ _ r h => by simp [secateurref13_orders.l1] at h⟩
 | k + 1 => by
  obtain ⟨ih0, ih1, ih2⟩ := secateurref13_orders.mono_l k
  refine ⟨?_, ?_, ?_⟩
  ·intro y0 y1
   unfold secateurref13_orders.f
   repeat' first
   | (with_reducible exact ih0 _ _)
   | (with_reducible exact ih1 _ _ _ _)
   | (with_reducible exact ih2 _ _ _ _ _ _)
   | (with_reducible exact LeO.refl _)
   | (with_reducible exact LeO.none _)
   | (with_reducible refine LeO.ite ?_ ?_)
   | (with_reducible refine LeO.bind ?_ (fun _ => ?_))
   | exact ih0 _ _
   | exact ih1 _ _ _ _
   | exact ih2 _ _ _ _ _ _
   | exact LeO.none _
   | refine LeO.ite ?_ ?_
   | refine LeO.bind ?_ (fun _ => ?_)
  ·intro y0 y1 y2 y3
   unfold secateurref13_orders.l0
   repeat' first
   | (with_reducible exact ih0 _ _)
   | (with_reducible exact ih1 _ _ _ _)
   | (with_reducible exact ih2 _ _ _ _ _ _)
   | (with_reducible exact LeO.refl _)
   | (with_reducible exact LeO.none _)
   | (with_reducible refine LeO.ite ?_ ?_)
   | (with_reducible refine LeO.bind ?_ (fun _ => ?_))
   | exact ih0 _ _
   | exact ih1 _ _ _ _
   | exact ih2 _ _ _ _ _ _
   | exact LeO.none _
   | refine LeO.ite ?_ ?_
   | refine LeO.bind ?_ (fun _ => ?_)
  ·intro y0 y1 y2 y3 y4 y5
   unfold secateurref13_orders.l1
   repeat' first
   | (with_reducible exact ih0 _ _)
   | (with_reducible exact ih1 _ _ _ _)
   | (with_reducible exact ih2 _ _ _ _ _ _)
   | (with_reducible exact LeO.refl _)
   | (with_reducible exact LeO.none _)
   | (with_reducible refine LeO.ite ?_ ?_)
   | (with_reducible refine LeO.bind ?_ (fun _ => ?_))
   | exact ih0 _ _
   | exact ih1 _ _ _ _
   | exact ih2 _ _ _ _ _ _
   | exact LeO.none _
   | refine LeO.ite ?_ ?_
   | refine LeO.bind ?_ (fun _ => ?_)
theorem secateurref13_orders.mono : ∀ a0 a1 k, LeO (secateurref13_orders.f k a0 a1) (secateurref13_orders.f (k + 1) a0 a1) := by
 intro a0 a1 k
 obtain ⟨ih0, ih1, ih2⟩ := secateurref13_orders.mono_l k
 exact ih0 a0 a1
set_option maxHeartbeats 8000000 in
set_option maxRecDepth 100000 in
theorem secateurref13_orders.calls (k : Nat) : ∀ (P0_ : Nat → Prop) (A0 : Option Addr) (c0 : Nat) (l0 : List Int) (a1 : Int) (r : List (List Int)) (w : World) (hs0 : Kd.V (Kd.int .i64) 3 w w.heap.size (fun k_ => P0_ k_) (.slice A0 l0.length c0) l0) (h : secateurref13_orders.f k l0 a1 = some r),
  Calls Try.prog 95 #[.slice A0 l0.length c0, .int .i64 a1] w fun e w' => ∃ v0_ : Value, e = .returned (v0_) ∧ Kd.N (Kd.slice 3 (Kd.int .i64)) 29 w' w.heap.size (fun k_ => (P0_ k_ ∨ w.heap.size ≤ k_)) v0_ r ∧ Below w.heap.size w w' := by
 induction k using Nat.strongRecOn with
 | _ k ih =>
 intro P0_ A0 c0 l0 a1 r w hs0 h
 cases k with
 | zero => exact absurd h (by simp [secateurref13_orders.f])
 | succ k =>
 simp only [secateurref13_orders.f] at h
 have HO0 := Aside0.mk (show Kd.V (Kd.int .i64) 3 w w.heap.size (fun k_ => (P0_ k_ ∨ w.heap.size ≤ k_)) (.slice A0 l0.length c0) l0 from Kd.V_mono hs0 (fun k_ hk => .inl hk))
 have HB := Aside0.mk (Below.refl w.heap.size w)
 have H : (if (l0.length : Int) = a1 then (some (([l0] : List (List Int)))) else (secateurref13_orders.l0 k l0 a1 ([] : List (List Int)) 0)) = some r := h
 clear h
 by_cases c3 : (l0.length : Int) = a1
 ·rw [if_pos c3] at H
  have c3b0 : ((l0.length : Int) == a1) = true := beq_iff_eq.mpr c3
  have c3b1 : ((l0.length : Int) != a1) = false := bne_eq_false_iff_eq.mpr c3
  clear c3
  obtain ⟨y272, hy272⟩ : ∃ y_ : List (List Int), y_ = (([l0] : List (List Int))) := ⟨_, rfl⟩
  replace H : (some y272) = some r := by first | (rw [hy272]; with_reducible exact H) | (have H2_ := (Option.bind_some _ _).symm.trans H; rw [hy272]; with_reducible exact H2_) | (have H2_ := (Option.bind_some _ _).symm.trans H; with_reducible exact H2_) | with_reducible exact H | (rw [hy272]; exact H) | exact H
  have Ny272 := Aside0.mk hy272
  clear hy272
  obtain rfl := Option.some.inj H
  go_enter Try.func95, Try.ntmps95
  go_wp2_with (first | ((with_reducible refine gate_dst (N := 16) rfl ?_); refine Kd.N_lit (Kd.slice 3 (Kd.int .i64)) _ 29 ?hg (N' := 16) ?hd (xs := ([l0] : List (List Int))) (inner := [.slice A0 l0.length c0]) (ok := (fun k_ => (P0_ k_ ∨ w.heap.size ≤ k_))) (okp := (fun k_ => (P0_ k_ ∨ w.heap.size ≤ k_))) ?hr ?hp (fun _ hk => hk) ((show ∀ k_, w.heap.size ≤ k_ → (fun k_ => (P0_ k_ ∨ w.heap.size ≤ k_)) k_ from fun k_ hk => (.inr (Nat.le_trans (below_size (by repeat (first | (with_reducible first | exact HB.out | apply below_alloc | apply pw_below_drewN | apply below_drew1) | exact HB.out))) hk))) _ (Nat.le_refl _)) (Below.refl _ _) (Nat.le_refl _) (by simp) ?_; (case hd => rfl); (case hg => rfl); (case hr => first | (go_simp; done) | (go_simp; rfl)); (case hp => exact (Reps.one (show Kd.FK (Kd.slice 3 (Kd.int .i64)) _ _ l0 [.slice A0 l0.length c0] from (Kd.FK_slice_mk (Kd.V_reads' (Kd.V_mono (ok' := (fun k_ => (P0_ k_ ∨ w.heap.size ≤ k_))) (HO0.out) (fun k_ hk => hk))).2.1 (Kd.V_F (Kd.V_mono (ok' := (fun k_ => (P0_ k_ ∨ w.heap.size ≤ k_))) (HO0.out) (fun k_ hk => hk))))) (Reps.none _ _))); intro v273 w4 ho5 hb hg_ hnew_; clear hg_ hnew_; (first | rw [← Ny272.out] at ho5 | (simp only [Int.reduceToNat] at ho5; rw [← Ny272.out] at ho5)); have n0_ := Aside0.mk (Kd.V_elder' (by (with_reducible repeat (first | apply Kd.V_alloc | apply Kd.V_drewN | apply Kd.V_drew)); exact HO0.out) (Kd.N_base ho5) hb); have n1_ := Aside0.mk (Kd.N_lower ho5 (below_size (by repeat (first | (with_reducible first | exact HB.out | apply below_alloc | apply pw_below_drewN | apply below_drew1) | exact HB.out)))); have n2_ := Aside0.mk (below_step (by repeat (first | (with_reducible first | exact HB.out | apply below_alloc | apply pw_below_drewN | apply below_drew1) | exact HB.out)) hb); clear HO0; clear HB; have HO0 := n0_; have HO274 := n1_; have HB := n2_; clear n0_ n1_ n2_; clear hb ho5))
  go_ret
  exact ⟨_, by first | rfl | (simp [errW_none, errW_some] <;> rfl) | (simp [*, errW_none, errW_some] <;> rfl), by (with_reducible repeat (first | apply Kd.N_alloc | apply Kd.N_drewN | apply Kd.N_drew)); exact HO274.out, by repeat (first | (with_reducible first | exact HB.out | apply below_alloc | apply pw_below_drewN | apply below_drew1) | exact HB.out)⟩
 ·rw [if_neg c3] at H
  have c3b0 : ((l0.length : Int) == a1) = false := beq_eq_false_iff_ne.mpr c3
  have c3b1 : ((l0.length : Int) != a1) = true := bne_iff_ne.mpr c3
  have H' := Aside0.mk H
  clear H
  go_enter Try.func95, Try.ntmps95
  go_wp2
  go_loopg [5, 6] k (fun kq v5 v6 w' => ∃ (x5_1 : List (List Int)) (x6_1 : Int), v6 = .int .i64 x6_1 ∧ Aside0 (secateurref13_orders.l0 kq l0 a1 x5_1 x6_1 = some r) ∧ Aside0 (kq ≤ k) ∧ Aside0 (Kd.V (Kd.int .i64) 3 w' w.heap.size (fun k_ => (P0_ k_ ∨ w.heap.size ≤ k_) ∧ some k_ ≠ (v5 : Value).ownBlock) (.slice A0 l0.length c0) l0) ∧ Aside0 (Kd.N (Kd.slice 3 (Kd.int .i64)) 29 w' w.heap.size (fun k_ => (P0_ k_ ∨ w.heap.size ≤ k_)) v5 x5_1) ∧ Aside0 (Below w.heap.size w w'))
  case atStart => exact ⟨(([] : List (List Int))), (0), (by first | rfl | (simp; done) | (simp [*]; done)), H', ⟨Nat.le_refl _⟩, ⟨by (with_reducible repeat (first | apply Kd.V_alloc | apply Kd.V_drewN | apply Kd.V_drew)); exact Kd.V_mono HO0.out (fun _ hk => ⟨hk, (by simp [Value.ownBlock])⟩)⟩, ⟨by first | exact Kd.S_nil _ _ _ _ _ | exact Kd.N_nil _ _ _ _ _ | exact Kd.V_nil _ _ _ _ _ | exact Kd.Q_nil _ _ _ _ _ | exact Kd.R_nil _ _ _ _ _⟩, ⟨by repeat (first | (with_reducible first | exact HB.out | apply below_alloc | apply pw_below_drewN | apply below_drew1) | exact HB.out)⟩⟩
  case round =>
   clear H'
   try clear p2
   try clear c3
   try clear c3b0
   try clear c3b1
   obtain ⟨x5_1, x6_1, rfl, HA, HK1, HO_0, HO_5, HB⟩ := hrel
   cases gk with
   | zero => exact absurd HA.out (by simp [secateurref13_orders.l0])
   | succ k1 =>
    have H := HA.out
    clear HA
    simp only [secateurref13_orders.l0] at H
    by_cases c6 : x6_1 < a1
    ·rw [if_pos c6] at H
     have c6b0 : decide (x6_1 < a1) = true := decide_eq_true c6
     clear c6
     have H' := Aside0.mk H
     clear H
     go_wp2
     go_loopg [7, 8] k1 (fun kq v7 v8 w' => ∃ (x7_2 : Bool) (x8_2 : Int), v7 = .bool x7_2 ∧ v8 = .int .i64 x8_2 ∧ Aside0 (secateurref13_orders.l1 kq l0 a1 x5_1 x6_1 x7_2 x8_2 = some r) ∧ Aside0 (kq ≤ k1) ∧ Aside0 (Kd.V (Kd.int .i64) 3 w' w.heap.size (fun k_ => (P0_ k_ ∨ w.heap.size ≤ k_) ∧ some k_ ≠ (u5 : Value).ownBlock) (.slice A0 l0.length c0) l0) ∧ Aside0 (Kd.N (Kd.slice 3 (Kd.int .i64)) 29 w' w.heap.size (fun k_ => (P0_ k_ ∨ w.heap.size ≤ k_)) u5 x5_1) ∧ Aside0 (Below w.heap.size w w'))
     case atStart => exact ⟨(false), (0), (by first | rfl | (simp; done) | (simp [*]; done)), (by first | rfl | (simp; done) | (simp [*]; done)), H', ⟨Nat.le_refl _⟩, ⟨by (with_reducible repeat (first | apply Kd.V_alloc | apply Kd.V_drewN | apply Kd.V_drew)); exact HO_0.out⟩, ⟨by (with_reducible repeat (first | apply Kd.N_alloc | apply Kd.N_drewN | apply Kd.N_drew)); exact HO_5.out⟩, ⟨by repeat (first | (with_reducible first | exact HB.out | apply below_alloc | apply pw_below_drewN | apply below_drew1) | exact HB.out)⟩⟩
     case round =>
      clear H'
      try clear p2
      try clear c3
      try clear c3b0
      try clear c3b1
      try clear c6
      try clear c6b0
      try clear p2
      obtain ⟨x7_2, x8_2, rfl, rfl, HA, HK2, HO_0, HO_5, HB⟩ := hrel
      cases gk with
      | zero => exact absurd HA.out (by simp [secateurref13_orders.l1])
      | succ k2 =>
       have H := HA.out
       clear HA
       simp only [secateurref13_orders.l1] at H
       by_cases c7 : x8_2 < (l0.length : Int)
       ·rw [if_pos c7] at H
        have c7b0 : decide (x8_2 < (l0.length : Int)) = true := decide_eq_true c7
        clear c7
        by_cases c8 : x7_2 = true
        ·subst c8
         have H1 : (secateurref13_orders.l1 k2 l0 a1 x5_1 x6_1 true (wrap64 (x8_2 + 1))) = some r := by rw [if_pos rfl] at H; exact H
         clear H
         have H := H1
         clear H1
         have H' := Aside0.mk H
         clear H
         go_wp2
         go_roundg k2
         case measure => have := HK1.out; have := HK2.out; omega
         case rel => exact ⟨(true), (wrap64 (x8_2 + 1)), (by first | rfl | (simp; done) | (simp [*]; done)), (by first | rfl | (simp; done) | (simp [*]; done)), H', ⟨by have := HK1.out; have := HK2.out; omega⟩, ⟨by (with_reducible repeat (first | apply Kd.V_alloc | apply Kd.V_drewN | apply Kd.V_drew)); exact HO_0.out⟩, ⟨by (with_reducible repeat (first | apply Kd.N_alloc | apply Kd.N_drewN | apply Kd.N_drew)); exact HO_5.out⟩, ⟨by repeat (first | (with_reducible first | exact HB.out | apply below_alloc | apply pw_below_drewN | apply below_drew1) | exact HB.out)⟩⟩
        ·replace c8 := Bool.eq_false_iff.mpr c8
         subst c8
         have H1 : (if 0 ≤ x8_2 then (secateurref13_orders.l1 k2 l0 a1 x5_1 x6_1 ((rd l0 x8_2) == x6_1) (wrap64 (x8_2 + 1))) else (none)) = some r := by rw [if_neg (show ¬ (false = true) by decide)] at H; exact H
         clear H
         have H := H1
         clear H1
         by_cases c9 : 0 ≤ x8_2
         ·rw [if_pos c9] at H
          have c9b0 : decide (0 ≤ x8_2) = true := decide_eq_true c9
          clear c9
          have H' := Aside0.mk H
          clear H
          have p275 : 0 ≤ (x8_2 : Int) := of_decide_eq_true (by first | (with_reducible assumption) | assumption)
          have q275 : x8_2 < (l0.length : Int) := of_decide_eq_true (by first | (with_reducible assumption) | assumption)
          obtain ⟨ad275, e275, hx275_0⟩ := Kd.at_int (Kd.V_reads' HO_0.out).2.2 x8_2 p275 q275
          cases e275
          replace p275 := eq_true p275
          replace q275 := eq_true q275
          go_wp2
          go_roundg k2
          case measure => have := HK1.out; have := HK2.out; omega
          case rel => exact ⟨(((rd l0 x8_2) == x6_1)), (wrap64 (x8_2 + 1)), (by first | rfl | (simp; done) | (simp [*]; done)), (by first | rfl | (simp; done) | (simp [*]; done)), H', ⟨by have := HK1.out; have := HK2.out; omega⟩, ⟨by (with_reducible repeat (first | apply Kd.V_alloc | apply Kd.V_drewN | apply Kd.V_drew)); exact HO_0.out⟩, ⟨by (with_reducible repeat (first | apply Kd.N_alloc | apply Kd.N_drewN | apply Kd.N_drew)); exact HO_5.out⟩, ⟨by repeat (first | (with_reducible first | exact HB.out | apply below_alloc | apply pw_below_drewN | apply below_drew1) | exact HB.out)⟩⟩
         ·rw [if_neg c9] at H
          exact absurd H (by simp)
       ·rw [if_neg c7] at H
        have c7b0 : decide (x8_2 < (l0.length : Int)) = false := decide_eq_false c7
        clear c7
        by_cases c10 : x7_2 = true
        ·subst c10
         have H1 : (secateurref13_orders.l0 k2 l0 a1 x5_1 (wrap64 (x6_1 + 1))) = some r := by rw [if_pos rfl] at H; exact H
         clear H
         have H := H1
         clear H1
         have H' := Aside0.mk H
         clear H
         go_wp2
         go_roundg k2
         case measure => have := HK1.out; have := HK2.out; omega
         case rel => exact ⟨(x5_1), (wrap64 (x6_1 + 1)), (by first | rfl | (simp; done) | (simp [*]; done)), H', ⟨by have := HK1.out; have := HK2.out; omega⟩, ⟨by (with_reducible repeat (first | apply Kd.V_alloc | apply Kd.V_drewN | apply Kd.V_drew)); exact HO_0.out⟩, ⟨by (with_reducible repeat (first | apply Kd.N_alloc | apply Kd.N_drewN | apply Kd.N_drew)); exact HO_5.out⟩, ⟨by repeat (first | (with_reducible first | exact HB.out | apply below_alloc | apply pw_below_drewN | apply below_drew1) | exact HB.out)⟩⟩
        ·replace c10 := Bool.eq_false_iff.mpr c10
         subst c10
         have H1 : (if ([] : List Int).length + l0.length < 17592186044416 then ((some (([] : List Int) ++ l0 : List Int)).bind fun y276 => (if y276.length < 17592186044416 then ((secateurref13_orders.f k2 (y276 ++ [x6_1]) a1).bind fun t282 => (if x5_1.length + t282.length < 5864062014805 then (secateurref13_orders.l0 k2 l0 a1 (x5_1 ++ t282) (wrap64 (x6_1 + 1))) else (none))) else (none))) else (none)) = some r := by rw [if_neg (show ¬ (false = true) by decide)] at H; exact H
         clear H
         have H := H1
         clear H1
         by_cases c11 : ([] : List Int).length + l0.length < 17592186044416
         ·rw [if_pos c11] at H
          have LMc11 := Aside0.mk c11
          clear c11
          obtain ⟨y276, hy276⟩ : ∃ y_ : List Int, y_ = (([] : List Int) ++ l0) := ⟨_, rfl⟩
          replace H : (if y276.length < 17592186044416 then ((secateurref13_orders.f k2 (y276 ++ [x6_1]) a1).bind fun t282 => (if x5_1.length + t282.length < 5864062014805 then (secateurref13_orders.l0 k2 l0 a1 (x5_1 ++ t282) (wrap64 (x6_1 + 1))) else (none))) else (none)) = some r := by first | (rw [hy276]; with_reducible exact H) | (have H2_ := (Option.bind_some _ _).symm.trans H; rw [hy276]; with_reducible exact H2_) | (have H2_ := (Option.bind_some _ _).symm.trans H; with_reducible exact H2_) | with_reducible exact H | (rw [hy276]; exact H) | exact H
          have Ny276 := Aside0.mk hy276
          clear hy276
          by_cases c12 : y276.length < 17592186044416
          ·rw [if_pos c12] at H
           have LMc12 := Aside0.mk c12
           clear c12
           obtain ⟨y279, hy279⟩ : ∃ y_ : List Int, y_ = (y276 ++ [x6_1]) := ⟨_, rfl⟩
           replace H : ((secateurref13_orders.f k2 y279 a1).bind fun t282 => (if x5_1.length + t282.length < 5864062014805 then (secateurref13_orders.l0 k2 l0 a1 (x5_1 ++ t282) (wrap64 (x6_1 + 1))) else (none))) = some r := by first | (rw [hy279]; with_reducible exact H) | (have H2_ := (Option.bind_some _ _).symm.trans H; rw [hy279]; with_reducible exact H2_) | (have H2_ := (Option.bind_some _ _).symm.trans H; with_reducible exact H2_) | with_reducible exact H | (rw [hy279]; exact H) | exact H
           have Ny279 := Aside0.mk hy279
           clear hy279
           replace H := Option.bind_eq_some_iff.mp H
           obtain ⟨t282, A130, H⟩ := H
           replace H : (if x5_1.length + t282.length < 5864062014805 then (secateurref13_orders.l0 k2 l0 a1 (x5_1 ++ t282) (wrap64 (x6_1 + 1))) else (none)) = some r := H
           have A13 := Aside0.mk A130
           clear A130
           by_cases c14 : x5_1.length + t282.length < 5864062014805
           ·rw [if_pos c14] at H
            have LMc14 := Aside0.mk c14
            clear c14
            obtain ⟨y285, hy285⟩ : ∃ y_ : List (List Int), y_ = (x5_1 ++ t282) := ⟨_, rfl⟩
            replace H : (secateurref13_orders.l0 k2 l0 a1 y285 (wrap64 (x6_1 + 1))) = some r := by first | (rw [hy285]; with_reducible exact H) | (have H2_ := (Option.bind_some _ _).symm.trans H; rw [hy285]; with_reducible exact H2_) | (have H2_ := (Option.bind_some _ _).symm.trans H; with_reducible exact H2_) | with_reducible exact H | (rw [hy285]; exact H) | exact H
            have Ny285 := Aside0.mk hy285
            clear hy285
            have H' := Aside0.mk H
            clear H
            go_wp2_with (first | ((with_reducible refine gate_builtin (b := .append) (xs := #[.tmp 38, .tmp 39]) rfl ?_); at_builtin; refine Kd.R_append_rows (Kd.int .i64) (w0 := w) w.heap.size rfl (.tmp 38) (.tmp 39) 29 3 (.int .i64 0) 8 rfl Try.underlying29 info3 rfl (by decide) (by omega) (.slice none 0 0) ([] : List Int) l0 _ _ _ (fun k_ => (w.heap.size ≤ k_)) (fun _ => False) rfl rfl ?aO ?aR (fun _ _ h => h) (fun _ h => h.elim) ?aF ?aB ?aS ?aL ?_; (case aR => repeat (first | exact (Kd.V_reads' HO_0.out).2.2 | (with_reducible refine Kd.C_alloc ?_ _) | (with_reducible refine Kd.C_drewN ?_ _) | (with_reducible refine Kd.C_drew ?_))); (case aB => exact (by repeat (first | (with_reducible first | exact HB.out | apply below_alloc | apply pw_below_drewN | apply below_drew1) | exact HB.out))); (case aF => exact (fun k_ hk => (Nat.le_trans (below_size (by repeat (first | (with_reducible first | exact HB.out | apply below_alloc | apply pw_below_drewN | apply below_drew1) | exact HB.out))) hk))); (case aO => exact ((Kd.R_nil _ _ _ _ (fun k_ => (w.heap.size ≤ k_))))); (case aS => exact (below_size (by repeat (first | (with_reducible first | exact HB.out | apply below_alloc | apply pw_below_drewN | apply below_drew1) | exact HB.out)))); (case aL => have := LMc11.out; omega); intro v277 w15 ho hb hg hat; rw [← Ny276.out] at ho; have n0_ := Aside0.mk (Kd.V_afterv (Kd.V_apart_nil (by (with_reducible repeat (first | apply Kd.V_alloc | apply Kd.V_drewN | apply Kd.V_drew)); exact HO_0.out)) hg hat); have n1_ := Aside0.mk (Kd.N_afterv (Kd.N_apart_nil (by (with_reducible repeat (first | apply Kd.N_alloc | apply Kd.N_drewN | apply Kd.N_drew)); exact HO_5.out)) hg hat); have n2_ := Aside0.mk (hb); have n3_ := Aside0.mk (ho); clear HO_0; clear HO_5; clear HB; have HO_0 := n0_; have HO_5 := n1_; have HB := n2_; have HO278 := n3_; clear n0_ n1_ n2_ n3_; clear ho hb hg hat) | ((with_reducible refine gate_builtin (b := .append) (xs := #[.tmp 41, .tmp 43]) rfl ?_); at_builtin; refine Kd.R_append (Kd.int .i64) (w0 := w) w.heap.size rfl (.tmp 41) (.tmp 43) 29 3 (.int .i64 0) 8 rfl Try.underlying29 info3 rfl (by decide) (by omega) v277 y276 x6_1 [.int .i64 x6_1] (fun k_ => (w.heap.size ≤ k_)) (fun _ => False) rfl rfl ?aP (fun _ hk => hk.elim) ?aF ?aO ?aB ?aS ?aL ?_; (case aP => exact rfl); (case aB => exact (by repeat (first | (with_reducible first | exact HB.out | apply below_alloc | apply pw_below_drewN | apply below_drew1) | exact HB.out))); (case aF => exact (fun k_ hk => (Nat.le_trans (below_size (by repeat (first | (with_reducible first | exact HB.out | apply below_alloc | apply pw_below_drewN | apply below_drew1) | exact HB.out))) hk))); (case aO => exact (by (with_reducible repeat (first | apply Kd.R_alloc | apply Kd.R_drewN | apply Kd.R_drew)); exact HO278.out)); (case aS => exact (below_size (by repeat (first | (with_reducible first | exact HB.out | apply below_alloc | apply pw_below_drewN | apply below_drew1) | exact HB.out)))); (case aL => have := LMc12.out; omega); intro v280 w16 ho hb hg hat; rw [← Ny279.out] at ho; have n0_ := Aside0.mk (Kd.V_afterv (ok := (fun k_ => (P0_ k_ ∨ w.heap.size ≤ k_) ∧ some k_ ≠ (u5 : Value).ownBlock)) (by (with_reducible repeat (first | apply Kd.V_alloc | apply Kd.V_drewN | apply Kd.V_drew)); exact HO_0.out) hg hat); have n1_ := Aside0.mk (Kd.N_afterv (ok := (fun k_ => (P0_ k_ ∨ w.heap.size ≤ k_))) (by (with_reducible repeat (first | apply Kd.N_alloc | apply Kd.N_drewN | apply Kd.N_drew)); exact HO_5.out) hg hat); have n2_ := Aside0.mk (hb); have n3_ := Aside0.mk (ho); clear HO_0; clear HO_5; clear HB; clear HO278; have HO_0 := n0_; have HO_5 := n1_; have HB := n2_; have HO281 := n3_; clear n0_ n1_ n2_ n3_; clear ho hb hg hat; obtain ⟨Ao17, co17, eo17⟩ := Kd.R_slice HO281.out; subst eo17) | ((with_reducible refine gate_callee (f := 95) rfl ?_); refine goesL_ (some 47) rfl rfl Try.func95 (by kernel_rfl) rfl #[.slice Ao17 y279.length co17, .int .i64 a1] rfl (by (try simp only [List.map_toArray, List.map_cons, List.map_nil]); first | done | rfl | (simp only [List.length_drop, List.length_take]; rfl)) ?_; (with_reducible refine (ih k2 (by have := HK1.out; have := HK2.out; omega) (fun k_ => some k_ = (.slice Ao17 y279.length co17 : Value).ownBlock) _ _ y279 a1 t282 _ ?side1 A13.out).mono ?_); (case side1 => exact Kd.R_V (Kd.R_tight rfl (Kd.R_apart' (HO281.out) (Kd.N_typed HO_5.out) (by decide)))); rintro e w18 ⟨v283, rfl, ho0, hb⟩; refine ⟨_, rfl, ?_⟩; have n0_ := Aside0.mk (Kd.V_elder' (by (with_reducible repeat (first | apply Kd.V_alloc | apply Kd.V_drewN | apply Kd.V_drew)); exact HO_0.out) (Kd.N_base ho0) hb); have n1_ := Aside0.mk (Kd.N_elder' (by (with_reducible repeat (first | apply Kd.N_alloc | apply Kd.N_drewN | apply Kd.N_drew)); exact HO_5.out) (Kd.N_base ho0) hb); have n2_ := Aside0.mk (Kd.R_below (by (with_reducible repeat (first | apply Kd.R_alloc | apply Kd.R_drewN | apply Kd.R_drew)); exact HO281.out) hb); have n3_ := Aside0.mk (Kd.N_lower (Kd.N_mono (ok' := fun k_ => (P0_ k_ ∨ w.heap.size ≤ k_) ∧ some k_ ≠ (u5 : Value).ownBlock) ho0 (fun k_ hk_ => ⟨Or.elim hk_ (fun hs_ => (.inr (((Kd.R_apart' (HO281.out) (Kd.N_typed HO_5.out) (by decide)).1 k_ hs_.symm).1))) (fun hn_ => (.inr (Nat.le_trans (below_size (by repeat (first | (with_reducible first | exact HB.out | apply below_alloc | apply pw_below_drewN | apply below_drew1) | exact HB.out))) hn_))), Or.elim hk_ (fun hs_ => ((Kd.R_apart' (HO281.out) (Kd.N_typed HO_5.out) (by decide)).1 k_ hs_.symm).2) (fun hn_ => (Kd.fresh' (Kd.N_lt (by (with_reducible repeat (first | apply Kd.N_alloc | apply Kd.N_drewN | apply Kd.N_drew)); exact HO_5.out)) k_ hn_))⟩)) (below_size (by repeat (first | (with_reducible first | exact HB.out | apply below_alloc | apply pw_below_drewN | apply below_drew1) | exact HB.out)))); have n4_ := Aside0.mk (below_step (by repeat (first | (with_reducible first | exact HB.out | apply below_alloc | apply pw_below_drewN | apply below_drew1) | exact HB.out)) hb); clear HO_0; clear HO_5; clear HO281; clear HB; have HO_0 := n0_; have HO_5 := n1_; have HO281 := n2_; have HO284 := n3_; have HB := n4_; clear n0_ n1_ n2_ n3_ n4_; (try clear hb); (try clear hb2); (try clear hk); (try clear hi); (try clear ho0); obtain ⟨Ao20, co20, eo20⟩ := Kd.N_slice HO284.out; subst eo20) | ((with_reducible refine gate_builtin (b := .append) (xs := #[.tmp 48, .tmp 49]) rfl ?_); at_builtin; refine Kd.N_append_rows (Kd.slice 3 (Kd.int .i64)) (w0 := w) w.heap.size rfl (.tmp 48) (.tmp 49) 117 29 (.slice none 0 0) 24 rfl Try.underlying117 info29 rfl (by decide) (by omega) u5 x5_1 t282 _ _ _ (fun k_ => (P0_ k_ ∨ w.heap.size ≤ k_)) (fun k_ => ((fun k_ => (P0_ k_ ∨ w.heap.size ≤ k_))) k_ ∧ some k_ ≠ (u5 : Value).ownBlock) rfl rfl ?aO ?aR (fun _ hk => hk) ?aF ?aB ?aS ?aL ?_; (case aR => exact (by skip; exact Kd.N_F (Kd.N_mono (ok' := (fun k_ => ((fun k_ => (P0_ k_ ∨ w.heap.size ≤ k_))) k_ ∧ some k_ ≠ (u5 : Value).ownBlock)) (HO284.out) (fun k_ hk => ⟨hk.1, hk.2⟩)))); (case aB => exact (by repeat (first | (with_reducible first | exact HB.out | apply below_alloc | apply pw_below_drewN | apply below_drew1) | exact HB.out))); (case aF => exact (fun k_ hk => (.inr (Nat.le_trans (below_size (by repeat (first | (with_reducible first | exact HB.out | apply below_alloc | apply pw_below_drewN | apply below_drew1) | exact HB.out))) hk)))); (case aO => exact (by (with_reducible repeat (first | apply Kd.N_alloc | apply Kd.N_drewN | apply Kd.N_drew)); exact Kd.N_mono HO_5.out (fun _ hk => hk.1.1))); (case aS => exact (below_size (by repeat (first | (with_reducible first | exact HB.out | apply below_alloc | apply pw_below_drewN | apply below_drew1) | exact HB.out)))); (case aL => have := LMc14.out; omega); intro v286 w19 ho hb hg hat; rw [← Ny285.out] at ho; have n0_ := Aside0.mk (Kd.V_afterv (ok := (fun k_ => (P0_ k_ ∨ w.heap.size ≤ k_) ∧ some k_ ≠ (.slice Ao17 y279.length co17 : Value).ownBlock ∧ some k_ ≠ (.slice Ao20 t282.length co20 : Value).ownBlock)) (by (with_reducible repeat (first | apply Kd.V_alloc | apply Kd.V_drewN | apply Kd.V_drew)); exact Kd.V_mono HO_0.out (fun _ hk => ⟨⟨hk.1.1.1, ⟨hk.1.2, hk.2⟩⟩, hk.1.1.2⟩)) hg hat); have n1_ := Aside0.mk (Kd.R_over' (by (with_reducible repeat (first | apply Kd.R_alloc | apply Kd.R_drewN | apply Kd.R_drew)); exact HO281.out) (Kd.N_typed (by (with_reducible repeat (first | apply Kd.N_alloc | apply Kd.N_drewN | apply Kd.N_drew)); exact HO_5.out)) (by decide) hg); have n2_ := Aside0.mk (Kd.N_afterv (ok := (fun k_ => (P0_ k_ ∨ w.heap.size ≤ k_))) (by (with_reducible repeat (first | apply Kd.N_alloc | apply Kd.N_drewN | apply Kd.N_drew)); exact HO284.out) hg hat); have n3_ := Aside0.mk (hb); have n4_ := Aside0.mk (ho); clear HO_0; clear HO281; clear HO284; clear HB; clear HO_5; have HO_0 := n0_; have HO281 := n1_; have HO284 := n2_; have HB := n3_; have HO287 := n4_; clear n0_ n1_ n2_ n3_ n4_; clear ho hb hg hat))
            go_roundg k2
            case measure => have := HK1.out; have := HK2.out; omega
            case rel => exact ⟨(y285), (wrap64 (x6_1 + 1)), (by first | rfl | (simp; done) | (simp [*]; done)), H', ⟨by have := HK1.out; have := HK2.out; omega⟩, ⟨by (with_reducible repeat (first | apply Kd.V_alloc | apply Kd.V_drewN | apply Kd.V_drew)); exact Kd.V_mono HO_0.out (fun _ hk => ⟨hk.1.1, hk.2⟩)⟩, ⟨by (with_reducible repeat (first | apply Kd.N_alloc | apply Kd.N_drewN | apply Kd.N_drew)); exact HO287.out⟩, ⟨by repeat (first | (with_reducible first | exact HB.out | apply below_alloc | apply pw_below_drewN | apply below_drew1) | exact HB.out)⟩⟩
           ·rw [if_neg c14] at H
            exact absurd H (by simp)
          ·rw [if_neg c12] at H
           exact absurd H (by simp)
         ·rw [if_neg c11] at H
          exact absurd H (by simp)
    ·rw [if_neg c6] at H
     have c6b0 : decide (x6_1 < a1) = false := decide_eq_false c6
     clear c6
     obtain rfl := Option.some.inj H
     go_wp2
     go_ret
     exact ⟨_, by first | rfl | (simp [errW_none, errW_some] <;> rfl) | (simp [*, errW_none, errW_some] <;> rfl), by (with_reducible repeat (first | apply Kd.N_alloc | apply Kd.N_drewN | apply Kd.N_drew)); exact HO_5.out, by repeat (first | (with_reducible first | exact HB.out | apply below_alloc | apply pw_below_drewN | apply below_drew1) | exact HB.out)⟩
end Go.Proofs.Ytelabmhhnpfegaa.PDynCells
end
section
namespace Go.Proofs.Ytelabmhhnpfegaa.Hand
open Go.RowKit Go.Proofs.YtelabmhhnpfegaaW.PrintWords Go.Proofs.YtelabmhhnpfegaaW.PrintLast Go.Proofs.YtelabmhhnpfegaaW.PrintMore Go.Proofs.Ytelabmhhnpfegaa.PDynCells
end Go.Proofs.Ytelabmhhnpfegaa.Hand
end
section
namespace Go.Proofs.Ytelabmhhnpfegaa.Hand
open Go.RowKit Go.Proofs.YtelabmhhnpfegaaW.PrintWords Go.Proofs.YtelabmhhnpfegaaW.PrintLast Go.Proofs.YtelabmhhnpfegaaW.PrintMore Go.Proofs.Ytelabmhhnpfegaa.PDynCells
def bval : List Int → Int
 | [] => 0
 | d :: t => d + 65536 * bval t
theorem bval_snoc : ∀ (l : List Int) (d : Int), bval (l ++ [d]) = bval l + d * 65536 ^ l.length
 | [], d => by simp [bval]
 | e :: t, d => by
  rw [List.cons_append, bval, bval_snoc t d, bval, List.length_cons, Int.pow_succ, Int.mul_add, Int.add_assoc]
  congr 2
  rw [← Int.mul_assoc, ← Int.mul_assoc, Int.mul_comm 65536 d, Int.mul_assoc, Int.mul_assoc, Int.mul_comm 65536]
structure TrimS (D : List Int) (n : Nat) : Prop where
 le : n ≤ D.length
 val : bval (D.take n) = bval D
 top : n = 0 ∨ D.getD (n - 1) 0 ≠ 0
end Go.Proofs.Ytelabmhhnpfegaa.Hand
end
section
namespace Go.Proofs.Ytelabmhhnpfegaa.Hand
open Go.RowKit Go.Proofs.YtelabmhhnpfegaaW.PrintWords Go.Proofs.YtelabmhhnpfegaaW.PrintLast Go.Proofs.YtelabmhhnpfegaaW.PrintMore Go.Proofs.Ytelabmhhnpfegaa.PDynCells
structure Dg (D : List Int) (m : Int) : Prop where
 dig : ∀ d ∈ D, 0 ≤ d ∧ d < 65536
 val : bval D = m
 top : D.length = 0 ∨ D.getD (D.length - 1) 0 ≠ 0
def BigV (w : World) (neg : Bool) (m : Int) (v : Value) : Prop := ∃ (ad : Addr) (n c : Nat) (D : List Int), v = .agg #[.bool neg, .slice (some ad) n c] ∧ n ≤ c ∧ n ≤ 1000 ∧ D.length = n ∧ (Kd.int .u64).C w (some ad) n D ∧ Dg D m ∧ ∃ cs, w.heap[ad.block]? = some (.cells cs 145 (0, 0))
theorem BigV.below {w w1 : World} {neg : Bool} {m : Int} {v : Value} (h : BigV w neg m v) (hb : Below w.heap.size w w1) : BigV w1 neg m v := by
 obtain ⟨ad, n, c, D, h1, h2, h3, h4, h5, h6, cs, h7⟩ := h
 exact ⟨ad, n, c, D, h1, h2, h3, h4, Kd.C_below h5 hb, h6, cs, blk_below h7 hb⟩
theorem BigV.set {w : World} {neg : Bool} {m : Int} {v : Value} (h : BigV w neg m v) {g : Nat} {cs : Array Value} {t : TypeId} (hb : w.heap[g]? = some (.cells cs t (0, 0))) (ht : t ≠ 145) (j : Nat) (u : Value) : BigV (w.setCell ⟨g, j, none⟩ u) neg m v := by
 obtain ⟨ad, n, c, D, h1, h2, h3, h4, h5, h6, cs, h7⟩ := h
 have hne : ad.block ≠ g := ty_ne h7 hb ht.symm
 exact ⟨ad, n, c, D, h1, h2, h3, h4, Kd.C_keep (0 : Int) h5 ((KeepBut.refl w g none).set_ j u) (fun a e _ => by injection e with e; rw [← e]; exact hne), h6, cs, blk_far h7 hne u⟩
end Go.Proofs.Ytelabmhhnpfegaa.Hand
end
section
namespace Go.Proofs.Ytelabmhhnpfegaa.Hand
open Go.RowKit Go.Proofs.YtelabmhhnpfegaaW.PrintWords Go.Proofs.YtelabmhhnpfegaaW.PrintLast Go.Proofs.YtelabmhhnpfegaaW.PrintMore Go.Proofs.Ytelabmhhnpfegaa.PDynCells
def tabU (n : Nat) (f : Nat → Int) : Array Value := ((List.range n).map fun i => Value.int .u64 (f i)).toArray
theorem tabU_get {n : Nat} {f : Nat → Int} {i : Nat} (h : i < n) : (tabU n f)[i]? = some (.int .u64 (f i)) := by simp [tabU, h]
theorem tabU_set (n : Nat) (f : Nat → Int) (i : Nat) (x : Int) : (tabU n f).setIfInBounds i (.int .u64 x) = tabU n (upd f i x) := by
 apply Array.ext_getElem?
 intro j
 rw [Array.getElem?_setIfInBounds]
 by_cases h : i = j
 ·subst h
  rw [if_pos rfl]
  by_cases hl : i < n
  ·rw [tabU_get hl, upd_self]
   simp [tabU, hl]
  ·simp [tabU, hl]
 ·rw [if_neg h]
  by_cases hl : j < n
  ·rw [tabU_get hl, tabU_get hl, upd_ne _ _ (fun e => h e.symm)]
  ·simp [tabU, hl]
def UB (w : World) (g n : Nat) (f : Nat → Int) : Prop := w.heap[g]? = some (.cells (tabU n f) 145 (0, 0))
theorem UB.c {w : World} {g n : Nat} {f : Nat → Int} (h : UB w g n f) {i : Nat} (hi : i < n) : w.cell? ⟨g, i, none⟩ = some (.int .u64 (f i)) := (blk_cell h i).trans (tabU_get hi)
theorem UB.z {w : World} {g n : Nat} {f : Nat → Int} (h : UB w g n f) (i : Nat) : w.frozen? ⟨g, i, none⟩ = false := blk_frozen h i
theorem UB.set {w : World} {g n : Nat} {f : Nat → Int} (h : UB w g n f) (i : Nat) (x : Int) : UB (w.setCell ⟨g, i, none⟩ (.int .u64 x)) g n (upd f i x) := by
 unfold UB
 rw [blk_set h, tabU_set]
def lst (n : Nat) (f : Nat → Int) : List Int := (List.range n).map f
theorem lst_len (n : Nat) (f : Nat → Int) : (lst n f).length = n := by simp [lst]
theorem UB.C {w : World} {g n : Nat} {f : Nat → Int} (h : UB w g n f) (hn : n ≤ 1002) : (Kd.int .u64).C w (some ⟨g, 0, none⟩) n (lst n f) := by
 refine Kd.C_of_reads (d := (0 : Int)) ⟨lst_len n f, by omega, fun h0 => ⟨_, rfl, fun j hj => ?_⟩⟩
 have e : (lst n f).getD j 0 = f j := by
  unfold lst
  rw [List.getD_eq_getElem?_getD, List.getElem?_map, List.getElem?_range hj]
  rfl
 rw [e]
 have := h.c hj
 rw [show (⟨g, 0, none⟩ : Addr).add j = ⟨g, j, none⟩ by unfold Addr.add; split <;> simp_all]
 exact this
theorem lst_snoc (n : Nat) (f : Nat → Int) : lst (n + 1) f = lst n f ++ [f n] := by
 unfold lst
 rw [List.range_succ, List.map_append]
 rfl
theorem lst_upd (f : Nat → Int) (i : Nat) (x : Int) : ∀ n, bval (lst n (upd f i x)) = bval (lst n f) + if i < n then (x - f i) * 65536 ^ i else 0
 | 0 => by simp [lst, bval]
 | n + 1 => by
  rw [lst_snoc, lst_snoc, bval_snoc, bval_snoc, lst_upd f i x n, lst_len, lst_len]
  by_cases h : i = n
  ·subst h
   rw [upd_self, if_neg (by omega), if_pos (by omega), Int.sub_mul]
   omega
  ·rw [upd_ne _ _ (fun e => h e.symm)]
   by_cases h2 : i < n
   ·rw [if_pos h2, if_pos (by omega)]
    omega
   ·rw [if_neg h2, if_neg (by omega), Int.add_zero, Int.add_zero]
structure MI (D : List Int) (i : Nat) (f : Nat → Int) : Prop where
 dig : ∀ j, 0 ≤ f j ∧ f j < 65536
 far : ∀ j, i < j → f j = 0
 lo : f i ≤ 1
 val : bval (lst (D.length + 2) f) = 2 * bval (D.take i)
theorem lst_zero : ∀ n, bval (lst n fun _ => 0) = 0
 | 0 => rfl
 | n + 1 => by rw [lst_snoc, bval_snoc, lst_zero n]; simp
theorem MI.start (D : List Int) : MI D 0 fun _ => 0 :=
 ⟨fun _ => by omega, fun _ _ => rfl, by omega, by rw [lst_zero]; simp [bval]⟩
theorem MI.step {D : List Int} {i : Nat} {f : Nat → Int} {x : Int} (h : MI D i f) (hi : i < D.length) (hx : D.getD i 0 = x) (h0 : 0 ≤ x) (h1 : x < 65536) :
  MI D (i + 1) (upd (upd f i ((f i + x * 2) % 65536)) (i + 1) ((f i + x * 2) / 65536)) := by
 have hd := h.dig i
 have hl := h.lo
 obtain ⟨c, hc⟩ : ∃ c, c = f i + x * 2 := ⟨_, rfl⟩
 have hf := h.far (i + 1) (by omega)
 rw [← hc]
 refine ⟨fun j => ?_, fun j hj => ?_, ?_, ?_⟩
 ·by_cases e : j = i + 1
  ·rw [e, upd_self]; omega
  ·rw [upd_ne _ _ e]
   by_cases e2 : j = i
   ·rw [e2, upd_self]; omega
   ·rw [upd_ne _ _ e2]; exact h.dig j
 ·rw [upd_ne _ _ (by omega), upd_ne _ _ (by omega)]
  exact h.far j (by omega)
 ·rw [upd_self]; omega
 ·rw [lst_upd, if_pos (by omega), lst_upd, if_pos (by omega), h.val, upd_ne _ _ (by omega), hf, take_snoc hi 0, bval_snoc, hx]
  rw [List.length_take, Nat.min_eq_left (by omega), Int.pow_succ, Int.mul_add, Int.sub_zero]
  have e : (c / 65536) * (65536 ^ i * 65536) = (c / 65536 * 65536) * 65536 ^ i := by
   rw [Int.mul_assoc, Int.mul_comm (65536 ^ i)]
  have e2 : c / 65536 * 65536 = c - c % 65536 := by omega
  rw [e, e2, Int.add_assoc, ← Int.add_mul, ← Int.mul_assoc]
  congr 2
  omega
structure MS (w wr : World) (p g n c c2 : Nat) (ad at2 : Addr) (F : Nat → Int) : Prop where
 b : Below w.heap.size w wr
 q0 : wr.heap[p]? = some (.cells #[.bool false, .slice (some ad) n c] 111 (0, 0))
 q1 : wr.heap[p + 1]? = some (.cells #[.bool false, .slice (some at2) 1 c2] 111 (0, 0))
 q2 : wr.heap[p + 2]? = some (.cells #[.bool false, .slice none 0 0] 111 (0, 0))
 f : UB wr g (n + 2) F
 hp : w.heap.size ≤ p
 hg : w.heap.size ≤ g
namespace MS
variable {w wr : World} {p g n c c2 : Nat} {ad at2 : Addr} {F : Nat → Int}
theorem set (h : MS w wr p g n c c2 ad at2 F) (i : Nat) (x : Int) : MS w (wr.setCell ⟨g, i, none⟩ (.int .u64 x)) p g n c c2 ad at2 (upd F i x) :=
 have hf : wr.heap[g]? = some (.cells (tabU (n + 2) F) 145 (0, 0)) := h.f
 ⟨h.b.setCell h.hg _, blk_far h.q0 (ty_ne h.q0 hf (by decide)) _, blk_far h.q1 (ty_ne h.q1 hf (by decide)) _, blk_far h.q2 (ty_ne h.q2 hf (by decide)) _, h.f.set i x, h.hp, h.hg⟩
theorem drewN (h : MS w wr p g n c c2 ad at2 F) (m : Nat) : MS w (wr.drewN m) p g n c c2 ad at2 F :=
 ⟨pw_below_drewN h.b m, h.q0, h.q1, h.q2, h.f, h.hp, h.hg⟩
end MS
end Go.Proofs.Ytelabmhhnpfegaa.Hand
end
