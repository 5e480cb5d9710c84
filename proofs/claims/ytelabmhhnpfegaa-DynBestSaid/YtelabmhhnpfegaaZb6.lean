/- Texts Mo Mp, cut to what is used. -/
import Derived.Test.YtelabmhhnpfegaaZa0
import Derived.Test.YtelabmhhnpfegaaZa3
set_option linter.unusedVariables false
set_option linter.unusedSimpArgs false
section
namespace Go.Proofs.Ytelabmhhnpfegaa.PDynCells
open Go.RowKit Go.Proofs.YtelabmhhnpfegaaW.PrintWords Go.Proofs.YtelabmhhnpfegaaW.PrintLast Go.Proofs.YtelabmhhnpfegaaW.PrintMore
attribute [local go_sem] max2_int min2_int max_two min_two max_three min_three max_four min_four
theorem info29 : (Try.prog.info? 29).map (fun i => (i.zero, i.size, i.bytes)) = some (some (.slice none 0 0), 1, 24) := by kernel_rfl
mutual
def secateurref13_orders.l0 : Nat → List Int → Int → List (List Int) → Int → Option ((List (List Int)))
 | 0, _, _, _, _ => none
 | k + 1, x0, x1, x5, x6 => if x6 < x1 then (secateurref13_orders.l1 k x0 x1 x5 x6 false 0) else (some x5)
def secateurref13_orders.l1 : Nat → List Int → Int → List (List Int) → Int → Bool → Int → Option ((List (List Int)))
 | 0, _, _, _, _, _, _ => none
 | k + 1, x0, x1, x5, x6, x7, x8 => if x8 < (x0.length : Int) then (if x7 = true then (secateurref13_orders.l1 k x0 x1 x5 x6 true (wrap64 (x8 + 1))) else (if 0 ≤ x8 then (secateurref13_orders.l1 k x0 x1 x5 x6 ((rd x0 x8) == x6) (wrap64 (x8 + 1))) else (none))) else (if x7 = true then (secateurref13_orders.l0 k x0 x1 x5 (wrap64 (x6 + 1))) else (if ([] : List Int).length + x0.length < 17592186044416 then ((some (([] : List Int) ++ x0 : List Int)).bind fun y276 => (if y276.length < 17592186044416 then ((secateurref13_orders.f k (y276 ++ [x6]) x1).bind fun t282 => (if x5.length + t282.length < 5864062014805 then (secateurref13_orders.l0 k x0 x1 (x5 ++ t282) (wrap64 (x6 + 1))) else (none))) else (none))) else (none)))
def secateurref13_orders.f : Nat → List Int → Int → Option ((List (List Int)))
 | 0, _, _ => none
 | k + 1, l0, a1 => if (l0.length : Int) = a1 then (some (([l0] : List (List Int)))) else (secateurref13_orders.l0 k l0 a1 ([] : List (List Int)) 0)
end
theorem secateurref13_orders.mono_l : ∀ k, (∀ y0 y1, LeO (secateurref13_orders.f k y0 y1) (secateurref13_orders.f (k + 1) y0 y1)) ∧ (∀ y0 y1 y2 y3, LeO (secateurref13_orders.l0 k y0 y1 y2 y3) (secateurref13_orders.l0 (k + 1) y0 y1 y2 y3)) ∧ (∀ y0 y1 y2 y3 y4 y5, LeO (secateurref13_orders.l1 k y0 y1 y2 y3 y4 y5) (secateurref13_orders.l1 (k + 1) y0 y1 y2 y3 y4 y5))
 | 0 => ⟨fun _ _ r h => by simp [secateurref13_orders.f] at h, fun _ _ _ _ r h => by simp [secateurref13_orders.l0] at h, fun _ _ _ _ _ _ r h => by simp [secateurref13_orders.l1] at h⟩
 | k + 1 => by
  obtain ⟨ih0, ih1, ih2⟩ := secateurref13_orders.mono_l k
  refine ⟨?_, ?_, ?_⟩
  ·intro y0 y1
   unfold secateurref13_orders.f
   repeat' first
   | (with_reducible exact ih0 _ _)
   | (with_reducible exact ih1 _ _ _ _)
   | (with_reducible exact ih2 _ _ _ _ _ _)
   | (with_reducible exact LeO.refl _)
   | (with_reducible exact LeO.none _)
   | (with_reducible refine LeO.ite ?_ ?_)
   | (with_reducible refine LeO.bind ?_ (fun _ => ?_))
   | exact ih0 _ _
   | exact ih1 _ _ _ _
   | exact ih2 _ _ _ _ _ _
   | exact LeO.none _
   | refine LeO.ite ?_ ?_
   | refine LeO.bind ?_ (fun _ => ?_)
  ·intro y0 y1 y2 y3
   unfold secateurref13_orders.l0
   repeat' first
   | (with_reducible exact ih0 _ _)
   | (with_reducible exact ih1 _ _ _ _)
   | (with_reducible exact ih2 _ _ _ _ _ _)
   | (with_reducible exact LeO.refl _)
   | (with_reducible exact LeO.none _)
   | (with_reducible refine LeO.ite ?_ ?_)
   | (with_reducible refine LeO.bind ?_ (fun _ => ?_))
   | exact ih0 _ _
   | exact ih1 _ _ _ _
   | exact ih2 _ _ _ _ _ _
   | exact LeO.none _
   | refine LeO.ite ?_ ?_
   | refine LeO.bind ?_ (fun _ => ?_)
  ·intro y0 y1 y2 y3 y4 y5
   unfold secateurref13_orders.l1
   repeat' first
   | (with_reducible exact ih0 _ _)
   | (with_reducible exact ih1 _ _ _ _)
   | (with_reducible exact ih2 _ _ _ _ _ _)
   | (with_reducible exact LeO.refl _)
   | (with_reducible exact LeO.none _)
   | (with_reducible refine LeO.ite ?_ ?_)
   | (with_reducible refine LeO.bind ?_ (fun _ => ?_))
   | exact ih0 _ _
   | exact ih1 _ _ _ _
   | exact ih2 _ _ _ _ _ _
   | exact LeO.none _
   | refine LeO.ite ?_ ?_
   | refine LeO.bind ?_ (fun _ => ?_)
theorem secateurref13_orders.mono : ∀ a0 a1 k, LeO (secateurref13_orders.f k a0 a1) (secateurref13_orders.f (k + 1) a0 a1) := by
 intro a0 a1 k
 obtain ⟨ih0, ih1, ih2⟩ := secateurref13_orders.mono_l k
 exact ih0 a0 a1
set_option maxHeartbeats 8000000 in
set_option maxRecDepth 100000 in
theorem secateurref13_orders.calls (k : Nat) : ∀ (P0_ : Nat → Prop) (A0 : Option Addr) (c0 : Nat) (l0 : List Int) (a1 : Int) (r : List (List Int)) (w : World) (hs0 : Kd.V (Kd.int .i64) 3 w w.heap.size (fun k_ => P0_ k_) (.slice A0 l0.length c0) l0) (h : secateurref13_orders.f k l0 a1 = some r),
  Calls Try.prog 95 #[.slice A0 l0.length c0, .int .i64 a1] w fun e w' => ∃ v0_ : Value, e = .returned (v0_) ∧ Kd.N (Kd.slice 3 (Kd.int .i64)) 29 w' w.heap.size (fun k_ => (P0_ k_ ∨ w.heap.size ≤ k_)) v0_ r ∧ Below w.heap.size w w' := by
 induction k using Nat.strongRecOn with
 | _ k ih =>
 intro P0_ A0 c0 l0 a1 r w hs0 h
 cases k with
 | zero => exact absurd h (by simp [secateurref13_orders.f])
 | succ k =>
 simp only [secateurref13_orders.f] at h
 have HO0 := Aside0.mk (show Kd.V (Kd.int .i64) 3 w w.heap.size (fun k_ => (P0_ k_ ∨ w.heap.size ≤ k_)) (.slice A0 l0.length c0) l0 from Kd.V_mono hs0 (fun k_ hk => .inl hk))
 have HB := Aside0.mk (Below.refl w.heap.size w)
 have H : (if (l0.length : Int) = a1 then (some (([l0] : List (List Int)))) else (secateurref13_orders.l0 k l0 a1 ([] : List (List Int)) 0)) = some r := h
 clear h
 by_cases c3 : (l0.length : Int) = a1
 ·rw [if_pos c3] at H
  have c3b0 : ((l0.length : Int) == a1) = true := beq_iff_eq.mpr c3
  have c3b1 : ((l0.length : Int) != a1) = false := bne_eq_false_iff_eq.mpr c3
  clear c3
  obtain ⟨y272, hy272⟩ : ∃ y_ : List (List Int), y_ = (([l0] : List (List Int))) := ⟨_, rfl⟩
  replace H : (some y272) = some r := by first | (rw [hy272]; with_reducible exact H) | (have H2_ := (Option.bind_some _ _).symm.trans H; rw [hy272]; with_reducible exact H2_) | (have H2_ := (Option.bind_some _ _).symm.trans H; with_reducible exact H2_) | with_reducible exact H | (rw [hy272]; exact H) | exact H
  have Ny272 := Aside0.mk hy272
  clear hy272
  obtain rfl := Option.some.inj H
  go_enter Try.func95, Try.ntmps95
  go_wp2_with (first | ((with_reducible refine gate_dst (N := 16) rfl ?_); refine Kd.N_lit (Kd.slice 3 (Kd.int .i64)) _ 29 ?hg (N' := 16) ?hd (xs := ([l0] : List (List Int))) (inner := [.slice A0 l0.length c0]) (ok := (fun k_ => (P0_ k_ ∨ w.heap.size ≤ k_))) (okp := (fun k_ => (P0_ k_ ∨ w.heap.size ≤ k_))) ?hr ?hp (fun _ hk => hk) ((show ∀ k_, w.heap.size ≤ k_ → (fun k_ => (P0_ k_ ∨ w.heap.size ≤ k_)) k_ from fun k_ hk => (.inr (Nat.le_trans (below_size (by repeat (first | (with_reducible first | exact HB.out | apply below_alloc | apply pw_below_drewN | apply below_drew1) | exact HB.out))) hk))) _ (Nat.le_refl _)) (Below.refl _ _) (Nat.le_refl _) (by simp) ?_; (case hd => rfl); (case hg => rfl); (case hr => first | (go_simp; done) | (go_simp; rfl)); (case hp => exact (Reps.one (show Kd.FK (Kd.slice 3 (Kd.int .i64)) _ _ l0 [.slice A0 l0.length c0] from (Kd.FK_slice_mk (Kd.V_reads' (Kd.V_mono (ok' := (fun k_ => (P0_ k_ ∨ w.heap.size ≤ k_))) (HO0.out) (fun k_ hk => hk))).2.1 (Kd.V_F (Kd.V_mono (ok' := (fun k_ => (P0_ k_ ∨ w.heap.size ≤ k_))) (HO0.out) (fun k_ hk => hk))))) (Reps.none _ _))); intro v273 w4 ho5 hb hg_ hnew_; clear hg_ hnew_; (first | rw [← Ny272.out] at ho5 | (simp only [Int.reduceToNat] at ho5; rw [← Ny272.out] at ho5)); have n0_ := Aside0.mk (Kd.V_elder' (by (with_reducible repeat (first | apply Kd.V_alloc | apply Kd.V_drewN | apply Kd.V_drew)); exact HO0.out) (Kd.N_base ho5) hb); have n1_ := Aside0.mk (Kd.N_lower ho5 (below_size (by repeat (first | (with_reducible first | exact HB.out | apply below_alloc | apply pw_below_drewN | apply below_drew1) | exact HB.out)))); have n2_ := Aside0.mk (below_step (by repeat (first | (with_reducible first | exact HB.out | apply below_alloc | apply pw_below_drewN | apply below_drew1) | exact HB.out)) hb); clear HO0; clear HB; have HO0 := n0_; have HO274 := n1_; have HB := n2_; clear n0_ n1_ n2_; clear hb ho5))
  go_ret
  exact ⟨_, by first | rfl | (simp [errW_none, errW_some] <;> rfl) | (simp [*, errW_none, errW_some] <;> rfl), by (with_reducible repeat (first | apply Kd.N_alloc | apply Kd.N_drewN | apply Kd.N_drew)); exact HO274.out, by repeat (first | (with_reducible first | exact HB.out | apply below_alloc | apply pw_below_drewN | apply below_drew1) | exact HB.out)⟩
 ·rw [if_neg c3] at H
  have c3b0 : ((l0.length : Int) == a1) = false := beq_eq_false_iff_ne.mpr c3
  have c3b1 : ((l0.length : Int) != a1) = true := bne_iff_ne.mpr c3
  have H' := Aside0.mk H
  clear H
  go_enter Try.func95, Try.ntmps95
  go_wp2
  go_loopg [5, 6] k (fun kq v5 v6 w' => ∃ (x5_1 : List (List Int)) (x6_1 : Int), v6 = .int .i64 x6_1 ∧ Aside0 (secateurref13_orders.l0 kq l0 a1 x5_1 x6_1 = some r) ∧ Aside0 (kq ≤ k) ∧ Aside0 (Kd.V (Kd.int .i64) 3 w' w.heap.size (fun k_ => (P0_ k_ ∨ w.heap.size ≤ k_) ∧ some k_ ≠ (v5 : Value).ownBlock) (.slice A0 l0.length c0) l0) ∧ Aside0 (Kd.N (Kd.slice 3 (Kd.int .i64)) 29 w' w.heap.size (fun k_ => (P0_ k_ ∨ w.heap.size ≤ k_)) v5 x5_1) ∧ Aside0 (Below w.heap.size w w'))
  case atStart => exact ⟨(([] : List (List Int))), (0), (by first | rfl | (simp; done) | (simp [*]; done)), H', ⟨Nat.le_refl _⟩, ⟨by (with_reducible repeat (first | apply Kd.V_alloc | apply Kd.V_drewN | apply Kd.V_drew)); exact Kd.V_mono HO0.out (fun _ hk => ⟨hk, (by simp [Value.ownBlock])⟩)⟩, ⟨by first | exact Kd.S_nil _ _ _ _ _ | exact Kd.N_nil _ _ _ _ _ | exact Kd.V_nil _ _ _ _ _ | exact Kd.Q_nil _ _ _ _ _ | exact Kd.R_nil _ _ _ _ _⟩, ⟨by repeat (first | (with_reducible first | exact HB.out | apply below_alloc | apply pw_below_drewN | apply below_drew1) | exact HB.out)⟩⟩
  case round =>
   clear H'
   try clear p2
   try clear c3
   try clear c3b0
   try clear c3b1
   obtain ⟨x5_1, x6_1, rfl, HA, HK1, HO_0, HO_5, HB⟩ := hrel
   cases gk with
   | zero => exact absurd HA.out (by simp [secateurref13_orders.l0])
   | succ k1 =>
    have H := HA.out
    clear HA
    simp only [secateurref13_orders.l0] at H
    by_cases c6 : x6_1 < a1
    ·rw [if_pos c6] at H
     have c6b0 : decide (x6_1 < a1) = true := decide_eq_true c6
     clear c6
     have H' := Aside0.mk H
     clear H
     go_wp2
     go_loopg [7, 8] k1 (fun kq v7 v8 w' => ∃ (x7_2 : Bool) (x8_2 : Int), v7 = .bool x7_2 ∧ v8 = .int .i64 x8_2 ∧ Aside0 (secateurref13_orders.l1 kq l0 a1 x5_1 x6_1 x7_2 x8_2 = some r) ∧ Aside0 (kq ≤ k1) ∧ Aside0 (Kd.V (Kd.int .i64) 3 w' w.heap.size (fun k_ => (P0_ k_ ∨ w.heap.size ≤ k_) ∧ some k_ ≠ (u5 : Value).ownBlock) (.slice A0 l0.length c0) l0) ∧ Aside0 (Kd.N (Kd.slice 3 (Kd.int .i64)) 29 w' w.heap.size (fun k_ => (P0_ k_ ∨ w.heap.size ≤ k_)) u5 x5_1) ∧ Aside0 (Below w.heap.size w w'))
     case atStart => exact ⟨(false), (0), (by first | rfl | (simp; done) | (simp [*]; done)), (by first | rfl | (simp; done) | (simp [*]; done)), H', ⟨Nat.le_refl _⟩, ⟨by (with_reducible repeat (first | apply Kd.V_alloc | apply Kd.V_drewN | apply Kd.V_drew)); exact HO_0.out⟩, ⟨by (with_reducible repeat (first | apply Kd.N_alloc | apply Kd.N_drewN | apply Kd.N_drew)); exact HO_5.out⟩, ⟨by repeat (first | (with_reducible first | exact HB.out | apply below_alloc | apply pw_below_drewN | apply below_drew1) | exact HB.out)⟩⟩
     case round =>
      clear H'
      try clear p2
      try clear c3
      try clear c3b0
      try clear c3b1
      try clear c6
      try clear c6b0
      try clear p2
      obtain ⟨x7_2, x8_2, rfl, rfl, HA, HK2, HO_0, HO_5, HB⟩ := hrel
      cases gk with
      | zero => exact absurd HA.out (by simp [secateurref13_orders.l1])
      | succ k2 =>
       have H := HA.out
       clear HA
       simp only [secateurref13_orders.l1] at H
       by_cases c7 : x8_2 < (l0.length : Int)
       ·rw [if_pos c7] at H
        have c7b0 : decide (x8_2 < (l0.length : Int)) = true := decide_eq_true c7
        clear c7
        by_cases c8 : x7_2 = true
        ·subst c8
         have H1 : (secateurref13_orders.l1 k2 l0 a1 x5_1 x6_1 true (wrap64 (x8_2 + 1))) = some r := by rw [if_pos rfl] at H; exact H
         clear H
         have H := H1
         clear H1
         have H' := Aside0.mk H
         clear H
         go_wp2
         go_roundg k2
         case measure => have := HK1.out; have := HK2.out; omega
         case rel => exact ⟨(true), (wrap64 (x8_2 + 1)), (by first | rfl | (simp; done) | (simp [*]; done)), (by first | rfl | (simp; done) | (simp [*]; done)), H', ⟨by have := HK1.out; have := HK2.out; omega⟩, ⟨by (with_reducible repeat (first | apply Kd.V_alloc | apply Kd.V_drewN | apply Kd.V_drew)); exact HO_0.out⟩, ⟨by (with_reducible repeat (first | apply Kd.N_alloc | apply Kd.N_drewN | apply Kd.N_drew)); exact HO_5.out⟩, ⟨by repeat (first | (with_reducible first | exact HB.out | apply below_alloc | apply pw_below_drewN | apply below_drew1) | exact HB.out)⟩⟩
        ·replace c8 := Bool.eq_false_iff.mpr c8
         subst c8
         have H1 : (if 0 ≤ x8_2 then (secateurref13_orders.l1 k2 l0 a1 x5_1 x6_1 ((rd l0 x8_2) == x6_1) (wrap64 (x8_2 + 1))) else (none)) = some r := by rw [if_neg (show ¬ (false = true) by decide)] at H; exact H
         clear H
         have H := H1
         clear H1
         by_cases c9 : 0 ≤ x8_2
         ·rw [if_pos c9] at H
          have c9b0 : decide (0 ≤ x8_2) = true := decide_eq_true c9
          clear c9
          have H' := Aside0.mk H
          clear H
          have p275 : 0 ≤ (x8_2 : Int) := of_decide_eq_true (by first | (with_reducible assumption) | assumption)
          have q275 : x8_2 < (l0.length : Int) := of_decide_eq_true (by first | (with_reducible assumption) | assumption)
          obtain ⟨ad275, e275, hx275_0⟩ := Kd.at_int (Kd.V_reads' HO_0.out).2.2 x8_2 p275 q275
          cases e275
          replace p275 := eq_true p275
          replace q275 := eq_true q275
          go_wp2
          go_roundg k2
          case measure => have := HK1.out; have := HK2.out; omega
          case rel => exact ⟨(((rd l0 x8_2) == x6_1)), (wrap64 (x8_2 + 1)), (by first | rfl | (simp; done) | (simp [*]; done)), (by first | rfl | (simp; done) | (simp [*]; done)), H', ⟨by have := HK1.out; have := HK2.out; omega⟩, ⟨by (with_reducible repeat (first | apply Kd.V_alloc | apply Kd.V_drewN | apply Kd.V_drew)); exact HO_0.out⟩, ⟨by (with_reducible repeat (first | apply Kd.N_alloc | apply Kd.N_drewN | apply Kd.N_drew)); exact HO_5.out⟩, ⟨by repeat (first | (with_reducible first | exact HB.out | apply below_alloc | apply pw_below_drewN | apply below_drew1) | exact HB.out)⟩⟩
         ·rw [if_neg c9] at H
          exact absurd H (by simp)
       ·rw [if_neg c7] at H
        have c7b0 : decide (x8_2 < (l0.length : Int)) = false := decide_eq_false c7
        clear c7
        by_cases c10 : x7_2 = true
        ·subst c10
         have H1 : (secateurref13_orders.l0 k2 l0 a1 x5_1 (wrap64 (x6_1 + 1))) = some r := by rw [if_pos rfl] at H; exact H
         clear H
         have H := H1
         clear H1
         have H' := Aside0.mk H
         clear H
         go_wp2
         go_roundg k2
         case measure => have := HK1.out; have := HK2.out; omega
         case rel => exact ⟨(x5_1), (wrap64 (x6_1 + 1)), (by first | rfl | (simp; done) | (simp [*]; done)), H', ⟨by have := HK1.out; have := HK2.out; omega⟩, ⟨by (with_reducible repeat (first | apply Kd.V_alloc | apply Kd.V_drewN | apply Kd.V_drew)); exact HO_0.out⟩, ⟨by (with_reducible repeat (first | apply Kd.N_alloc | apply Kd.N_drewN | apply Kd.N_drew)); exact HO_5.out⟩, ⟨by repeat (first | (with_reducible first | exact HB.out | apply below_alloc | apply pw_below_drewN | apply below_drew1) | exact HB.out)⟩⟩
        ·replace c10 := Bool.eq_false_iff.mpr c10
         subst c10
         have H1 : (if ([] : List Int).length + l0.length < 17592186044416 then ((some (([] : List Int) ++ l0 : List Int)).bind fun y276 => (if y276.length < 17592186044416 then ((secateurref13_orders.f k2 (y276 ++ [x6_1]) a1).bind fun t282 => (if x5_1.length + t282.length < 5864062014805 then (secateurref13_orders.l0 k2 l0 a1 (x5_1 ++ t282) (wrap64 (x6_1 + 1))) else (none))) else (none))) else (none)) = some r := by rw [if_neg (show ¬ (false = true) by decide)] at H; exact H
         clear H
         have H := H1
         clear H1
         by_cases c11 : ([] : List Int).length + l0.length < 17592186044416
         ·rw [if_pos c11] at H
          have LMc11 := Aside0.mk c11
          clear c11
          obtain ⟨y276, hy276⟩ : ∃ y_ : List Int, y_ = (([] : List Int) ++ l0) := ⟨_, rfl⟩
          replace H : (if y276.length < 17592186044416 then ((secateurref13_orders.f k2 (y276 ++ [x6_1]) a1).bind fun t282 => (if x5_1.length + t282.length < 5864062014805 then (secateurref13_orders.l0 k2 l0 a1 (x5_1 ++ t282) (wrap64 (x6_1 + 1))) else (none))) else (none)) = some r := by first | (rw [hy276]; with_reducible exact H) | (have H2_ := (Option.bind_some _ _).symm.trans H; rw [hy276]; with_reducible exact H2_) | (have H2_ := (Option.bind_some _ _).symm.trans H; with_reducible exact H2_) | with_reducible exact H | (rw [hy276]; exact H) | exact H
          have Ny276 := Aside0.mk hy276
          clear hy276
          by_cases c12 : y276.length < 17592186044416
          ·rw [if_pos c12] at H
           have LMc12 := Aside0.mk c12
           clear c12
           obtain ⟨y279, hy279⟩ : ∃ y_ : List Int, y_ = (y276 ++ [x6_1]) := ⟨_, rfl⟩
           replace H : ((secateurref13_orders.f k2 y279 a1).bind fun t282 => (if x5_1.length + t282.length < 5864062014805 then (secateurref13_orders.l0 k2 l0 a1 (x5_1 ++ t282) (wrap64 (x6_1 + 1))) else (none))) = some r := by first | (rw [hy279]; with_reducible exact H) | (have H2_ := (Option.bind_some _ _).symm.trans H; rw [hy279]; with_reducible exact H2_) | (have H2_ := (Option.bind_some _ _).symm.trans H; with_reducible exact H2_) | with_reducible exact H | (rw [hy279]; exact H) | exact H
           have Ny279 := Aside0.mk hy279
           clear hy279
           replace H := Option.bind_eq_some_iff.mp H
           obtain ⟨t282, A130, H⟩ := H
           replace H : (if x5_1.length + t282.length < 5864062014805 then (secateurref13_orders.l0 k2 l0 a1 (x5_1 ++ t282) (wrap64 (x6_1 + 1))) else (none)) = some r := H
           have A13 := Aside0.mk A130
           clear A130
           by_cases c14 : x5_1.length + t282.length < 5864062014805
           ·rw [if_pos c14] at H
            have LMc14 := Aside0.mk c14
            clear c14
            obtain ⟨y285, hy285⟩ : ∃ y_ : List (List Int), y_ = (x5_1 ++ t282) := ⟨_, rfl⟩
            replace H : (secateurref13_orders.l0 k2 l0 a1 y285 (wrap64 (x6_1 + 1))) = some r := by first | (rw [hy285]; with_reducible exact H) | (have H2_ := (Option.bind_some _ _).symm.trans H; rw [hy285]; with_reducible exact H2_) | (have H2_ := (Option.bind_some _ _).symm.trans H; with_reducible exact H2_) | with_reducible exact H | (rw [hy285]; exact H) | exact H
            have Ny285 := Aside0.mk hy285
            clear hy285
            have H' := Aside0.mk H
            clear H
            go_wp2_with (first | ((with_reducible refine gate_builtin (b := .append) (xs := #[.tmp 38, .tmp 39]) rfl ?_); at_builtin; refine Kd.R_append_rows (Kd.int .i64) (w0 := w) w.heap.size rfl (.tmp 38) (.tmp 39) 29 3 (.int .i64 0) 8 rfl Try.underlying29 info3 rfl (by decide) (by omega) (.slice none 0 0) ([] : List Int) l0 _ _ _ (fun k_ => (w.heap.size ≤ k_)) (fun _ => False) rfl rfl ?aO ?aR (fun _ _ h => h) (fun _ h => h.elim) ?aF ?aB ?aS ?aL ?_; (case aR => repeat (first | exact (Kd.V_reads' HO_0.out).2.2 | (with_reducible refine Kd.C_alloc ?_ _) | (with_reducible refine Kd.C_drewN ?_ _) | (with_reducible refine Kd.C_drew ?_))); (case aB => exact (by repeat (first | (with_reducible first | exact HB.out | apply below_alloc | apply pw_below_drewN | apply below_drew1) | exact HB.out))); (case aF => exact (fun k_ hk => (Nat.le_trans (below_size (by repeat (first | (with_reducible first | exact HB.out | apply below_alloc | apply pw_below_drewN | apply below_drew1) | exact HB.out))) hk))); (case aO => exact ((Kd.R_nil _ _ _ _ (fun k_ => (w.heap.size ≤ k_))))); (case aS => exact (below_size (by repeat (first | (with_reducible first | exact HB.out | apply below_alloc | apply pw_below_drewN | apply below_drew1) | exact HB.out)))); (case aL => have := LMc11.out; omega); intro v277 w15 ho hb hg hat; rw [← Ny276.out] at ho; have n0_ := Aside0.mk (Kd.V_afterv (Kd.V_apart_nil (by (with_reducible repeat (first | apply Kd.V_alloc | apply Kd.V_drewN | apply Kd.V_drew)); exact HO_0.out)) hg hat); have n1_ := Aside0.mk (Kd.N_afterv (Kd.N_apart_nil (by (with_reducible repeat (first | apply Kd.N_alloc | apply Kd.N_drewN | apply Kd.N_drew)); exact HO_5.out)) hg hat); have n2_ := Aside0.mk (hb); have n3_ := Aside0.mk (ho); clear HO_0; clear HO_5; clear HB; have HO_0 := n0_; have HO_5 := n1_; have HB := n2_; have HO278 := n3_; clear n0_ n1_ n2_ n3_; clear ho hb hg hat) | ((with_reducible refine gate_builtin (b := .append) (xs := #[.tmp 41, .tmp 43]) rfl ?_); at_builtin; refine Kd.R_append (Kd.int .i64) (w0 := w) w.heap.size rfl (.tmp 41) (.tmp 43) 29 3 (.int .i64 0) 8 rfl Try.underlying29 info3 rfl (by decide) (by omega) v277 y276 x6_1 [.int .i64 x6_1] (fun k_ => (w.heap.size ≤ k_)) (fun _ => False) rfl rfl ?aP (fun _ hk => hk.elim) ?aF ?aO ?aB ?aS ?aL ?_; (case aP => exact rfl); (case aB => exact (by repeat (first | (with_reducible first | exact HB.out | apply below_alloc | apply pw_below_drewN | apply below_drew1) | exact HB.out))); (case aF => exact (fun k_ hk => (Nat.le_trans (below_size (by repeat (first | (with_reducible first | exact HB.out | apply below_alloc | apply pw_below_drewN | apply below_drew1) | exact HB.out))) hk))); (case aO => exact (by (with_reducible repeat (first | apply Kd.R_alloc | apply Kd.R_drewN | apply Kd.R_drew)); exact HO278.out)); (case aS => exact (below_size (by repeat (first | (with_reducible first | exact HB.out | apply below_alloc | apply pw_below_drewN | apply below_drew1) | exact HB.out)))); (case aL => have := LMc12.out; omega); intro v280 w16 ho hb hg hat; rw [← Ny279.out] at ho; have n0_ := Aside0.mk (Kd.V_afterv (ok := (fun k_ => (P0_ k_ ∨ w.heap.size ≤ k_) ∧ some k_ ≠ (u5 : Value).ownBlock)) (by (with_reducible repeat (first | apply Kd.V_alloc | apply Kd.V_drewN | apply Kd.V_drew)); exact HO_0.out) hg hat); have n1_ := Aside0.mk (Kd.N_afterv (ok := (fun k_ => (P0_ k_ ∨ w.heap.size ≤ k_))) (by (with_reducible repeat (first | apply Kd.N_alloc | apply Kd.N_drewN | apply Kd.N_drew)); exact HO_5.out) hg hat); have n2_ := Aside0.mk (hb); have n3_ := Aside0.mk (ho); clear HO_0; clear HO_5; clear HB; clear HO278; have HO_0 := n0_; have HO_5 := n1_; have HB := n2_; have HO281 := n3_; clear n0_ n1_ n2_ n3_; clear ho hb hg hat; obtain ⟨Ao17, co17, eo17⟩ := Kd.R_slice HO281.out; subst eo17) | ((with_reducible refine gate_callee (f := 95) rfl ?_); refine goesL_ (some 47) rfl rfl Try.func95 (by kernel_rfl) rfl #[.slice Ao17 y279.length co17, .int .i64 a1] rfl (by (try simp only [List.map_toArray, List.map_cons, List.map_nil]); first | done | rfl | (simp only [List.length_drop, List.length_take]; rfl)) ?_; (with_reducible refine (ih k2 (by have := HK1.out; have := HK2.out; omega) (fun k_ => some k_ = (.slice Ao17 y279.length co17 : Value).ownBlock) _ _ y279 a1 t282 _ ?side1 A13.out).mono ?_); (case side1 => exact Kd.R_V (Kd.R_tight rfl (Kd.R_apart' (HO281.out) (Kd.N_typed HO_5.out) (by decide)))); rintro e w18 ⟨v283, rfl, ho0, hb⟩; refine ⟨_, rfl, ?_⟩; have n0_ := Aside0.mk (Kd.V_elder' (by (with_reducible repeat (first | apply Kd.V_alloc | apply Kd.V_drewN | apply Kd.V_drew)); exact HO_0.out) (Kd.N_base ho0) hb); have n1_ := Aside0.mk (Kd.N_elder' (by (with_reducible repeat (first | apply Kd.N_alloc | apply Kd.N_drewN | apply Kd.N_drew)); exact HO_5.out) (Kd.N_base ho0) hb); have n2_ := Aside0.mk (Kd.R_below (by (with_reducible repeat (first | apply Kd.R_alloc | apply Kd.R_drewN | apply Kd.R_drew)); exact HO281.out) hb); have n3_ := Aside0.mk (Kd.N_lower (Kd.N_mono (ok' := fun k_ => (P0_ k_ ∨ w.heap.size ≤ k_) ∧ some k_ ≠ (u5 : Value).ownBlock) ho0 (fun k_ hk_ => ⟨Or.elim hk_ (fun hs_ => (.inr (((Kd.R_apart' (HO281.out) (Kd.N_typed HO_5.out) (by decide)).1 k_ hs_.symm).1))) (fun hn_ => (.inr (Nat.le_trans (below_size (by repeat (first | (with_reducible first | exact HB.out | apply below_alloc | apply pw_below_drewN | apply below_drew1) | exact HB.out))) hn_))), Or.elim hk_ (fun hs_ => ((Kd.R_apart' (HO281.out) (Kd.N_typed HO_5.out) (by decide)).1 k_ hs_.symm).2) (fun hn_ => (Kd.fresh' (Kd.N_lt (by (with_reducible repeat (first | apply Kd.N_alloc | apply Kd.N_drewN | apply Kd.N_drew)); exact HO_5.out)) k_ hn_))⟩)) (below_size (by repeat (first | (with_reducible first | exact HB.out | apply below_alloc | apply pw_below_drewN | apply below_drew1) | exact HB.out)))); have n4_ := Aside0.mk (below_step (by repeat (first | (with_reducible first | exact HB.out | apply below_alloc | apply pw_below_drewN | apply below_drew1) | exact HB.out)) hb); clear HO_0; clear HO_5; clear HO281; clear HB; have HO_0 := n0_; have HO_5 := n1_; have HO281 := n2_; have HO284 := n3_; have HB := n4_; clear n0_ n1_ n2_ n3_ n4_; (try clear hb); (try clear hb2); (try clear hk); (try clear hi); (try clear ho0); obtain ⟨Ao20, co20, eo20⟩ := Kd.N_slice HO284.out; subst eo20) | ((with_reducible refine gate_builtin (b := .append) (xs := #[.tmp 48, .tmp 49]) rfl ?_); at_builtin; refine Kd.N_append_rows (Kd.slice 3 (Kd.int .i64)) (w0 := w) w.heap.size rfl (.tmp 48) (.tmp 49) 117 29 (.slice none 0 0) 24 rfl Try.underlying117 info29 rfl (by decide) (by omega) u5 x5_1 t282 _ _ _ (fun k_ => (P0_ k_ ∨ w.heap.size ≤ k_)) (fun k_ => ((fun k_ => (P0_ k_ ∨ w.heap.size ≤ k_))) k_ ∧ some k_ ≠ (u5 : Value).ownBlock) rfl rfl ?aO ?aR (fun _ hk => hk) ?aF ?aB ?aS ?aL ?_; (case aR => exact (by skip; exact Kd.N_F (Kd.N_mono (ok' := (fun k_ => ((fun k_ => (P0_ k_ ∨ w.heap.size ≤ k_))) k_ ∧ some k_ ≠ (u5 : Value).ownBlock)) (HO284.out) (fun k_ hk => ⟨hk.1, hk.2⟩)))); (case aB => exact (by repeat (first | (with_reducible first | exact HB.out | apply below_alloc | apply pw_below_drewN | apply below_drew1) | exact HB.out))); (case aF => exact (fun k_ hk => (.inr (Nat.le_trans (below_size (by repeat (first | (with_reducible first | exact HB.out | apply below_alloc | apply pw_below_drewN | apply below_drew1) | exact HB.out))) hk)))); (case aO => exact (by (with_reducible repeat (first | apply Kd.N_alloc | apply Kd.N_drewN | apply Kd.N_drew)); exact Kd.N_mono HO_5.out (fun _ hk => hk.1.1))); (case aS => exact (below_size (by repeat (first | (with_reducible first | exact HB.out | apply below_alloc | apply pw_below_drewN | apply below_drew1) | exact HB.out)))); (case aL => have := LMc14.out; omega); intro v286 w19 ho hb hg hat; rw [← Ny285.out] at ho; have n0_ := Aside0.mk (Kd.V_afterv (ok := (fun k_ => (P0_ k_ ∨ w.heap.size ≤ k_) ∧ some k_ ≠ (.slice Ao17 y279.length co17 : Value).ownBlock ∧ some k_ ≠ (.slice Ao20 t282.length co20 : Value).ownBlock)) (by (with_reducible repeat (first | apply Kd.V_alloc | apply Kd.V_drewN | apply Kd.V_drew)); exact Kd.V_mono HO_0.out (fun _ hk => ⟨⟨hk.1.1.1, ⟨hk.1.2, hk.2⟩⟩, hk.1.1.2⟩)) hg hat); have n1_ := Aside0.mk (Kd.R_over' (by (with_reducible repeat (first | apply Kd.R_alloc | apply Kd.R_drewN | apply Kd.R_drew)); exact HO281.out) (Kd.N_typed (by (with_reducible repeat (first | apply Kd.N_alloc | apply Kd.N_drewN | apply Kd.N_drew)); exact HO_5.out)) (by decide) hg); have n2_ := Aside0.mk (Kd.N_afterv (ok := (fun k_ => (P0_ k_ ∨ w.heap.size ≤ k_))) (by (with_reducible repeat (first | apply Kd.N_alloc | apply Kd.N_drewN | apply Kd.N_drew)); exact HO284.out) hg hat); have n3_ := Aside0.mk (hb); have n4_ := Aside0.mk (ho); clear HO_0; clear HO281; clear HO284; clear HB; clear HO_5; have HO_0 := n0_; have HO281 := n1_; have HO284 := n2_; have HB := n3_; have HO287 := n4_; clear n0_ n1_ n2_ n3_ n4_; clear ho hb hg hat))
            go_roundg k2
            case measure => have := HK1.out; have := HK2.out; omega
            case rel => exact ⟨(y285), (wrap64 (x6_1 + 1)), (by first | rfl | (simp; done) | (simp [*]; done)), H', ⟨by have := HK1.out; have := HK2.out; omega⟩, ⟨by (with_reducible repeat (first | apply Kd.V_alloc | apply Kd.V_drewN | apply Kd.V_drew)); exact Kd.V_mono HO_0.out (fun _ hk => ⟨hk.1.1, hk.2⟩)⟩, ⟨by (with_reducible repeat (first | apply Kd.N_alloc | apply Kd.N_drewN | apply Kd.N_drew)); exact HO287.out⟩, ⟨by repeat (first | (with_reducible first | exact HB.out | apply below_alloc | apply pw_below_drewN | apply below_drew1) | exact HB.out)⟩⟩
           ·rw [if_neg c14] at H
            exact absurd H (by simp)
          ·rw [if_neg c12] at H
           exact absurd H (by simp)
         ·rw [if_neg c11] at H
          exact absurd H (by simp)
    ·rw [if_neg c6] at H
     have c6b0 : decide (x6_1 < a1) = false := decide_eq_false c6
     clear c6
     obtain rfl := Option.some.inj H
     go_wp2
     go_ret
     exact ⟨_, by first | rfl | (simp [errW_none, errW_some] <;> rfl) | (simp [*, errW_none, errW_some] <;> rfl), by (with_reducible repeat (first | apply Kd.N_alloc | apply Kd.N_drewN | apply Kd.N_drew)); exact HO_5.out, by repeat (first | (with_reducible first | exact HB.out | apply below_alloc | apply pw_below_drewN | apply below_drew1) | exact HB.out)⟩
end Go.Proofs.Ytelabmhhnpfegaa.PDynCells
end
section
namespace Go.Proofs.Ytelabmhhnpfegaa.Hand
open Go.RowKit Go.Proofs.YtelabmhhnpfegaaW.PrintWords Go.Proofs.YtelabmhhnpfegaaW.PrintLast Go.Proofs.YtelabmhhnpfegaaW.PrintMore Go.Proofs.Ytelabmhhnpfegaa.PDynCells
def ordsP (n : Nat) : Nat → List Int → List (List Int)
 | 0, head => [head]
 | d + 1, head => (List.range n).flatMap fun (k : Nat) => if (k : Int) ∈ head then [] else ordsP n d (head ++ [(k : Int)])
theorem w64_s (i : Nat) (h : i ≤ 1000) : wrap64 ((i : Int) + 1) = ((i + 1 : Nat) : Int) := by unfold wrap64; omega
theorem ords_len (n : Nat) : ∀ d head, (ordsP n d head).length ≤ n ^ d
 | 0, head => Nat.le_refl _
 | d + 1, head => by
  have key : ∀ l : List Nat, (l.flatMap fun (k : Nat) => if (k : Int) ∈ head then [] else ordsP n d (head ++ [(k : Int)])).length ≤ l.length * n ^ d := fun l => by
   induction l with
   | nil => simp
   | cons a t ih =>
    rw [List.flatMap_cons, List.length_append, List.length_cons, Nat.succ_mul]
    have h1 : (if (a : Int) ∈ head then [] else ordsP n d (head ++ [(a : Int)])).length ≤ n ^ d := by
     split
     ·exact Nat.zero_le _
     ·exact ords_len n d _
    omega
  have := key (List.range n)
  rw [List.length_range] at this
  rw [ordsP, Nat.pow_succ, Nat.mul_comm]
  exact this
theorem l1_look (x0 : List Int) (x1 : Int) (x5 : List (List Int)) (x6 : Int) (hl : x0.length ≤ 1000) : ∀ (r : Nat) (k : Nat) (b : Bool) (i : Nat), i + r = x0.length → secateurref13_orders.l1 (k + r) x0 x1 x5 x6 b (i : Int) = secateurref13_orders.l1 k x0 x1 x5 x6 (b || decide (x6 ∈ x0.drop i)) (x0.length : Int)
 | 0, k, b, i, h => by
  have : i = x0.length := by omega
  subst this
  rw [List.drop_length]
  simp
 | r + 1, k, b, i, h => by
  have ih := l1_look x0 x1 x5 x6 hl r k
  have hi : i < x0.length := by omega
  have hd : x0.drop i = x0.getD i 0 :: x0.drop (i + 1) := by
   rw [List.getD_eq_getElem?_getD, List.getElem?_eq_getElem hi, Option.getD_some]
   exact List.drop_eq_getElem_cons hi
  rw [← Nat.add_assoc, secateurref13_orders.l1, if_pos (by omega), w64_s i (by omega)]
  by_cases hb : b = true
  ·subst hb
   rw [if_pos rfl, ih true (i + 1) (by omega)]
   simp
  ·have hb' : b = false := by simpa using hb
   subst hb'
   rw [if_neg (by decide), if_pos (by omega), ih _ (i + 1) (by omega)]
   congr 1
   rw [hd, Bool.false_or]
   unfold rd
   rw [Int.toNat_natCast, Bool.eq_iff_iff, Bool.or_eq_true, beq_iff_eq, decide_eq_true_eq, decide_eq_true_eq, List.mem_cons]
   constructor
   ·rintro (h | h)
    ·exact .inl h.symm
    ·exact .inr h
   ·rintro (h | h)
    ·exact .inl h.symm
    ·exact .inr h
theorem l0_up {k k' : Nat} (hk : k ≤ k') {y0 : List Int} {y1 : Int} {y2 : List (List Int)} {y3 : Int} {r : List (List Int)} (h : secateurref13_orders.l0 k y0 y1 y2 y3 = some r) : secateurref13_orders.l0 k' y0 y1 y2 y3 = some r :=
 at_rounds (g := fun k => secateurref13_orders.l0 k y0 y1 y2 y3) (fun k => (secateurref13_orders.mono_l k).2.1 _ _ _ _) hk h
theorem f_up {k k' : Nat} (hk : k ≤ k') {y0 : List Int} {y1 : Int} {r : List (List Int)} (h : secateurref13_orders.f k y0 y1 = some r) : secateurref13_orders.f k' y0 y1 = some r :=
 at_rounds (g := fun k => secateurref13_orders.f k y0 y1) (fun k => (secateurref13_orders.mono_l k).1 _ _) hk h
theorem pow8 {n d : Nat} (hn : n ≤ 8) (hd : d ≤ 8) : n ^ d ≤ 16777216 := Nat.le_trans (Nat.pow_le_pow_left hn d) (Nat.le_trans (Nat.pow_le_pow_right (by omega) hd) (by decide))
theorem ords_f (n : Nat) (hn : n ≤ 8) : ∀ d head, head.length + d = n → ∃ K, secateurref13_orders.f K head (n : Int) = some (ordsP n d head)
 | 0, head, h => ⟨1, by rw [secateurref13_orders.f, if_pos (by omega)]; rfl⟩
 | d + 1, head, h => by
  have key : ∀ (r j : Nat), j + r = n → ∃ K, ∀ x5 : List (List Int), x5.length ≤ j * n ^ d → secateurref13_orders.l0 K head (n : Int) x5 (j : Int) = some (x5 ++ ((List.range n).drop j).flatMap fun (k : Nat) => if (k : Int) ∈ head then [] else ordsP n d (head ++ [(k : Int)])) := by
   intro r
   induction r with
   | zero =>
    intro j hj
    refine ⟨1, fun x5 _ => ?_⟩
    rw [secateurref13_orders.l0, if_neg (by omega), List.drop_of_length_le (by rw [List.length_range]; omega)]
    simp
   | succ r ih =>
    intro j hj
    obtain ⟨K1, h1⟩ := ih (j + 1) (by omega)
    obtain ⟨K2, h2⟩ := ords_f n hn d (head ++ [(j : Int)]) (by rw [List.length_append, List.length_singleton]; omega)
    obtain ⟨K, hK⟩ : ∃ K, K = max K1 K2 := ⟨_, rfl⟩
    have hdr : (List.range n).drop j = j :: (List.range n).drop (j + 1) := by
     have hjl : j < (List.range n).length := by rw [List.length_range]; omega
     rw [List.drop_eq_getElem_cons hjl, List.getElem_range]
    refine ⟨(K + 1 + head.length) + 1, fun x5 hx5 => ?_⟩
    have hlook := l1_look head (n : Int) x5 (j : Int) (by omega) head.length (K + 1) false 0 (by omega)
    rw [secateurref13_orders.l0, if_pos (by omega)]
    rw [show ((0 : Nat) : Int) = 0 from rfl] at hlook
    rw [hlook, List.drop_zero, Bool.false_or, secateurref13_orders.l1, if_neg (by omega), w64_s j (by omega), hdr, List.flatMap_cons]
    have hp := pow8 (d := d) hn (by omega)
    have hjn : j * n ^ d ≤ 8 * 16777216 := Nat.mul_le_mul (by omega) hp
    by_cases hm : (j : Int) ∈ head
    ·rw [decide_eq_true hm, if_pos rfl, if_pos hm, List.nil_append]
     refine l0_up (show K1 ≤ K by omega) (h1 x5 ?_)
     rw [Nat.succ_mul]
     omega
    ·have hol := ords_len n d (head ++ [(j : Int)])
     rw [decide_eq_false hm, if_neg (by decide), if_neg hm, if_pos (by simp; omega)]
     simp only [List.nil_append, Option.bind_some]
     rw [if_pos (by omega), f_up (show K2 ≤ K by omega) h2]
     simp only [Option.bind_some]
     rw [if_pos (by omega), l0_up (show K1 ≤ K by omega) (h1 (x5 ++ ordsP n d (head ++ [(j : Int)])) (by
      rw [List.length_append, Nat.succ_mul]
      omega)), List.append_assoc]
  obtain ⟨K, hK⟩ := key n 0 (by omega)
  refine ⟨K + 1, ?_⟩
  rw [secateurref13_orders.f, if_neg (by omega)]
  have := hK [] (Nat.zero_le _)
  rw [show ((0 : Nat) : Int) = 0 from rfl, List.drop_zero, List.nil_append] at this
  exact this
theorem mem_ords (n : Nat) : ∀ d head (y : List Int), y.length = head.length + d → y.take head.length = head → y.Nodup → (∀ e ∈ y, 0 ≤ e ∧ e < n) → y ∈ ordsP n d head
 | 0, head, y, h1, h2, _, _ => by
  rw [ordsP, List.mem_singleton, ← h2, List.take_of_length_le (by omega)]
 | d + 1, head, y, h1, h2, h3, h4 => by
  have hl : head.length < y.length := by omega
  obtain ⟨z, hz⟩ : ∃ z, z = y[head.length] := ⟨_, rfl⟩
  have hzb := h4 z (by rw [hz]; exact List.getElem_mem hl)
  obtain ⟨k, hk⟩ : ∃ k : Nat, (k : Int) = z := ⟨z.toNat, by omega⟩
  have htake : y.take (head.length + 1) = head ++ [z] := by
   rw [List.take_succ_eq_append_getElem hl, h2, hz]
  have hno : z ∉ head := fun hm => by
   have h5 : (y.take (head.length + 1)).Nodup := h3.sublist (List.take_sublist _ _)
   rw [htake, List.nodup_append] at h5
   exact h5.2.2 z hm z (List.mem_singleton.2 rfl) rfl
  rw [ordsP, List.mem_flatMap]
  refine ⟨k, List.mem_range.2 (by omega), ?_⟩
  rw [hk, if_neg hno]
  refine mem_ords n d (head ++ [z]) y ?_ ?_ h3 h4
  ·rw [List.length_append, List.length_singleton]
   omega
  ·rw [List.length_append, List.length_singleton]
   exact htake
end Go.Proofs.Ytelabmhhnpfegaa.Hand
end
