-- PRINTED BY print.sh 35421559b90ae4d0a3588c463048766b98c2df88dd9212a6774a882060cdf62d: not written by this session
import Derived.Test.YtelabmhhnpfegaaPHungLeastx0
namespace Go.Proofs.Ytelabmhhnpfegaa.PHungLeast
open Go.RowKit Go.Proofs.YtelabmhhnpfegaaW.PrintWords Go.Proofs.YtelabmhhnpfegaaW.PrintLast Go.Proofs.YtelabmhhnpfegaaW.PrintMore
attribute [local go_sem] max2_int min2_int max_two min_two max_three min_three max_four min_four   -- for this text's walks alone
set_option linter.unusedVariables false
set_option linter.unusedSimpArgs false

-- NOT PRINTED: function 12 (secateurlaw29_table)

-- NOT PRINTED: function 75 (slices_IndexFunc_int64_int64)

-- NOT PRINTED: function 39 (slices_ContainsFunc_int64_int64)

-- NOT PRINTED: function 15 (reduce_Table_Check)

-- NOT PRINTED: function 36 (hung_start)

-- NOT PRINTED: function 70 (hung_work_look)

-- NOT PRINTED: function 71 (hung_search_spread)

-- NOT PRINTED: function 72 (hung_search_nearest)

-- NOT PRINTED: function 73 (hung_search_shift)

-- NOT PRINTED: function 74 (hung_search_turn)

-- NOT PRINTED: function 37 (hung_work_add)

-- NOT PRINTED: function 38 (hung_work_match)

-- NOT PRINTED: function 13 (hung_Solve)

-- NOT PRINTED: function 14 (secateurlaw29_wakes)

/-! ### secateurref29_Least: function 16 -/
mutual
def secateurref29_Least.l0 : Nat → List (List Int) → List (List Bool) → Int → List Bool → Int → Bool → Int → Option (Int × Bool × List Bool)
  | 0, _, _, _, _, _, _, _ => none
  | k + 1, x0, x1, x2, x3, x10, x11, x12 => if x12 < (x0.length : Int) then (if 0 ≤ x12 then (if x12 < (x3.length : Int) then (if rdOf false x3 x12 = true then (secateurref29_Least.j1 k x0 x1 x2 x3 x10 x11 x12 true) else (if 0 ≤ x2 then (if x2 < (x1.length : Int) then (if x12 < ((rd_L3 x1 x2).length : Int) then (secateurref29_Least.j1 k x0 x1 x2 x3 x10 x11 x12 (rdOf false (rd_L3 x1 x2) x12)) else (none)) else (none)) else (none))) else (none)) else (none)) else (some (x10, x11, x3))
def secateurref29_Least.j1 : Nat → List (List Int) → List (List Bool) → Int → List Bool → Int → Bool → Int → Bool → Option (Int × Bool × List Bool)
  | 0, _, _, _, _, _, _, _, _ => none
  | k + 1, x0, x1, x2, x3, x10, x11, x12, x37 => if x37 = true then (secateurref29_Least.l0 k x0 x1 x2 x3 x10 x11 (wrap64 (x12 + 1))) else (if 0 ≤ x12 then (if x12 < (x3.length : Int) then ((secateurref29_Least.f k x0 x1 (wrap64 (x2 + 1)) (x3.set (x12 : Int).toNat true)).bind fun bt185 => ((some (bt185.2.2.set (x12 : Int).toNat false : List Bool)).bind fun y188 => (if bt185.2.1 = true then (if x11 = true then (if 0 ≤ x2 then (if x2 < (x0.length : Int) then (if x12 < ((rd_L1 x0 x2).length : Int) then (if (wrap64 ((rd (rd_L1 x0 x2) x12) + bt185.1)) < x10 then (secateurref29_Least.l0 k x0 x1 x2 y188 (wrap64 ((rd (rd_L1 x0 x2) x12) + bt185.1)) true (wrap64 (x12 + 1))) else (secateurref29_Least.l0 k x0 x1 x2 y188 x10 x11 (wrap64 (x12 + 1)))) else (none)) else (none)) else (none)) else (if 0 ≤ x2 then (if x2 < (x0.length : Int) then (if x12 < ((rd_L1 x0 x2).length : Int) then (secateurref29_Least.l0 k x0 x1 x2 y188 (wrap64 ((rd (rd_L1 x0 x2) x12) + bt185.1)) true (wrap64 (x12 + 1))) else (none)) else (none)) else (none))) else (secateurref29_Least.l0 k x0 x1 x2 y188 x10 x11 (wrap64 (x12 + 1)))))) else (none)) else (none))
def secateurref29_Least.f : Nat → List (List Int) → List (List Bool) → Int → List Bool → Option (Int × Bool × List Bool)
  | 0, _, _, _, _ => none
  | k + 1, l0, l1, a2, l3 => if a2 = (l0.length : Int) then (some (0, true, l3)) else (secateurref29_Least.l0 k l0 l1 a2 l3 0 false 0)
end
theorem secateurref29_Least.mono_l : ∀ k, (∀ y0 y1 y2 y3, LeO (secateurref29_Least.f k y0 y1 y2 y3) (secateurref29_Least.f (k + 1) y0 y1 y2 y3)) ∧ (∀ y0 y1 y2 y3 y4 y5 y6, LeO (secateurref29_Least.l0 k y0 y1 y2 y3 y4 y5 y6) (secateurref29_Least.l0 (k + 1) y0 y1 y2 y3 y4 y5 y6)) ∧ (∀ y0 y1 y2 y3 y4 y5 y6 y7, LeO (secateurref29_Least.j1 k y0 y1 y2 y3 y4 y5 y6 y7) (secateurref29_Least.j1 (k + 1) y0 y1 y2 y3 y4 y5 y6 y7))
  | 0 => ⟨fun _ _ _ _ r h => by simp [secateurref29_Least.f] at h, fun _ _ _ _ _ _ _ r h => by simp [secateurref29_Least.l0] at h, fun _ _ _ _ _ _ _ _ r h => by simp [secateurref29_Least.j1] at h⟩
  | k + 1 => by
    obtain ⟨ih0, ih1, ih2⟩ := secateurref29_Least.mono_l k
    refine ⟨?_, ?_, ?_⟩
    · intro y0 y1 y2 y3
      unfold secateurref29_Least.f
      repeat' first
      | (with_reducible exact ih0 _ _ _ _)
      | (with_reducible exact ih1 _ _ _ _ _ _ _)
      | (with_reducible exact ih2 _ _ _ _ _ _ _ _)
      | (with_reducible exact LeO.refl _)
      | (with_reducible exact LeO.none _)
      | (with_reducible refine LeO.ite ?_ ?_)
      | (with_reducible refine LeO.bind ?_ (fun _ => ?_))
      | exact ih0 _ _ _ _
      | exact ih1 _ _ _ _ _ _ _
      | exact ih2 _ _ _ _ _ _ _ _
      | exact LeO.none _
      | refine LeO.ite ?_ ?_
      | refine LeO.bind ?_ (fun _ => ?_)
    · intro y0 y1 y2 y3 y4 y5 y6
      unfold secateurref29_Least.l0
      repeat' first
      | (with_reducible exact ih0 _ _ _ _)
      | (with_reducible exact ih1 _ _ _ _ _ _ _)
      | (with_reducible exact ih2 _ _ _ _ _ _ _ _)
      | (with_reducible exact LeO.refl _)
      | (with_reducible exact LeO.none _)
      | (with_reducible refine LeO.ite ?_ ?_)
      | (with_reducible refine LeO.bind ?_ (fun _ => ?_))
      | exact ih0 _ _ _ _
      | exact ih1 _ _ _ _ _ _ _
      | exact ih2 _ _ _ _ _ _ _ _
      | exact LeO.none _
      | refine LeO.ite ?_ ?_
      | refine LeO.bind ?_ (fun _ => ?_)
    · intro y0 y1 y2 y3 y4 y5 y6 y7
      unfold secateurref29_Least.j1
      repeat' first
      | (with_reducible exact ih0 _ _ _ _)
      | (with_reducible exact ih1 _ _ _ _ _ _ _)
      | (with_reducible exact ih2 _ _ _ _ _ _ _ _)
      | (with_reducible exact LeO.refl _)
      | (with_reducible exact LeO.none _)
      | (with_reducible refine LeO.ite ?_ ?_)
      | (with_reducible refine LeO.bind ?_ (fun _ => ?_))
      | exact ih0 _ _ _ _
      | exact ih1 _ _ _ _ _ _ _
      | exact ih2 _ _ _ _ _ _ _ _
      | exact LeO.none _
      | refine LeO.ite ?_ ?_
      | refine LeO.bind ?_ (fun _ => ?_)
theorem secateurref29_Least.mono : ∀ a0 a1 a2 a3 k, LeO (secateurref29_Least.f k a0 a1 a2 a3) (secateurref29_Least.f (k + 1) a0 a1 a2 a3) := by
  intro a0 a1 a2 a3 k
  obtain ⟨ih0, ih1, ih2⟩ := secateurref29_Least.mono_l k
  exact ih0 a0 a1 a2 a3
set_option maxHeartbeats 8000000 in
set_option maxRecDepth 100000 in
theorem secateurref29_Least.calls (k : Nat) : ∀ (A0 : Option Addr) (c0 : Nat) (l0 : List (List Int)) (A1 : Option Addr) (c1 : Nat) (l1 : List (List Bool)) (a2 : Int) (P3_ : Nat → Prop) (u9000_ : Value) (l3 : List Bool) (r1 : Int) (r2 : Bool) (r3 : List Bool) (w0 w : World) (hB : Below w0.heap.size w0 w) (hr0 : ∀ W_, Kept w W_ (fun k_ => P3_ k_) → Kd.C (Kd.slice 2 (Kd.int .i64)) W_ A0 l0.length l0) (hc0 : l0.length ≤ c0) (hr1 : ∀ W_, Kept w W_ (fun k_ => P3_ k_) → Kd.C (Kd.slice 4 Kd.bool) W_ A1 l1.length l1) (hc1 : l1.length ≤ c1) (ho3 : Kd.R Kd.bool 4 w w0.heap.size P3_ u9000_ l3) (h : secateurref29_Least.f k l0 l1 a2 l3 = some (r1, r2, r3)),
    Calls Try.prog 16 #[.slice A0 l0.length c0, .slice A1 l1.length c1, .int .i64 a2, u9000_] w fun e w' => e = .returned (.tuple #[.int .i64 r1, .bool r2]) ∧ Kd.R Kd.bool 4 w' w0.heap.size (fun k_ => (P3_ k_ ∨ w.heap.size ≤ k_)) u9000_ r3 ∧ Below w0.heap.size w0 w' ∧ Kept w w' (fun k_ => P3_ k_) := by
  induction k using Nat.strongRecOn with
  | _ k ih =>
  intro A0 c0 l0 A1 c1 l1 a2 P3_ u9000_ l3 r1 r2 r3 w0 w hB hr0 hc0 hr1 hc1 ho3 h
  cases k with
  | zero => exact absurd h (by simp [secateurref29_Least.f])
  | succ k =>
  simp only [secateurref29_Least.f] at h
  have HR0 := Aside0.mk hr0
  have HC0 := Aside0.mk hc0
  clear hr0 hc0
  have HR1 := Aside0.mk hr1
  have HC1 := Aside0.mk hc1
  clear hr1 hc1
  have HO3 := Aside0.mk (show Kd.R Kd.bool 4 w w0.heap.size (fun k_ => (P3_ k_ ∨ w.heap.size ≤ k_)) u9000_ l3 from Kd.R_mono ho3 (fun k_ hk => (.inl hk)))
  have HK := Aside0.mk (Kept.refl w (fun k_ => P3_ k_))
  have HW0 := Aside0.mk hB.size
  have HB := Aside0.mk hB
  clear hB
  have H : (if a2 = (l0.length : Int) then (some (0, true, l3)) else (secateurref29_Least.l0 k l0 l1 a2 l3 0 false 0)) = some (r1, r2, r3) := h
  clear h
  by_cases c5 : a2 = (l0.length : Int)
  · rw [if_pos c5] at H
    have c5b0 : (a2 == (l0.length : Int)) = true := beq_iff_eq.mpr c5
    have c5b1 : (a2 != (l0.length : Int)) = false := bne_eq_false_iff_eq.mpr c5
    clear c5
    simp only [Option.some.injEq, Prod.mk.injEq] at H
    obtain ⟨rfl, rfl, rfl⟩ := H
    go_enter Try.func16, Try.ntmps16
    go_wp2
    go_ret2
    exact ⟨by first | rfl | (simp [errW_none, errW_some] <;> rfl) | (simp [*, errW_none, errW_some] <;> rfl), by (with_reducible repeat (first | apply Kd.R_alloc | apply Kd.R_drewN | apply Kd.R_drew)); exact HO3.out, by repeat (first | (with_reducible first | exact HB.out | apply below_alloc | apply pw_below_drewN | apply below_drew1) | exact HB.out), by repeat (first | (with_reducible first | exact HK.out | apply Kept.alloc | apply Kept.drewN | apply Kept.drew) | exact HK.out)⟩
  · rw [if_neg c5] at H
    have c5b0 : (a2 == (l0.length : Int)) = false := beq_eq_false_iff_ne.mpr c5
    have c5b1 : (a2 != (l0.length : Int)) = true := bne_iff_ne.mpr c5
    have H' := Aside0.mk H
    clear H
    go_enter Try.func16, Try.ntmps16
    go_wp2
    go_loopg [10, 11, 12] k (fun kq v10 v11 v12 w' => ∃ (x3_1 : List Bool) (x10_1 : Int) (x11_1 : Bool) (x12_1 : Int), v10 = .int .i64 x10_1 ∧ v11 = .bool x11_1 ∧ v12 = .int .i64 x12_1 ∧ Aside0 (secateurref29_Least.l0 kq l0 l1 a2 x3_1 x10_1 x11_1 x12_1 = some (r1, r2, r3)) ∧ Aside0 (kq ≤ k) ∧ Aside0 (Kd.R Kd.bool 4 w' w0.heap.size (fun k_ => (P3_ k_ ∨ w.heap.size ≤ k_)) u9000_ x3_1) ∧ Aside0 (Kept w w' (fun k_ => P3_ k_)) ∧ Aside0 (Below w0.heap.size w0 w'))
    case atStart => exact ⟨(l3), (0), (false), (0), (by first | rfl | (simp; done) | (simp [*]; done)), (by first | rfl | (simp; done) | (simp [*]; done)), (by first | rfl | (simp; done) | (simp [*]; done)), H', ⟨Nat.le_refl _⟩, ⟨by (with_reducible repeat (first | apply Kd.R_alloc | apply Kd.R_drewN | apply Kd.R_drew)); exact HO3.out⟩, ⟨by repeat (first | (with_reducible first | exact HK.out | apply Kept.alloc | apply Kept.drewN | apply Kept.drew) | exact HK.out)⟩, ⟨by repeat (first | (with_reducible first | exact HB.out | apply below_alloc | apply pw_below_drewN | apply below_drew1) | exact HB.out)⟩⟩
    case round =>
      clear H'
      try clear c1
      try clear p2
      try clear c5
      try clear c5b0
      try clear c5b1
      obtain ⟨x3_1, x10_1, x11_1, x12_1, rfl, rfl, rfl, HA, HK1, HO_3, HK, HB⟩ := hrel
      cases gk with
      | zero => exact absurd HA.out (by simp [secateurref29_Least.l0])
      | succ k1 =>
        have H := HA.out
        clear HA
        simp only [secateurref29_Least.l0] at H
        by_cases c6 : x12_1 < (l0.length : Int)
        · rw [if_pos c6] at H
          have c6b0 : decide (x12_1 < (l0.length : Int)) = true := decide_eq_true c6
          clear c6
          have HC7 := Aside0.mk H
          clear H
          go_upto_region 8 with (fail)
          go_cut [37] (fun v37 wc => ∃ (kq : Nat) (x37_6 : Bool), v37 = .bool x37_6 ∧ Aside0 (secateurref29_Least.j1 kq l0 l1 a2 x3_1 x10_1 x11_1 x12_1 x37_6 = some (r1, r2, r3)) ∧ Aside0 (kq ≤ k1) ∧ Aside0 (Kd.R Kd.bool 4 wc w0.heap.size (fun k_ => (P3_ k_ ∨ w.heap.size ≤ k_)) u9000_ x3_1) ∧ Aside0 (Kept w wc (fun k_ => P3_ k_)) ∧ Aside0 (Below w0.heap.size w0 wc))
          case first =>
            have H := HC7.out
            clear HC7
            by_cases c8 : 0 ≤ x12_1
            · rw [if_pos c8] at H
              have c8b0 : decide (0 ≤ x12_1) = true := decide_eq_true c8
              clear c8
              (first | rw [c8b0] | (simp only [i64_w, i32_w]; rw [c8b0]) | skip)
              by_cases c9 : x12_1 < (x3_1.length : Int)
              · rw [if_pos c9] at H
                have c9b0 : decide (x12_1 < (x3_1.length : Int)) = true := decide_eq_true c9
                clear c9
                obtain ⟨bq10, hbq10⟩ : ∃ b_ : Bool, b_ = (rdOf false x3_1 x12_1) := ⟨_, rfl⟩
                replace H : (if bq10 = true then (secateurref29_Least.j1 k1 l0 l1 a2 x3_1 x10_1 x11_1 x12_1 true) else (if 0 ≤ a2 then (if a2 < (l1.length : Int) then (if x12_1 < ((rd_L3 l1 a2).length : Int) then (secateurref29_Least.j1 k1 l0 l1 a2 x3_1 x10_1 x11_1 x12_1 (rdOf false (rd_L3 l1 a2) x12_1)) else (none)) else (none)) else (none))) = some (r1, r2, r3) := by rw [← hbq10] at H; exact H
                have Nbq10 := Aside0.mk hbq10
                clear hbq10
                by_cases c11 : bq10 = true
                · subst c11
                  have H1 : (secateurref29_Least.j1 k1 l0 l1 a2 x3_1 x10_1 x11_1 x12_1 true) = some (r1, r2, r3) := by rw [if_pos rfl] at H; exact H
                  clear H
                  have H := H1
                  clear H1
                  have H' := Aside0.mk H
                  clear H
                  obtain ⟨Ao12, co12, eo12⟩ := Kd.R_slice HO_3.out
                  subst eo12
                  have p181 : 0 ≤ (x12_1 : Int) := of_decide_eq_true (by first | (with_reducible assumption) | assumption)
                  have q181 : x12_1 < (x3_1.length : Int) := of_decide_eq_true (by first | (with_reducible assumption) | assumption)
                  obtain ⟨ad181, e181, hx181_0⟩ := Kd.at_bool (Kd.R_reads' HO_3.out).2.2 x12_1 p181 q181
                  (try rw [← Nbq10.out] at hx181_0)
                  cases e181
                  replace p181 := eq_true p181
                  replace q181 := eq_true q181
                  go_wp2
                  go_meet
                  case rel => exact ⟨_, (true), (by first | rfl | (simp; done) | (simp [*]; done)), H', ⟨by have := HK1.out; first | omega | exact Nat.le_refl _⟩, ⟨by (with_reducible repeat (first | apply Kd.R_alloc | apply Kd.R_drewN | apply Kd.R_drew)); exact HO_3.out⟩, ⟨by repeat (first | (with_reducible first | exact HK.out | apply Kept.alloc | apply Kept.drewN | apply Kept.drew) | exact HK.out)⟩, ⟨by repeat (first | (with_reducible first | exact HB.out | apply below_alloc | apply pw_below_drewN | apply below_drew1) | exact HB.out)⟩⟩
                · replace c11 := Bool.eq_false_iff.mpr c11
                  subst c11
                  have H1 : (if 0 ≤ a2 then (if a2 < (l1.length : Int) then (if x12_1 < ((rd_L3 l1 a2).length : Int) then (secateurref29_Least.j1 k1 l0 l1 a2 x3_1 x10_1 x11_1 x12_1 (rdOf false (rd_L3 l1 a2) x12_1)) else (none)) else (none)) else (none)) = some (r1, r2, r3) := by rw [if_neg (show ¬ (false = true) by decide)] at H; exact H
                  clear H
                  have H := H1
                  clear H1
                  by_cases c13 : 0 ≤ a2
                  · rw [if_pos c13] at H
                    have c13b0 : decide (0 ≤ a2) = true := decide_eq_true c13
                    clear c13
                    by_cases c14 : a2 < (l1.length : Int)
                    · rw [if_pos c14] at H
                      have c14b0 : decide (a2 < (l1.length : Int)) = true := decide_eq_true c14
                      clear c14
                      by_cases c15 : x12_1 < ((rd_L3 l1 a2).length : Int)
                      · rw [if_pos c15] at H
                        have c15b0 : decide (x12_1 < ((rd_L3 l1 a2).length : Int)) = true := decide_eq_true c15
                        clear c15
                        have H' := Aside0.mk H
                        clear H
                        obtain ⟨Ao16, co16, eo16⟩ := Kd.R_slice HO_3.out
                        subst eo16
                        have p181 : 0 ≤ (x12_1 : Int) := of_decide_eq_true (by first | (with_reducible assumption) | assumption)
                        have q181 : x12_1 < (x3_1.length : Int) := of_decide_eq_true (by first | (with_reducible assumption) | assumption)
                        obtain ⟨ad181, e181, hx181_0⟩ := Kd.at_bool (Kd.R_reads' HO_3.out).2.2 x12_1 p181 q181
                        (try rw [← Nbq10.out] at hx181_0)
                        cases e181
                        replace p181 := eq_true p181
                        replace q181 := eq_true q181
                        have p182 : 0 ≤ (a2 : Int) := of_decide_eq_true (by first | (with_reducible assumption) | assumption)
                        have q182 : a2 < (l1.length : Int) := of_decide_eq_true (by first | (with_reducible assumption) | assumption)
                        obtain ⟨ad182, A182_0, c182_0, e182, hx182_0, hl182_0, hi182_0⟩ := at_L3 (Kd.C_kept_now HR1.out HK.out) a2 p182 q182
                        cases e182
                        have HR182_0 := Aside0.mk hi182_0
                        have HC182_0 := Aside0.mk hl182_0
                        clear hi182_0 hl182_0
                        replace p182 := eq_true p182
                        replace q182 := eq_true q182
                        have p183 : 0 ≤ (x12_1 : Int) := of_decide_eq_true (by first | (with_reducible assumption) | assumption)
                        have q183 : x12_1 < ((rd_L3 l1 a2).length : Int) := of_decide_eq_true (by first | (with_reducible assumption) | assumption)
                        obtain ⟨ad183, e183, hx183_0⟩ := Kd.at_bool (by repeat (first | (with_reducible exact HR182_0.out) | (with_reducible refine Kd.C_alloc ?_ _) | (with_reducible refine Kd.C_drewN ?_ _) | (with_reducible refine Kd.C_drew ?_) | exact HR182_0.out)) x12_1 p183 q183
                        (try rw [← Nbq10.out] at hx183_0)
                        cases e183
                        replace p183 := eq_true p183
                        replace q183 := eq_true q183
                        go_wp2
                        go_meet
                        case rel => exact ⟨_, (rdOf false (rd_L3 l1 a2) x12_1), (by first | rfl | (simp; done) | (simp [*]; done)), H', ⟨by have := HK1.out; first | omega | exact Nat.le_refl _⟩, ⟨by (with_reducible repeat (first | apply Kd.R_alloc | apply Kd.R_drewN | apply Kd.R_drew)); exact HO_3.out⟩, ⟨by repeat (first | (with_reducible first | exact HK.out | apply Kept.alloc | apply Kept.drewN | apply Kept.drew) | exact HK.out)⟩, ⟨by repeat (first | (with_reducible first | exact HB.out | apply below_alloc | apply pw_below_drewN | apply below_drew1) | exact HB.out)⟩⟩
                      · rw [if_neg c15] at H
                        exact absurd H (by simp)
                    · rw [if_neg c14] at H
                      exact absurd H (by simp)
                  · rw [if_neg c13] at H
                    exact absurd H (by simp)
              · rw [if_neg c9] at H
                exact absurd H (by simp)
            · rw [if_neg c8] at H
              exact absurd H (by simp)
          case rest =>
            clear HC7
            try clear c1
            try clear p1
            try clear q1
            try clear hx1
            try clear p2
            try clear c5
            try clear c5b0
            try clear c5b1
            try clear c6
            try clear c6b0
            try clear c8
            try clear c8b0
            try clear c9
            try clear c9b0
            try clear q10
            try clear c11
            try clear c13
            try clear c13b0
            try clear c14
            try clear c14b0
            try clear c15
            try clear c15b0
            try clear c16
            try clear hx181_0
            try clear hx182_0
            try clear hx183_0
            try clear p181
            try clear p182
            try clear p183
            try clear p2
            try clear q181
            try clear q182
            try clear q183
            obtain ⟨kq, x37_6, rfl, HA, HJ6, HO_3, HK, HB⟩ := hcut
            cases kq with
            | zero => exact absurd HA.out (by simp [secateurref29_Least.j1])
            | succ kj6 =>
              have H := HA.out
              clear HA
              simp only [secateurref29_Least.j1] at H
              by_cases c17 : x37_6 = true
              · subst c17
                have H1 : (secateurref29_Least.l0 kj6 l0 l1 a2 x3_1 x10_1 x11_1 (wrap64 (x12_1 + 1))) = some (r1, r2, r3) := by rw [if_pos rfl] at H; exact H
                clear H
                have H := H1
                clear H1
                have H' := Aside0.mk H
                clear H
                go_wp2
                go_roundg kj6
                case measure => have := HK1.out; have := HJ6.out; omega
                case rel => exact ⟨(x3_1), (x10_1), (x11_1), (wrap64 (x12_1 + 1)), (by first | rfl | (simp; done) | (simp [*]; done)), (by first | rfl | (simp; done) | (simp [*]; done)), (by first | rfl | (simp; done) | (simp [*]; done)), H', ⟨by have := HK1.out; have := HJ6.out; omega⟩, ⟨by (with_reducible repeat (first | apply Kd.R_alloc | apply Kd.R_drewN | apply Kd.R_drew)); exact HO_3.out⟩, ⟨by repeat (first | (with_reducible first | exact HK.out | apply Kept.alloc | apply Kept.drewN | apply Kept.drew) | exact HK.out)⟩, ⟨by repeat (first | (with_reducible first | exact HB.out | apply below_alloc | apply pw_below_drewN | apply below_drew1) | exact HB.out)⟩⟩
              · replace c17 := Bool.eq_false_iff.mpr c17
                subst c17
                have H1 : (if 0 ≤ x12_1 then (if x12_1 < (x3_1.length : Int) then ((secateurref29_Least.f kj6 l0 l1 (wrap64 (a2 + 1)) (x3_1.set (x12_1 : Int).toNat true)).bind fun bt185 => ((some (bt185.2.2.set (x12_1 : Int).toNat false : List Bool)).bind fun y188 => (if bt185.2.1 = true then (if x11_1 = true then (if 0 ≤ a2 then (if a2 < (l0.length : Int) then (if x12_1 < ((rd_L1 l0 a2).length : Int) then (if (wrap64 ((rd (rd_L1 l0 a2) x12_1) + bt185.1)) < x10_1 then (secateurref29_Least.l0 kj6 l0 l1 a2 y188 (wrap64 ((rd (rd_L1 l0 a2) x12_1) + bt185.1)) true (wrap64 (x12_1 + 1))) else (secateurref29_Least.l0 kj6 l0 l1 a2 y188 x10_1 x11_1 (wrap64 (x12_1 + 1)))) else (none)) else (none)) else (none)) else (if 0 ≤ a2 then (if a2 < (l0.length : Int) then (if x12_1 < ((rd_L1 l0 a2).length : Int) then (secateurref29_Least.l0 kj6 l0 l1 a2 y188 (wrap64 ((rd (rd_L1 l0 a2) x12_1) + bt185.1)) true (wrap64 (x12_1 + 1))) else (none)) else (none)) else (none))) else (secateurref29_Least.l0 kj6 l0 l1 a2 y188 x10_1 x11_1 (wrap64 (x12_1 + 1)))))) else (none)) else (none)) = some (r1, r2, r3) := by rw [if_neg (show ¬ (false = true) by decide)] at H; exact H
                clear H
                have H := H1
                clear H1
                by_cases c18 : 0 ≤ x12_1
                · rw [if_pos c18] at H
                  have c18b0 : decide (0 ≤ x12_1) = true := decide_eq_true c18
                  clear c18
                  by_cases c19 : x12_1 < (x3_1.length : Int)
                  · rw [if_pos c19] at H
                    have c19b0 : decide (x12_1 < (x3_1.length : Int)) = true := decide_eq_true c19
                    clear c19
                    obtain ⟨y184, hy184⟩ : ∃ y_ : List Bool, y_ = (x3_1.set (x12_1 : Int).toNat true) := ⟨_, rfl⟩
                    replace H : ((secateurref29_Least.f kj6 l0 l1 (wrap64 (a2 + 1)) y184).bind fun bt185 => ((some (bt185.2.2.set (x12_1 : Int).toNat false : List Bool)).bind fun y188 => (if bt185.2.1 = true then (if x11_1 = true then (if 0 ≤ a2 then (if a2 < (l0.length : Int) then (if x12_1 < ((rd_L1 l0 a2).length : Int) then (if (wrap64 ((rd (rd_L1 l0 a2) x12_1) + bt185.1)) < x10_1 then (secateurref29_Least.l0 kj6 l0 l1 a2 y188 (wrap64 ((rd (rd_L1 l0 a2) x12_1) + bt185.1)) true (wrap64 (x12_1 + 1))) else (secateurref29_Least.l0 kj6 l0 l1 a2 y188 x10_1 x11_1 (wrap64 (x12_1 + 1)))) else (none)) else (none)) else (none)) else (if 0 ≤ a2 then (if a2 < (l0.length : Int) then (if x12_1 < ((rd_L1 l0 a2).length : Int) then (secateurref29_Least.l0 kj6 l0 l1 a2 y188 (wrap64 ((rd (rd_L1 l0 a2) x12_1) + bt185.1)) true (wrap64 (x12_1 + 1))) else (none)) else (none)) else (none))) else (secateurref29_Least.l0 kj6 l0 l1 a2 y188 x10_1 x11_1 (wrap64 (x12_1 + 1)))))) = some (r1, r2, r3) := by first | (rw [hy184]; with_reducible exact H) | (have H2_ := (Option.bind_some _ _).symm.trans H; rw [hy184]; with_reducible exact H2_) | (have H2_ := (Option.bind_some _ _).symm.trans H; with_reducible exact H2_) | with_reducible exact H | (rw [hy184]; exact H) | exact H
                    have Ny184 := Aside0.mk hy184
                    clear hy184
                    replace H := Option.bind_eq_some_iff.mp H
                    obtain ⟨⟨t185, t186, t187⟩, A210, H⟩ := H
                    replace H : ((some (t187.set (x12_1 : Int).toNat false : List Bool)).bind fun y188 => (if t186 = true then (if x11_1 = true then (if 0 ≤ a2 then (if a2 < (l0.length : Int) then (if x12_1 < ((rd_L1 l0 a2).length : Int) then (if (wrap64 ((rd (rd_L1 l0 a2) x12_1) + t185)) < x10_1 then (secateurref29_Least.l0 kj6 l0 l1 a2 y188 (wrap64 ((rd (rd_L1 l0 a2) x12_1) + t185)) true (wrap64 (x12_1 + 1))) else (secateurref29_Least.l0 kj6 l0 l1 a2 y188 x10_1 x11_1 (wrap64 (x12_1 + 1)))) else (none)) else (none)) else (none)) else (if 0 ≤ a2 then (if a2 < (l0.length : Int) then (if x12_1 < ((rd_L1 l0 a2).length : Int) then (secateurref29_Least.l0 kj6 l0 l1 a2 y188 (wrap64 ((rd (rd_L1 l0 a2) x12_1) + t185)) true (wrap64 (x12_1 + 1))) else (none)) else (none)) else (none))) else (secateurref29_Least.l0 kj6 l0 l1 a2 y188 x10_1 x11_1 (wrap64 (x12_1 + 1))))) = some (r1, r2, r3) := H
                    have A21 := Aside0.mk A210
                    clear A210
                    obtain ⟨y188, hy188⟩ : ∃ y_ : List Bool, y_ = (t187.set (x12_1 : Int).toNat false) := ⟨_, rfl⟩
                    replace H : (if t186 = true then (if x11_1 = true then (if 0 ≤ a2 then (if a2 < (l0.length : Int) then (if x12_1 < ((rd_L1 l0 a2).length : Int) then (if (wrap64 ((rd (rd_L1 l0 a2) x12_1) + t185)) < x10_1 then (secateurref29_Least.l0 kj6 l0 l1 a2 y188 (wrap64 ((rd (rd_L1 l0 a2) x12_1) + t185)) true (wrap64 (x12_1 + 1))) else (secateurref29_Least.l0 kj6 l0 l1 a2 y188 x10_1 x11_1 (wrap64 (x12_1 + 1)))) else (none)) else (none)) else (none)) else (if 0 ≤ a2 then (if a2 < (l0.length : Int) then (if x12_1 < ((rd_L1 l0 a2).length : Int) then (secateurref29_Least.l0 kj6 l0 l1 a2 y188 (wrap64 ((rd (rd_L1 l0 a2) x12_1) + t185)) true (wrap64 (x12_1 + 1))) else (none)) else (none)) else (none))) else (secateurref29_Least.l0 kj6 l0 l1 a2 y188 x10_1 x11_1 (wrap64 (x12_1 + 1)))) = some (r1, r2, r3) := by first | (rw [hy188]; with_reducible exact H) | (have H2_ := (Option.bind_some _ _).symm.trans H; rw [hy188]; with_reducible exact H2_) | (have H2_ := (Option.bind_some _ _).symm.trans H; with_reducible exact H2_) | with_reducible exact H | (rw [hy188]; exact H) | exact H
                    have Ny188 := Aside0.mk hy188
                    clear hy188
                    by_cases c23 : t186 = true
                    · subst c23
                      have H1 : (if x11_1 = true then (if 0 ≤ a2 then (if a2 < (l0.length : Int) then (if x12_1 < ((rd_L1 l0 a2).length : Int) then (if (wrap64 ((rd (rd_L1 l0 a2) x12_1) + t185)) < x10_1 then (secateurref29_Least.l0 kj6 l0 l1 a2 y188 (wrap64 ((rd (rd_L1 l0 a2) x12_1) + t185)) true (wrap64 (x12_1 + 1))) else (secateurref29_Least.l0 kj6 l0 l1 a2 y188 x10_1 x11_1 (wrap64 (x12_1 + 1)))) else (none)) else (none)) else (none)) else (if 0 ≤ a2 then (if a2 < (l0.length : Int) then (if x12_1 < ((rd_L1 l0 a2).length : Int) then (secateurref29_Least.l0 kj6 l0 l1 a2 y188 (wrap64 ((rd (rd_L1 l0 a2) x12_1) + t185)) true (wrap64 (x12_1 + 1))) else (none)) else (none)) else (none))) = some (r1, r2, r3) := by rw [if_pos rfl] at H; exact H
                      clear H
                      have H := H1
                      clear H1
                      by_cases c24 : x11_1 = true
                      · subst c24
                        have H1 : (if 0 ≤ a2 then (if a2 < (l0.length : Int) then (if x12_1 < ((rd_L1 l0 a2).length : Int) then (if (wrap64 ((rd (rd_L1 l0 a2) x12_1) + t185)) < x10_1 then (secateurref29_Least.l0 kj6 l0 l1 a2 y188 (wrap64 ((rd (rd_L1 l0 a2) x12_1) + t185)) true (wrap64 (x12_1 + 1))) else (secateurref29_Least.l0 kj6 l0 l1 a2 y188 x10_1 true (wrap64 (x12_1 + 1)))) else (none)) else (none)) else (none)) = some (r1, r2, r3) := by rw [if_pos rfl] at H; exact H
                        clear H
                        have H := H1
                        clear H1
                        by_cases c25 : 0 ≤ a2
                        · rw [if_pos c25] at H
                          have c25b0 : decide (0 ≤ a2) = true := decide_eq_true c25
                          clear c25
                          by_cases c26 : a2 < (l0.length : Int)
                          · rw [if_pos c26] at H
                            have c26b0 : decide (a2 < (l0.length : Int)) = true := decide_eq_true c26
                            clear c26
                            by_cases c27 : x12_1 < ((rd_L1 l0 a2).length : Int)
                            · rw [if_pos c27] at H
                              have c27b0 : decide (x12_1 < ((rd_L1 l0 a2).length : Int)) = true := decide_eq_true c27
                              clear c27
                              by_cases c28 : (wrap64 ((rd (rd_L1 l0 a2) x12_1) + t185)) < x10_1
                              · rw [if_pos c28] at H
                                have c28b0 : decide ((wrap64 ((rd (rd_L1 l0 a2) x12_1) + t185)) < x10_1) = true := decide_eq_true c28
                                clear c28
                                have H' := Aside0.mk H
                                clear H
                                have p20 : 0 ≤ (x12_1 : Int) := of_decide_eq_true (by first | (with_reducible assumption) | assumption)
                                have q20 : (x12_1 : Int) < ((x3_1.length : Int) : Int) := of_decide_eq_true (by first | (with_reducible assumption) | assumption)
                                obtain ⟨go20, co20, eo20, gb20, gl20, cl20, HG20⟩ := Kd.R_form HO_3.out (by omega)
                                (first | cases eo20 | (injection eo20 with ea_ en_ ec_; (first | subst ea_ | (injection ea_ with ea_; subst ea_)); subst ec_; clear en_))
                                have GB20 := Aside0.mk gb20
                                have GG20 := Aside0.mk HG20
                                clear gb20 gl20 HG20
                                have HMgo20 := Aside0.mk (show (P3_ go20 ∨ w.heap.size ≤ go20) from (HO_3.out.1 _ rfl))
                                obtain ⟨hx20_0, hf20_0⟩ := Kd.R_celln false HO_3.out (x12_1 : Int) p20 q20
                                replace p20 := eq_true p20
                                replace q20 := eq_true q20
                                have HP29 := Kd.R_putg HO_3.out (x12_1 : Int) true
                                go_wp2_with (first | ((with_reducible refine gate_store (t := 4) (p := 40) rfl ?_); refine store_event (t := 4) (p := 40) (v := ?vo_w30) (w1 := (wc.setCell ⟨go20, (x12_1 : Int).toNat, none⟩ (.bool true))) ?hg ?ho ?hn ?hr ?_; (case ho => rfl); (case hg => rfl); (case hn => rfl); (case hr => first | (go_simp; done) | (go_simp; rfl)); intro w30 hw; have hg : wc.grownBy w30 (some go20) := (by rw [hw]; exact HP29.2); have hp_ : Kd.R Kd.bool 4 w30 w0.heap.size (fun k_ => (P3_ k_ ∨ w.heap.size ≤ k_)) (.slice (some ⟨go20, 0, none⟩) x3_1.length co20) y184 := (by rw [hw, Ny184.out]; exact HP29.1); clear HP29; have n0_ := Aside0.mk (hp_); have n1_ := Aside0.mk ((by rw [hw]; exact below_set (HB.out) GB20.out : Below w0.heap.size w0 w30)); have n2_ := Aside0.mk (Kept.of_grown (S := (fun k_ => P3_ k_)) hg (by repeat (first | (with_reducible first | exact HK.out | apply Kept.alloc | apply Kept.drewN | apply Kept.drew) | exact HK.out)) (fun k_ e_ => (HO_3.out.1 k_ e_))); clear HO_3; clear HB; clear HK; have HO_3 := n0_; have HB := n1_; have HK := n2_; clear n0_ n1_ n2_; clear hg hw hp_) | ((with_reducible refine gate_callee (f := 16) rfl ?_); refine goesL_ (some 47) rfl rfl Try.func16 (by kernel_rfl) rfl #[.slice A0 l0.length c0, .slice A1 l1.length c1, .int .i64 (wrap64 (a2 + 1)), .slice (some ⟨go20, 0, none⟩) x3_1.length co20] rfl (by (try simp only [List.map_toArray, List.map_cons, List.map_nil]); first | done | rfl | (simp only [List.length_drop, List.length_take]; rfl)) ?_; (with_reducible refine (ih kj6 (by have := HK1.out; have := HJ6.out; omega) _ _ l0 _ _ l1 (wrap64 (a2 + 1)) (fun k_ => some k_ = (.slice (some ⟨go20, 0, none⟩) x3_1.length co20 : Value).ownBlock) (.slice (some ⟨go20, 0, none⟩) x3_1.length co20) y184 t185 true t187 w0 _ ?side1 ?side2 ?side3 ?side4 ?side5 ?side6 A21.out).mono ?_); (case side1 => repeat (first | (with_reducible first | exact HB.out | apply below_alloc | apply pw_below_drewN | apply below_drew1) | exact HB.out)); (case side2 => exact Kd.C_kept_call HR0.out (by repeat (first | (with_reducible first | exact HK.out | apply Kept.alloc | apply Kept.drewN | apply Kept.drew) | exact HK.out)) (fun k_ hs_ => (fun e_ => (HO_3.out.1 k_ e_.symm)) hs_)); (case side3 => exact HC0.out); (case side4 => exact Kd.C_kept_call HR1.out (by repeat (first | (with_reducible first | exact HK.out | apply Kept.alloc | apply Kept.drewN | apply Kept.drew) | exact HK.out)) (fun k_ hs_ => (fun e_ => (HO_3.out.1 k_ e_.symm)) hs_)); (case side5 => exact HC1.out); (case side6 => exact Kd.R_tight rfl HO_3.out); rintro e w31 ⟨rfl, hy0, hb, hkp⟩; refine ⟨_, rfl, ?_⟩; have n0_ := Aside0.mk (Kd.R_reok rfl hy0 (fun k_ e_ => HO_3.out.1 k_ e_)); have n1_ := Aside0.mk (Kept.then_ (S := (fun k_ => P3_ k_)) (by repeat (first | (with_reducible first | exact HK.out | apply Kept.alloc | apply Kept.drewN | apply Kept.drew) | exact HK.out)) hkp (fun k_ hs_ => (fun e_ => (HO_3.out.1 k_ e_.symm)) hs_)); have n2_ := Aside0.mk (hb); clear HO_3; clear HK; clear HB; have HO_3 := n0_; have HK := n1_; have HB := n2_; clear n0_ n1_ n2_; (try clear hb); (try clear hkp); (try clear hy0); have p22 : 0 ≤ (x12_1 : Int) := of_decide_eq_true (by first | (with_reducible assumption) | assumption); have q22 : (x12_1 : Int) < ((x3_1.length : Int) : Int) := of_decide_eq_true (by first | (with_reducible assumption) | assumption); obtain ⟨hx22_0, hf22_0⟩ := Kd.R_celln false HO_3.out (x12_1 : Int) p22 q22; replace p22 := eq_true p22; replace q22 := eq_true q22; obtain ⟨hy32_, hz32_⟩ := Kd.R_celln false HO_3.out (x12_1 : Int) (of_decide_eq_true (by first | (with_reducible assumption) | assumption)) (of_decide_eq_true (by first | (with_reducible assumption) | assumption)); have HP32 := Kd.R_putg HO_3.out (x12_1 : Int) false) | ((with_reducible refine gate_store (t := 4) (p := 52) rfl ?_); refine store_event (t := 4) (p := 52) (v := ?vo_w33) (w1 := (w31.setCell ⟨go20, (x12_1 : Int).toNat, none⟩ (.bool false))) ?hg ?ho ?hn ?hr ?_; (case ho => rfl); (case hg => rfl); (case hn => rfl); (case hr => first | (go_simp; done) | (go_simp; rfl)); intro w33 hw; have hg : w31.grownBy w33 (some go20) := (by rw [hw]; exact HP32.2); have hp_ : Kd.R Kd.bool 4 w33 w0.heap.size (fun k_ => (P3_ k_ ∨ w.heap.size ≤ k_)) (.slice (some ⟨go20, 0, none⟩) x3_1.length co20) y188 := (by rw [hw, Ny188.out]; exact HP32.1); clear HP32; have n0_ := Aside0.mk (hp_); have n1_ := Aside0.mk ((by rw [hw]; exact below_set (HB.out) GB20.out : Below w0.heap.size w0 w33)); have n2_ := Aside0.mk (Kept.of_grown (S := (fun k_ => P3_ k_)) hg (by repeat (first | (with_reducible first | exact HK.out | apply Kept.alloc | apply Kept.drewN | apply Kept.drew) | exact HK.out)) (fun k_ e_ => (HO_3.out.1 k_ e_))); clear HO_3; clear HB; clear HK; have HO_3 := n0_; have HB := n1_; have HK := n2_; clear n0_ n1_ n2_; clear hg hw hp_; have p189 : 0 ≤ (a2 : Int) := of_decide_eq_true (by first | (with_reducible assumption) | assumption); have q189 : a2 < (l0.length : Int) := of_decide_eq_true (by first | (with_reducible assumption) | assumption); obtain ⟨ad189, A189_0, c189_0, e189, hx189_0, hl189_0, hi189_0⟩ := at_L1 (Kd.C_kept_now HR0.out HK.out) a2 p189 q189; cases e189; have HR189_0 := Aside0.mk hi189_0; have HC189_0 := Aside0.mk hl189_0; clear hi189_0 hl189_0; replace p189 := eq_true p189; replace q189 := eq_true q189; have p190 : 0 ≤ (x12_1 : Int) := of_decide_eq_true (by first | (with_reducible assumption) | assumption); have q190 : x12_1 < ((rd_L1 l0 a2).length : Int) := of_decide_eq_true (by first | (with_reducible assumption) | assumption); obtain ⟨ad190, e190, hx190_0⟩ := Kd.at_int (by repeat (first | (with_reducible exact HR189_0.out) | (with_reducible refine Kd.C_alloc ?_ _) | (with_reducible refine Kd.C_drewN ?_ _) | (with_reducible refine Kd.C_drew ?_) | exact HR189_0.out)) x12_1 p190 q190; cases e190; replace p190 := eq_true p190; replace q190 := eq_true q190; have p191 : 0 ≤ (a2 : Int) := of_decide_eq_true (by first | (with_reducible assumption) | assumption); have q191 : a2 < (l0.length : Int) := of_decide_eq_true (by first | (with_reducible assumption) | assumption); obtain ⟨ad191, A191_0, c191_0, e191, hx191_0, hl191_0, hi191_0⟩ := at_L1 (Kd.C_kept_now HR0.out HK.out) a2 p191 q191; obtain rfl : ad189 = ad191 := (by injection e191); have HR191_0 := Aside0.mk hi191_0; have HC191_0 := Aside0.mk hl191_0; clear hi191_0 hl191_0; replace p191 := eq_true p191; replace q191 := eq_true q191; have ea_ := Option.some.inj (hx189_0.symm.trans hx191_0); injection ea_ with ea_ en_ ec_; subst ea_; subst ec_; clear en_; have p192 : 0 ≤ (x12_1 : Int) := of_decide_eq_true (by first | (with_reducible assumption) | assumption); have q192 : x12_1 < ((rd_L1 l0 a2).length : Int) := of_decide_eq_true (by first | (with_reducible assumption) | assumption); obtain ⟨ad192, e192, hx192_0⟩ := Kd.at_int (by repeat (first | (with_reducible exact HR191_0.out) | (with_reducible refine Kd.C_alloc ?_ _) | (with_reducible refine Kd.C_drewN ?_ _) | (with_reducible refine Kd.C_drew ?_) | exact HR191_0.out)) x12_1 p192 q192; cases e192; replace p192 := eq_true p192; replace q192 := eq_true q192))
                                go_roundg kj6
                                case measure => have := HK1.out; have := HJ6.out; omega
                                case rel => exact ⟨(y188), (wrap64 ((rd (rd_L1 l0 a2) x12_1) + t185)), (true), (wrap64 (x12_1 + 1)), (by first | rfl | (simp; done) | (simp [*]; done)), (by first | rfl | (simp; done) | (simp [*]; done)), (by first | rfl | (simp; done) | (simp [*]; done)), H', ⟨by have := HK1.out; have := HJ6.out; omega⟩, ⟨by (with_reducible repeat (first | apply Kd.R_alloc | apply Kd.R_drewN | apply Kd.R_drew)); exact HO_3.out⟩, ⟨by repeat (first | (with_reducible first | exact HK.out | apply Kept.alloc | apply Kept.drewN | apply Kept.drew) | exact HK.out)⟩, ⟨by repeat (first | (with_reducible first | exact HB.out | apply below_alloc | apply pw_below_drewN | apply below_drew1) | exact HB.out)⟩⟩
                              · rw [if_neg c28] at H
                                have c28b0 : decide ((wrap64 ((rd (rd_L1 l0 a2) x12_1) + t185)) < x10_1) = false := decide_eq_false c28
                                clear c28
                                have H' := Aside0.mk H
                                clear H
                                have p20 : 0 ≤ (x12_1 : Int) := of_decide_eq_true (by first | (with_reducible assumption) | assumption)
                                have q20 : (x12_1 : Int) < ((x3_1.length : Int) : Int) := of_decide_eq_true (by first | (with_reducible assumption) | assumption)
                                obtain ⟨go20, co20, eo20, gb20, gl20, cl20, HG20⟩ := Kd.R_form HO_3.out (by omega)
                                (first | cases eo20 | (injection eo20 with ea_ en_ ec_; (first | subst ea_ | (injection ea_ with ea_; subst ea_)); subst ec_; clear en_))
                                have GB20 := Aside0.mk gb20
                                have GG20 := Aside0.mk HG20
                                clear gb20 gl20 HG20
                                have HMgo20 := Aside0.mk (show (P3_ go20 ∨ w.heap.size ≤ go20) from (HO_3.out.1 _ rfl))
                                obtain ⟨hx20_0, hf20_0⟩ := Kd.R_celln false HO_3.out (x12_1 : Int) p20 q20
                                replace p20 := eq_true p20
                                replace q20 := eq_true q20
                                have HP34 := Kd.R_putg HO_3.out (x12_1 : Int) true
                                go_wp2_with (first | ((with_reducible refine gate_store (t := 4) (p := 40) rfl ?_); refine store_event (t := 4) (p := 40) (v := ?vo_w35) (w1 := (wc.setCell ⟨go20, (x12_1 : Int).toNat, none⟩ (.bool true))) ?hg ?ho ?hn ?hr ?_; (case ho => rfl); (case hg => rfl); (case hn => rfl); (case hr => first | (go_simp; done) | (go_simp; rfl)); intro w35 hw; have hg : wc.grownBy w35 (some go20) := (by rw [hw]; exact HP34.2); have hp_ : Kd.R Kd.bool 4 w35 w0.heap.size (fun k_ => (P3_ k_ ∨ w.heap.size ≤ k_)) (.slice (some ⟨go20, 0, none⟩) x3_1.length co20) y184 := (by rw [hw, Ny184.out]; exact HP34.1); clear HP34; have n0_ := Aside0.mk (hp_); have n1_ := Aside0.mk ((by rw [hw]; exact below_set (HB.out) GB20.out : Below w0.heap.size w0 w35)); have n2_ := Aside0.mk (Kept.of_grown (S := (fun k_ => P3_ k_)) hg (by repeat (first | (with_reducible first | exact HK.out | apply Kept.alloc | apply Kept.drewN | apply Kept.drew) | exact HK.out)) (fun k_ e_ => (HO_3.out.1 k_ e_))); clear HO_3; clear HB; clear HK; have HO_3 := n0_; have HB := n1_; have HK := n2_; clear n0_ n1_ n2_; clear hg hw hp_) | ((with_reducible refine gate_callee (f := 16) rfl ?_); refine goesL_ (some 47) rfl rfl Try.func16 (by kernel_rfl) rfl #[.slice A0 l0.length c0, .slice A1 l1.length c1, .int .i64 (wrap64 (a2 + 1)), .slice (some ⟨go20, 0, none⟩) x3_1.length co20] rfl (by (try simp only [List.map_toArray, List.map_cons, List.map_nil]); first | done | rfl | (simp only [List.length_drop, List.length_take]; rfl)) ?_; (with_reducible refine (ih kj6 (by have := HK1.out; have := HJ6.out; omega) _ _ l0 _ _ l1 (wrap64 (a2 + 1)) (fun k_ => some k_ = (.slice (some ⟨go20, 0, none⟩) x3_1.length co20 : Value).ownBlock) (.slice (some ⟨go20, 0, none⟩) x3_1.length co20) y184 t185 true t187 w0 _ ?side1 ?side2 ?side3 ?side4 ?side5 ?side6 A21.out).mono ?_); (case side1 => repeat (first | (with_reducible first | exact HB.out | apply below_alloc | apply pw_below_drewN | apply below_drew1) | exact HB.out)); (case side2 => exact Kd.C_kept_call HR0.out (by repeat (first | (with_reducible first | exact HK.out | apply Kept.alloc | apply Kept.drewN | apply Kept.drew) | exact HK.out)) (fun k_ hs_ => (fun e_ => (HO_3.out.1 k_ e_.symm)) hs_)); (case side3 => exact HC0.out); (case side4 => exact Kd.C_kept_call HR1.out (by repeat (first | (with_reducible first | exact HK.out | apply Kept.alloc | apply Kept.drewN | apply Kept.drew) | exact HK.out)) (fun k_ hs_ => (fun e_ => (HO_3.out.1 k_ e_.symm)) hs_)); (case side5 => exact HC1.out); (case side6 => exact Kd.R_tight rfl HO_3.out); rintro e w36 ⟨rfl, hy0, hb, hkp⟩; refine ⟨_, rfl, ?_⟩; have n0_ := Aside0.mk (Kd.R_reok rfl hy0 (fun k_ e_ => HO_3.out.1 k_ e_)); have n1_ := Aside0.mk (Kept.then_ (S := (fun k_ => P3_ k_)) (by repeat (first | (with_reducible first | exact HK.out | apply Kept.alloc | apply Kept.drewN | apply Kept.drew) | exact HK.out)) hkp (fun k_ hs_ => (fun e_ => (HO_3.out.1 k_ e_.symm)) hs_)); have n2_ := Aside0.mk (hb); clear HO_3; clear HK; clear HB; have HO_3 := n0_; have HK := n1_; have HB := n2_; clear n0_ n1_ n2_; (try clear hb); (try clear hkp); (try clear hy0); have p22 : 0 ≤ (x12_1 : Int) := of_decide_eq_true (by first | (with_reducible assumption) | assumption); have q22 : (x12_1 : Int) < ((x3_1.length : Int) : Int) := of_decide_eq_true (by first | (with_reducible assumption) | assumption); obtain ⟨hx22_0, hf22_0⟩ := Kd.R_celln false HO_3.out (x12_1 : Int) p22 q22; replace p22 := eq_true p22; replace q22 := eq_true q22; obtain ⟨hy37_, hz37_⟩ := Kd.R_celln false HO_3.out (x12_1 : Int) (of_decide_eq_true (by first | (with_reducible assumption) | assumption)) (of_decide_eq_true (by first | (with_reducible assumption) | assumption)); have HP37 := Kd.R_putg HO_3.out (x12_1 : Int) false) | ((with_reducible refine gate_store (t := 4) (p := 52) rfl ?_); refine store_event (t := 4) (p := 52) (v := ?vo_w38) (w1 := (w36.setCell ⟨go20, (x12_1 : Int).toNat, none⟩ (.bool false))) ?hg ?ho ?hn ?hr ?_; (case ho => rfl); (case hg => rfl); (case hn => rfl); (case hr => first | (go_simp; done) | (go_simp; rfl)); intro w38 hw; have hg : w36.grownBy w38 (some go20) := (by rw [hw]; exact HP37.2); have hp_ : Kd.R Kd.bool 4 w38 w0.heap.size (fun k_ => (P3_ k_ ∨ w.heap.size ≤ k_)) (.slice (some ⟨go20, 0, none⟩) x3_1.length co20) y188 := (by rw [hw, Ny188.out]; exact HP37.1); clear HP37; have n0_ := Aside0.mk (hp_); have n1_ := Aside0.mk ((by rw [hw]; exact below_set (HB.out) GB20.out : Below w0.heap.size w0 w38)); have n2_ := Aside0.mk (Kept.of_grown (S := (fun k_ => P3_ k_)) hg (by repeat (first | (with_reducible first | exact HK.out | apply Kept.alloc | apply Kept.drewN | apply Kept.drew) | exact HK.out)) (fun k_ e_ => (HO_3.out.1 k_ e_))); clear HO_3; clear HB; clear HK; have HO_3 := n0_; have HB := n1_; have HK := n2_; clear n0_ n1_ n2_; clear hg hw hp_; have p189 : 0 ≤ (a2 : Int) := of_decide_eq_true (by first | (with_reducible assumption) | assumption); have q189 : a2 < (l0.length : Int) := of_decide_eq_true (by first | (with_reducible assumption) | assumption); obtain ⟨ad189, A189_0, c189_0, e189, hx189_0, hl189_0, hi189_0⟩ := at_L1 (Kd.C_kept_now HR0.out HK.out) a2 p189 q189; cases e189; have HR189_0 := Aside0.mk hi189_0; have HC189_0 := Aside0.mk hl189_0; clear hi189_0 hl189_0; replace p189 := eq_true p189; replace q189 := eq_true q189; have p190 : 0 ≤ (x12_1 : Int) := of_decide_eq_true (by first | (with_reducible assumption) | assumption); have q190 : x12_1 < ((rd_L1 l0 a2).length : Int) := of_decide_eq_true (by first | (with_reducible assumption) | assumption); obtain ⟨ad190, e190, hx190_0⟩ := Kd.at_int (by repeat (first | (with_reducible exact HR189_0.out) | (with_reducible refine Kd.C_alloc ?_ _) | (with_reducible refine Kd.C_drewN ?_ _) | (with_reducible refine Kd.C_drew ?_) | exact HR189_0.out)) x12_1 p190 q190; cases e190; replace p190 := eq_true p190; replace q190 := eq_true q190))
                                go_roundg kj6
                                case measure => have := HK1.out; have := HJ6.out; omega
                                case rel => exact ⟨(y188), (x10_1), (true), (wrap64 (x12_1 + 1)), (by first | rfl | (simp; done) | (simp [*]; done)), (by first | rfl | (simp; done) | (simp [*]; done)), (by first | rfl | (simp; done) | (simp [*]; done)), H', ⟨by have := HK1.out; have := HJ6.out; omega⟩, ⟨by (with_reducible repeat (first | apply Kd.R_alloc | apply Kd.R_drewN | apply Kd.R_drew)); exact HO_3.out⟩, ⟨by repeat (first | (with_reducible first | exact HK.out | apply Kept.alloc | apply Kept.drewN | apply Kept.drew) | exact HK.out)⟩, ⟨by repeat (first | (with_reducible first | exact HB.out | apply below_alloc | apply pw_below_drewN | apply below_drew1) | exact HB.out)⟩⟩
                            · rw [if_neg c27] at H
                              exact absurd H (by simp)
                          · rw [if_neg c26] at H
                            exact absurd H (by simp)
                        · rw [if_neg c25] at H
                          exact absurd H (by simp)
                      · replace c24 := Bool.eq_false_iff.mpr c24
                        subst c24
                        have H1 : (if 0 ≤ a2 then (if a2 < (l0.length : Int) then (if x12_1 < ((rd_L1 l0 a2).length : Int) then (secateurref29_Least.l0 kj6 l0 l1 a2 y188 (wrap64 ((rd (rd_L1 l0 a2) x12_1) + t185)) true (wrap64 (x12_1 + 1))) else (none)) else (none)) else (none)) = some (r1, r2, r3) := by rw [if_neg (show ¬ (false = true) by decide)] at H; exact H
                        clear H
                        have H := H1
                        clear H1
                        by_cases c39 : 0 ≤ a2
                        · rw [if_pos c39] at H
                          have c39b0 : decide (0 ≤ a2) = true := decide_eq_true c39
                          clear c39
                          by_cases c40 : a2 < (l0.length : Int)
                          · rw [if_pos c40] at H
                            have c40b0 : decide (a2 < (l0.length : Int)) = true := decide_eq_true c40
                            clear c40
                            by_cases c41 : x12_1 < ((rd_L1 l0 a2).length : Int)
                            · rw [if_pos c41] at H
                              have c41b0 : decide (x12_1 < ((rd_L1 l0 a2).length : Int)) = true := decide_eq_true c41
                              clear c41
                              have H' := Aside0.mk H
                              clear H
                              have p20 : 0 ≤ (x12_1 : Int) := of_decide_eq_true (by first | (with_reducible assumption) | assumption)
                              have q20 : (x12_1 : Int) < ((x3_1.length : Int) : Int) := of_decide_eq_true (by first | (with_reducible assumption) | assumption)
                              obtain ⟨go20, co20, eo20, gb20, gl20, cl20, HG20⟩ := Kd.R_form HO_3.out (by omega)
                              (first | cases eo20 | (injection eo20 with ea_ en_ ec_; (first | subst ea_ | (injection ea_ with ea_; subst ea_)); subst ec_; clear en_))
                              have GB20 := Aside0.mk gb20
                              have GG20 := Aside0.mk HG20
                              clear gb20 gl20 HG20
                              have HMgo20 := Aside0.mk (show (P3_ go20 ∨ w.heap.size ≤ go20) from (HO_3.out.1 _ rfl))
                              obtain ⟨hx20_0, hf20_0⟩ := Kd.R_celln false HO_3.out (x12_1 : Int) p20 q20
                              replace p20 := eq_true p20
                              replace q20 := eq_true q20
                              have HP42 := Kd.R_putg HO_3.out (x12_1 : Int) true
                              go_wp2_with (first | ((with_reducible refine gate_store (t := 4) (p := 40) rfl ?_); refine store_event (t := 4) (p := 40) (v := ?vo_w43) (w1 := (wc.setCell ⟨go20, (x12_1 : Int).toNat, none⟩ (.bool true))) ?hg ?ho ?hn ?hr ?_; (case ho => rfl); (case hg => rfl); (case hn => rfl); (case hr => first | (go_simp; done) | (go_simp; rfl)); intro w43 hw; have hg : wc.grownBy w43 (some go20) := (by rw [hw]; exact HP42.2); have hp_ : Kd.R Kd.bool 4 w43 w0.heap.size (fun k_ => (P3_ k_ ∨ w.heap.size ≤ k_)) (.slice (some ⟨go20, 0, none⟩) x3_1.length co20) y184 := (by rw [hw, Ny184.out]; exact HP42.1); clear HP42; have n0_ := Aside0.mk (hp_); have n1_ := Aside0.mk ((by rw [hw]; exact below_set (HB.out) GB20.out : Below w0.heap.size w0 w43)); have n2_ := Aside0.mk (Kept.of_grown (S := (fun k_ => P3_ k_)) hg (by repeat (first | (with_reducible first | exact HK.out | apply Kept.alloc | apply Kept.drewN | apply Kept.drew) | exact HK.out)) (fun k_ e_ => (HO_3.out.1 k_ e_))); clear HO_3; clear HB; clear HK; have HO_3 := n0_; have HB := n1_; have HK := n2_; clear n0_ n1_ n2_; clear hg hw hp_) | ((with_reducible refine gate_callee (f := 16) rfl ?_); refine goesL_ (some 47) rfl rfl Try.func16 (by kernel_rfl) rfl #[.slice A0 l0.length c0, .slice A1 l1.length c1, .int .i64 (wrap64 (a2 + 1)), .slice (some ⟨go20, 0, none⟩) x3_1.length co20] rfl (by (try simp only [List.map_toArray, List.map_cons, List.map_nil]); first | done | rfl | (simp only [List.length_drop, List.length_take]; rfl)) ?_; (with_reducible refine (ih kj6 (by have := HK1.out; have := HJ6.out; omega) _ _ l0 _ _ l1 (wrap64 (a2 + 1)) (fun k_ => some k_ = (.slice (some ⟨go20, 0, none⟩) x3_1.length co20 : Value).ownBlock) (.slice (some ⟨go20, 0, none⟩) x3_1.length co20) y184 t185 true t187 w0 _ ?side1 ?side2 ?side3 ?side4 ?side5 ?side6 A21.out).mono ?_); (case side1 => repeat (first | (with_reducible first | exact HB.out | apply below_alloc | apply pw_below_drewN | apply below_drew1) | exact HB.out)); (case side2 => exact Kd.C_kept_call HR0.out (by repeat (first | (with_reducible first | exact HK.out | apply Kept.alloc | apply Kept.drewN | apply Kept.drew) | exact HK.out)) (fun k_ hs_ => (fun e_ => (HO_3.out.1 k_ e_.symm)) hs_)); (case side3 => exact HC0.out); (case side4 => exact Kd.C_kept_call HR1.out (by repeat (first | (with_reducible first | exact HK.out | apply Kept.alloc | apply Kept.drewN | apply Kept.drew) | exact HK.out)) (fun k_ hs_ => (fun e_ => (HO_3.out.1 k_ e_.symm)) hs_)); (case side5 => exact HC1.out); (case side6 => exact Kd.R_tight rfl HO_3.out); rintro e w44 ⟨rfl, hy0, hb, hkp⟩; refine ⟨_, rfl, ?_⟩; have n0_ := Aside0.mk (Kd.R_reok rfl hy0 (fun k_ e_ => HO_3.out.1 k_ e_)); have n1_ := Aside0.mk (Kept.then_ (S := (fun k_ => P3_ k_)) (by repeat (first | (with_reducible first | exact HK.out | apply Kept.alloc | apply Kept.drewN | apply Kept.drew) | exact HK.out)) hkp (fun k_ hs_ => (fun e_ => (HO_3.out.1 k_ e_.symm)) hs_)); have n2_ := Aside0.mk (hb); clear HO_3; clear HK; clear HB; have HO_3 := n0_; have HK := n1_; have HB := n2_; clear n0_ n1_ n2_; (try clear hb); (try clear hkp); (try clear hy0); have p22 : 0 ≤ (x12_1 : Int) := of_decide_eq_true (by first | (with_reducible assumption) | assumption); have q22 : (x12_1 : Int) < ((x3_1.length : Int) : Int) := of_decide_eq_true (by first | (with_reducible assumption) | assumption); obtain ⟨hx22_0, hf22_0⟩ := Kd.R_celln false HO_3.out (x12_1 : Int) p22 q22; replace p22 := eq_true p22; replace q22 := eq_true q22; obtain ⟨hy45_, hz45_⟩ := Kd.R_celln false HO_3.out (x12_1 : Int) (of_decide_eq_true (by first | (with_reducible assumption) | assumption)) (of_decide_eq_true (by first | (with_reducible assumption) | assumption)); have HP45 := Kd.R_putg HO_3.out (x12_1 : Int) false) | ((with_reducible refine gate_store (t := 4) (p := 52) rfl ?_); refine store_event (t := 4) (p := 52) (v := ?vo_w46) (w1 := (w44.setCell ⟨go20, (x12_1 : Int).toNat, none⟩ (.bool false))) ?hg ?ho ?hn ?hr ?_; (case ho => rfl); (case hg => rfl); (case hn => rfl); (case hr => first | (go_simp; done) | (go_simp; rfl)); intro w46 hw; have hg : w44.grownBy w46 (some go20) := (by rw [hw]; exact HP45.2); have hp_ : Kd.R Kd.bool 4 w46 w0.heap.size (fun k_ => (P3_ k_ ∨ w.heap.size ≤ k_)) (.slice (some ⟨go20, 0, none⟩) x3_1.length co20) y188 := (by rw [hw, Ny188.out]; exact HP45.1); clear HP45; have n0_ := Aside0.mk (hp_); have n1_ := Aside0.mk ((by rw [hw]; exact below_set (HB.out) GB20.out : Below w0.heap.size w0 w46)); have n2_ := Aside0.mk (Kept.of_grown (S := (fun k_ => P3_ k_)) hg (by repeat (first | (with_reducible first | exact HK.out | apply Kept.alloc | apply Kept.drewN | apply Kept.drew) | exact HK.out)) (fun k_ e_ => (HO_3.out.1 k_ e_))); clear HO_3; clear HB; clear HK; have HO_3 := n0_; have HB := n1_; have HK := n2_; clear n0_ n1_ n2_; clear hg hw hp_; have p193 : 0 ≤ (a2 : Int) := of_decide_eq_true (by first | (with_reducible assumption) | assumption); have q193 : a2 < (l0.length : Int) := of_decide_eq_true (by first | (with_reducible assumption) | assumption); obtain ⟨ad193, A193_0, c193_0, e193, hx193_0, hl193_0, hi193_0⟩ := at_L1 (Kd.C_kept_now HR0.out HK.out) a2 p193 q193; cases e193; have HR193_0 := Aside0.mk hi193_0; have HC193_0 := Aside0.mk hl193_0; clear hi193_0 hl193_0; replace p193 := eq_true p193; replace q193 := eq_true q193; have p194 : 0 ≤ (x12_1 : Int) := of_decide_eq_true (by first | (with_reducible assumption) | assumption); have q194 : x12_1 < ((rd_L1 l0 a2).length : Int) := of_decide_eq_true (by first | (with_reducible assumption) | assumption); obtain ⟨ad194, e194, hx194_0⟩ := Kd.at_int (by repeat (first | (with_reducible exact HR193_0.out) | (with_reducible refine Kd.C_alloc ?_ _) | (with_reducible refine Kd.C_drewN ?_ _) | (with_reducible refine Kd.C_drew ?_) | exact HR193_0.out)) x12_1 p194 q194; cases e194; replace p194 := eq_true p194; replace q194 := eq_true q194))
                              go_roundg kj6
                              case measure => have := HK1.out; have := HJ6.out; omega
                              case rel => exact ⟨(y188), (wrap64 ((rd (rd_L1 l0 a2) x12_1) + t185)), (true), (wrap64 (x12_1 + 1)), (by first | rfl | (simp; done) | (simp [*]; done)), (by first | rfl | (simp; done) | (simp [*]; done)), (by first | rfl | (simp; done) | (simp [*]; done)), H', ⟨by have := HK1.out; have := HJ6.out; omega⟩, ⟨by (with_reducible repeat (first | apply Kd.R_alloc | apply Kd.R_drewN | apply Kd.R_drew)); exact HO_3.out⟩, ⟨by repeat (first | (with_reducible first | exact HK.out | apply Kept.alloc | apply Kept.drewN | apply Kept.drew) | exact HK.out)⟩, ⟨by repeat (first | (with_reducible first | exact HB.out | apply below_alloc | apply pw_below_drewN | apply below_drew1) | exact HB.out)⟩⟩
                            · rw [if_neg c41] at H
                              exact absurd H (by simp)
                          · rw [if_neg c40] at H
                            exact absurd H (by simp)
                        · rw [if_neg c39] at H
                          exact absurd H (by simp)
                    · replace c23 := Bool.eq_false_iff.mpr c23
                      subst c23
                      have H1 : (secateurref29_Least.l0 kj6 l0 l1 a2 y188 x10_1 x11_1 (wrap64 (x12_1 + 1))) = some (r1, r2, r3) := by rw [if_neg (show ¬ (false = true) by decide)] at H; exact H
                      clear H
                      have H := H1
                      clear H1
                      have H' := Aside0.mk H
                      clear H
                      have p20 : 0 ≤ (x12_1 : Int) := of_decide_eq_true (by first | (with_reducible assumption) | assumption)
                      have q20 : (x12_1 : Int) < ((x3_1.length : Int) : Int) := of_decide_eq_true (by first | (with_reducible assumption) | assumption)
                      obtain ⟨go20, co20, eo20, gb20, gl20, cl20, HG20⟩ := Kd.R_form HO_3.out (by omega)
                      (first | cases eo20 | (injection eo20 with ea_ en_ ec_; (first | subst ea_ | (injection ea_ with ea_; subst ea_)); subst ec_; clear en_))
                      have GB20 := Aside0.mk gb20
                      have GG20 := Aside0.mk HG20
                      clear gb20 gl20 HG20
                      have HMgo20 := Aside0.mk (show (P3_ go20 ∨ w.heap.size ≤ go20) from (HO_3.out.1 _ rfl))
                      obtain ⟨hx20_0, hf20_0⟩ := Kd.R_celln false HO_3.out (x12_1 : Int) p20 q20
                      replace p20 := eq_true p20
                      replace q20 := eq_true q20
                      have HP47 := Kd.R_putg HO_3.out (x12_1 : Int) true
                      go_wp2_with (first | ((with_reducible refine gate_store (t := 4) (p := 40) rfl ?_); refine store_event (t := 4) (p := 40) (v := ?vo_w48) (w1 := (wc.setCell ⟨go20, (x12_1 : Int).toNat, none⟩ (.bool true))) ?hg ?ho ?hn ?hr ?_; (case ho => rfl); (case hg => rfl); (case hn => rfl); (case hr => first | (go_simp; done) | (go_simp; rfl)); intro w48 hw; have hg : wc.grownBy w48 (some go20) := (by rw [hw]; exact HP47.2); have hp_ : Kd.R Kd.bool 4 w48 w0.heap.size (fun k_ => (P3_ k_ ∨ w.heap.size ≤ k_)) (.slice (some ⟨go20, 0, none⟩) x3_1.length co20) y184 := (by rw [hw, Ny184.out]; exact HP47.1); clear HP47; have n0_ := Aside0.mk (hp_); have n1_ := Aside0.mk ((by rw [hw]; exact below_set (HB.out) GB20.out : Below w0.heap.size w0 w48)); have n2_ := Aside0.mk (Kept.of_grown (S := (fun k_ => P3_ k_)) hg (by repeat (first | (with_reducible first | exact HK.out | apply Kept.alloc | apply Kept.drewN | apply Kept.drew) | exact HK.out)) (fun k_ e_ => (HO_3.out.1 k_ e_))); clear HO_3; clear HB; clear HK; have HO_3 := n0_; have HB := n1_; have HK := n2_; clear n0_ n1_ n2_; clear hg hw hp_) | ((with_reducible refine gate_callee (f := 16) rfl ?_); refine goesL_ (some 47) rfl rfl Try.func16 (by kernel_rfl) rfl #[.slice A0 l0.length c0, .slice A1 l1.length c1, .int .i64 (wrap64 (a2 + 1)), .slice (some ⟨go20, 0, none⟩) x3_1.length co20] rfl (by (try simp only [List.map_toArray, List.map_cons, List.map_nil]); first | done | rfl | (simp only [List.length_drop, List.length_take]; rfl)) ?_; (with_reducible refine (ih kj6 (by have := HK1.out; have := HJ6.out; omega) _ _ l0 _ _ l1 (wrap64 (a2 + 1)) (fun k_ => some k_ = (.slice (some ⟨go20, 0, none⟩) x3_1.length co20 : Value).ownBlock) (.slice (some ⟨go20, 0, none⟩) x3_1.length co20) y184 t185 false t187 w0 _ ?side1 ?side2 ?side3 ?side4 ?side5 ?side6 A21.out).mono ?_); (case side1 => repeat (first | (with_reducible first | exact HB.out | apply below_alloc | apply pw_below_drewN | apply below_drew1) | exact HB.out)); (case side2 => exact Kd.C_kept_call HR0.out (by repeat (first | (with_reducible first | exact HK.out | apply Kept.alloc | apply Kept.drewN | apply Kept.drew) | exact HK.out)) (fun k_ hs_ => (fun e_ => (HO_3.out.1 k_ e_.symm)) hs_)); (case side3 => exact HC0.out); (case side4 => exact Kd.C_kept_call HR1.out (by repeat (first | (with_reducible first | exact HK.out | apply Kept.alloc | apply Kept.drewN | apply Kept.drew) | exact HK.out)) (fun k_ hs_ => (fun e_ => (HO_3.out.1 k_ e_.symm)) hs_)); (case side5 => exact HC1.out); (case side6 => exact Kd.R_tight rfl HO_3.out); rintro e w49 ⟨rfl, hy0, hb, hkp⟩; refine ⟨_, rfl, ?_⟩; have n0_ := Aside0.mk (Kd.R_reok rfl hy0 (fun k_ e_ => HO_3.out.1 k_ e_)); have n1_ := Aside0.mk (Kept.then_ (S := (fun k_ => P3_ k_)) (by repeat (first | (with_reducible first | exact HK.out | apply Kept.alloc | apply Kept.drewN | apply Kept.drew) | exact HK.out)) hkp (fun k_ hs_ => (fun e_ => (HO_3.out.1 k_ e_.symm)) hs_)); have n2_ := Aside0.mk (hb); clear HO_3; clear HK; clear HB; have HO_3 := n0_; have HK := n1_; have HB := n2_; clear n0_ n1_ n2_; (try clear hb); (try clear hkp); (try clear hy0); have p22 : 0 ≤ (x12_1 : Int) := of_decide_eq_true (by first | (with_reducible assumption) | assumption); have q22 : (x12_1 : Int) < ((x3_1.length : Int) : Int) := of_decide_eq_true (by first | (with_reducible assumption) | assumption); obtain ⟨hx22_0, hf22_0⟩ := Kd.R_celln false HO_3.out (x12_1 : Int) p22 q22; replace p22 := eq_true p22; replace q22 := eq_true q22; obtain ⟨hy50_, hz50_⟩ := Kd.R_celln false HO_3.out (x12_1 : Int) (of_decide_eq_true (by first | (with_reducible assumption) | assumption)) (of_decide_eq_true (by first | (with_reducible assumption) | assumption)); have HP50 := Kd.R_putg HO_3.out (x12_1 : Int) false) | ((with_reducible refine gate_store (t := 4) (p := 52) rfl ?_); refine store_event (t := 4) (p := 52) (v := ?vo_w51) (w1 := (w49.setCell ⟨go20, (x12_1 : Int).toNat, none⟩ (.bool false))) ?hg ?ho ?hn ?hr ?_; (case ho => rfl); (case hg => rfl); (case hn => rfl); (case hr => first | (go_simp; done) | (go_simp; rfl)); intro w51 hw; have hg : w49.grownBy w51 (some go20) := (by rw [hw]; exact HP50.2); have hp_ : Kd.R Kd.bool 4 w51 w0.heap.size (fun k_ => (P3_ k_ ∨ w.heap.size ≤ k_)) (.slice (some ⟨go20, 0, none⟩) x3_1.length co20) y188 := (by rw [hw, Ny188.out]; exact HP50.1); clear HP50; have n0_ := Aside0.mk (hp_); have n1_ := Aside0.mk ((by rw [hw]; exact below_set (HB.out) GB20.out : Below w0.heap.size w0 w51)); have n2_ := Aside0.mk (Kept.of_grown (S := (fun k_ => P3_ k_)) hg (by repeat (first | (with_reducible first | exact HK.out | apply Kept.alloc | apply Kept.drewN | apply Kept.drew) | exact HK.out)) (fun k_ e_ => (HO_3.out.1 k_ e_))); clear HO_3; clear HB; clear HK; have HO_3 := n0_; have HB := n1_; have HK := n2_; clear n0_ n1_ n2_; clear hg hw hp_))
                      go_roundg kj6
                      case measure => have := HK1.out; have := HJ6.out; omega
                      case rel => exact ⟨(y188), (x10_1), (x11_1), (wrap64 (x12_1 + 1)), (by first | rfl | (simp; done) | (simp [*]; done)), (by first | rfl | (simp; done) | (simp [*]; done)), (by first | rfl | (simp; done) | (simp [*]; done)), H', ⟨by have := HK1.out; have := HJ6.out; omega⟩, ⟨by (with_reducible repeat (first | apply Kd.R_alloc | apply Kd.R_drewN | apply Kd.R_drew)); exact HO_3.out⟩, ⟨by repeat (first | (with_reducible first | exact HK.out | apply Kept.alloc | apply Kept.drewN | apply Kept.drew) | exact HK.out)⟩, ⟨by repeat (first | (with_reducible first | exact HB.out | apply below_alloc | apply pw_below_drewN | apply below_drew1) | exact HB.out)⟩⟩
                  · rw [if_neg c19] at H
                    exact absurd H (by simp)
                · rw [if_neg c18] at H
                  exact absurd H (by simp)
        · rw [if_neg c6] at H
          have c6b0 : decide (x12_1 < (l0.length : Int)) = false := decide_eq_false c6
          clear c6
          simp only [Option.some.injEq, Prod.mk.injEq] at H
          obtain ⟨rfl, rfl, rfl⟩ := H
          go_wp2
          go_ret2
          exact ⟨by first | rfl | (simp [errW_none, errW_some] <;> rfl) | (simp [*, errW_none, errW_some] <;> rfl), by (with_reducible repeat (first | apply Kd.R_alloc | apply Kd.R_drewN | apply Kd.R_drew)); exact HO_3.out, by repeat (first | (with_reducible first | exact HB.out | apply below_alloc | apply pw_below_drewN | apply below_drew1) | exact HB.out), by repeat (first | (with_reducible first | exact HK.out | apply Kept.alloc | apply Kept.drewN | apply Kept.drew) | exact HK.out)⟩

-- NOT PRINTED: function 116 (slices_Grow_int64_int64)

-- NOT PRINTED: function 76 (slices_Concat_int64_int64)

-- NOT PRINTED: function 117 (reduce_Table_each)

-- NOT PRINTED: function 78 (reduce_Table_fair)

/-! ### num_short: function 119 -/
def num_short.j0 : Nat → Bool → Bool → Int → Int → Option (Int × Bool)
  | 0, _, _, _, _ => none
  | k + 1, x4, x198000, x198001, x198002 => if x4 = true then (some (0, false)) else (if x198000 = true then (some (wrap64 (IntKind.u64.wrap (-x198002)), true)) else (some (wrap64 (x198002), true)))
def num_short.f (k : Nat) (a0_0 : Bool) (a0_1 : Int) (a0_2 : Int) : Option (Int × Bool) := if a0_1 = 0 then (if a0_0 = true then (num_short.j0 k (decide (a0_2 > 9223372036854775808)) a0_0 a0_1 a0_2) else (if a0_2 > 9223372036854775807 then (num_short.j0 k (decide (a0_2 > 9223372036854775807)) a0_0 a0_1 a0_2) else (num_short.j0 k false a0_0 a0_1 a0_2))) else (num_short.j0 k (a0_1 != 0) a0_0 a0_1 a0_2)
theorem num_short.mono_l : ∀ k, (∀ y0 y1 y2 y3, LeO (num_short.j0 k y0 y1 y2 y3) (num_short.j0 (k + 1) y0 y1 y2 y3))
  | 0 => fun _ _ _ _ r h => by simp [num_short.j0] at h
  | k + 1 => by
    have ih0 := num_short.mono_l k
    · intro y0 y1 y2 y3
      unfold num_short.j0
      repeat' first
      | (with_reducible exact ih0 _ _ _ _)
      | (with_reducible exact LeO.refl _)
      | (with_reducible exact LeO.none _)
      | (with_reducible refine LeO.ite ?_ ?_)
      | (with_reducible refine LeO.bind ?_ (fun _ => ?_))
      | exact ih0 _ _ _ _
      | exact LeO.none _
      | refine LeO.ite ?_ ?_
      | refine LeO.bind ?_ (fun _ => ?_)
theorem num_short.mono : ∀ a0 a1 a2 k, LeO (num_short.f k a0 a1 a2) (num_short.f (k + 1) a0 a1 a2) := by
  intro a0 a1 a2 k
  have ih0 := num_short.mono_l k
  unfold num_short.f
  repeat' first
      | (with_reducible exact ih0 _ _ _ _)
      | (with_reducible exact LeO.refl _)
      | (with_reducible exact LeO.none _)
      | (with_reducible refine LeO.ite ?_ ?_)
      | (with_reducible refine LeO.bind ?_ (fun _ => ?_))
      | exact ih0 _ _ _ _
      | exact LeO.none _
      | refine LeO.ite ?_ ?_
      | refine LeO.bind ?_ (fun _ => ?_)
set_option maxHeartbeats 8000000 in
set_option maxRecDepth 100000 in
theorem num_short.calls (k : Nat) (a0_0 : Bool) (a0_1 : Int) (a0_2 : Int) (r1 : Int) (r2 : Bool) (w : World) (h : num_short.f k a0_0 a0_1 a0_2 = some (r1, r2)) :
    Calls Try.prog 119 #[.agg #[.bool a0_0, .int .u64 a0_1, .int .u64 a0_2]] w fun e w' => e = .returned (.tuple #[.int .i64 r1, .bool r2]) ∧ Below w.heap.size w w' := by
  have hu179 := Try.underlying179
  have HB := Aside0.mk (Below.refl w.heap.size w)
  have H : (if a0_1 = 0 then (if a0_0 = true then (num_short.j0 k (decide (a0_2 > 9223372036854775808)) a0_0 a0_1 a0_2) else (if a0_2 > 9223372036854775807 then (num_short.j0 k (decide (a0_2 > 9223372036854775807)) a0_0 a0_1 a0_2) else (num_short.j0 k false a0_0 a0_1 a0_2))) else (num_short.j0 k (a0_1 != 0) a0_0 a0_1 a0_2)) = some (r1, r2) := h
  clear h
  have HC2 := Aside0.mk H
  clear H
  go_enter Try.func119, Try.ntmps119
  go_upto_if 4 with (first | ((with_reducible refine gate_dst (N := 1) rfl ?_); refine box_event ?hg (N := 1) ?hd (cs := #[.bool a0_0, .int .u64 a0_1, .int .u64 a0_2]) (t := 179) ?hr ?_; (case hd => rfl); (case hg => rfl); (case hr => first | (go_simp; done) | (go_simp; rfl)); intro gb197 hg w3 hbox hb; have n0_ := Aside0.mk (below_step (by repeat (first | (with_reducible first | exact HB.out | apply below_alloc | apply pw_below_drewN | apply below_drew1) | exact HB.out)) hb); have n1_ := Aside0.mk (hbox); have n2_ := Aside0.mk ((by rw [hg]; exact (below_size (by repeat (first | (with_reducible first | exact HB.out | apply below_alloc | apply pw_below_drewN | apply below_drew1) | exact HB.out))) : w.heap.size ≤ gb197)); have n3_ := Aside0.mk ((by rw [hg]; exact (below_size (by repeat (first | (with_reducible first | exact HB.out | apply below_alloc | apply pw_below_drewN | apply below_drew1) | exact HB.out))) : w.heap.size ≤ gb197)); clear HB; have HB := n0_; have BK197 := n1_; have GW197 := n2_; have GE197 := n3_; clear n0_ n1_ n2_ n3_; clear hb hbox hg; have hcz4_0 : w3.cell? ⟨gb197, 0, none⟩ = some (.bool a0_0) := (blk_cell BK197.out 0).trans rfl; have hcz4_1 : w3.cell? ⟨gb197, 1, none⟩ = some (.int .u64 a0_1) := (blk_cell BK197.out 1).trans rfl; have hcz4_2 : w3.cell? ⟨gb197, 2, none⟩ = some (.int .u64 a0_2) := (blk_cell BK197.out 2).trans rfl; have hfz4_0 := blk_frozen BK197.out 0; have hfz4_1 := blk_frozen BK197.out 1; have hfz4_2 := blk_frozen BK197.out 2))
  (try simp only [Act.put, List.setIfInBounds_toArray, List.set_cons_zero, List.set_cons_succ])
  go_cut [4] (fun v4 wc => ∃ (kq : Nat) (x4_1 : Bool), v4 = .bool x4_1 ∧ Aside0 (num_short.j0 kq x4_1 a0_0 a0_1 a0_2 = some (r1, r2)) ∧ Aside0 (kq ≤ k) ∧ Aside0 (wc.heap[gb197]? = some (.cells #[.bool a0_0, .int .u64 a0_1, .int .u64 a0_2] 179 (0, 0))) ∧ Aside0 (Below w.heap.size w wc))
  case first =>
    have H := HC2.out
    clear HC2
    by_cases c5 : a0_1 = 0
    · rw [if_pos c5] at H
      have c5b0 : (a0_1 == 0) = true := beq_iff_eq.mpr c5
      have c5b1 : (a0_1 != 0) = false := bne_eq_false_iff_eq.mpr c5
      clear c5
      (first | rw [c5b0] | (simp only [i64_w, i32_w]; rw [c5b0]) | skip)
      by_cases c6 : a0_0 = true
      · subst c6
        have H1 : (num_short.j0 k (decide (a0_2 > 9223372036854775808)) true a0_1 a0_2) = some (r1, r2) := by rw [if_pos rfl] at H; exact H
        clear H
        have H := H1
        clear H1
        have H' := Aside0.mk H
        clear H
        have hcz7_0 : w3.cell? ⟨gb197, 0, none⟩ = some (.bool true) := (blk_cell BK197.out 0).trans rfl
        have hcz7_1 : w3.cell? ⟨gb197, 1, none⟩ = some (.int .u64 a0_1) := (blk_cell BK197.out 1).trans rfl
        have hcz7_2 : w3.cell? ⟨gb197, 2, none⟩ = some (.int .u64 a0_2) := (blk_cell BK197.out 2).trans rfl
        have hfz7_0 := blk_frozen BK197.out 0
        have hfz7_1 := blk_frozen BK197.out 1
        have hfz7_2 := blk_frozen BK197.out 2
        go_wp2
        go_meet
        case rel => exact ⟨_, (decide (a0_2 > 9223372036854775808)), (by first | rfl | (simp; done) | (simp [*]; done)), H', ⟨by first | omega | exact Nat.le_refl _⟩, ⟨by (with_reducible repeat (first | refine blk_drewN ?_ _ | refine blk_drew ?_ | refine blk_alloc ?_ _)); exact BK197.out⟩, ⟨by repeat (first | (with_reducible first | exact HB.out | apply below_alloc | apply pw_below_drewN | apply below_drew1 | refine below_set ?_ GE197.out) | exact HB.out)⟩⟩
      · replace c6 := Bool.eq_false_iff.mpr c6
        subst c6
        have H1 : (if a0_2 > 9223372036854775807 then (num_short.j0 k (decide (a0_2 > 9223372036854775807)) false a0_1 a0_2) else (num_short.j0 k false false a0_1 a0_2)) = some (r1, r2) := by rw [if_neg (show ¬ (false = true) by decide)] at H; exact H
        clear H
        have H := H1
        clear H1
        by_cases c8 : a0_2 > 9223372036854775807
        · rw [if_pos c8] at H
          have c8b0 : decide (9223372036854775807 < a0_2) = true := decide_eq_true c8
          clear c8
          have H' := Aside0.mk H
          clear H
          have hcz9_0 : w3.cell? ⟨gb197, 0, none⟩ = some (.bool false) := (blk_cell BK197.out 0).trans rfl
          have hcz9_1 : w3.cell? ⟨gb197, 1, none⟩ = some (.int .u64 a0_1) := (blk_cell BK197.out 1).trans rfl
          have hcz9_2 : w3.cell? ⟨gb197, 2, none⟩ = some (.int .u64 a0_2) := (blk_cell BK197.out 2).trans rfl
          have hfz9_0 := blk_frozen BK197.out 0
          have hfz9_1 := blk_frozen BK197.out 1
          have hfz9_2 := blk_frozen BK197.out 2
          go_wp2
          go_meet
          case rel => exact ⟨_, (decide (a0_2 > 9223372036854775807)), (by first | rfl | (simp; done) | (simp [*]; done)), H', ⟨by first | omega | exact Nat.le_refl _⟩, ⟨by (with_reducible repeat (first | refine blk_drewN ?_ _ | refine blk_drew ?_ | refine blk_alloc ?_ _)); exact BK197.out⟩, ⟨by repeat (first | (with_reducible first | exact HB.out | apply below_alloc | apply pw_below_drewN | apply below_drew1 | refine below_set ?_ GE197.out) | exact HB.out)⟩⟩
        · rw [if_neg c8] at H
          have c8b0 : decide (9223372036854775807 < a0_2) = false := decide_eq_false c8
          clear c8
          have H' := Aside0.mk H
          clear H
          have hcz10_0 : w3.cell? ⟨gb197, 0, none⟩ = some (.bool false) := (blk_cell BK197.out 0).trans rfl
          have hcz10_1 : w3.cell? ⟨gb197, 1, none⟩ = some (.int .u64 a0_1) := (blk_cell BK197.out 1).trans rfl
          have hcz10_2 : w3.cell? ⟨gb197, 2, none⟩ = some (.int .u64 a0_2) := (blk_cell BK197.out 2).trans rfl
          have hfz10_0 := blk_frozen BK197.out 0
          have hfz10_1 := blk_frozen BK197.out 1
          have hfz10_2 := blk_frozen BK197.out 2
          go_wp2
          go_meet
          case rel => exact ⟨_, (false), (by first | rfl | (simp; done) | (simp [*]; done)), H', ⟨by first | omega | exact Nat.le_refl _⟩, ⟨by (with_reducible repeat (first | refine blk_drewN ?_ _ | refine blk_drew ?_ | refine blk_alloc ?_ _)); exact BK197.out⟩, ⟨by repeat (first | (with_reducible first | exact HB.out | apply below_alloc | apply pw_below_drewN | apply below_drew1 | refine below_set ?_ GE197.out) | exact HB.out)⟩⟩
    · rw [if_neg c5] at H
      have c5b0 : (a0_1 == 0) = false := beq_eq_false_iff_ne.mpr c5
      have c5b1 : (a0_1 != 0) = true := bne_iff_ne.mpr c5
      (first | rw [c5b0] | (simp only [i64_w, i32_w]; rw [c5b0]) | skip)
      have H' := Aside0.mk H
      clear H
      go_wp2
      go_meet
      case rel => exact ⟨_, ((a0_1 != 0)), (by first | rfl | (simp; done) | (simp [*]; done)), H', ⟨by first | omega | exact Nat.le_refl _⟩, ⟨by (with_reducible repeat (first | refine blk_drewN ?_ _ | refine blk_drew ?_ | refine blk_alloc ?_ _)); exact BK197.out⟩, ⟨by repeat (first | (with_reducible first | exact HB.out | apply below_alloc | apply pw_below_drewN | apply below_drew1 | refine below_set ?_ GE197.out) | exact HB.out)⟩⟩
  case rest =>
    clear HC2
    try clear c1
    try clear p2
    try clear c5
    try clear c5b0
    try clear c5b1
    try clear c6
    try clear c8
    try clear c8b0
    try clear hcz10_0
    try clear hcz10_1
    try clear hcz10_2
    try clear hcz4_0
    try clear hcz4_1
    try clear hcz4_2
    try clear hcz7_0
    try clear hcz7_1
    try clear hcz7_2
    try clear hcz9_0
    try clear hcz9_1
    try clear hcz9_2
    try clear hfz10_0
    try clear hfz10_1
    try clear hfz10_2
    try clear hfz4_0
    try clear hfz4_1
    try clear hfz4_2
    try clear hfz7_0
    try clear hfz7_1
    try clear hfz7_2
    try clear hfz9_0
    try clear hfz9_1
    try clear hfz9_2
    obtain ⟨kq, x4_1, rfl, HA, HJ1, BK197, HB⟩ := hcut
    cases kq with
    | zero => exact absurd HA.out (by simp [num_short.j0])
    | succ kj1 =>
      have H := HA.out
      clear HA
      simp only [num_short.j0] at H
      by_cases c11 : x4_1 = true
      · subst c11
        have H1 : (some (0, false)) = some (r1, r2) := by rw [if_pos rfl] at H; exact H
        clear H
        have H := H1
        clear H1
        simp only [Option.some.injEq, Prod.mk.injEq] at H
        obtain ⟨rfl, rfl⟩ := H
        go_wp2
        go_ret2
        exact ⟨by first | rfl | (simp [errW_none, errW_some] <;> rfl) | (simp [*, errW_none, errW_some] <;> rfl), by repeat (first | (with_reducible first | exact HB.out | apply below_alloc | apply pw_below_drewN | apply below_drew1 | refine below_set ?_ GE197.out) | exact HB.out)⟩
      · replace c11 := Bool.eq_false_iff.mpr c11
        subst c11
        have H1 : (if a0_0 = true then (some (wrap64 (IntKind.u64.wrap (-a0_2)), true)) else (some (wrap64 (a0_2), true))) = some (r1, r2) := by rw [if_neg (show ¬ (false = true) by decide)] at H; exact H
        clear H
        have H := H1
        clear H1
        by_cases c12 : a0_0 = true
        · subst c12
          have H1 : (some (wrap64 (IntKind.u64.wrap (-a0_2)), true)) = some (r1, r2) := by rw [if_pos rfl] at H; exact H
          clear H
          have H := H1
          clear H1
          simp only [Option.some.injEq, Prod.mk.injEq] at H
          obtain ⟨rfl, rfl⟩ := H
          have hcz13_0 : wc.cell? ⟨gb197, 0, none⟩ = some (.bool true) := (blk_cell BK197.out 0).trans rfl
          have hcz13_1 : wc.cell? ⟨gb197, 1, none⟩ = some (.int .u64 a0_1) := (blk_cell BK197.out 1).trans rfl
          have hcz13_2 : wc.cell? ⟨gb197, 2, none⟩ = some (.int .u64 a0_2) := (blk_cell BK197.out 2).trans rfl
          have hfz13_0 := blk_frozen BK197.out 0
          have hfz13_1 := blk_frozen BK197.out 1
          have hfz13_2 := blk_frozen BK197.out 2
          go_wp2
          go_ret2
          exact ⟨by first | rfl | (simp [errW_none, errW_some] <;> rfl) | (simp [*, errW_none, errW_some] <;> rfl), by repeat (first | (with_reducible first | exact HB.out | apply below_alloc | apply pw_below_drewN | apply below_drew1 | refine below_set ?_ GE197.out) | exact HB.out)⟩
        · replace c12 := Bool.eq_false_iff.mpr c12
          subst c12
          have H1 : (some (wrap64 (a0_2), true)) = some (r1, r2) := by rw [if_neg (show ¬ (false = true) by decide)] at H; exact H
          clear H
          have H := H1
          clear H1
          simp only [Option.some.injEq, Prod.mk.injEq] at H
          obtain ⟨rfl, rfl⟩ := H
          have hcz14_0 : wc.cell? ⟨gb197, 0, none⟩ = some (.bool false) := (blk_cell BK197.out 0).trans rfl
          have hcz14_1 : wc.cell? ⟨gb197, 1, none⟩ = some (.int .u64 a0_1) := (blk_cell BK197.out 1).trans rfl
          have hcz14_2 : wc.cell? ⟨gb197, 2, none⟩ = some (.int .u64 a0_2) := (blk_cell BK197.out 2).trans rfl
          have hfz14_0 := blk_frozen BK197.out 0
          have hfz14_1 := blk_frozen BK197.out 1
          have hfz14_2 := blk_frozen BK197.out 2
          go_wp2
          go_ret2
          exact ⟨by first | rfl | (simp [errW_none, errW_some] <;> rfl) | (simp [*, errW_none, errW_some] <;> rfl), by repeat (first | (with_reducible first | exact HB.out | apply below_alloc | apply pw_below_drewN | apply below_drew1 | refine below_set ?_ GE197.out) | exact HB.out)⟩

/-! ### cmp_Or_int: function 166 -/
def cmp_Or_int.l0 : Nat → Int → List Int → Int → Int → Option (Int)
  | 0, _, _, _, _ => none
  | k + 1, x3, x6, x7, x8 => if x8 < x7 then (if 0 ≤ x8 then (if x8 < (x6.length : Int) then (if (rd x6 x8) = x3 then (cmp_Or_int.l0 k x3 x6 x7 (wrap64 (x8 + 1))) else (some (rd x6 x8))) else (none)) else (none)) else (some x3)
def cmp_Or_int.f (k : Nat) (l0 : List Int) : Option (Int) := cmp_Or_int.l0 k 0 l0 (l0.length : Int) 0
theorem cmp_Or_int.mono_l : ∀ k, (∀ y0 y1 y2 y3, LeO (cmp_Or_int.l0 k y0 y1 y2 y3) (cmp_Or_int.l0 (k + 1) y0 y1 y2 y3))
  | 0 => fun _ _ _ _ r h => by simp [cmp_Or_int.l0] at h
  | k + 1 => by
    have ih0 := cmp_Or_int.mono_l k
    · intro y0 y1 y2 y3
      unfold cmp_Or_int.l0
      repeat' first
      | (with_reducible exact ih0 _ _ _ _)
      | (with_reducible exact LeO.refl _)
      | (with_reducible exact LeO.none _)
      | (with_reducible refine LeO.ite ?_ ?_)
      | (with_reducible refine LeO.bind ?_ (fun _ => ?_))
      | exact ih0 _ _ _ _
      | exact LeO.none _
      | refine LeO.ite ?_ ?_
      | refine LeO.bind ?_ (fun _ => ?_)
theorem cmp_Or_int.mono : ∀ a0 k, LeO (cmp_Or_int.f k a0) (cmp_Or_int.f (k + 1) a0) := by
  intro a0 k
  have ih0 := cmp_Or_int.mono_l k
  unfold cmp_Or_int.f
  repeat' first
      | (with_reducible exact ih0 _ _ _ _)
      | (with_reducible exact LeO.refl _)
      | (with_reducible exact LeO.none _)
      | (with_reducible refine LeO.ite ?_ ?_)
      | (with_reducible refine LeO.bind ?_ (fun _ => ?_))
      | exact ih0 _ _ _ _
      | exact LeO.none _
      | refine LeO.ite ?_ ?_
      | refine LeO.bind ?_ (fun _ => ?_)
set_option maxHeartbeats 8000000 in
set_option maxRecDepth 100000 in
theorem cmp_Or_int.calls (k : Nat) (A0 : Option Addr) (c0 : Nat) (l0 : List Int) (r : Int) (w : World) (hr0 : Kd.C (Kd.int .i64) w A0 l0.length l0) (hc0 : l0.length ≤ c0) (h : cmp_Or_int.f k l0 = some r) :
    Calls Try.prog 166 #[.slice A0 l0.length c0] w fun e w' => e = .returned (.int .i64 r) ∧ Drawn0 w w' := by
  have HR0 := Aside0.mk hr0
  have HC0 := Aside0.mk hc0
  clear hr0 hc0
  have H : (cmp_Or_int.l0 k 0 l0 (l0.length : Int) 0) = some r := h
  clear h
  have H' := Aside0.mk H
  clear H
  go_enter Try.func166, Try.ntmps166
  go_wp2
  go_loopg [8] k (fun kq v8 w' => ∃ (x8_1 : Int), v8 = .int .i64 x8_1 ∧ Aside0 (cmp_Or_int.l0 kq 0 l0 (l0.length : Int) x8_1 = some r) ∧ Aside0 (kq ≤ k) ∧ Drawn0 w w')
  case atStart => exact ⟨(0), (by first | rfl | (simp; done) | (simp [*]; done)), H', ⟨Nat.le_refl _⟩, by repeat (first | exact Drawn0.refl _ | apply Drawn0.step)⟩
  case round =>
    clear H'
    try clear c1
    obtain ⟨x8_1, rfl, HA, HK1, ⟨m1, rfl⟩⟩ := hrel
    cases gk with
    | zero => exact absurd HA.out (by simp [cmp_Or_int.l0])
    | succ k1 =>
      have H := HA.out
      clear HA
      simp only [cmp_Or_int.l0] at H
      by_cases c2 : x8_1 < (l0.length : Int)
      · rw [if_pos c2] at H
        have c2b0 : decide (x8_1 < (l0.length : Int)) = true := decide_eq_true c2
        clear c2
        by_cases c3 : 0 ≤ x8_1
        · rw [if_pos c3] at H
          have c3b0 : decide (0 ≤ x8_1) = true := decide_eq_true c3
          clear c3
          by_cases c4 : x8_1 < (l0.length : Int)
          · rw [if_pos c4] at H
            have c4b0 : decide (x8_1 < (l0.length : Int)) = true := decide_eq_true c4
            clear c4
            by_cases c5 : (rd l0 x8_1) = 0
            · rw [if_pos c5] at H
              have c5b0 : ((rd l0 x8_1) == 0) = true := beq_iff_eq.mpr c5
              have c5b1 : ((rd l0 x8_1) != 0) = false := bne_eq_false_iff_eq.mpr c5
              clear c5
              have H' := Aside0.mk H
              clear H
              have p198 : 0 ≤ (x8_1 : Int) := of_decide_eq_true (by first | (with_reducible assumption) | assumption)
              have q198 : x8_1 < (l0.length : Int) := of_decide_eq_true (by first | (with_reducible assumption) | assumption)
              obtain ⟨ad198, e198, hx198_0⟩ := Kd.at_int HR0.out x8_1 p198 q198
              cases e198
              replace p198 := eq_true p198
              replace q198 := eq_true q198
              go_wp2
              go_roundg k1
              case measure => have := HK1.out; omega
              case rel => exact ⟨(wrap64 (x8_1 + 1)), (by first | rfl | (simp; done) | (simp [*]; done)), H', ⟨by have := HK1.out; omega⟩, by repeat (first | exact Drawn0.refl _ | apply Drawn0.step)⟩
            · rw [if_neg c5] at H
              have c5b0 : ((rd l0 x8_1) == 0) = false := beq_eq_false_iff_ne.mpr c5
              have c5b1 : ((rd l0 x8_1) != 0) = true := bne_iff_ne.mpr c5
              obtain rfl := Option.some.inj H
              have p198 : 0 ≤ (x8_1 : Int) := of_decide_eq_true (by first | (with_reducible assumption) | assumption)
              have q198 : x8_1 < (l0.length : Int) := of_decide_eq_true (by first | (with_reducible assumption) | assumption)
              obtain ⟨ad198, e198, hx198_0⟩ := Kd.at_int HR0.out x8_1 p198 q198
              cases e198
              replace p198 := eq_true p198
              replace q198 := eq_true q198
              go_wp2
              go_ret
              exact ⟨by first | rfl | (simp; done) | (simp [*]; done), by repeat (first | exact Drawn0.refl _ | apply Drawn0.step)⟩
          · rw [if_neg c4] at H
            exact absurd H (by simp)
        · rw [if_neg c3] at H
          exact absurd H (by simp)
      · rw [if_neg c2] at H
        have c2b0 : decide (x8_1 < (l0.length : Int)) = false := decide_eq_false c2
        clear c2
        obtain rfl := Option.some.inj H
        go_wp2
        go_ret
        exact ⟨by first | rfl | (simp; done) | (simp [*]; done), by repeat (first | exact Drawn0.refl _ | apply Drawn0.step)⟩

/-! ### cmp_isNaN_uint64: function 172 -/
def cmp_isNaN_uint64.f (a0 : Int) : Option (Bool) := some (a0 != a0)
set_option maxHeartbeats 8000000 in
set_option maxRecDepth 100000 in
theorem cmp_isNaN_uint64.calls (a0 : Int) (r : Bool) (w : World) (h : cmp_isNaN_uint64.f a0 = some r) :
    Calls Try.prog 172 #[.int .u64 a0] w fun e w' => e = .returned (.bool r) ∧ Drawn0 w w' := by
  have H : (some (a0 != a0)) = some r := h
  clear h
  obtain rfl := Option.some.inj H
  go_enter Try.func172, Try.ntmps172
  go_wp2
  go_ret
  exact ⟨by first | rfl | (simp; done) | (simp [*]; done), by repeat (first | exact Drawn0.refl _ | apply Drawn0.step)⟩

end Go.Proofs.Ytelabmhhnpfegaa.PHungLeast
