/- EvalSigns: walked. -/
import Derived.StillTailTactics
import Derived.BigQuiet
import Derived.Test.YtofomlpdklhigaaGreatDoorSw
import Derived.Test.YtofomlpdklhigaaGreatDoorSg
namespace Go.Proofs.YtofomlpdklhigaaGreatDoor.Hand
open Go.RowKit Go.Proofs.YtofomlpdklhigaaGreatDoorW.PrintWords Go.Proofs.YtofomlpdklhigaaGreatDoorW.PrintLast Go.Proofs.YtofomlpdklhigaaGreatDoorW.PrintMore
set_option linter.unusedVariables false
set_option linter.unusedSimpArgs false
attribute [local go_sem] max2_int min2_int max_two min_two
theorem C_takeI {w : World} {A : Option Addr} {ys : List Int} (h : (Kd.int .i64).C w A ys.length ys) (m : Nat) : (Kd.int .i64).C w A (ys.take m).length (ys.take m) := by
  obtain ⟨_, hm, hc⟩ := h
  refine ⟨rfl, by rw [List.length_take]; omega, fun h0 => ?_⟩
  rw [List.length_take] at h0
  obtain ⟨ad, e, hj⟩ := hc (by omega)
  refine ⟨ad, e, fun j p hp => hj j p ?_⟩
  rw [List.getElem?_take] at hp
  split at hp
  · exact hp
  · cases hp
theorem txt_len {ns : List Int} (h : ∀ n ∈ ns, -9223372036854775808 ≤ n ∧ n ≤ 9223372036854775807) (hl : ns.length ≤ 50) : (textP ns).length ≤ 1048576 := by
  unfold textP
  split
  · decide
  · have := wrd_len ns h
    unfold wrdP at this
    omega
set_option maxHeartbeats 4000000 in
set_option maxRecDepth 100000 in
theorem signs_law (w : World) (A : Option Addr) (n c : Nat) (xs : List Int) (hC : (Kd.int .i64).C w A n xs) (hnc : n ≤ c) (hn : n ≤ 17592186044416) (hxi : ∀ k ∈ xs, -9223372036854775808 ≤ k ∧ k ≤ 9223372036854775807)
    (l : List UInt8) (hl : l.length ≤ 1048576) {B : Nat} (hLd : Ld B w) : Calls Tryz.prog 3 #[.slice A n c, .string (sB l)] w fun e w' => e = .returned (.bool true) ∧ Below w.heap.size w w' := by
  have HD := Aside0.mk hLd
  obtain ⟨m, hm⟩ : ∃ m, m = min n 50 := ⟨_, rfl⟩
  have em : (if (50 : Int) < (n : Int) then 50 else (n : Int)) = (m : Int) := by split <;> omega
  have hmn : m ≤ n := by omega
  have hm50 : m ≤ 50 := by omega
  obtain ⟨ys, hys⟩ : ∃ ys, ys = xs.take m := ⟨_, rfl⟩
  have hCm : (Kd.int .i64).C w A m ys := by
    have e1 : xs.length = n := hC.1
    have h1 := C_takeI (w := w) (A := A) (ys := xs) (by rw [e1]; exact hC) m
    rw [show (xs.take m).length = m by rw [List.length_take]; omega] at h1
    rw [hys]
    exact h1
  have hyi : ∀ k ∈ ys, -9223372036854775808 ≤ k ∧ k ≤ 9223372036854775807 := fun k hk => hxi k (by rw [hys] at hk; exact List.mem_of_mem_take hk)
  have HC := Aside0.mk hCm
  have HY := Aside0.mk hyi
  have HLY : Aside0 (ys.length = m) := ⟨hCm.1⟩
  have HP1 : Aside0 (Calls Tryz.prog 8 #[.string (sB l)] w fun e w' => ∃ A c, e = .returned (.tuple #[.slice A (proP l).1.length c, .int .i64 (proP l).2]) ∧ Aside0 ((Kd.int .i64).C w' A (proP l).1.length (proP l).1 ∧ Below w.heap.size w w')) := ⟨parse_any w l hl hLd⟩
  have HP2 := Aside0.mk (fun W => parse12_any W l hl)
  obtain ⟨pl, hpl⟩ : ∃ p, p = (proP l).1 := ⟨_, rfl⟩
  obtain ⟨er, her⟩ : ∃ p, p = (proP l).2 := ⟨_, rfl⟩
  rw [← pro_ref] at HP2
  rw [← hpl, ← her] at HP1 HP2
  have HPI : Aside0 (pl.length ≤ 4194304 ∧ ∀ k ∈ pl, -9223372036854775808 ≤ k ∧ k ≤ 9223372036854775807) := ⟨by
    rw [hpl, pro_ref]
    unfold refP
    split
    · exact ⟨by decide, by intro k hk; cases hk⟩
    · split
      · exact ⟨by decide, by intro k hk; cases hk⟩
      · rename_i ns hns
        have h1 := allW_len _ _ _ hns
        have h2 := spl_count l
        obtain ⟨_, hb⟩ := canW_all _ _ hns
        exact ⟨by show ns.length ≤ _; omega, fun k hk => ⟨by have := (hb k hk).1; omega, (hb k hk).2⟩⟩⟩
  obtain ⟨M, hM⟩ : ∃ M, M = pl.length := ⟨_, rfl⟩
  rw [← hM] at HP1 HP2 HPI
  clear hC hxi hys hCm hyi hLd hm hpl her hM hl
  go_enter Tryz.func3, Tryz.ntmps3
  go_upto_region 2 with fail
  go_wp2_with fail
  refine HP1.out.mono ?_
  rintro _ W1 ⟨A1, c1, rfl, H1⟩
  clear HP1
  go_wp2_with fail
  refine (HP2.out W1).mono ?_
  rintro _ W2 ⟨A2, c2, rfl, H2⟩
  have B2 : Aside0 (Below w.heap.size w W2) := ⟨H1.out.2.trans (H2.out.2.mono H1.out.2.size)⟩
  have C1 := Aside0.mk (Kd.C_below H1.out.1 H2.out.2)
  have C2 := Aside0.mk H2.out.1
  clear HP2 H1 H2
  go_wp2_with fail
  refine (wakes_any W2 (HD.out.to B2.out)).mono ?_
  rintro _ W3 ⟨rfl, hb3⟩
  have B3 : Aside0 (Below w.heap.size w W3) := ⟨B2.out.trans (hb3.mono B2.out.size)⟩
  have C13 := Aside0.mk (Kd.C_below C1.out hb3)
  have C23 := Aside0.mk (Kd.C_below C2.out hb3)
  clear hb3 C1 C2
  go_wp2_with fail
  refine (text_any W3 A m c ys (Kd.C_below HC.out B3.out) (by omega) HY.out (HD.out.to B3.out)).mono ?_
  rintro _ W4 ⟨rfl, hb4⟩
  have B4 : Aside0 (Below w.heap.size w W4) := ⟨B3.out.trans (hb4.mono B3.out.size)⟩
  have C14 := Aside0.mk (Kd.C_below C13.out hb4)
  have C24 := Aside0.mk (Kd.C_below C23.out hb4)
  clear hb4 C13 C23
  go_wp2_with fail
  refine (text12_any W4 A m c ys (Kd.C_below HC.out B4.out) (by omega) HY.out).mono ?_
  rintro _ W5 ⟨rfl, hb5⟩
  have B5 : Aside0 (Below w.heap.size w W5) := ⟨B4.out.trans (hb5.mono B4.out.size)⟩
  have C15 := Aside0.mk (Kd.C_below C14.out hb5)
  have C25 := Aside0.mk (Kd.C_below C24.out hb5)
  clear hb5 C14 C24
  have hc1 := sB_eq (textP ys) (textP ys)
  have gne : (er != er) = false := by simp
  go_wp2_with fail
  refine (text_any W5 A1 M c1 pl C15.out HPI.out.1 HPI.out.2 (HD.out.to B5.out)).mono ?_
  rintro _ W6 ⟨rfl, hb6⟩
  have B6 : Aside0 (Below w.heap.size w W6) := ⟨B5.out.trans (hb6.mono B5.out.size)⟩
  have C26 := Aside0.mk (Kd.C_below C25.out hb6)
  clear hb6 C15 C25
  go_wp2_with fail
  refine (text12_any W6 A2 M c2 pl C26.out HPI.out.1 HPI.out.2).mono ?_
  rintro _ W7 ⟨rfl, hb7⟩
  have B7 : Aside0 (Below w.heap.size w W7) := ⟨B6.out.trans (hb7.mono B6.out.size)⟩
  clear hb7 C26 hc1
  have hc2 := sB_eq (textP pl) (textP pl)
  have K0 : Aside0 (∀ j, j < 0 → 0 ≤ ys.getD j 0) := ⟨fun j hj => absurd hj (Nat.not_lt_zero _)⟩
  go_wp2_with fail
  clear hc2
  go_loopw [52] (fun v52 wr => ∃ i : Nat, i ≤ m ∧ v52 = .int .i64 (i : Int) ∧ Aside0 (∀ j, j < i → 0 ≤ ys.getD j 0) ∧ Aside0 (Below w.heap.size w wr)) (fun v52 _ => m - (intOf v52).toNat)
  case atStart => exact ⟨0, Nat.zero_le _, rfl, K0, B7⟩
  case round =>
    clear K0 B7
    obtain ⟨i, hi, rfl, KR, B7⟩ := hrel
    by_cases hlt : i < m
    · obtain ⟨ad, hA, c0⟩ := at_Int HC.out i hlt
      have c1' := pw_cell_below B7.out c0
      obtain ⟨k, hk⟩ : ∃ k, k = ys.getD i 0 := ⟨_, rfl⟩
      rw [← hk] at c1'
      have HK := Aside0.mk hk
      subst hA
      clear hk c0
      by_cases hneg : k < 0
      · go_wp2_with fail
        go_ret
        exact ⟨rfl, B7.out⟩
      · have NX : Aside0 (∀ j, j < i + 1 → 0 ≤ ys.getD j 0) := ⟨fun j hj => by
          by_cases h : j = i
          · rw [h, ← HK.out]; omega
          · exact KR.out j (by omega)⟩
        go_wp2_with fail
        exact ⟨⟨i + 1, by omega, by go_num, NX, B7⟩, by simp [intOf]; omega⟩
    · obtain rfl : i = m := by omega
      have hall : ∀ k ∈ ys, 0 ≤ k ∧ k ≤ 9223372036854775807 := fun k hk => by
        refine ⟨?_, (HY.out k hk).2⟩
        obtain ⟨j, hj⟩ := List.getElem?_of_mem hk
        have hjl := (List.getElem?_eq_some_iff.1 hj).1
        have h1 := KR.out j (by have := HLY.out; omega)
        rw [List.getD_eq_getElem?_getD, hj] at h1
        exact h1
      have TX := Aside0.mk (text_any wr A i c ys (Kd.C_below HC.out B7.out) (by omega) HY.out (HD.out.to B7.out))
      have BK := back_P hall
      have PA := Aside0.mk (fun (W : World) (h : Ld B W) => parse_any W (textP ys) (txt_len HY.out (by rw [HLY.out]; exact hm50)) h)
      rw [BK] at PA
      have hly : ys.length = i := HLY.out
      have PA2 : Aside0 (∀ (W : World), Ld B W → Calls Tryz.prog 8 #[.string (sB (textP ys))] W fun e w' => ∃ A c, e = .returned (.tuple #[.slice A i c, .int .i64 0]) ∧ Aside0 ((Kd.int .i64).C w' A i ys ∧ Below W.heap.size W w')) := ⟨fun W h => by
        have := PA.out W h
        rw [← hly]
        exact this⟩
      clear PA BK hall KR hly
      go_wp2_with fail
      refine TX.out.mono ?_
      rintro _ W8 ⟨rfl, hb8⟩
      have B8 : Aside0 (Below w.heap.size w W8) := ⟨B7.out.trans (hb8.mono B7.out.size)⟩
      clear hb8 TX
      go_wp2_with fail
      refine (PA2.out W8 (HD.out.to B8.out)).mono ?_
      rintro _ W9 ⟨A9, c9, rfl, H9⟩
      have B9 : Aside0 (Below w.heap.size w W9) := ⟨B8.out.trans (H9.out.2.mono B8.out.size)⟩
      have C9 := Aside0.mk H9.out.1
      have CX := Aside0.mk (Kd.C_below HC.out B9.out)
      clear H9 PA2
      have gi : ((i : Int) != (i : Int)) = false := by simp
      go_wp2_with fail
      go_loopw [76] (fun v76 wr2 => ∃ q : Nat, q ≤ i ∧ v76 = .int .i64 (q : Int) ∧ Aside0 (Below W9.heap.size W9 wr2)) (fun v76 _ => i - (intOf v76).toNat)
      case atStart => exact ⟨0, Nat.zero_le _, rfl, ⟨Below.refl _ _⟩⟩
      case round =>
        obtain ⟨q, hq, rfl, BR⟩ := hrel
        by_cases hlt2 : q < i
        · obtain ⟨ad, hA, c0⟩ := at_Int CX.out q hlt2
          obtain ⟨ad9, hA9, c90⟩ := at_Int C9.out q hlt2
          have c1' := pw_cell_below BR.out c0
          have c2' := pw_cell_below BR.out c90
          obtain ⟨k, hk⟩ : ∃ k, k = ys.getD q 0 := ⟨_, rfl⟩
          rw [← hk] at c1' c2'
          subst hA
          subst hA9
          have gk : (k != k) = false := by simp
          clear hk c0 c90
          go_upto_region 18 with fail
          go_quiet (fail)
          rename_i nq
          have BN : Aside0 (Below W9.heap.size W9 (wr.drewN nq)) := ⟨pw_below_drewN BR.out nq⟩
          go_wp2_with fail
          exact ⟨⟨q + 1, by omega, by go_num, BN⟩, by simp [intOf]; omega⟩
        · obtain rfl : q = i := by omega
          go_wp2_with fail
          go_ret
          exact ⟨rfl, B9.out.trans (BR.out.mono B9.out.size)⟩
end Go.Proofs.YtofomlpdklhigaaGreatDoor.Hand
