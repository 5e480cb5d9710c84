/- The document's number of decimals: walked. -/
import Derived.Test.YtofomlpdklhigaaGreatDoorSb
namespace Go.Proofs.YtofomlpdklhigaaGreatDoor.Hand
open Go.RowKit Go.Proofs.YtofomlpdklhigaaGreatDoorW.PrintWords Go.Proofs.YtofomlpdklhigaaGreatDoorW.PrintLast Go.Proofs.YtofomlpdklhigaaGreatDoorW.PrintMore
set_option linter.unusedVariables false
set_option linter.unusedSimpArgs false
/-- A byte of a text, as the walk reads it. -/
theorem sB_get (l : List UInt8) (i : Nat) (c : UInt8) (h : l[i]? = some c) : ∀ hh, (sB l)[i]'hh = c := by
  intro hh
  have h1 : i < l.length := (List.getElem?_eq_some_iff.1 h).1
  have h2 := (List.getElem?_eq_some_iff.1 h).2
  rw [← h2]
  rfl
theorem sB_eq (a b : List UInt8) : ((sB a).toList == (sB b).toList) = decide (a = b) := by
  rw [Lib.toList_data, Lib.toList_data, sB_list, sB_list]
  by_cases h : a = b
  · rw [h]; simp
  · rw [decide_eq_false h]; simpa using h
/-- How far a number is read. -/
def numR (ng : Bool) (L : List UInt8) (i : Nat) (n : Int) : Prop := numO L = numL ng (if i = 0 ∧ ng = true then L.tail else L.drop i) n ∧ (-9223372036854775808 ≤ n ∧ n ≤ 9223372036854775807) ∧ (ng = true → n ≤ 0) ∧ (ng = false → 0 ≤ n)
theorem numR_bad {ng : Bool} {L : List UInt8} {i : Nat} {n : Int} {c : UInt8} (h : numR ng L i n) (h0 : ¬ (i = 0 ∧ ng = true)) (hc : L[i]? = some c) (hb : c.toNat < 48 ∨ 57 < c.toNat) : numS L = (0, false) := by
  obtain ⟨e, _⟩ := h
  obtain ⟨h1, h2⟩ := List.getElem?_eq_some_iff.1 hc
  rw [if_neg h0, List.drop_eq_getElem_cons h1, h2, numL, if_pos hb] at e
  unfold numS
  rw [e]
theorem numR_neg {L : List UInt8} {i : Nat} {n : Int} {c : UInt8} (h : numR true L i n) (h0 : i ≠ 0) (hc : L[i]? = some c) (hb : ¬ (c.toNat < 48 ∨ 57 < c.toNat)) :
    (n < (-9223372036854775808 + ((c.toNat : Int) - 48)).tdiv 10 → numS L = (0, false)) ∧ (¬ n < (-9223372036854775808 + ((c.toNat : Int) - 48)).tdiv 10 → numR true L (i + 1) (10 * n - ((c.toNat : Int) - 48)) ∧ -9223372036854775808 ≤ 10 * n) := by
  obtain ⟨e, hb1, hb2, hb3⟩ := h
  obtain ⟨h1, h2⟩ := List.getElem?_eq_some_iff.1 hc
  have hn : n ≤ 0 := hb2 rfl
  rw [if_neg (fun h => h0 h.1), List.drop_eq_getElem_cons h1, h2, numL, if_neg hb, if_pos rfl] at e
  refine ⟨fun hlt => ?_, fun hlt => ?_⟩
  · rw [if_pos hlt] at e
    unfold numS
    rw [e]
  · rw [if_neg hlt] at e
    rw [tdiv_neg _ (by omega) (by omega)] at hlt
    exact ⟨⟨by rw [if_neg (by omega)]; exact e, by omega, fun _ => by omega, fun h => by cases h⟩, by omega⟩
theorem numR_pos {L : List UInt8} {i : Nat} {n : Int} {c : UInt8} (h : numR false L i n) (hc : L[i]? = some c) (hb : ¬ (c.toNat < 48 ∨ 57 < c.toNat)) :
    ((9223372036854775807 - ((c.toNat : Int) - 48)).tdiv 10 < n → numS L = (0, false)) ∧ (¬ (9223372036854775807 - ((c.toNat : Int) - 48)).tdiv 10 < n → numR false L (i + 1) (10 * n + ((c.toNat : Int) - 48)) ∧ 10 * n ≤ 9223372036854775807) := by
  obtain ⟨e, hb1, hb2, hb3⟩ := h
  obtain ⟨h1, h2⟩ := List.getElem?_eq_some_iff.1 hc
  have hn : 0 ≤ n := hb3 rfl
  rw [if_neg (fun h => by cases h.2), List.drop_eq_getElem_cons h1, h2, numL, if_neg hb, if_neg (by decide)] at e
  refine ⟨fun hlt => ?_, fun hlt => ?_⟩
  · rw [if_pos hlt] at e
    unfold numS
    rw [e]
  · rw [if_neg hlt] at e
    rw [tdiv_pos _ (by omega) (by omega)] at hlt
    exact ⟨⟨by rw [if_neg (fun h => by cases h.2)]; exact e, by omega, (fun h => by cases h), fun _ => by omega⟩, by omega⟩
theorem numR_end {ng : Bool} {L : List UInt8} {n : Int} (h : numR ng L L.length n) (h0 : L ≠ []) : numS L = (n, decide (Lib.itoa n = L)) := by
  obtain ⟨e, _⟩ := h
  have hl : L.length ≠ 0 := fun h => h0 (List.length_eq_zero_iff.1 h)
  rw [if_neg (fun h => hl h.1), List.drop_length] at e
  unfold numS
  rw [e]
  rfl
theorem numR_start (c0 : UInt8) (r : List UInt8) : numR (negB (c0 :: r)) (c0 :: r) 0 0 := by
  refine ⟨?_, by decide, fun _ => Int.le_refl _, fun _ => Int.le_refl _⟩
  unfold numO
  cases negB (c0 :: r) with
  | true => rfl
  | false => rfl
theorem numR_skip {L : List UInt8} {n : Int} (h : numR true L 0 n) : numR true L 1 n := by
  obtain ⟨e, h1⟩ := h
  rw [if_pos ⟨rfl, rfl⟩] at e
  refine ⟨?_, h1⟩
  rw [if_neg (by omega), e, List.drop_one]
set_option maxHeartbeats 2000000 in
theorem num_any (l : List UInt8) (hl : l.length ≤ 281474976710656) (w : World) : Calls Tryz.prog 25 #[.string (sB l)] w fun e w' => e = .returned (.tuple #[.int .i64 (numS l).1, .bool (numS l).2]) ∧ Below w.heap.size w w' := by
  have hsz := sB_size l
  go_enter Tryz.func25, Tryz.ntmps25
  cases l with
  | nil =>
    have HS : Aside0 (numS [] = (0, decide (Lib.itoa 0 = []))) := ⟨rfl⟩
    have hsz0 : (sB []).size = 0 := rfl
    clear hsz hl
    go_wp2_with fail
    refine wp_loop_rounds 1 ?_
    rw [rounds_succ]
    go_wp2_with fail
    refine (dig_any 0 (by decide) (by decide) w).mono ?_
    rintro _ W' ⟨rfl, HB'⟩
    have HB := Aside0.mk HB'
    clear HB'
    have hc := sB_eq (Lib.itoa 0) []
    go_wp2_with fail
    go_ret2
    exact ⟨by rw [HS.out]; rfl, HB.out⟩
  | cons c0 r =>
    obtain ⟨ng, hng⟩ : ∃ ng, ng = negB (c0 :: r) := ⟨_, rfl⟩
    have hg0 := sB_get (c0 :: r) 0 c0 rfl
    have hng2 : (((c0.toNat : Nat) : Int) == 45) = ng := by
      rw [hng]
      unfold negB
      by_cases h : c0 = 45
      · subst h; rfl
      · have h1 : c0.toNat ≠ 45 := fun e => h (by apply UInt8.toNat.inj; exact e)
        have h2 : ¬ ((c0.toNat : Nat) : Int) = 45 := by omega
        have e1 : (((c0.toNat : Nat) : Int) == 45) = false := by simpa using h2
        rw [e1]
        simpa using h
    have hst := numR_start c0 r
    rw [← hng] at hst
    have HST := Aside0.mk hst
    clear hst hng
    go_wp2_with fail
    clear hg0 hng2
    obtain ⟨L, hL⟩ : ∃ L, L = c0 :: r := ⟨_, rfl⟩
    have HNE : Aside0 (L ≠ []) := ⟨by rw [hL]; simp⟩
    rw [← hL] at HST hsz hl ⊢
    have HL := Aside0.mk hL
    clear hL
    obtain ⟨M, hM⟩ : ∃ M, M = L.length := ⟨_, rfl⟩
    rw [← hM] at hsz hl
    have HM := Aside0.mk hM
    clear hM
    go_loopw [5, 6] (fun v5 v6 wr => ∃ (i : Nat) (n : Int), i ≤ M ∧ v6 = .int .i64 (i : Int) ∧ v5 = .int .i64 n ∧ Aside0 (numR ng L i n) ∧ Aside0 (wr = w)) (fun _ v6 _ => M - (intOf v6).toNat)
    case atStart => exact ⟨0, 0, Nat.zero_le _, rfl, rfl, HST, ⟨rfl⟩⟩
    case round =>
      obtain ⟨i, n, hi, rfl, rfl, NR, WR⟩ := hrel
      clear HST
      obtain rfl := WR.out
      clear WR
      by_cases hlt : i < M
      · have hget : ∃ c, L[i]? = some c := ⟨L[i]'(by rw [← HM.out]; exact hlt), by simp⟩
        obtain ⟨c, hc⟩ := hget
        have HC := Aside0.mk hc
        have hg := sB_get L i c hc
        have wi : wrap64 ((i : Int) + 1) = ((i + 1 : Nat) : Int) := by unfold wrap64; omega
        have hlt' : (i : Int) < (M : Int) := by omega
        have STOP : Aside0 (numS L = (0, false) → Ending.returned (.tuple #[.int .i64 0, .bool false]) = Ending.returned (.tuple #[.int .i64 (numS (c0 :: r)).1, .bool (numS (c0 :: r)).2])) := ⟨fun h => by rw [← HL.out, h]⟩
        by_cases hz : i = 0 ∧ ng = true
        · obtain ⟨rfl, rfl⟩ := hz
          have NX : Aside0 (numR true L 1 n) := ⟨numR_skip NR.out⟩
          clear hg hc NR
          go_wp2_with fail
          exact ⟨⟨1, n, by omega, rfl, rfl, NX, ⟨by simp⟩⟩, by simp [intOf]; omega⟩
        · obtain ⟨zb, hzb⟩ : ∃ zb, zb = (((i : Nat) : Int) == 0) := ⟨_, rfl⟩
          cases ng with
          | true =>
            have hz2 : (((i : Nat) : Int) == 0) = false := by
              have : ¬ i = 0 := fun h => hz ⟨h, rfl⟩
              simp
              omega
            clear hzb
            obtain ⟨cc, hcc⟩ : ∃ cc, cc = ((c.toNat : Nat) : Int) := ⟨_, rfl⟩
            have hcc' := hcc.symm
            have hc255 : 0 ≤ cc ∧ cc ≤ 255 := by
              have := c.toNat_lt
              omega
            by_cases hb : c.toNat < 48 ∨ 57 < c.toNat
            · have BD := Aside0.mk (numR_bad NR.out hz hc hb)
              by_cases hlow : cc < 48
              · clear hc NR hz hb hcc
                go_wp2_with fail
                go_ret2
                exact ⟨STOP.out BD.out, Below.refl _ _⟩
              · have hhigh : 57 < cc := by omega
                clear hc NR hz hb hcc
                go_wp2_with fail
                go_ret2
                exact ⟨STOP.out BD.out, Below.refl _ _⟩
            · have hlow : ¬ cc < 48 := by omega
              have hhigh : ¬ 57 < cc := by omega
              obtain ⟨d, hd⟩ : ∃ d, d = cc - 48 := ⟨_, rfl⟩
              have w1 : IntKind.u8.wrap (cc - 48) = d := by
                show (cc - 48) % 256 = _
                omega
              have w2 : IntKind.i64.wrap d = d := IntWalk.i64_in _ (by omega)
              have w2' : wrap64 d = d := by unfold wrap64; omega
              obtain ⟨x1, hx1⟩ : ∃ x, x = -9223372036854775808 + d := ⟨_, rfl⟩
              obtain ⟨x2, hx2⟩ : ∃ x, x = x1.tdiv 10 := ⟨_, rfl⟩
              have k1 : -9223372036854775808 ≤ x2 ∧ x2 ≤ 0 := by
                have e : x1 = -(9223372036854775808 - d) := by omega
                rw [hx2, e, Int.neg_tdiv, Int.tdiv_eq_ediv_of_nonneg (by omega)]
                omega
              have w3 : wrap64 (-9223372036854775808 + d) = x1 := by unfold wrap64; omega
              have w4 : wrap64 (x1.tdiv 10) = x2 := by rw [← hx2]; unfold wrap64; omega
              have TW := numR_neg NR.out (fun h => hz ⟨h, rfl⟩) hc hb
              have ex : (-9223372036854775808 + (((c.toNat : Nat) : Int) - 48)).tdiv 10 = x2 := by rw [hx2, hx1, hd, hcc]
              rw [ex] at TW
              by_cases hlt2 : n < x2
              · have BD := Aside0.mk (TW.1 hlt2)
                clear hc NR hz hb hcc hd hx1 hx2 TW ex k1 hc255
                go_wp2_with fail
                go_ret2
                exact ⟨STOP.out BD.out, Below.refl _ _⟩
              · obtain ⟨NR2, k2⟩ := TW.2 hlt2
                have k3 := NR.out.2.1
                have k4 := NR2.2.1
                obtain ⟨a1, ha1⟩ : ∃ x, x = 10 * n := ⟨_, rfl⟩
                obtain ⟨a2, ha2⟩ : ∃ x, x = a1 - d := ⟨_, rfl⟩
                have e2 : 10 * n - (((c.toNat : Nat) : Int) - 48) = a2 := by omega
                rw [e2] at NR2 k4
                have hn0 := NR.out.2.2.1 rfl
                have w5 : wrap64 (10 * n) = a1 := by unfold wrap64; omega
                have w6 : wrap64 (a1 - d) = a2 := by unfold wrap64; omega
                have NX := Aside0.mk NR2
                clear hc NR hz hb hcc hd hx1 hx2 TW ex k1 k2 k3 k4 ha1 ha2 e2 NR2 hn0 hc255
                go_wp2_with fail
                exact ⟨⟨i + 1, a2, by omega, by go_num, congrArg (Value.int .i64) w6, NX, ⟨by simp⟩⟩, by simp [intOf]; omega⟩
          | false =>
            have hzb' := hzb.symm
            clear hzb
            cases zb with
            | true =>
              obtain ⟨cc, hcc⟩ : ∃ cc, cc = ((c.toNat : Nat) : Int) := ⟨_, rfl⟩
              have hcc' := hcc.symm
              have hc255 : 0 ≤ cc ∧ cc ≤ 255 := by
                have := c.toNat_lt
                omega
              by_cases hb : c.toNat < 48 ∨ 57 < c.toNat
              · have BD := Aside0.mk (numR_bad NR.out hz hc hb)
                by_cases hlow : cc < 48
                · clear hc NR hz hb hcc
                  go_wp2_with fail
                  go_ret2
                  exact ⟨STOP.out BD.out, Below.refl _ _⟩
                · have hhigh : 57 < cc := by omega
                  clear hc NR hz hb hcc
                  go_wp2_with fail
                  go_ret2
                  exact ⟨STOP.out BD.out, Below.refl _ _⟩
              · have hlow : ¬ cc < 48 := by omega
                have hhigh : ¬ 57 < cc := by omega
                obtain ⟨d, hd⟩ : ∃ d, d = cc - 48 := ⟨_, rfl⟩
                have w1 : IntKind.u8.wrap (cc - 48) = d := by
                  show (cc - 48) % 256 = _
                  omega
                have w2 : IntKind.i64.wrap d = d := IntWalk.i64_in _ (by omega)
                have w2' : wrap64 d = d := by unfold wrap64; omega
                obtain ⟨x1, hx1⟩ : ∃ x, x = 9223372036854775807 - d := ⟨_, rfl⟩
                obtain ⟨x2, hx2⟩ : ∃ x, x = x1.tdiv 10 := ⟨_, rfl⟩
                have k1 : 0 ≤ x2 ∧ x2 ≤ 9223372036854775807 := by
                  rw [hx2, Int.tdiv_eq_ediv_of_nonneg (by omega)]
                  omega
                have w3 : wrap64 (9223372036854775807 - d) = x1 := by unfold wrap64; omega
                have w4 : wrap64 (x1.tdiv 10) = x2 := by rw [← hx2]; unfold wrap64; omega
                have TW := numR_pos NR.out hc hb
                have ex : (9223372036854775807 - (((c.toNat : Nat) : Int) - 48)).tdiv 10 = x2 := by rw [hx2, hx1, hd, hcc]
                rw [ex] at TW
                by_cases hlt2 : x2 < n
                · have BD := Aside0.mk (TW.1 hlt2)
                  clear hc NR hz hb hcc hd hx1 hx2 TW ex k1 hc255
                  go_wp2_with fail
                  go_ret2
                  exact ⟨STOP.out BD.out, Below.refl _ _⟩
                · obtain ⟨NR2, k2⟩ := TW.2 hlt2
                  have k3 := NR.out.2.1
                  have k4 := NR2.2.1
                  obtain ⟨a1, ha1⟩ : ∃ x, x = 10 * n := ⟨_, rfl⟩
                  obtain ⟨a2, ha2⟩ : ∃ x, x = a1 + d := ⟨_, rfl⟩
                  have e2 : 10 * n + (((c.toNat : Nat) : Int) - 48) = a2 := by omega
                  rw [e2] at NR2 k4
                  have hn0 := NR.out.2.2.2 rfl
                  have w5 : wrap64 (10 * n) = a1 := by unfold wrap64; omega
                  have w6 : wrap64 (a1 + d) = a2 := by unfold wrap64; omega
                  have NX := Aside0.mk NR2
                  clear hc NR hz hb hcc hd hx1 hx2 TW ex k1 k2 k3 k4 ha1 ha2 e2 NR2 hn0 hc255
                  go_wp2_with fail
                  exact ⟨⟨i + 1, a2, by omega, by go_num, congrArg (Value.int .i64) w6, NX, ⟨by simp⟩⟩, by simp [intOf]; omega⟩
            | false =>
              obtain ⟨cc, hcc⟩ : ∃ cc, cc = ((c.toNat : Nat) : Int) := ⟨_, rfl⟩
              have hcc' := hcc.symm
              have hc255 : 0 ≤ cc ∧ cc ≤ 255 := by
                have := c.toNat_lt
                omega
              by_cases hb : c.toNat < 48 ∨ 57 < c.toNat
              · have BD := Aside0.mk (numR_bad NR.out hz hc hb)
                by_cases hlow : cc < 48
                · clear hc NR hz hb hcc
                  go_wp2_with fail
                  go_ret2
                  exact ⟨STOP.out BD.out, Below.refl _ _⟩
                · have hhigh : 57 < cc := by omega
                  clear hc NR hz hb hcc
                  go_wp2_with fail
                  go_ret2
                  exact ⟨STOP.out BD.out, Below.refl _ _⟩
              · have hlow : ¬ cc < 48 := by omega
                have hhigh : ¬ 57 < cc := by omega
                obtain ⟨d, hd⟩ : ∃ d, d = cc - 48 := ⟨_, rfl⟩
                have w1 : IntKind.u8.wrap (cc - 48) = d := by
                  show (cc - 48) % 256 = _
                  omega
                have w2 : IntKind.i64.wrap d = d := IntWalk.i64_in _ (by omega)
                have w2' : wrap64 d = d := by unfold wrap64; omega
                obtain ⟨x1, hx1⟩ : ∃ x, x = 9223372036854775807 - d := ⟨_, rfl⟩
                obtain ⟨x2, hx2⟩ : ∃ x, x = x1.tdiv 10 := ⟨_, rfl⟩
                have k1 : 0 ≤ x2 ∧ x2 ≤ 9223372036854775807 := by
                  rw [hx2, Int.tdiv_eq_ediv_of_nonneg (by omega)]
                  omega
                have w3 : wrap64 (9223372036854775807 - d) = x1 := by unfold wrap64; omega
                have w4 : wrap64 (x1.tdiv 10) = x2 := by rw [← hx2]; unfold wrap64; omega
                have TW := numR_pos NR.out hc hb
                have ex : (9223372036854775807 - (((c.toNat : Nat) : Int) - 48)).tdiv 10 = x2 := by rw [hx2, hx1, hd, hcc]
                rw [ex] at TW
                by_cases hlt2 : x2 < n
                · have BD := Aside0.mk (TW.1 hlt2)
                  clear hc NR hz hb hcc hd hx1 hx2 TW ex k1 hc255
                  go_wp2_with fail
                  go_ret2
                  exact ⟨STOP.out BD.out, Below.refl _ _⟩
                · obtain ⟨NR2, k2⟩ := TW.2 hlt2
                  have k3 := NR.out.2.1
                  have k4 := NR2.2.1
                  obtain ⟨a1, ha1⟩ : ∃ x, x = 10 * n := ⟨_, rfl⟩
                  obtain ⟨a2, ha2⟩ : ∃ x, x = a1 + d := ⟨_, rfl⟩
                  have e2 : 10 * n + (((c.toNat : Nat) : Int) - 48) = a2 := by omega
                  rw [e2] at NR2 k4
                  have hn0 := NR.out.2.2.2 rfl
                  have w5 : wrap64 (10 * n) = a1 := by unfold wrap64; omega
                  have w6 : wrap64 (a1 + d) = a2 := by unfold wrap64; omega
                  have NX := Aside0.mk NR2
                  clear hc NR hz hb hcc hd hx1 hx2 TW ex k1 k2 k3 k4 ha1 ha2 e2 NR2 hn0 hc255
                  go_wp2_with fail
                  exact ⟨⟨i + 1, a2, by omega, by go_num, congrArg (Value.int .i64) w6, NX, ⟨by simp⟩⟩, by simp [intOf]; omega⟩
      · obtain rfl : i = M := by omega
        have hend := numR_end (by rw [← HM.out]; exact NR.out) HNE.out
        have FIN : Aside0 (Ending.returned (.tuple #[.int .i64 n, .bool (decide (Lib.itoa n = L))]) = Ending.returned (.tuple #[.int .i64 (numS (c0 :: r)).1, .bool (numS (c0 :: r)).2])) := ⟨by rw [← HL.out, hend]⟩
        have hb := NR.out.2.1
        have DG := Aside0.mk (dig_any n hb.1 hb.2 wr)
        clear hend hb NR
        go_wp2_with fail
        refine DG.out.mono ?_
        rintro _ W' ⟨rfl, HB'⟩
        have HB := Aside0.mk HB'
        clear HB' DG
        have hc := sB_eq (Lib.itoa n) L
        go_wp2_with fail
        go_ret2
        exact ⟨FIN.out, HB.out⟩
end Go.Proofs.YtofomlpdklhigaaGreatDoor.Hand
