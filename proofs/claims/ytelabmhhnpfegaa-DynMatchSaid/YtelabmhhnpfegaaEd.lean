/- trace: walked. -/
import Derived.Test.YtelabmhhnpfegaaEc
namespace Go.Proofs.Ytelabmhhnpfegaa.Hand
open Go.RowKit Go.Proofs.YtelabmhhnpfegaaW.PrintWords Go.Proofs.YtelabmhhnpfegaaW.PrintLast Go.Proofs.YtelabmhhnpfegaaW.PrintMore Go.Proofs.Ytelabmhhnpfegaa.PDynCells
/-- The moves that lead to a cell, the last one first. -/
inductive Chain (n : Nat) (T : Nat → S152) : Nat → List Int → Prop
  | nil (X : Nat) (h : (T X).f2 < 0) (hX : X < n) : Chain n T X []
  | cons (X Y : Nat) (l : List Int) (hX : X < n) (h : 0 ≤ (T X).f2) (e : (T X).f3 = (Y : Int)) (hl : Chain n T Y l) : Chain n T X ((T X).f2 :: l)
theorem Chain.lt {n : Nat} {T : Nat → S152} {X : Nat} {l : List Int} (h : Chain n T X l) : X < n := by cases h <;> assumption
set_option maxHeartbeats 1000000 in
set_option maxRecDepth 100000 in
/-- trace, as it answers. -/
theorem trace_any (w : World) (g n : Nat) (T : Nat → S152) (X : Nat) (l : List Int) (h : SB w g n T) (hc : Chain n T X l) (hl : l.length ≤ 4096) :
    Calls Try.prog 93 #[.slice (some ⟨g, 0, none⟩) n n, .int .i64 (X : Int)] w fun e w' => ∃ v, e = .returned v ∧ Aside0 ((Kd.int .i64).R 3 w' w.heap.size (fun _ => True) v l.reverse ∧ Below w.heap.size w w') := by
  have H := Aside0.mk h
  have CH := Aside0.mk hc
  have HL := Aside0.mk hl
  clear h hc hl
  have hu152 := Try.underlying152
  go_enter Try.func93, Try.ntmps93
  go_wp2_with fail
  have K0 : Aside0 (l = [] ++ l ∧ Chain n T X l ∧ (Kd.int .i64).R 3 w w.heap.size (fun _ => True) (.slice none 0 0) [] ∧ Below w.heap.size w w) := ⟨rfl, CH.out, Kd.R_nil _ _ _ _ _, Below.refl _ _⟩
  go_loopw [1, 5] (fun v1 v5 wr => ∃ (Y : Nat) (A : Option Addr) (m c : Nat) (acc rest : List Int), v1 = .int .i64 (Y : Int) ∧ v5 = .slice A m c ∧ Aside0 (l = acc ++ rest ∧ Chain n T Y rest ∧ (Kd.int .i64).R 3 wr w.heap.size (fun _ => True) (.slice A m c) acc ∧ Below w.heap.size w wr)) (fun _ v5 _ => l.length - (match v5 with | .slice _ m _ => m | _ => 0))
  case atStart => exact ⟨X, none, 0, 0, [], l, rfl, rfl, K0⟩
  case round =>
    clear K0
    obtain ⟨Y, A, m, c, acc, rest, rfl, rfl, KK⟩ := hrel
    have hY : Y < n := KK.out.2.1.lt
    have c2 := (show SB wr g n T from blk_below H.out KK.out.2.2.2).c2 hY
    have c3 := (show SB wr g n T from blk_below H.out KK.out.2.2.2).c3 hY
    obtain ⟨s, hs⟩ : ∃ s, s = T Y := ⟨_, rfl⟩
    rw [← hs] at c2 c3
    have hm : m = acc.length := by
      obtain ⟨A', c', e, _⟩ := Kd.R_reads KK.out.2.2.1
      injection e
    have hlen : l.length = acc.length + rest.length := by rw [KK.out.1, List.length_append]
    obtain ⟨q, hq⟩ : ∃ q, q = s.f2 := ⟨_, rfl⟩
    rw [← hq] at c2
    cases hr : rest with
    | nil =>
      have hneg : q < 0 := by
        have h1 := KK.out.2.1
        rw [hr] at h1
        cases h1 with
        | nil _ h => rw [hq, hs]; exact h
      have E : Aside0 (l = acc) := ⟨by have h1 := KK.out.1; rwa [hr, List.append_nil] at h1⟩
      have LL : Aside0 (acc.length ≤ 17592186044416) := ⟨by have := HL.out; rw [E.out] at this; omega⟩
      have g1 : decide (q ≥ 0) = false := decide_eq_false (by omega)
      have g2 : decide (0 ≤ q) = false := decide_eq_false (by omega)
      clear hr hs hq hlen hm
      go_wp2_with fail
      refine (rev_any (fun _ => True) (.slice A m c) acc w wr KK.out.2.2.2 KK.out.2.2.1 LL.out).mono ?_
      rintro _ w9 ⟨rfl, H9⟩
      go_wp2_with fail
      go_ret
      exact ⟨_, rfl, ⟨by rw [E.out]; exact Kd.R_mono H9.out.1 (fun _ _ => trivial), H9.out.2.1⟩⟩
    | cons p rest' =>
      have hpos : 0 ≤ q ∧ q = p ∧ ∃ Z : Nat, s.f3 = (Z : Int) ∧ Chain n T Z rest' := by
        have h1 := KK.out.2.1
        rw [hr] at h1
        cases h1 with
        | cons _ Z _ _ h e hl => exact ⟨by rw [hq, hs]; exact h, by rw [hq, hs], Z, by rw [hs]; exact e, hl⟩
      obtain ⟨q0, rfl, Z, hZ, hch⟩ := hpos
      rw [hZ] at c3
      have g1 : decide (q ≥ 0) = true := decide_eq_true q0
      have g2 : decide (0 ≤ q) = true := decide_eq_true q0
      have N1 : Aside0 (l = (acc ++ [q]) ++ rest' ∧ Chain n T Z rest' ∧ acc.length + 1 ≤ l.length) := ⟨by rw [KK.out.1, hr, List.append_assoc]; rfl, hch, by rw [hlen, hr, List.length_cons]; omega⟩
      have HB : Aside0 ((acc.length + 1) * 8 ≤ 140737488355328) := ⟨by have := N1.out.2.2; have := HL.out; omega⟩
      have HM := Aside0.mk hm
      have HS := Aside0.mk hs
      clear hr hs hq hlen hch hm
      go_upto_region 4 with (at_builtin; refine Kd.R_append (Kd.int .i64) (w0 := w) w.heap.size rfl _ _ 29 3 (.int .i64 0) 8 rfl Try.underlying29 infoR3 rfl (by decide) (by decide) (.slice A m c) acc q [.int .i64 q] (fun _ => True) (fun _ => False) rfl rfl rfl (fun _ h => h.elim) (fun _ _ => trivial) KK.out.2.2.1 KK.out.2.2.2 KK.out.2.2.2.size HB.out ?_; intro v7 w7 ho7 hb7 _ _; obtain ⟨A7, n7, c7, rfl, _⟩ := R_open ho7; have O7 := Aside0.mk ho7; have B7 := Aside0.mk hb7; clear ho7 hb7)
      have h7 : n7 = acc.length + 1 := by
        obtain ⟨A', c', e, _⟩ := Kd.R_reads O7.out
        injection e with _ e _
        rw [e]
        simp
      have d3 := (show SB w7 g n T from blk_below H.out B7.out).c3 hY
      rw [← HS.out, hZ] at d3
      clear c2 c3
      go_wp2_with fail
      exact ⟨⟨Z, A7, n7, c7, acc ++ [q], rest', rfl, rfl, ⟨N1.out.1, N1.out.2.1, O7.out, B7.out⟩⟩, by have := N1.out.2.2; have := HM.out; simp; omega⟩
end Go.Proofs.Ytelabmhhnpfegaa.Hand
