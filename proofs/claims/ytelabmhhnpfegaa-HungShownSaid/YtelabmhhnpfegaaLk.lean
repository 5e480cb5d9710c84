/- The document's Check of a table: walked. -/
import Derived.Test.YtelabmhhnpfegaaHt
namespace Go.Proofs.Ytelabmhhnpfegaa.Hand
open Go.RowKit Go.Proofs.YtelabmhhnpfegaaW.PrintWords Go.Proofs.YtelabmhhnpfegaaW.PrintMore
def Tells (e : Ending) (P : Prop) : Prop := ∃ ok, e = .returned (.bool ok) ∧ (ok = true ↔ P)
theorem Tells.no {P : Prop} (h : ¬ P) : Tells (.returned (.bool false)) P := ⟨false, rfl, fun x => (by cases x), fun x => absurd x h⟩
theorem Tells.yes {P : Prop} (h : P) : Tells (.returned (.bool true)) P := ⟨true, rfl, fun _ => h, fun _ => rfl⟩
set_option maxHeartbeats 1000000 in
set_option maxRecDepth 100000 in
theorem check_ref (w : World) (A B : Option Addr) (nc nn cA cB : Nat) (len mlen : Nat → Nat) (c : Nat → Nat → Int) (h : Raw w A nc B nn len mlen c) (hl : ∀ i, i < nc → len i ≤ 17592186044416) (hl2 : ∀ i, i < nc → mlen i ≤ 140737488355328) (h1 : nc ≤ 17592186044416) (h2 : nn ≤ 17592186044416) :
    Calls Try.prog 18 #[.slice A nc cA, .slice B nn cB] w fun e w' => Tells e (TabMay nc nn len mlen c) ∧ w' = w := by
  have H := Aside0.mk h
  have HL := Aside0.mk hl
  have HL2 := Aside0.mk hl2
  clear h hl hl2
  by_cases h64 : nc ≤ 64
  · have g1 : decide ((nc : Int) > 64) = false := decide_eq_false (by omega)
    by_cases hnn : nn = nc
    · subst hnn
      go_enter Try.func18, Try.ntmps18
      go_wp2_with fail
      go_loop [6] (fun i => ∃ k : Nat, k ≤ nn ∧ i = .int .i64 k ∧ Aside0 (∀ j, j < k → len j = nn ∧ mlen j = nn ∧ ∀ q, q < nn → farB (c j q) = false)) (fun i => nn - (intOf i).toNat)
      case atStart => exact ⟨0, Nat.zero_le _, rfl, Aside0.mk (fun j hj => absurd hj (Nat.not_lt_zero _))⟩
      case round =>
        obtain ⟨i, hi, rfl, ho⟩ := hrel
        by_cases hlt : i < nn
        · obtain ⟨ad, AR, cR, rfl, hc, hrow⟩ := H.out.cost i hlt
          obtain ⟨bd, BR, dR, rfl, hd⟩ := H.out.no i hlt
          have hll := HL.out i hlt
          have hml := HL2.out i hlt
          by_cases e1 : len i = nn
          · rw [e1] at hc hrow
            by_cases e2 : mlen i = nn
            · rw [e2] at hd
              have E12 := Aside0.mk (And.intro e1 e2)
              have HR := Aside0.mk hrow
              clear e1 e2 hrow hll hml
              go_wp2_with fail
              go_loop [7] (fun v => ∃ k : Nat, k ≤ nn ∧ v = .int .i64 k ∧ Aside0 (∀ q, q < k → farB (c i q) = false)) (fun v => nn - (intOf v).toNat)
              case atStart => exact ⟨0, Nat.zero_le _, rfl, Aside0.mk (fun j hj => absurd hj (Nat.not_lt_zero _))⟩
              case round =>
                obtain ⟨k, hk, rfl, hq⟩ := hrel
                by_cases hlt2 : k < nn
                · obtain ⟨ar, rfl, hx⟩ := HR.out k hlt2
                  cases ha : decide (c i k < -2147483648) with
                  | true =>
                    have FB : Aside0 (farB (c i k) = true) := ⟨by unfold farB; rw [ha]; rfl⟩
                    go_wp2_with fail
                    go_ret
                    first | exact ⟨Tells.no (fun x => by have := (x.2.2 i hlt).2.2 k hlt2; rw [FB.out] at this; cases this), rfl⟩ | exact Tells.no (fun x => by have := (x.2.2 i hlt).2.2 k hlt2; rw [FB.out] at this; cases this)
                  | false =>
                    cases hb : decide (2147483648 < c i k) with
                    | true =>
                      have FB : Aside0 (farB (c i k) = true) := ⟨by unfold farB; rw [ha, hb]; rfl⟩
                      have hb' : decide (c i k > 2147483648) = true := hb
                      go_wp2_with fail
                      go_ret
                      first | exact ⟨Tells.no (fun x => by have := (x.2.2 i hlt).2.2 k hlt2; rw [FB.out] at this; cases this), rfl⟩ | exact Tells.no (fun x => by have := (x.2.2 i hlt).2.2 k hlt2; rw [FB.out] at this; cases this)
                    | false =>
                      have FB : Aside0 (farB (c i k) = false) := ⟨by unfold farB; rw [ha, hb]; rfl⟩
                      have hb' : decide (c i k > 2147483648) = false := hb
                      go_wp2_with fail
                      go_round
                      case measure => simp [intOf]; omega
                      case rel => exact ⟨k + 1, by omega, by go_num, Aside0.mk (fun q hq' => by
                        rcases Nat.lt_succ_iff_lt_or_eq.1 hq' with h1 | rfl
                        · exact hq.out q h1
                        · exact FB.out)⟩
                · obtain rfl : nn = k := by omega
                  go_wp2_with fail
                  go_round
                  case measure => simp [intOf]; omega
                  case rel => exact ⟨i + 1, by omega, by go_num, Aside0.mk (fun j hj => by
                    rcases Nat.lt_succ_iff_lt_or_eq.1 hj with h1 | rfl
                    · exact ho.out j h1
                    · exact ⟨E12.out.1, E12.out.2, hq.out⟩)⟩
            · have g2 : ((mlen i : Int) != (nn : Int)) = true := by simp; omega
              have E2 := Aside0.mk e2
              clear e1 e2
              go_wp2_with fail
              go_ret
              first | exact ⟨Tells.no (fun x => absurd (x.2.2 i hlt).2.1 E2.out), rfl⟩ | exact Tells.no (fun x => absurd (x.2.2 i hlt).2.1 E2.out)
          · have g2 : ((len i : Int) != (nn : Int)) = true := by simp; omega
            have E1 := Aside0.mk e1
            clear e1
            go_wp2_with fail
            go_ret
            first | exact ⟨Tells.no (fun x => absurd (x.2.2 i hlt).1 E1.out), rfl⟩ | exact Tells.no (fun x => absurd (x.2.2 i hlt).1 E1.out)
        · obtain rfl : nn = i := by omega
          go_wp2_with fail
          go_ret
          first | exact ⟨Tells.yes ⟨h64, rfl, ho.out⟩, rfl⟩ | exact Tells.yes ⟨h64, rfl, ho.out⟩
    · have g2 : ((nn : Int) != (nc : Int)) = true := by simp; omega
      have E := Aside0.mk hnn
      clear hnn
      go_enter Try.func18, Try.ntmps18
      go_wp2_with fail
      go_ret
      first | exact ⟨Tells.no (fun x => absurd x.2.1 E.out), rfl⟩ | exact Tells.no (fun x => absurd x.2.1 E.out)
  · have g1 : decide ((nc : Int) > 64) = true := decide_eq_true (by omega)
    have E := Aside0.mk h64
    clear h64
    go_enter Try.func18, Try.ntmps18
    go_wp2_with fail
    go_ret
    first | exact ⟨Tells.no (fun x => absurd x.1 E.out), rfl⟩ | exact Tells.no (fun x => absurd x.1 E.out)
end Go.Proofs.Ytelabmhhnpfegaa.Hand
