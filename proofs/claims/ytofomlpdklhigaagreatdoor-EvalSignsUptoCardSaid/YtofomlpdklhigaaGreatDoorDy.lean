/- Rows as they are read. -/
import Derived.Test.YtofomlpdklhigaaGreatDoorDa
namespace Go.Proofs.YtofomlpdklhigaaGreatDoor.Hand
open Go.RowKit Go.Proofs.YtofomlpdklhigaaGreatDoorW.PrintWords Go.Proofs.YtofomlpdklhigaaGreatDoorW.PrintLast Go.Proofs.YtofomlpdklhigaaGreatDoorW.PrintMore Go.Proofs.YtofomlpdklhigaaGreatDoor.PSigns
theorem R_C {α : Type} {d : Kd α} {e base n c : Nat} {w : World} {ok : Nat → Prop} {A : Option Addr} {xs : List α} (h : d.R e w base ok (.slice A n c) xs) : d.C w A n xs ∧ xs.length = n ∧ n ≤ c := by
  have hc := Kd.C_kept_own (S := fun _ => False) h (fun _ _ => id) w (Kept.refl _ _)
  obtain ⟨_, inner, ho, _⟩ := h
  refine ⟨hc, hc.1, ?_⟩
  rcases ho.2 with ⟨e, h0⟩ | ⟨g, cap, cur, hv, _, _, hn, _⟩
  · injection e with _ e2 e3
    omega
  · injection hv with _ e2 e3
    omega
theorem at_Int {w : World} {A : Option Addr} {n : Nat} {xs : List Int} (h : (Kd.int .i64).C w A n xs) (k : Nat) (hk : k < n) : ∃ ad, A = some ad ∧ w.cell? (ad.add k) = some (.int .i64 (xs.getD k 0)) := by
  obtain ⟨ad, e, hc⟩ := (Kd.reads_of_C (enc := Value.int .i64) (d := (0 : Int)) h).at_ (k : Int) (by omega) (by omega)
  rw [Int.toNat_natCast] at hc
  exact ⟨ad, e, by rw [hc]; unfold rdOf; rw [Int.toNat_natCast]⟩
theorem getD_map {n : Nat} {f : Nat → Int} {i : Nat} (h : i < n) : ((List.range n).map f).getD i 0 = f i := by
  simp [List.getD_eq_getElem?_getD, h]
end Go.Proofs.YtofomlpdklhigaaGreatDoor.Hand
