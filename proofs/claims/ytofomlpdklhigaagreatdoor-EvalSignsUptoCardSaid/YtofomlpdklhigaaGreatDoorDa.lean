/- Instances, in plain Lean, and as they are read. Without conditions. -/
import Derived.Test.YtofomlpdklhigaaGreatDoorBs
import Derived.Test.YtofomlpdklhigaaGreatDoorPSignsx0
namespace Go.Proofs.YtofomlpdklhigaaGreatDoor.Hand
open Go.RowKit Go.Proofs.YtofomlpdklhigaaGreatDoorW.PrintWords Go.Proofs.YtofomlpdklhigaaGreatDoorW.PrintLast Go.Proofs.YtofomlpdklhigaaGreatDoorW.PrintMore Go.Proofs.YtofomlpdklhigaaGreatDoor.PSigns
structure PI where
  kind : Int
  cap : Int
  items : List S159
  cost : List (List Int)
  size : Int
  sets : List S161
/-- An instance's value, as it is read. -/
def InstC (w : World) (x : PI) (v : Value) : Prop := ∃ A2 c2 A3 c3 A5 c5, v = .agg #[.int .i64 x.kind, .int .i64 x.cap, .slice A2 x.items.length c2, .slice A3 x.cost.length c3, .int .i64 x.size, .slice A5 x.sets.length c5] ∧
  k159.C w A2 x.items.length x.items ∧ x.items.length ≤ c2 ∧ (Kd.slice 2 (Kd.int .i64)).C w A3 x.cost.length x.cost ∧ x.cost.length ≤ c3 ∧ k161.C w A5 x.sets.length x.sets ∧ x.sets.length ≤ c5
theorem InstC.below {w w1 : World} {x : PI} {v : Value} (h : InstC w x v) (hb : Below w.heap.size w w1) : InstC w1 x v := by
  obtain ⟨A2, c2, A3, c3, A5, c5, e, h1, l1, h2, l2, h3, l3⟩ := h
  exact ⟨A2, c2, A3, c3, A5, c5, e, Kd.C_below h1 hb, l1, Kd.C_below h2 hb, l2, Kd.C_below h3 hb, l3⟩
/-- No list is too long for a sum of lengths. -/
structure PIok (x : PI) : Prop where
  items : x.items.length ≤ 17592186044416
  cost : x.cost.length ≤ 17592186044416
  sets : x.sets.length ≤ 17592186044416
  rows : ∀ r ∈ x.cost, r.length ≤ 17592186044416
  els : ∀ s ∈ x.sets, s.f1.length ≤ 17592186044416
def cutS (s : S161) : S161 := ⟨s.f0, s.f1.take 40⟩
/-- What insts makes of one. -/
def cutI (x : PI) : PI := { x with items := x.items.take 40, cost := (x.cost.take 70).map (·.take 70), sets := (x.sets.take 40).map cutS }
def itC (l : List S159) : List Value := l.flatMap fun s => [.int .i64 s.f0, .int .i64 s.f1]
theorem itC_nil : itC [] = [] := rfl
theorem itC_snoc (l : List S159) (s : S159) : itC (l ++ [s]) = itC l ++ [.int .i64 s.f0, .int .i64 s.f1] := by simp [itC]
theorem itC_reps {W : World} : ∀ (l : List S159), Reps (k159.K W) 2 l (itC l) := fun l => by
  have key : ∀ m : List S159, Reps (k159.K W) 2 m (itC m) → ∀ r : List S159, Reps (k159.K W) 2 (m ++ r) (itC (m ++ r)) := by
    intro m hm r
    induction r generalizing m with
    | nil => rwa [List.append_nil]
    | cons s r ih =>
      have h1 : Reps (k159.K W) 2 (m ++ [s]) (itC (m ++ [s])) := by
        rw [itC_snoc]
        exact hm.snoc (k159_mk W s) rfl
      have h2 := ih _ h1
      rwa [List.append_assoc, List.singleton_append] at h2
  exact key [] (Reps.none _ _) l
theorem own_it {W : World} {base n cp : Nat} {e : TypeId} {A : Option Addr} {l : List S159} (h : W.ownsRow base e 2 (.slice A n cp) n (itC l)) (hn : l.length = n) : k159.C W A l.length l := by
  obtain ⟨A', c', e', hr⟩ := own_reads_row h (itC_reps (W := W) l) hn
  injection e' with e1 _ _
  subst e1
  rw [hn]
  exact hr
end Go.Proofs.YtofomlpdklhigaaGreatDoor.Hand
