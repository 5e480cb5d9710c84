/- slices.Clone over the segments. -/
import Derived.Test.YtebbikihhkjaaaaStr
import Derived.Lib.BufferMore
namespace Go.Proofs.Ytebbikihhkjaaaa.Hand
open Go.RowKit Go.Proofs.YtebbikihhkjaaaaW.PrintWords Go.Proofs.YtebbikihhkjaaaaW.PrintMore

set_option maxHeartbeats 400000 in
set_option maxRecDepth 100000 in
theorem clone_any (w : World) (a : Addr) (n c : Nat) (xs : List Value) (hl : xs.length = n) (hn : n ≤ 1000000) (hc : ∀ j x, xs[j]? = some x → w.cell? (a.add j) = some x) (hone : ∀ x ∈ xs, x.oneCell' = true) :
    Calls Try.prog 43 #[.slice (some a) n c] w fun e w' => ∃ v', e = .returned v' ∧ w'.ownsRow w.heap.size 89 1 v' n xs ∧ Below w.heap.size w w' := by
  have HL := Aside0.mk hl
  have HC := Aside0.mk hc
  have H1 := Aside0.mk hone
  clear hl hc hone
  have hu := Try.underlying86
  have hnil : ∀ W, (binOp .eql 86 (.slice (some a) n c) (.slice none 0 0)).run Try.prog W = .ok (.bool false) W := fun W => Lib.run_eql_slice_some_nil W _ _ _ Try.underlying86
  go_enter Try.func43, Try.ntmps43
  obtain ⟨i, hi, hzz⟩ := Option.map_eq_some_iff.1 info89
  simp only [Prod.mk.injEq] at hzz
  obtain ⟨hz, hsize, hby⟩ := hzz
  have HI := Aside0.mk hi
  have HZ := Aside0.mk hz
  have HS := Aside0.mk hsize
  have HY := Aside0.mk hby
  clear hi hz hsize hby
  have OW : Aside0 ((w.alloc (.cells #[] 89)).ownsRow w.heap.size 89 1 (.slice (some ⟨w.heap.size, 0, none⟩) 0 0) 0 []) := ⟨⟨rfl, .inr ⟨w.heap.size, 0, #[], rfl, Nat.le_refl _, heap_alloc_new w _, Nat.le_refl _, Nat.zero_le _, rfl, rfl⟩⟩⟩
  have CW : Aside0 (∀ (j : Nat) (x : Value), xs[j]? = some x → (w.alloc (.cells #[] 89)).cell? (a.add j) = some x) := ⟨fun j x hx => pw_cell_below (below_alloc (Below.refl _ _) _) (HC.out j x hx)⟩
  go_wp2_with (at_builtin; refine wpList_append_own_at _ rfl _ _ 86 rfl w.heap.size 89 i (.pointer none) 1 8 Try.underlying86 HI.out HZ.out HS.out HY.out rfl (by decide) (.slice (some ⟨w.heap.size, 0, none⟩) 0 0) 0 [] rfl OW.out a n c xs rfl (by rw [HL.out, Nat.mul_one]) CW.out H1.out (by unfold maxLen; omega) (by omega) (by simp) ?_; intro v7 w7 ho7 hg7 _ _; have O7 := Aside0.mk ho7; have G7 := Aside0.mk hg7; clear ho7 hg7)
  go_ret
  have B7 : Below w.heap.size w w7 := ((Chg.refl (fun k => some k = (Value.slice (some ⟨w.heap.size, 0, none⟩) 0 0).ownBlock) w).alloc _ |>.then_ (Chg.of_grown G7.out) (fun k _ h => h)).below (fun k hk he => by
    have : k = w.heap.size := Option.some.inj he
    omega)
  refine ⟨_, rfl, ?_, B7⟩
  have := O7.out
  rwa [Nat.zero_add, List.nil_append] at this
end Go.Proofs.Ytebbikihhkjaaaa.Hand
