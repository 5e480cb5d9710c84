/- A range over a function that keeps blocks of its own ahead of the loop, and whose body may return: one law. -/
import Derived.RangeFuncNested
import Derived.RangeFuncBound
import Derived.RangeFuncCalls
import Derived.RangeFuncLeaves
import Derived.WalkKit
import Derived.Test.YtofomlpdklhigaaGreatDoorBs
namespace Go.Proofs.YtofomlpdklhigaaGreatDoor.Hand
open Go.RowKit Go.Proofs.YtofomlpdklhigaaGreatDoorW.PrintWords
set_option linter.unusedVariables false
/-- What such a function gives: O: the blocks of its own that lay ahead; S: all has come; Sp: so far it came till a round said no more. -/
def GivesO {α : Type} (F : Fence) (n : Nat) (P : Program) (g : Nat) (lb : Array Value) (enc : α → Value) (O : Nat → Prop) (Pn : List α → α → Prop) (S Sp : List α → Prop) (N : Nat) (w : World) : Prop :=
  ∀ (l : Nat) (J Jx : List α → World → Prop) (W : World), Below w.heap.size w W → (∀ s A B, J s A → Chg O A B → J s B) → (∀ s A B, Jx s A → Chg O A B → Jx s B) →
    (∀ pre x W1, J pre W1 → Pn pre x → pre.length < N → YieldAt F (n - 1) P l #[enc x] W1 fun e W' => (e = .returned (.bool true) ∧ J (pre ++ [x]) W' ∧ Chg (fun k => ¬ O k) W1 W') ∨ (e = .returned (.bool false) ∧ Jx (pre ++ [x]) W')) →
    J [] W → CallsIn F n P g (#[.func (.yield l) #[] #[]] ++ lb) W fun e W' => (∃ v, e = .returned v) ∧ ((∃ xs, S xs ∧ J xs W') ∨ (∃ pre, Sp pre ∧ Jx pre W'))
theorem chg_putO {S : Nat → Prop} (W : World) (l : Nat) (o : Obj) (h : S l) : Chg S W (W.putObj l o) :=
  ⟨rfl, rfl, rfl, by simp [World.putObj], fun k _ hk => World.putObj_heap_other (fun e => hk (e ▸ h))⟩
/-- How a body may be left. -/
def bodyO {α : Type} (O : Nat → Prop) (I Ix : List α → World → Prop) (xs : List α) (W : World) : Exit → Act → World → Prop
  | .normal, _, W' => KeepsOthers W W' ∧ Chg (fun k => ¬ O k) W W' ∧ I xs W'
  | .ret, _, W' => KeepsOthers W W' ∧ Ix xs W'
  | _, _, _ => False
variable {F : Fence} {n : Nat} {P : Program}
set_option maxHeartbeats 1000000 in
theorem range_ret {α : Type} {g : Operand} {ps : Array Tmp} {assign body : Code} {Q : Exit → Act → World → Prop} {a : Act} {w : World}
    (hro : F.round = none) (h1 : 1 ≤ n) {gf : Nat} {lb : Array Value} (hg : a.eval g = .func (.func gf) #[] lb) (hFg : F.fn gf) (eg : ∀ args w, (callFunc gf args).run P w = .ok (.enter gf args) w)
    {enc : α → Value} {O : Nat → Prop} {Pn : List α → α → Prop} {S Sp : List α → Prop} {N : Nat} {w0 : World} (hseq : GivesO F (n - 1) P gf lb enc O Pn S Sp N w0) (hO : ∀ k, O k → k < w0.heap.size) (hb0 : Below w0.heap.size w0 w) (hps : ps.size = 1)
    (I Ix : List α → World → Prop) (hI : ∀ s A B, I s A → Chg (fun k => O k ∨ k = w.heap.size ∨ k = w.heap.size + 1) A B → I s B) (hIx : ∀ s A B, Ix s A → Chg (fun k => O k ∨ k = w.heap.size ∨ k = w.heap.size + 1) A B → Ix s B) (h0 : I [] w) (a₁ : α → Act)
    (hassign : ∀ (l : Nat) (x : α) (W : World) (K : Act → World → Prop), K (a₁ x) W →
      assign.wpIn (F.inRound l) (n - 1 - 1) P (Exit.then K (fun _ _ _ => False)) { tmps := (ps.zip #[enc x]).foldl (fun t (p, v) => t.setIfInBounds p v) a.tmps, defers := [] } W)
    (hbody : ∀ (l : Nat) (pre : List α) (x : α) (W : World), w.heap.size + 2 ≤ W.heap.size → I pre W → Pn pre x → pre.length < N →
      body.wpIn (F.inRound l) (n - 1 - 1) P (bodyO O I Ix (pre ++ [x]) W) (a₁ x) W)
    (hdone : ∀ (D : Nat) (xs : List α) (W : World), w.heap.size ≤ D → S xs → I xs W → W.heap[D]? = some (.deferred (some [])) → Q .normal { a with defers := { target := .collected D, args := #[] } :: a.defers } W)
    (hstop : ∀ (D : Nat) (pre : List α) (W : World), w.heap.size ≤ D → Sp pre → Ix pre W → W.heap[D]? = some (.deferred (some [])) → Code.ret.wpIn F n P Q { a with defers := { target := .collected D, args := #[] } :: a.defers } W) :
    (Code.rangeFunc g ps assign body).wpIn F n P Q a w := by
  refine wpIn_rangeFunc fun fn hfn => ?_
  rw [hro]
  let rec_ : LoopState → Option Code → Loop := fun st pe => { state := st, pending := pe, fn := fn, tmps := a.tmps, params := ps, assign := assign, body := body, defers := w.heap.size }
  obtain ⟨W1, hW1⟩ : ∃ W1, W1 = (w.alloc (.deferred (some []))).alloc (.loop (rec_ .ready none)) := ⟨_, rfl⟩
  have hz : W1.heap.size = w.heap.size + 2 := by rw [hW1]; simp
  have hL : W1.heap[w.heap.size + 1]? = some (.loop (rec_ .ready none)) := by
    rw [hW1]
    have := World.alloc_heap_new (w.alloc (.deferred (some []))) (.loop (rec_ .ready none))
    rwa [World.size_alloc] at this
  have hD : W1.heap[w.heap.size]? = some (.deferred (some [])) := by
    rw [hW1]
    exact (Below.heap_alloc _ _ _ (by simp)).trans (World.alloc_heap_new w _)
  have hc1 : Chg (fun k => O k ∨ k = w.heap.size ∨ k = w.heap.size + 1) w W1 := by
    rw [hW1]
    exact ((Chg.refl _ w).alloc _).alloc _
  have hOw : ∀ k, O k → k < w.heap.size := fun k hk => Nat.lt_of_lt_of_le (hO k hk) hb0.size
  have hb1 : Below w0.heap.size w0 W1 := by
    rw [hW1]
    exact hb0.trans ((below_alloc (below_alloc (Below.refl _ w) _) _).mono hb0.size)
  refine ⟨w.heap.size + 1, [{ target := .collected w.heap.size, args := #[] }], W1, { target := .fn (.func gf) lb, args := #[.func (.yield (w.heap.size + 1)) #[] #[]] }, W1, gf,
    #[.func (.yield (w.heap.size + 1)) #[] #[]] ++ lb, W1, ?_, ?_, ?_, ?_, fun _ => h1, ?_⟩
  · rw [hW1]
    exact run_enterLoop_outer _ _ _ _ _
  · simp only [resolve, hg]
    simp [go_sem]
  · intro f' hf'
    simp [Target.leads] at hf'
    subst hf'
    exact hFg
  · simp [invoke, go_sem, eg]
  · refine (hseq (w.heap.size + 1) (fun pre W => I pre W ∧ W.heap[w.heap.size + 1]? = some (.loop (rec_ .ready none)) ∧ W.heap[w.heap.size]? = some (.deferred (some [])) ∧ w.heap.size + 2 ≤ W.heap.size)
      (fun pre W => Ix pre W ∧ W.heap[w.heap.size + 1]? = some (.loop (rec_ .done (some .ret))) ∧ W.heap[w.heap.size]? = some (.deferred (some []))) W1 hb1 ?_ ?_ ?_ ⟨hI _ _ _ h0 hc1, hL, hD, by omega⟩).mono ?_
    · rintro s A B ⟨i1, i2, i3, i4⟩ hc
      have n1 : ¬ O (w.heap.size + 1) := fun h => by have := hOw _ h; omega
      have n2 : ¬ O w.heap.size := fun h => by have := hOw _ h; omega
      exact ⟨hI _ _ _ i1 (hc.mono fun k _ h => .inl h), hc.blk i2 n1, hc.blk i3 n2, Nat.le_trans i4 hc.size⟩
    · rintro s A B ⟨i1, i2, i3⟩ hc
      have n1 : ¬ O (w.heap.size + 1) := fun h => by have := hOw _ h; omega
      have n2 : ¬ O w.heap.size := fun h => by have := hOw _ h; omega
      exact ⟨hIx _ _ _ i1 (hc.mono fun k _ h => .inl h), hc.blk i2 n1, hc.blk i3 n2⟩
    · rintro pre x W ⟨i1, i2, i3, i4⟩ hpn hlen
      have hy := run_yield (P := P) (args := #[enc x]) i2 (by show 1 = ps.size; omega)
      refine ⟨fn, _, assign, body, hy, roundIn_of_wpIn hfn (hassign _ x W _ ⟨_, run_beginRound i2 rfl, ?_⟩)⟩
      obtain ⟨W2, hW2⟩ : ∃ W2, W2 = W.putObj (w.heap.size + 1) (.loop (rec_ .busy none)) := ⟨_, rfl⟩
      have c2 : Chg (fun k => k = w.heap.size + 1) W W2 := by rw [hW2]; exact chg_putO _ _ _ rfl
      have l2 : W2.heap[w.heap.size + 1]? = some (.loop (rec_ .busy none)) := by
        rw [hW2]
        exact World.putObj_heap_same (by omega)
      have d2 : W2.heap[w.heap.size]? = some (.deferred (some [])) := c2.blk i3 (by omega)
      have e2 : W.putObj (w.heap.size + 1) (.loop { rec_ .ready none with state := .busy }) = W2 := hW2.symm
      rw [e2]
      refine wpIn_mono (hbody _ pre x W2 (Nat.le_trans i4 c2.size) (hI _ _ _ i1 (c2.mono fun k _ h => .inr (.inr h))) hpn hlen) ?_
      rintro e a3 W3 hp
      have hz2 := c2.size
      cases e with
      | normal =>
        obtain ⟨hk, hc, hi⟩ := hp
        have l3 := hk.same _ _ l2 rfl
        have d3 := hk.same _ _ d2 rfl
        have hend := run_endRound (P := P) (none : Option Code) l3
        have c3 : Chg (fun k => k = w.heap.size + 1) W3 (W3.putObj (w.heap.size + 1) (.loop (rec_ .ready none))) := chg_putO _ _ _ rfl
        have hz3 := hc.size
        refine ⟨_, _, hend, .inl ⟨rfl, ⟨hI _ _ _ hi (c3.mono fun k _ h => .inr (.inr h)), World.putObj_heap_same (by omega), c3.blk d3 (by omega), ?_⟩, ?_⟩⟩
        · exact Nat.le_trans (show w.heap.size + 2 ≤ W3.heap.size by omega) c3.size
        · have nO : ¬ O (w.heap.size + 1) := fun h => by have := hOw _ h; omega
          exact ((c2.mono (S1 := fun k => ¬ O k) fun k _ h => by show ¬ O k; rw [h]; exact nO).trans hc).trans (c3.mono fun k _ h => by show ¬ O k; rw [h]; exact nO)
      | ret =>
        obtain ⟨hk, hi⟩ := hp
        have l3 := hk.same _ _ l2 rfl
        have d3 := hk.same _ _ d2 rfl
        have hend := run_endRound (P := P) (some Code.ret) l3
        have c3 : Chg (fun k => k = w.heap.size + 1) W3 (W3.putObj (w.heap.size + 1) (.loop (rec_ .done (some .ret)))) := chg_putO _ _ _ rfl
        have hl3 := (Array.getElem?_eq_some_iff.1 l3).1
        exact ⟨_, _, hend, .inr ⟨rfl, hIx _ _ _ hi (c3.mono fun k _ h => .inr (.inr h)), World.putObj_heap_same hl3, c3.blk d3 (by omega)⟩⟩
      | exit id => exact hp.elim
      | goto t => exact hp.elim
      | panic ch => exact hp.elim
      | outgrown => exact hp.elim
    · rintro e W2 ⟨⟨v, rfl⟩, ⟨xs, hS, i1, i2, i3, i4⟩ | ⟨pre, hS, i1, i2, i3⟩⟩
      · have c3 : Chg (fun k => k = w.heap.size + 1) W2 (W2.putObj (w.heap.size + 1) (.loop { rec_ .ready none with state := .exhausted })) := chg_putO _ _ _ rfl
        exact ⟨none, _, run_endLoop (P := P) i2 (fun h => by cases h), hdone _ xs _ (Nat.le_refl _) hS (hI _ _ _ i1 (c3.mono fun k _ h => .inr (.inr h))) (c3.blk i3 (by omega))⟩
      · have hend := run_endLoop (P := P) i2 (fun h => by cases h)
        have c3 : Chg (fun k => k = w.heap.size + 1) W2 (W2.putObj (w.heap.size + 1) (.loop { rec_ .done (some .ret) with state := .exhausted })) := chg_putO _ _ _ rfl
        exact ⟨some .ret, _, hend, hstop _ pre _ (Nat.le_refl _) hS (hIx _ _ _ i1 (c3.mono fun k _ h => .inr (.inr h))) (c3.blk i3 (by omega))⟩
end Go.Proofs.YtofomlpdklhigaaGreatDoor.Hand
