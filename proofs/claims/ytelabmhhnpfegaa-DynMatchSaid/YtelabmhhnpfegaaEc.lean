/- Tables of cells: their words; offer, OnesCount of few bits: walked. -/
import Derived.Test.YtelabmhhnpfegaaDt
namespace Go.Proofs.Ytelabmhhnpfegaa.Hand
open Go.RowKit Go.Proofs.YtelabmhhnpfegaaW.PrintWords Go.Proofs.YtelabmhhnpfegaaW.PrintLast Go.Proofs.YtelabmhhnpfegaaW.PrintMore Go.Proofs.Ytelabmhhnpfegaa.PDynCells
def fldS (s : S152) (j : Nat) : Value := if j = 0 then .int .i64 s.f0 else if j = 1 then .bool s.f1 else if j = 2 then .int .i64 s.f2 else .int .i64 s.f3
def tabS (n : Nat) (f : Nat → S152) : Array Value := ((List.range (n * 4)).map fun j => fldS (f (j / 4)) (j % 4)).toArray
theorem tabS_at {n : Nat} {f : Nat → S152} {j : Nat} (h : j < n * 4) : (tabS n f)[j]? = some (fldS (f (j / 4)) (j % 4)) := by simp [tabS, h]
theorem tabS_get {n : Nat} {f : Nat → S152} {i j : Nat} (hi : i < n) (hj : j < 4) : (tabS n f)[i * 4 + j]? = some (fldS (f i) j) := by
  rw [tabS_at (by omega), show (i * 4 + j) / 4 = i by omega, show (i * 4 + j) % 4 = j by omega]
theorem tabS_set (n : Nat) (f : Nat → S152) (i : Nat) (s : S152) : ((((tabS n f).setIfInBounds (i * 4) (.int .i64 s.f0)).setIfInBounds (i * 4 + 1) (.bool s.f1)).setIfInBounds (i * 4 + 2) (.int .i64 s.f2)).setIfInBounds (i * 4 + 3) (.int .i64 s.f3) = tabS n (upd f i s) := by
  have hsz : (tabS n f).size = n * 4 := by simp [tabS]
  apply Array.ext_getElem?
  intro j
  by_cases hl : j < n * 4
  · rw [tabS_at hl]
    by_cases hi : j / 4 = i
    · rw [hi, upd_self]
      have h4 : j % 4 = 0 ∨ j % 4 = 1 ∨ j % 4 = 2 ∨ j % 4 = 3 := by omega
      rcases h4 with h | h | h | h <;> rw [h]
      · obtain rfl : j = i * 4 := by omega
        simp [hsz, hl, fldS]
      · obtain rfl : j = i * 4 + 1 := by omega
        simp [hsz, hl, fldS]
      · obtain rfl : j = i * 4 + 2 := by omega
        simp [hsz, hl, fldS]
      · obtain rfl : j = i * 4 + 3 := by omega
        simp [hsz, hl, fldS]
    · rw [upd_ne _ _ hi, Array.getElem?_setIfInBounds, if_neg (by omega), Array.getElem?_setIfInBounds, if_neg (by omega), Array.getElem?_setIfInBounds, if_neg (by omega), Array.getElem?_setIfInBounds, if_neg (by omega), tabS_at hl]
  · rw [Array.getElem?_eq_none (by simp [hsz]; omega), Array.getElem?_eq_none (by simp [tabS]; omega)]
/-- A table of cells: the whole block. -/
def SB (w : World) (g n : Nat) (f : Nat → S152) : Prop := w.heap[g]? = some (.cells (tabS n f) 152 (0, 0))
section
variable {w : World} {g n i : Nat} {f : Nat → S152}
theorem SB.c0 (h : SB w g n f) (hi : i < n) : w.cell? ⟨g, i * 4, none⟩ = some (.int .i64 (f i).f0) := (blk_cell h _).trans (tabS_get (j := 0) hi (by omega))
theorem SB.c1 (h : SB w g n f) (hi : i < n) : w.cell? ⟨g, i * 4 + 1, none⟩ = some (.bool (f i).f1) := (blk_cell h _).trans (tabS_get hi (by omega))
theorem SB.c2 (h : SB w g n f) (hi : i < n) : w.cell? ⟨g, i * 4 + 2, none⟩ = some (.int .i64 (f i).f2) := (blk_cell h _).trans (tabS_get hi (by omega))
theorem SB.c3 (h : SB w g n f) (hi : i < n) : w.cell? ⟨g, i * 4 + 3, none⟩ = some (.int .i64 (f i).f3) := (blk_cell h _).trans (tabS_get hi (by omega))
theorem SB.z (h : SB w g n f) (i : Nat) : w.frozen? ⟨g, i, none⟩ = false := blk_frozen h i
theorem SB.set (h : SB w g n f) (i : Nat) (s : S152) : SB ((((w.setCell ⟨g, i * 4, none⟩ (.int .i64 s.f0)).setCell ⟨g, i * 4 + 1, none⟩ (.bool s.f1)).setCell ⟨g, i * 4 + 2, none⟩ (.int .i64 s.f2)).setCell ⟨g, i * 4 + 3, none⟩ (.int .i64 s.f3)) g n (upd f i s) := by
  unfold SB
  rw [← tabS_set]
  exact blk_set (blk_set (blk_set (blk_set h _ _) _ _) _ _) _ _
end
theorem set4_below {w0 w : World} {g : Nat} (hb : Below w0.heap.size w0 w) (hg : w0.heap.size ≤ g) (i0 i1 i2 i3 : Nat) (v0 v1 v2 v3 : Value) : Below w0.heap.size w0 ((((w.setCell ⟨g, i0, none⟩ v0).setCell ⟨g, i1, none⟩ v1).setCell ⟨g, i2, none⟩ v2).setCell ⟨g, i3, none⟩ v3) :=
  (((hb.setCell hg _).setCell hg _).setCell hg _).setCell hg _
def offS (s : S152) (a p q : Int) : S152 := if s.f1 = true ∧ ¬ a < s.f0 then s else ⟨a, true, p, q⟩
theorem updI_same {α : Type} (f : Nat → α) (i : Nat) : upd f i (f i) = f := by
  funext j
  unfold upd
  split
  · rename_i h
    rw [h]
  · rfl
set_option maxHeartbeats 1000000 in
set_option maxRecDepth 100000 in
/-- offer, as it answers. -/
theorem offer_any (w0 w : World) (g n i : Nat) (f : Nat → S152) (a p q : Int) (h : SB w g n f) (hi : i < n) (hB : Below w0.heap.size w0 w) (hg : w0.heap.size ≤ g) :
    Calls Try.prog 92 #[.pointer (some ⟨g, i * 4, none⟩), .int .i64 a, .int .i64 p, .int .i64 q] w fun e w' => e = .returned (.tuple #[]) ∧ Aside0 (SB w' g n (upd f i (offS (f i) a p q)) ∧ Below w0.heap.size w0 w') := by
  have H := Aside0.mk h
  have HB := Aside0.mk hB
  have HG := Aside0.mk hg
  have c0 := h.c0 hi
  have c1 := h.c1 hi
  have c2 := h.c2 hi
  have c3 := h.c3 hi
  have hz : ∀ j, w.frozen? ⟨g, j, none⟩ = false := h.z
  obtain ⟨s, hs⟩ : ∃ s, s = f i := ⟨_, rfl⟩
  rw [← hs] at c0 c1 c2 c3 ⊢
  have HS := Aside0.mk hs
  clear h hB hg hs
  have hu152 := Try.underlying152
  obtain ⟨f0, f1, f2, f3⟩ := s
  cases f1 with
  | false =>
    have d0 : w.cell? ⟨g, i * 4, none⟩ = some (.int .i64 f0) := c0
    have d1 : w.cell? ⟨g, i * 4 + 1, none⟩ = some (.bool false) := c1
    have d2 : w.cell? ⟨g, i * 4 + 2, none⟩ = some (.int .i64 f2) := c2
    have d3 : w.cell? ⟨g, i * 4 + 3, none⟩ = some (.int .i64 f3) := c3
    clear c0 c1 c2 c3
    go_enter Try.func92, Try.ntmps92
    go_wp2_with fail
    first | go_end0 | ((try simp only [Exit.inBlock, Exit.then]); refine bodyPost_ret (results_none rfl _ _ _) rfl ?_)
    exact ⟨rfl, ⟨H.out.set i ⟨a, true, p, q⟩, set4_below HB.out HG.out _ _ _ _ _ _ _ _⟩⟩
  | true =>
    have d0 : w.cell? ⟨g, i * 4, none⟩ = some (.int .i64 f0) := c0
    have d1 : w.cell? ⟨g, i * 4 + 1, none⟩ = some (.bool true) := c1
    have d2 : w.cell? ⟨g, i * 4 + 2, none⟩ = some (.int .i64 f2) := c2
    have d3 : w.cell? ⟨g, i * 4 + 3, none⟩ = some (.int .i64 f3) := c3
    clear c0 c1 c2 c3
    by_cases hlt : a < f0
    · have e : offS ⟨f0, true, f2, f3⟩ a p q = ⟨a, true, p, q⟩ := if_neg (fun h => h.2 hlt)
      rw [e]
      go_enter Try.func92, Try.ntmps92
      go_wp2_with fail
      first | go_end0 | ((try simp only [Exit.inBlock, Exit.then]); refine bodyPost_ret (results_none rfl _ _ _) rfl ?_)
      exact ⟨rfl, ⟨H.out.set i ⟨a, true, p, q⟩, set4_below HB.out HG.out _ _ _ _ _ _ _ _⟩⟩
    · have e : offS ⟨f0, true, f2, f3⟩ a p q = ⟨f0, true, f2, f3⟩ := if_pos ⟨rfl, hlt⟩
      rw [e, HS.out, updI_same]
      go_enter Try.func92, Try.ntmps92
      go_wp2_with fail
      first | go_end0 | ((try simp only [Exit.inBlock, Exit.then]); refine bodyPost_ret (results_none rfl _ _ _) rfl ?_)
      exact ⟨rfl, ⟨H.out, HB.out⟩⟩
end Go.Proofs.Ytelabmhhnpfegaa.Hand
