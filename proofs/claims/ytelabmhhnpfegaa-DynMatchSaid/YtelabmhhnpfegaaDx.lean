/- An instance as an argument: opened. -/
import Derived.Test.YtelabmhhnpfegaaDa
import Derived.WalkKit
import Derived.ProofKit
import Derived.OpenShut
import Derived.ShutString
import Derived.ChangeOld
import Derived.Below
import Derived.SizedLaws
import Derived.Lib.SmallJoins
import Derived.ChangeSame
import Derived.Deep.Slices
import Derived.Deep.Fields
namespace Go.Proofs.Ytelabmhhnpfegaa.Hand
open Go.Joins Go.ChangeShapes Go.WideShapes Go.ChangeAt Go.RowKit Go.Deep Go.Proofs.YtelabmhhnpfegaaW.PrintWords Go.Proofs.Ytelabmhhnpfegaa.PDynCells
section
variable {H : Type} {enc : TypeId × Value → H} {P : Program} {w : World} {base : Nat} {spare : Nat → Bool} {held : Bool}
theorem open_agg6 {r : Reach} {b0 : Nat} {t : TypeId} {f0 f1 f2 f3 f4 f5 : Field} {v : Value} {d : DataW H} {p : List MemPlace} (hs : P.underlying t = some (.struct #[f0, f1, f2, f3, f4, f5])) (hone : oneCellFields P #[f0, f1, f2, f3, f4, f5] = true) (hC : P.cellsOf t = 6)
    (hv : Value.okWide P w r b0 t v) (h : DataW.Trod enc P w base spare held t v d p) :
    ∃ (v0 v1 v2 v3 v4 v5 : Value) (y0 y1 y2 y3 y4 y5 : DataW H × List MemPlace) (n : Nat), v = .agg #[v0, v1, v2, v3, v4, v5] ∧ d = .agg [y0.1, y1.1, y2.1, y3.1, y4.1, y5.1] ∧ p = y0.2 ++ (y1.2 ++ (y2.2 ++ (y3.2 ++ (y4.2 ++ y5.2)))) ∧
      DataW.trod enc P w base spare held n f0.type [v0] = some y0 ∧ DataW.trod enc P w base spare held n f1.type [v1] = some y1 ∧ DataW.trod enc P w base spare held n f2.type [v2] = some y2 ∧ DataW.trod enc P w base spare held n f3.type [v3] = some y3 ∧ DataW.trod enc P w base spare held n f4.type [v4] = some y4 ∧ DataW.trod enc P w base spare held n f5.type [v5] = some y5 := by
  obtain ⟨cs, rfl, hsz⟩ := okWide_struct hs hv
  obtain ⟨l⟩ := cs
  match l, hsz.trans hC with
  | [c0, c1, c2, c3, c4, c5], _ =>
    obtain ⟨fuel, hf⟩ := h
    obtain ⟨xs, n, _, hx, _, hlen, hg⟩ := DataW.trod_struct hs hf
    obtain ⟨o0, k0⟩ := hone_of hone 0 f0 rfl
    obtain ⟨o1, k1⟩ := hone_of hone 1 f1 rfl
    obtain ⟨o2, k2⟩ := hone_of hone 2 f2 rfl
    obtain ⟨o3, k3⟩ := hone_of hone 3 f3 rfl
    obtain ⟨o4, k4⟩ := hone_of hone 4 f4 rfl
    obtain ⟨o5, k5⟩ := hone_of hone 5 f5 rfl
    match xs, hlen with
    | [y0, y1, y2, y3, y4, y5], _ =>
      simp only [Prod.mk.injEq] at hx
      exact ⟨c0, c1, c2, c3, c4, c5, y0, y1, y2, y3, y4, y5, n, rfl, by simpa using hx.1, by simpa using hx.2, by simpa [Value.cells, o0, k0] using hg 0 f0 rfl, by simpa [Value.cells, o1, k1] using hg 1 f1 rfl, by simpa [Value.cells, o2, k2] using hg 2 f2 rfl, by simpa [Value.cells, o3, k3] using hg 3 f3 rfl, by simpa [Value.cells, o4, k4] using hg 4 f4 rfl, by simpa [Value.cells, o5, k5] using hg 5 f5 rfl⟩
end
section
variable {H : Type} {enc : TypeId × Value → H} {w : World} {spare : Nat → Bool} {held : Bool}
theorem int_at {t : TypeId} {k : IntKind} {n : Nat} {v : Value} {y : DataW H × List MemPlace} (ht : Try.prog.underlying t = some (.int k)) (h : DataW.trod enc Try.prog w 0 spare held n t [v] = some y) : ∃ x, v = .int k x ∧ (Lit.int k x).wf = true := by
  obtain ⟨x, hx, _, hw⟩ := DataW.trod_int ht h
  simp at hx
  exact ⟨x, hx, hw⟩
theorem row_at {t e : TypeId} {k : IntKind} {n : Nat} {v : Value} {y : DataW H × List MemPlace} (ht : Try.prog.underlying t = some (.slice e)) (he : Try.prog.underlying e = some (.int k)) (hc : Try.prog.cellsOf e = 1)
    (h : DataW.trod enc Try.prog w 0 spare held n t [v] = some y) : ∃ (A : Option Addr) (c : Nat) (l : List Int), v = .slice A l.length c ∧ l.length ≤ c ∧ Kd.C (Kd.int k) w A l.length l ∧
      (∀ x ∈ l, (Lit.int k x).wf = true) ∧ ∀ B, Try.prog.bytesOf e = B → (∀ m ∈ y.1.weights Try.prog t, m ≤ reachBytes) → l.length * B ≤ reachBytes := by
  rcases open_ints ht he hc h with ⟨hcs, hy⟩ | ⟨a, len, cap, zs, hcs, _, hl, hm, hz, hy, hcell, hwf⟩
  · simp at hcs
    subst hcs
    refine ⟨none, 0, [], rfl, Nat.le_refl _, Kd.C_nil _ _, by simp, fun B _ _ => by simp⟩
  · simp at hcs
    subst hcs
    have hlz : len ≤ zs.length := by rw [hz]; split <;> omega
    have hlen : (zs.take len).length = len := by rw [List.length_take]; omega
    refine ⟨some a, cap, zs.take len, by rw [hlen], by rw [hlen]; exact hl, ?_, fun x hx => hwf x (List.mem_of_mem_take hx), ?_⟩
    · refine Kd.C_of_reads (d := (0 : Int)) (h1 := fun _ => rfl) (show ReadsInt w k _ _ _ from ⟨rfl, by have hmx : maxLen = 9223372036854775807 := rfl; rw [hlen]; omega, fun _ => ⟨_, rfl, fun j hj => ?_⟩⟩)
      rw [hlen] at hj
      rw [hcell j (by omega)]
      have e : zs.getD j 0 = (zs.take len).getD j 0 := by
        rw [List.getD_eq_getElem?_getD, List.getD_eq_getElem?_getD, List.getElem?_take_of_lt hj]
      rw [e]
    · intro B hB hw
      subst hy
      have h1 : (lits (H := H) k (zs.take len)).length + (lits (H := H) k (zs.drop len)).length = zs.length := by
        simp [lits]
        omega
      have z := hw (zs.length * B) (by
        simp only [DataW.weights, ht, hB]
        rw [h1]
        exact List.mem_cons_self ..)
      rw [hlen]
      exact Nat.le_trans (Nat.mul_le_mul_right _ hlz) z
end
theorem mem_all {H : Type} {P : Program} {e : TypeId} {d : DataW H} {m : Nat} (hm : m ∈ d.weights P e) : ∀ {l : List (DataW H)}, d ∈ l → m ∈ DataW.weightsAll P e l
  | [], h => by cases h
  | x :: l, h => by
    simp only [DataW.weightsAll, List.mem_append]
    rcases List.mem_cons.1 h with rfl | h
    · exact .inl hm
    · exact .inr (mem_all hm h)
theorem list_of {α : Type} {Q : Nat → α → Prop} : ∀ (n : Nat), (∀ i, i < n → ∃ x, Q i x) → ∃ l : List α, l.length = n ∧ ∀ i x, l[i]? = some x → Q i x
  | 0, _ => ⟨[], rfl, fun i x h => by simp at h⟩
  | n + 1, h => by
    obtain ⟨l, hl, hq⟩ := list_of n (fun i hi => h i (Nat.lt_succ_of_lt hi))
    obtain ⟨x, hx⟩ := h n (Nat.lt_succ_self n)
    refine ⟨l ++ [x], by simp [hl], fun i y hy => ?_⟩
    rcases Nat.lt_or_ge i l.length with h1 | h1
    · rw [List.getElem?_append_left h1] at hy
      exact hq i y hy
    · rw [List.getElem?_append_right h1] at hy
      have h2 : i - l.length = 0 := by
        have := (List.getElem?_eq_some_iff.1 hy).1
        simpa using this
      rw [h2] at hy
      simp at hy
      subst hy
      have : i = n := by omega
      rw [this]
      exact hx
section
variable {H : Type} {enc : TypeId × Value → H} {w : World} {spare : Nat → Bool} {held : Bool}
/-- A row of anything, each element's cells opened by 'hel'. -/
theorem slice_at {α : Type} (d : Kd α) {Ok : α → Prop} {t e B : TypeId} {n : Nat} {v : Value} {y : DataW H × List MemPlace} (ht : Try.prog.underlying t = some (.slice e)) (hC : Try.prog.cellsOf e = d.sz) (hb : Try.prog.bytesOf e = B)
    (hel : ∀ (n : Nat) (cs : List Value) (z : DataW H × List MemPlace), cs.length = d.sz → DataW.trod enc Try.prog w 0 spare held n e cs = some z → (∀ m ∈ z.1.weights Try.prog e, m ≤ reachBytes) → ∃ x, d.K w x cs ∧ Ok x)
    (h : DataW.trod enc Try.prog w 0 spare held n t [v] = some y) (hw : ∀ m ∈ y.1.weights Try.prog t, m ≤ reachBytes) :
    ∃ (A : Option Addr) (c : Nat) (l : List α), v = .slice A l.length c ∧ l.length ≤ c ∧ d.C w A l.length l ∧ (∀ x ∈ l, Ok x) ∧ l.length * B ≤ reachBytes := by
  rcases open_slice ht h with ⟨hcs, hy⟩ | ⟨a, len, cap, m, n', D, Pl, hcs, _, hl, hm, hmm, hx, hi⟩
  · simp at hcs
    subst hcs
    exact ⟨none, 0, [], rfl, Nat.le_refl _, Kd.C_nil _ _, by simp, by simp⟩
  · simp at hcs
    subst hcs
    have hlm : len ≤ m := by rw [hmm]; split <;> omega
    subst hx
    have hwlen : len * B ≤ reachBytes := by
      have z := hw ((((List.range len).map D).length + ((List.range (m - len)).map fun j => D (len + j)).length) * B) (by
        simp only [DataW.weights, ht, hb]
        exact List.mem_cons_self ..)
      refine Nat.le_trans (Nat.mul_le_mul_right _ ?_) z
      simp
    have hwall : ∀ i, i < len → ∀ q ∈ (D i).weights Try.prog e, q ≤ reachBytes := fun i hi q hq => hw q (by
      simp only [DataW.weights, ht]
      refine List.mem_cons_of_mem _ (List.mem_append_left _ (mem_all hq ?_))
      exact List.mem_map.2 ⟨i, List.mem_range.2 hi, rfl⟩)
    obtain ⟨l, hlen, hq⟩ := list_of (α := α) (Q := fun i x => Ok x ∧ ∃ cs : List Value, cs.length = d.sz ∧ d.K w x cs ∧ ∀ j u, cs[j]? = some u → w.cell? (a.add (i * d.sz + j)) = some u) len (fun i hi' => by
      obtain ⟨cs', hc, ht'⟩ := hi i (by omega)
      rw [hC] at hc
      obtain ⟨_, hcl, hat⟩ := World.cells?_some hc
      obtain ⟨x, hK, hok⟩ := hel _ cs' _ hcl ht' (hwall i hi')
      refine ⟨x, hok, cs', hcl, hK, fun j u hu => ?_⟩
      have hj : j < d.sz := by
        have := (List.getElem?_eq_some_iff.1 hu).1
        omega
      rw [← Go.Deep.add_add, hat j hj, hu])
    have hmx : maxLen = 9223372036854775807 := rfl
    refine ⟨some a, cap, l, by rw [hlen], by rw [hlen]; exact hl, ⟨rfl, by omega, fun _ => ⟨a, rfl, fun j p hp => ?_⟩⟩, fun x hx => ?_, by rw [hlen]; exact hwlen⟩
    · obtain ⟨_, cs, h6, hK, hcell⟩ := hq j p hp
      exact ⟨cs, h6, hK, hcell⟩
    · obtain ⟨i, hi⟩ := List.getElem?_of_mem hx
      exact (hq i x hi).1
set_option maxRecDepth 100000 in
theorem items_at {n : Nat} {v : Value} {y : DataW H × List MemPlace} (h : DataW.trod enc Try.prog w 0 spare held n 44 [v] = some y) (hw : ∀ m ∈ y.1.weights Try.prog 44, m ≤ reachBytes) :
    ∃ (A : Option Addr) (c : Nat) (l : List S101), v = .slice A l.length c ∧ l.length ≤ c ∧ k101.C w A l.length l ∧ (∀ _x ∈ l, True) ∧ l.length * 16 ≤ reachBytes := by
  refine slice_at k101 (Ok := fun _ => True) Try.underlying44 (by kernel_rfl) (by kernel_rfl) (fun m cs z hcl ht _ => ?_) h hw
  match cs, hcl with
  | [c0, c1], _ =>
    obtain ⟨xs, m', _, hx, _, hlen, hg⟩ := DataW.trod_array Try.underlying68 ht
    match xs, hlen with
    | [y0, y1], _ =>
      have g0 := hg 0 (by omega)
      have g1 := hg 1 (by omega)
      have hc : Try.prog.cellsOf 2 = 1 := by kernel_rfl
      rw [hc] at g0 g1
      have g0' : DataW.trod enc Try.prog w 0 spare held m' 2 [c0] = some y0 := g0
      have g1' : DataW.trod enc Try.prog w 0 spare held m' 2 [c1] = some y1 := g1
      obtain ⟨x0, e0, _, _⟩ := DataW.trod_int Try.underlying2 g0'
      obtain ⟨x1, e1, _, _⟩ := DataW.trod_int Try.underlying2 g1'
      simp at e0 e1
      subst e0 e1
      exact ⟨⟨x0, x1⟩, k101_mk w _, trivial⟩
set_option maxRecDepth 100000 in
theorem cost_at {n : Nat} {v : Value} {y : DataW H × List MemPlace} (h : DataW.trod enc Try.prog w 0 spare held n 22 [v] = some y) (hw : ∀ m ∈ y.1.weights Try.prog 22, m ≤ reachBytes) :
    ∃ (A : Option Addr) (c : Nat) (l : List (List Int)), v = .slice A l.length c ∧ l.length ≤ c ∧ (Kd.slice 2 (Kd.int .i64)).C w A l.length l ∧ (∀ r ∈ l, r.length ≤ 17592186044416) ∧ l.length * 24 ≤ reachBytes := by
  refine slice_at (Kd.slice 2 (Kd.int .i64)) (Ok := fun r => r.length ≤ 17592186044416) Try.underlying22 (by kernel_rfl) (by kernel_rfl) (fun m cs z hcl ht hz => ?_) h hw
  match cs, hcl with
  | [c0], _ =>
    obtain ⟨A, c, l, rfl, hl, hC, _, hB⟩ := row_at Try.underlying30 Try.underlying2 (by kernel_rfl) ht
    have z := hB 8 (by kernel_rfl) hz
    have hr : reachBytes = 140737488355328 - 4096 := rfl
    exact ⟨l, ⟨A, c, rfl, hl, hC⟩, by omega⟩
set_option maxRecDepth 100000 in
theorem sets_at {n : Nat} {v : Value} {y : DataW H × List MemPlace} (h : DataW.trod enc Try.prog w 0 spare held n 45 [v] = some y) (hw : ∀ m ∈ y.1.weights Try.prog 45, m ≤ reachBytes) :
    ∃ (A : Option Addr) (c : Nat) (l : List S102), v = .slice A l.length c ∧ l.length ≤ c ∧ k102.C w A l.length l ∧ (∀ s ∈ l, s.f1.length ≤ 17592186044416) ∧ l.length * 32 ≤ reachBytes := by
  refine slice_at k102 (Ok := fun s => s.f1.length ≤ 17592186044416) Try.underlying45 (by kernel_rfl) (by kernel_rfl) (fun m cs z hcl ht hz => ?_) h hw
  match cs, hcl with
  | [c0, c1], _ =>
    obtain ⟨ys, n', _, hy, _, hyl, hf⟩ := DataW.trod_struct Try.underlying99 ht
    match ys, hyl with
    | [y0, y1], _ =>
      have t0 : DataW.trod enc Try.prog w 0 spare held n' 2 [c0] = some y0 := hf 0 _ rfl
      have t1 : DataW.trod enc Try.prog w 0 spare held n' 29 [c1] = some y1 := hf 1 _ rfl
      obtain ⟨u, rfl, _⟩ := int_at Try.underlying2 t0
      obtain ⟨A, c, l, rfl, hl, hC, _, hB⟩ := row_at Try.underlying29 Try.underlying3 (by kernel_rfl) t1
      have z := hB 8 (by kernel_rfl) (fun m hm => hz m (by
        rw [congrArg Prod.fst hy]
        simp only [DataW.weights, Try.underlying99, DataW.weightsEach, List.map_cons, List.map_nil, List.mem_append]
        exact .inr (.inl hm)))
      have hr : reachBytes = 140737488355328 - 4096 := rfl
      exact ⟨⟨u, l⟩, k102_mk w ⟨u, l⟩ hl hC, by show l.length ≤ _; omega⟩
set_option maxRecDepth 100000 in
/-- An instance as an argument. -/
theorem inst_at {r : Reach} {b0 : Nat} {v : Value} {d : DataW H} {p : List MemPlace} (hv : Value.okWide Try.prog w r b0 47 v) (h : DataW.Trod enc Try.prog w 0 spare held 47 v d p) (hw : ∀ m ∈ d.weights Try.prog 47, m ≤ reachBytes) : ∃ x : PI, InstC w x v ∧ PIok x := by
  obtain ⟨x0, x1, x2, x3, x4, x5, y0, y1, y2, y3, y4, y5, n, rfl, rfl, rfl, g0, g1, g2, g3, g4, g5⟩ := open_agg6 Try.underlying47 (by kernel_rfl) (by kernel_rfl) hv h
  obtain ⟨k, rfl, _⟩ := int_at Try.underlying3 g0
  obtain ⟨cp, rfl, _⟩ := int_at Try.underlying2 g1
  obtain ⟨A2, c2, l2, rfl, b2, C2, _, w2⟩ := items_at g2 (fun m hm => hw m (by
    simp only [DataW.weights, Try.underlying47, DataW.weightsEach, List.map_cons, List.map_nil, List.mem_append]
    exact .inr (.inr (.inl hm))))
  obtain ⟨A3, c3, l3, rfl, b3, C3, r3, w3⟩ := cost_at g3 (fun m hm => hw m (by
    simp only [DataW.weights, Try.underlying47, DataW.weightsEach, List.map_cons, List.map_nil, List.mem_append]
    exact .inr (.inr (.inr (.inl hm)))))
  obtain ⟨sz, rfl, _⟩ := int_at Try.underlying3 g4
  obtain ⟨A5, c5, l5, rfl, b5, C5, r5, w5⟩ := sets_at g5 (fun m hm => hw m (by
    simp only [DataW.weights, Try.underlying47, DataW.weightsEach, List.map_cons, List.map_nil, List.mem_append]
    exact .inr (.inr (.inr (.inr (.inr (.inl hm)))))))
  have hr : reachBytes = 140737488355328 - 4096 := rfl
  exact ⟨⟨k, cp, l2, l3, sz, l5⟩, ⟨A2, c2, A3, c3, A5, c5, rfl, C2, b2, C3, b3, C5, b5⟩, by show l2.length ≤ _; omega, by show l3.length ≤ _; omega, by show l5.length ≤ _; omega, r3, r5⟩
end
end Go.Proofs.Ytelabmhhnpfegaa.Hand
