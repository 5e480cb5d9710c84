/- Arguments opened: rows of rows of numbers, and of truths. -/
import Derived.Test.YtelabmhhnpfegaaLx
import Derived.WalkKit
import Derived.ProofKit
import Derived.OpenShut
import Derived.ShutString
import Derived.ChangeOld
import Derived.Below
import Derived.SizedLaws
import Derived.Lib.SmallJoins
import Derived.Deep.Matrix
import Derived.Deep.Grids
import Derived.ChangeSame
namespace Go.Proofs.Ytelabmhhnpfegaa.Hand
open Go.Joins Go.ChangeShapes Go.WideShapes Go.ChangeAt Go.RowKit Go.Deep Go.Proofs.YtelabmhhnpfegaaW.PrintWords
theorem mem_all {H : Type} {P : Program} {e : TypeId} {d : DataW H} {m : Nat} (hm : m ∈ d.weights P e) : ∀ {l : List (DataW H)}, d ∈ l → m ∈ DataW.weightsAll P e l
  | [], h => by cases h
  | x :: l, h => by
    simp only [DataW.weightsAll, List.mem_append]
    rcases List.mem_cons.1 h with rfl | h
    · exact .inl hm
    · exact .inr (mem_all hm h)
theorem i64_of {n : Int} (h : (Lit.int .i64 n).wf = true) : -9223372036854775808 ≤ n ∧ n ≤ 9223372036854775807 := by
  simp [Lit.wf, IntKind.min, IntKind.max, IntKind.signed, IntKind.bits] at h
  omega
theorem i16_of {n : Int} (h : (Lit.int .i16 n).wf = true) : -32768 ≤ n ∧ n ≤ 32767 := by
  simp [Lit.wf, IntKind.min, IntKind.max, IntKind.signed, IntKind.bits] at h
  omega
section
variable {H : Type} {enc : TypeId × Value → H} {w : World}
theorem ints_at {n : Nat} {v : Value} {y : DataW H × List MemPlace} (h : DataW.trod enc Try.prog w 0 (fun _ => true) true n 22 [v] = some y) (hw : ∀ m ∈ y.1.weights Try.prog 22, m ≤ reachBytes) :
    ∃ (A : Option Addr) (c nc : Nat) (len : Nat → Nat) (cf : Nat → Nat → Int), v = .slice A nc c ∧ RawI w A nc len cf ∧ nc ≤ 17592186044416 ∧ (∀ i, i < nc → len i ≤ 17592186044416) ∧ ∀ i k, i < nc → k < len i → (Lit.int .i64 (cf i k)).wf = true := by
  have hr : reachBytes = 140737488355328 - 4096 := rfl
  rcases open_int_rows Try.underlying22 Try.underlying30 Try.underlying2 (by kernel_rfl) (by kernel_rfl) h with ⟨hcs, hy⟩ | ⟨a, len, cap, A, L, C, Z, hcs, _, hl, hm, hx, hf⟩
  · simp at hcs
    subst hcs
    exact ⟨none, 0, 0, fun _ => 0, fun _ _ => 0, rfl, fun i hi => absurd hi (Nat.not_lt_zero _), by omega, fun i hi => absurd hi (Nat.not_lt_zero _), fun i _ hi => absurd hi (Nat.not_lt_zero _)⟩
  · simp at hcs
    subst hcs
    subst hx
    have hb : Try.prog.bytesOf 30 = 24 := by kernel_rfl
    have hb2 : Try.prog.bytesOf 2 = 8 := by kernel_rfl
    have hwlen : len * 24 ≤ reachBytes := by
      have z := hw ((((List.range len).map fun r => intRow (H := H) .i64 (A r) (L r) (Z r)).length + ((List.range (cap - len)).map fun j => intRow (H := H) .i64 (A (len + j)) (L (len + j)) (Z (len + j))).length) * 24) (by
        simp only [DataW.weights, Try.underlying22, hb]
        exact List.mem_cons_self ..)
      refine Nat.le_trans (Nat.mul_le_mul_right _ ?_) z
      simp
    have hrow : ∀ i, i < len → L i ≤ 17592186044416 := fun i hi => by
      obtain ⟨_, h1, _, h3, _, h5, _⟩ := hf i (by omega)
      cases hA : A i with
      | none =>
        have := h5 hA
        omega
      | some a' =>
        have z := hw (((lits (H := H) .i64 ((Z i).take (L i))).length + (lits (H := H) .i64 ((Z i).drop (L i))).length) * 8) (by
          simp only [DataW.weights, Try.underlying22]
          refine List.mem_cons_of_mem _ (List.mem_append_left _ (mem_all ?_ (List.mem_map.2 ⟨i, List.mem_range.2 hi, rfl⟩)))
          simp only [intRow, hA, DataW.weights, Try.underlying30, hb2]
          exact List.mem_cons_self ..)
        have e : (lits (H := H) .i64 ((Z i).take (L i))).length + (lits (H := H) .i64 ((Z i).drop (L i))).length = (Z i).length := by
          simp [lits]
          omega
        rw [e] at z
        omega
    refine ⟨some a, cap, len, L, fun i k => (Z i).getD k 0, rfl, fun i hi => ?_, by omega, hrow, fun i k hi hk => ?_⟩
    · obtain ⟨h0, h1, _, h3, _, h5, h6⟩ := hf i (by omega)
      refine ⟨a, A i, C i, rfl, h0, fun k hk => ?_⟩
      cases hA : A i with
      | none =>
        have := h5 hA
        omega
      | some a' => exact ⟨a', rfl, (h6 a' hA).2 k (by omega)⟩
    · obtain ⟨h0, h1, _, h3, h4, h5, h6⟩ := hf i (by omega)
      have hk' : k < (Z i).length := by omega
      show (Lit.int .i64 ((Z i).getD k 0)).wf = true
      rw [List.getD_eq_getElem?_getD, List.getElem?_eq_getElem hk', Option.getD_some]
      exact h4 _ (List.getElem_mem hk')
theorem bools_at {n : Nat} {v : Value} {y : DataW H × List MemPlace} (h : DataW.trod enc Try.prog w 0 (fun _ => true) true n 23 [v] = some y) (hw : ∀ m ∈ y.1.weights Try.prog 23, m ≤ reachBytes) :
    ∃ (A : Option Addr) (c nc : Nat) (len : Nat → Nat) (cf : Nat → Nat → Bool), v = .slice A nc c ∧ RawB w A nc len cf ∧ nc ≤ 17592186044416 ∧ ∀ i, i < nc → len i ≤ 140737488355328 := by
  have hr : reachBytes = 140737488355328 - 4096 := rfl
  rcases open_bool_rows Try.underlying23 Try.underlying35 Try.underlying4 (by kernel_rfl) (by kernel_rfl) h with ⟨hcs, hy⟩ | ⟨a, len, cap, A, L, C, B, hcs, _, hl, hm, hx, hf⟩
  · simp at hcs
    subst hcs
    exact ⟨none, 0, 0, fun _ => 0, fun _ _ => false, rfl, fun i hi => absurd hi (Nat.not_lt_zero _), by omega, fun i hi => absurd hi (Nat.not_lt_zero _)⟩
  · simp at hcs
    subst hcs
    subst hx
    have hb : Try.prog.bytesOf 35 = 24 := by kernel_rfl
    have hb2 : Try.prog.bytesOf 4 = 1 := by kernel_rfl
    have hwlen : len * 24 ≤ reachBytes := by
      have z := hw ((((List.range len).map fun r => boolRow (H := H) (A r) (L r) (C r) (B r)).length + ((List.range (cap - len)).map fun j => boolRow (H := H) (A (len + j)) (L (len + j)) (C (len + j)) (B (len + j))).length) * 24) (by
        simp only [DataW.weights, Try.underlying23, hb]
        exact List.mem_cons_self ..)
      refine Nat.le_trans (Nat.mul_le_mul_right _ ?_) z
      simp
    have hrow : ∀ i, i < len → L i ≤ 140737488355328 := fun i hi => by
      obtain ⟨_, h1, _, h5, _⟩ := hf i (by omega)
      cases hA : A i with
      | none =>
        have := h5 hA
        omega
      | some a' =>
        have z := hw ((((List.range (L i)).map fun j => (DataW.lit (.bool (B i j)) : DataW H)).length + ((List.range (C i - L i)).map fun j => (DataW.lit (.bool (B i (L i + j))) : DataW H)).length) * 1) (by
          simp only [DataW.weights, Try.underlying23]
          refine List.mem_cons_of_mem _ (List.mem_append_left _ (mem_all ?_ (List.mem_map.2 ⟨i, List.mem_range.2 hi, rfl⟩)))
          simp only [boolRow, hA, DataW.weights, Try.underlying35, hb2]
          exact List.mem_cons_self ..)
        rw [List.length_map, List.length_range] at z
        omega
    refine ⟨some a, cap, len, L, B, rfl, fun i hi => ?_, by omega, hrow⟩
    obtain ⟨h0, h1, _, h5, h6⟩ := hf i (by omega)
    refine ⟨a, A i, C i, rfl, h0, fun k hk => ?_⟩
    cases hA : A i with
    | none =>
      have := h5 hA
      omega
    | some a' => exact ⟨a', rfl, (h6 a' hA).2 k (by omega)⟩
set_option maxRecDepth 100000 in
theorem pair_at {r : Reach} {b0 t e : Nat} {k : IntKind} {v : Value} {d : DataW H} {p : List MemPlace} {spare : Nat → Bool} (ht : Try.prog.underlying t = some (.array 2 e)) (he : Try.prog.underlying e = some (.int k)) (hC : Try.prog.cellsOf t = 2) (hc : Try.prog.cellsOf e = 1)
    (hv : Value.okWide Try.prog w r b0 t v) (h : DataW.Trod enc Try.prog w 0 spare true t v d p) : ∃ x y, v = .agg #[.int k x, .int k y] ∧ (Lit.int k x).wf = true ∧ (Lit.int k y).wf = true ∧ p = [] := by
  have hcs : ∃ cs : Array Value, v = .agg cs ∧ cs.size = 2 := by
    simp only [Value.okWide, ht] at hv
    obtain ⟨cs, h1, h2, _⟩ := hv
    exact ⟨cs, h1, by rw [h2, hC]⟩
  obtain ⟨cs, rfl, hsz⟩ := hcs
  obtain ⟨l⟩ := cs
  match l, hsz with
  | [c0, c1], _ =>
    obtain ⟨fuel, hf⟩ := h
    obtain ⟨xs, m, _, hx, _, hlen, hg⟩ := DataW.trod_array ht hf
    match xs, hlen with
    | [y0, y1], _ =>
      have g0 := hg 0 (by omega)
      have g1 := hg 1 (by omega)
      rw [hc] at g0 g1
      have g0' : DataW.trod enc Try.prog w 0 spare true m e [c0] = some y0 := g0
      have g1' : DataW.trod enc Try.prog w 0 spare true m e [c1] = some y1 := g1
      obtain ⟨x0, e0, q0, w0⟩ := DataW.trod_int he g0'
      obtain ⟨x1, e1, q1, w1⟩ := DataW.trod_int he g1'
      simp at e0 e1
      subst e0 e1
      simp only [Prod.mk.injEq] at hx
      refine ⟨x0, x1, rfl, w0, w1, ?_⟩
      rw [hx.2, q0, q1]
      rfl
theorem cap_at {t e : TypeId} {n m c : Nat} {A : Option Addr} {y : DataW H × List MemPlace} {spare : Nat → Bool} (ht : Try.prog.underlying t = some (.slice e)) (h : DataW.trod enc Try.prog w 0 spare true n t [.slice A m c] = some y) : m ≤ c := by
  rcases open_slice ht h with ⟨hcs, _⟩ | ⟨a, len, cap, m', n', D, Pl, hcs, _, hl, _⟩
  · simp at hcs
    omega
  · simp at hcs
    omega
end
end Go.Proofs.Ytelabmhhnpfegaa.Hand
