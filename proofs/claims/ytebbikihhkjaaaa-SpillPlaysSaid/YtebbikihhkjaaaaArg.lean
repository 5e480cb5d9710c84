/- Arguments opened: a row of notes; what its weight says of lengths. -/
import Derived.Test.YtebbikihhkjaaaaIn
import Derived.WalkKit
import Derived.ProofKit
import Derived.OpenShut
import Derived.ShutString
import Derived.ChangeOld
import Derived.Below
import Derived.SizedLaws
import Derived.Lib.SmallJoins
import Derived.Deep.Slices
import Derived.Deep.Fields
import Derived.ChangeSame
namespace Go.Proofs.Ytebbikihhkjaaaa.Hand.Arg
open Go.Joins Go.ChangeShapes Go.WideShapes Go.ChangeAt Go.RowKit Go.Deep Go.Proofs.YtebbikihhkjaaaaW.PrintWords
open Go.ChangeMaps (open_string shut_string)
section
variable {H : Type} {enc : TypeId × Value → H} {P : Program} {w : World} {base : Nat} {spare : Nat → Bool} {held : Bool}
theorem open_slice_fields {t e : TypeId} {fs : Array Field} {fuel : Nat} {cs : List Value} {x : DataW H × List MemPlace} (ht : P.underlying t = some (.slice e)) (he : P.underlying e = some (.struct fs))
    (hone : oneCellFields P fs = true) (hC : P.cellsOf e = fs.size) (h : DataW.trod enc P w base spare held fuel t cs = some x) :
    (cs = [.slice none 0 0] ∧ x = (.nil, [])) ∨
    ∃ (a : Addr) (len cap m : Nat) (D : Nat → DataW H) (Pl : Nat → List MemPlace), cs = [.slice (some a) len cap] ∧ base ≤ a.block ∧ len ≤ cap ∧ cap ≤ maxLen ∧ m = (if spare a.block then cap else len) ∧
      x = (.slice ((List.range len).map D) ((List.range (m - len)).map fun j => D (len + j)), MemPlace.row a (m * fs.size) ++ (List.range m).flatMap Pl) ∧
      ∀ i, i < m → ∃ (ys : List (DataW H × List MemPlace)) (n : Nat), D i = .agg (ys.map (·.1)) ∧ Pl i = ys.flatMap (·.2) ∧ ys.length = fs.size ∧
        ∀ (j : Nat) (f : Field), fs[j]? = some f → ∃ (v : Value) (y : DataW H × List MemPlace), w.cell? (a.add (i * fs.size + j)) = some v ∧ ys[j]? = some y ∧ DataW.trod enc P w base spare held n f.type [v] = some y := by
  rcases open_slice ht h with h0 | ⟨a, len, cap, m, n, D, Pl, hcs, hb, hl, hm, hmm, hx, hi⟩
  · exact .inl h0
  · refine .inr ⟨a, len, cap, m, D, Pl, hcs, hb, hl, hm, hmm, by rw [hC] at hx; exact hx, fun i him => ?_⟩
    obtain ⟨cs', hc, ht'⟩ := hi i him
    rw [hC] at hc
    obtain ⟨ys, n', hn', hy, hlen, hyl, hf⟩ := DataW.trod_struct he ht'
    obtain ⟨_, hcl, hat⟩ := World.cells?_some hc
    simp only [Prod.mk.injEq] at hy
    refine ⟨ys, n', hy.1, hy.2, hyl, fun j f hj => ?_⟩
    obtain ⟨ho, hk⟩ := hone_of hone j f hj
    have hjl : j < fs.size := (Array.getElem?_eq_some_iff.1 hj).1
    have hcell := hat j hjl
    have hv : cs'[j]? = some (cs'[j]'(by omega)) := List.getElem?_eq_getElem (by omega)
    have h1 := hf j f hj
    rw [ho, hk] at h1
    have hone' : (cs'.drop j).take 1 = [cs'[j]'(by omega)] := by
      rw [List.drop_eq_getElem_cons (by omega)]
      rfl
    rw [hone'] at h1
    have hys : ys[j]? = some (ys[j]'(by omega)) := List.getElem?_eq_getElem (by omega)
    refine ⟨_, _, ?_, hys, h1.trans hys⟩
    rw [← Go.Deep.add_add, hcell, hv]
theorem open_agg6 {r : Reach} {b0 : Nat} {t : TypeId} {f0 f1 f2 f3 f4 f5 : Field} {v : Value} {d : DataW H} {p : List MemPlace} (hs : P.underlying t = some (.struct #[f0, f1, f2, f3, f4, f5])) (hone : oneCellFields P #[f0, f1, f2, f3, f4, f5] = true) (hC : P.cellsOf t = 6)
    (hv : Value.okWide P w r b0 t v) (h : DataW.Trod enc P w base spare held t v d p) :
    ∃ (v0 v1 v2 v3 v4 v5 : Value) (y0 y1 y2 y3 y4 y5 : DataW H × List MemPlace) (n : Nat), v = .agg #[v0, v1, v2, v3, v4, v5] ∧ d = .agg [y0.1, y1.1, y2.1, y3.1, y4.1, y5.1] ∧ p = y0.2 ++ (y1.2 ++ (y2.2 ++ (y3.2 ++ (y4.2 ++ y5.2)))) ∧
      DataW.trod enc P w base spare held n f0.type [v0] = some y0 ∧ DataW.trod enc P w base spare held n f1.type [v1] = some y1 ∧ DataW.trod enc P w base spare held n f2.type [v2] = some y2 ∧ DataW.trod enc P w base spare held n f3.type [v3] = some y3 ∧ DataW.trod enc P w base spare held n f4.type [v4] = some y4 ∧ DataW.trod enc P w base spare held n f5.type [v5] = some y5 := by
  obtain ⟨cs, rfl, hsz⟩ := okWide_struct hs hv
  obtain ⟨l⟩ := cs
  match l, hsz.trans hC with
  | [c0, c1, c2, c3, c4, c5], _ =>
    obtain ⟨fuel, hf⟩ := h
    obtain ⟨xs, n, _, hx, _, hlen, hg⟩ := DataW.trod_struct hs hf
    obtain ⟨o0, k0⟩ := hone_of hone 0 f0 rfl
    obtain ⟨o1, k1⟩ := hone_of hone 1 f1 rfl
    obtain ⟨o2, k2⟩ := hone_of hone 2 f2 rfl
    obtain ⟨o3, k3⟩ := hone_of hone 3 f3 rfl
    obtain ⟨o4, k4⟩ := hone_of hone 4 f4 rfl
    obtain ⟨o5, k5⟩ := hone_of hone 5 f5 rfl
    match xs, hlen with
    | [y0, y1, y2, y3, y4, y5], _ =>
      simp only [Prod.mk.injEq] at hx
      exact ⟨c0, c1, c2, c3, c4, c5, y0, y1, y2, y3, y4, y5, n, rfl, by simpa using hx.1, by simpa using hx.2, by simpa [Value.cells, o0, k0] using hg 0 f0 rfl, by simpa [Value.cells, o1, k1] using hg 1 f1 rfl, by simpa [Value.cells, o2, k2] using hg 2 f2 rfl, by simpa [Value.cells, o3, k3] using hg 3 f3 rfl, by simpa [Value.cells, o4, k4] using hg 4 f4 rfl, by simpa [Value.cells, o5, k5] using hg 5 f5 rfl⟩
end
theorem i64_of {n : Int} (h : (Lit.int .i64 n).wf = true) : I64 n := by
  simp [Lit.wf, IntKind.min, IntKind.max, IntKind.signed, IntKind.bits] at h
  unfold I64
  omega
theorem u8_of {n : Int} (h : (Lit.int .u8 n).wf = true) : 0 ≤ n ∧ n ≤ 255 := by
  simp [Lit.wf, IntKind.min, IntKind.max, IntKind.signed, IntKind.bits] at h
  omega
section
variable {H : Type} {enc : TypeId × Value → H} {w : World} {spare : Nat → Bool} {held : Bool}
theorem int_at {t : TypeId} {k : IntKind} {n : Nat} {v : Value} {y : DataW H × List MemPlace} (ht : Try.prog.underlying t = some (.int k)) (h : DataW.trod enc Try.prog w 0 spare held n t [v] = some y) : ∃ x, v = .int k x ∧ (Lit.int k x).wf = true := by
  obtain ⟨x, hx, _, hw⟩ := DataW.trod_int ht h
  simp at hx
  exact ⟨x, hx, hw⟩
theorem bool_at {t : TypeId} {n : Nat} {v : Value} {y : DataW H × List MemPlace} (ht : Try.prog.underlying t = some .bool) (h : DataW.trod enc Try.prog w 0 spare held n t [v] = some y) : ∃ x, v = .bool x := by
  obtain ⟨x, hx, _⟩ := DataW.trod_bool ht h
  simp at hx
  exact ⟨x, hx⟩
theorem row_at {t e : TypeId} {k : IntKind} {n : Nat} {v : Value} {y : DataW H × List MemPlace} (ht : Try.prog.underlying t = some (.slice e)) (he : Try.prog.underlying e = some (.int k)) (hc : Try.prog.cellsOf e = 1)
    (h : DataW.trod enc Try.prog w 0 spare held n t [v] = some y) : ∃ (A : Option Addr) (c : Nat) (l : List Int), v = .slice A l.length c ∧ l.length ≤ c ∧ Kd.C (Kd.int k) w A l.length l ∧
      (∀ x ∈ l, (Lit.int k x).wf = true) ∧ ∀ B, Try.prog.bytesOf e = B → (∀ m ∈ y.1.weights Try.prog t, m ≤ reachBytes) → l.length * B ≤ reachBytes := by
  rcases open_ints ht he hc h with ⟨hcs, hy⟩ | ⟨a, len, cap, zs, hcs, _, hl, hm, hz, hy, hcell, hwf⟩
  · simp at hcs
    subst hcs
    refine ⟨none, 0, [], rfl, Nat.le_refl _, Kd.C_nil _ _, by simp, fun B _ _ => by simp⟩
  · simp at hcs
    subst hcs
    have hlz : len ≤ zs.length := by rw [hz]; split <;> omega
    have hlen : (zs.take len).length = len := by rw [List.length_take]; omega
    refine ⟨some a, cap, zs.take len, by rw [hlen], by rw [hlen]; exact hl, ?_, fun x hx => hwf x (List.mem_of_mem_take hx), ?_⟩
    · refine Kd.C_of_reads (d := (0 : Int)) (h1 := fun _ => rfl) (show ReadsInt w k _ _ _ from ⟨rfl, by have hmx : maxLen = 9223372036854775807 := rfl; rw [hlen]; omega, fun _ => ⟨_, rfl, fun j hj => ?_⟩⟩)
      rw [hlen] at hj
      rw [hcell j (by omega)]
      have e : zs.getD j 0 = (zs.take len).getD j 0 := by
        rw [List.getD_eq_getElem?_getD, List.getD_eq_getElem?_getD, List.getElem?_take_of_lt hj]
      rw [e]
    · intro B hB hw
      subst hy
      have h1 : (lits (H := H) k (zs.take len)).length + (lits (H := H) k (zs.drop len)).length = zs.length := by
        simp [lits]
        omega
      have z := hw (zs.length * B) (by
        simp only [DataW.weights, ht, hB]
        rw [h1]
        exact List.mem_cons_self ..)
      rw [hlen]
      exact Nat.le_trans (Nat.mul_le_mul_right _ hlz) z
end

theorem mem_all {H : Type} {P : Program} {e : TypeId} {d : DataW H} {m : Nat} (hm : m ∈ d.weights P e) : ∀ {l : List (DataW H)}, d ∈ l → m ∈ DataW.weightsAll P e l
  | [], h => by cases h
  | x :: l, h => by
    simp only [DataW.weightsAll, List.mem_append]
    rcases List.mem_cons.1 h with rfl | h
    · exact .inl hm
    · exact .inr (mem_all hm h)
theorem list_of {α : Type} {Q : Nat → α → Prop} : ∀ (n : Nat), (∀ i, i < n → ∃ x, Q i x) → ∃ l : List α, l.length = n ∧ ∀ i x, l[i]? = some x → Q i x
  | 0, _ => ⟨[], rfl, fun i x h => by simp at h⟩
  | n + 1, h => by
    obtain ⟨l, hl, hq⟩ := list_of n (fun i hi => h i (Nat.lt_succ_of_lt hi))
    obtain ⟨x, hx⟩ := h n (Nat.lt_succ_self n)
    refine ⟨l ++ [x], by simp [hl], fun i y hy => ?_⟩
    rcases Nat.lt_or_ge i l.length with h1 | h1
    · rw [List.getElem?_append_left h1] at hy
      exact hq i y hy
    · rw [List.getElem?_append_right h1] at hy
      have h2 : i - l.length = 0 := by
        have := (List.getElem?_eq_some_iff.1 hy).1
        simpa using this
      rw [h2] at hy
      simp at hy
      subst hy
      have : i = n := by omega
      rw [this]
      exact hx
section
variable {H : Type} {enc : TypeId × Value → H} {w : World} {spare : Nat → Bool} {held : Bool}
theorem notes_at {n : Nat} {v : Value} {y : DataW H × List MemPlace} (h : DataW.trod enc Try.prog w 0 spare held n 45 [v] = some y) (hw : ∀ m ∈ y.1.weights Try.prog 45, m ≤ reachBytes) :
    ∃ (A : Option Addr) (c : Nat) (l : List NI), v = .slice A l.length c ∧ l.length ≤ c ∧ Kd.C kNI w A l.length l ∧ (∀ x ∈ l, NIok x) ∧ l.length ≤ 17592186044416 := by
  have hr : reachBytes = 140737488355328 - 4096 := rfl
  rcases open_slice_fields Try.underlying45 Try.underlying24 (by kernel_rfl) (by kernel_rfl) h with ⟨hcs, hy⟩ | ⟨a, len, cap, m, D, Pl, hcs, _, hl, hm, hmm, hx, hf⟩
  · simp at hcs
    subst hcs
    exact ⟨none, 0, [], rfl, Nat.le_refl _, Kd.C_nil _ _, by simp, by simp⟩
  · simp at hcs
    subst hcs
    have hlm : len ≤ m := by rw [hmm]; split <;> omega
    subst hx
    have hwlen : len * 56 ≤ reachBytes := by
      have hb : Try.prog.bytesOf 24 = 56 := by kernel_rfl
      have z := hw ((((List.range len).map D).length + ((List.range (m - len)).map fun j => D (len + j)).length) * 56) (by
        simp only [DataW.weights, Try.underlying45, hb]
        exact List.mem_cons_self ..)
      refine Nat.le_trans (Nat.mul_le_mul_right _ ?_) z
      simp
    have hwall : ∀ i, i < len → ∀ q ∈ (D i).weights Try.prog 24, q ≤ reachBytes := fun i hi q hq => hw q (by
      simp only [DataW.weights, Try.underlying45]
      refine List.mem_cons_of_mem _ (List.mem_append_left _ (mem_all hq ?_))
      exact List.mem_map.2 ⟨i, List.mem_range.2 hi, rfl⟩)
    obtain ⟨l, hlen, hq⟩ := list_of (α := NI) (Q := fun i x => NIok x ∧ ∃ cs : List Value, cs.length = 6 ∧ kNI.K w x cs ∧ ∀ j u, cs[j]? = some u → w.cell? (a.add (i * 6 + j)) = some u) len (fun i hi => by
      obtain ⟨ys, n', hD, _, hys, hj⟩ := hf i (by omega)
      obtain ⟨v0, y0, hc0, hy0, ht0⟩ := hj 0 _ rfl
      obtain ⟨v1, y1, hc1, hy1, ht1⟩ := hj 1 _ rfl
      obtain ⟨v2, y2, hc2, hy2, ht2⟩ := hj 2 _ rfl
      obtain ⟨v3, y3, hc3, hy3, ht3⟩ := hj 3 _ rfl
      obtain ⟨v4, y4, hc4, hy4, ht4⟩ := hj 4 _ rfl
      obtain ⟨v5, y5, hc5, hy5, ht5⟩ := hj 5 _ rfl
      obtain ⟨b, rfl, wb⟩ := int_at Try.underlying2 ht0
      obtain ⟨d, rfl, wd⟩ := int_at Try.underlying3 ht1
      obtain ⟨sq, rfl, wq⟩ := int_at Try.underlying2 ht2
      obtain ⟨A3, c3, p, rfl, hl3, hC3, _, hB⟩ := row_at Try.underlying22 Try.underlying3 (by kernel_rfl) ht3
      obtain ⟨tm, rfl, wt⟩ := int_at Try.underlying5 ht4
      obtain ⟨rt, rfl⟩ := bool_at Try.underlying4 ht5
      have hp : p.length ≤ 17592186044416 := by
        have z := hB 8 (by kernel_rfl) (fun m hm => hwall i hi m (by
          rw [hD]
          have hys6 : ys.length = 6 := hys
          match ys, hys6, hy3 with
          | [z0, z1, z2, z3, z4, z5], _, hy3 =>
            obtain rfl : z3 = y3 := by simpa using hy3
            simp only [DataW.weights, Try.underlying24, DataW.weightsEach, List.map_cons, List.map_nil, List.mem_append]
            exact .inr (.inr (.inr (.inl hm)))))
        omega
      refine ⟨⟨b, d, sq, p, tm, rt⟩, ⟨i64_of wb, i64_of wq, (u8_of wt).1, (u8_of wt).2, hp⟩, _, rfl, PSpillBack.k24_mk w ⟨b, d, sq, p, tm, rt⟩ hl3 hC3, ?_⟩
      intro j u hu
      have hj6 : j < 6 := (List.getElem?_eq_some_iff.1 hu).1
      match j, hj6, hu with
      | 0, _, hu => cases hu; exact hc0
      | 1, _, hu => cases hu; exact hc1
      | 2, _, hu => cases hu; exact hc2
      | 3, _, hu => cases hu; exact hc3
      | 4, _, hu => cases hu; exact hc4
      | 5, _, hu => cases hu; exact hc5)
    refine ⟨some a, cap, l, by rw [hlen], by rw [hlen]; exact hl, ⟨rfl, by omega, fun _ => ⟨a, rfl, fun j p hp => ?_⟩⟩, fun x hx => ?_, by omega⟩
    · obtain ⟨_, cs, h6, hK, hcell⟩ := hq j p hp
      exact ⟨cs, h6, hK, hcell⟩
    · obtain ⟨i, hi⟩ := List.getElem?_of_mem hx
      exact (hq i x hi).1
end
end Go.Proofs.Ytebbikihhkjaaaa.Hand.Arg
