/- Acts as they come in: a row of acts, opened. -/
import Derived.Test.YtebbikihhkjaaaaArg
namespace Go.Proofs.Ytebbikihhkjaaaa.Hand
open Go.RowKit Go.Proofs.YtebbikihhkjaaaaW.PrintWords Go.Proofs.YtebbikihhkjaaaaW.PrintMore
abbrev AI := Int × NI
abbrev kAI : Kd AI := Kd.pair (Kd.int .i64) kNI
theorem kAI_mk {w : World} {x : AI} {A3 : Option Addr} {c3 : Nat} (l3 : x.2.f3.length ≤ c3) (g3 : (Kd.int .i64).C w A3 x.2.f3.length x.2.f3) : kAI.K w x [.int .i64 x.1, .int .i64 x.2.f0, .int .i64 x.2.f1, .int .i64 x.2.f2, .slice A3 x.2.f3.length c3, .int .u8 x.2.f4, .bool x.2.f5] :=
  ⟨[.int .i64 x.1], _, rfl, rfl, PSpillBack.k24_mk w x.2 l3 g3⟩
theorem act_at {w : World} {A : Option Addr} {q : Nat} {l : List AI} (h : Kd.C kAI w A q l) (i : Nat) (x : AI) (hi : l[i]? = some x) :
    ∃ ad A3 c3, A = some ad ∧ w.cell? (ad.add (i * 7)) = some (.int .i64 x.1) ∧ w.cell? ⟨(ad.add (i * 7)).block, (ad.add (i * 7)).off + 1, none⟩ = some (.int .i64 x.2.f0) ∧ w.cell? ⟨(ad.add (i * 7)).block, (ad.add (i * 7)).off + 2, none⟩ = some (.int .i64 x.2.f1) ∧ w.cell? ⟨(ad.add (i * 7)).block, (ad.add (i * 7)).off + 3, none⟩ = some (.int .i64 x.2.f2) ∧
      w.cell? ⟨(ad.add (i * 7)).block, (ad.add (i * 7)).off + 4, none⟩ = some (.slice A3 x.2.f3.length c3) ∧ w.cell? ⟨(ad.add (i * 7)).block, (ad.add (i * 7)).off + 5, none⟩ = some (.int .u8 x.2.f4) ∧ w.cell? ⟨(ad.add (i * 7)).block, (ad.add (i * 7)).off + 6, none⟩ = some (.bool x.2.f5) ∧ x.2.f3.length ≤ c3 ∧ Kd.C (Kd.int .i64) w A3 x.2.f3.length x.2.f3 := by
  have hlt : i < l.length := (List.getElem?_eq_some_iff.1 hi).1
  have hq : q = l.length := h.1.symm
  obtain ⟨ad, cs, e, _, hK, hc⟩ := Kd.C_get h x (i : Int) (by omega) (by omega)
  rw [Int.toNat_natCast, List.getD_eq_getElem?_getD, hi, Option.getD_some] at hK
  obtain ⟨c0, c1, rfl, h0, h1⟩ := hK
  obtain rfl : c0 = [.int .i64 x.1] := h0
  obtain ⟨A3, c3, rfl, l3, g3⟩ := PSpillBack.k24_open h1
  rw [Int.toNat_natCast, show kAI.sz = 7 from rfl] at hc
  exact ⟨ad, A3, c3, e, hc 0 _ rfl, by rw [← add_field _ _ 1 (by omega)]; exact hc 1 _ rfl, by rw [← add_field _ _ 2 (by omega)]; exact hc 2 _ rfl, by rw [← add_field _ _ 3 (by omega)]; exact hc 3 _ rfl, by rw [← add_field _ _ 4 (by omega)]; exact hc 4 _ rfl, by rw [← add_field _ _ 5 (by omega)]; exact hc 5 _ rfl, by rw [← add_field _ _ 6 (by omega)]; exact hc 6 _ rfl, l3, g3⟩
end Go.Proofs.Ytebbikihhkjaaaa.Hand
namespace Go.Proofs.Ytebbikihhkjaaaa.Hand.Arg
open Go.Joins Go.ChangeShapes Go.WideShapes Go.ChangeAt Go.RowKit Go.Deep Go.Proofs.YtebbikihhkjaaaaW.PrintWords
section
variable {H : Type} {enc : TypeId × Value → H} {w : World} {spare : Nat → Bool} {held : Bool}
set_option maxRecDepth 100000 in
theorem acts_at {n : Nat} {v : Value} {y : DataW H × List MemPlace} (h : DataW.trod enc Try.prog w 0 spare held n 64 [v] = some y) (hw : ∀ m ∈ y.1.weights Try.prog 64, m ≤ reachBytes) :
    ∃ (A : Option Addr) (c : Nat) (l : List AI), v = .slice A l.length c ∧ l.length ≤ c ∧ Kd.C kAI w A l.length l ∧ (∀ x ∈ l, NIok x.2 ∧ I64 x.1) ∧ l.length ≤ 17592186044416 := by
  have hr : reachBytes = 140737488355328 - 4096 := rfl
  have hC : Try.prog.cellsOf 66 = 7 := by kernel_rfl
  rcases open_slice Try.underlying64 h with ⟨hcs, hy⟩ | ⟨a, len, cap, m, n', D, Pl, hcs, _, hl, hm, hmm, hx, hf⟩
  · simp at hcs
    subst hcs
    exact ⟨none, 0, [], rfl, Nat.le_refl _, Kd.C_nil _ _, by simp, by simp⟩
  · simp at hcs
    subst hcs
    have hlm : len ≤ m := by rw [hmm]; split <;> omega
    subst hx
    have hwlen : len * 64 ≤ reachBytes := by
      have hb : Try.prog.bytesOf 66 = 64 := by kernel_rfl
      have z := hw ((((List.range len).map D).length + ((List.range (m - len)).map fun j => D (len + j)).length) * 64) (by
        simp only [DataW.weights, Try.underlying64, hb]
        exact List.mem_cons_self ..)
      refine Nat.le_trans (Nat.mul_le_mul_right _ ?_) z
      simp
    have hwall : ∀ i, i < len → ∀ q ∈ (D i).weights Try.prog 66, q ≤ reachBytes := fun i hi q hq => hw q (by
      simp only [DataW.weights, Try.underlying64]
      refine List.mem_cons_of_mem _ (List.mem_append_left _ (mem_all hq ?_))
      exact List.mem_map.2 ⟨i, List.mem_range.2 hi, rfl⟩)
    obtain ⟨l, hlen, hq⟩ := list_of (α := AI) (Q := fun i x => (NIok x.2 ∧ I64 x.1) ∧ ∃ cs : List Value, cs.length = 7 ∧ kAI.K w x cs ∧ ∀ j u, cs[j]? = some u → w.cell? (a.add (i * 7 + j)) = some u) len (fun i hi => by
      obtain ⟨cs', hc, ht'⟩ := hf i (by omega)
      rw [hC] at hc
      obtain ⟨ys, n1, _, hy, hlen, hyl, hg⟩ := DataW.trod_struct Try.underlying66 ht'
      obtain ⟨_, hcl, hat⟩ := World.cells?_some hc
      simp only [Prod.mk.injEq] at hy
      have hcl7 : cs'.length = 7 := hcl
      match cs', hcl7 with
      | [z0, z1, z2, z3, z4, z5, z6], _ =>
        have hyl2 : ys.length = 2 := hyl
        match ys, hyl2 with
        | [ya, yb], _ =>
          have k0 : Try.prog.cellsOf 3 = 1 := by kernel_rfl
          have k1 : Try.prog.cellsOf 24 = 6 := by kernel_rfl
          have ha : DataW.trod enc Try.prog w 0 spare held n1 3 (List.take (Try.prog.cellsOf 3) [z0, z1, z2, z3, z4, z5, z6]) = some ya := hg 0 _ rfl
          have hb : DataW.trod enc Try.prog w 0 spare held n1 24 (List.take (Try.prog.cellsOf 24) [z1, z2, z3, z4, z5, z6]) = some yb := hg 1 _ rfl
          rw [k0] at ha
          rw [k1] at hb
          replace ha : DataW.trod enc Try.prog w 0 spare held n1 3 [z0] = some ya := ha
          replace hb : DataW.trod enc Try.prog w 0 spare held n1 24 [z1, z2, z3, z4, z5, z6] = some yb := hb
          obtain ⟨d0, rfl, w0⟩ := int_at Try.underlying3 ha
          obtain ⟨xs, n2, _, hx2, hlen2, hxl, hg2⟩ := DataW.trod_struct Try.underlying24 hb
          have hxl6 : xs.length = 6 := hxl
          match xs, hxl6 with
          | [y0, y1, y2, y3, y4, y5], _ =>
            have k2 : Try.prog.cellsOf 2 = 1 := by kernel_rfl
            have k22 : Try.prog.cellsOf 22 = 1 := by kernel_rfl
            have k5 : Try.prog.cellsOf 5 = 1 := by kernel_rfl
            have k4 : Try.prog.cellsOf 4 = 1 := by kernel_rfl
            have t0 : DataW.trod enc Try.prog w 0 spare held n2 2 (List.take (Try.prog.cellsOf 2) [z1, z2, z3, z4, z5, z6]) = some y0 := hg2 0 _ rfl
            rw [k2] at t0
            replace t0 : DataW.trod enc Try.prog w 0 spare held n2 2 [z1] = some y0 := t0
            have t1 : DataW.trod enc Try.prog w 0 spare held n2 3 (List.take (Try.prog.cellsOf 3) [z2, z3, z4, z5, z6]) = some y1 := hg2 1 _ rfl
            rw [k0] at t1
            replace t1 : DataW.trod enc Try.prog w 0 spare held n2 3 [z2] = some y1 := t1
            have t2 : DataW.trod enc Try.prog w 0 spare held n2 2 (List.take (Try.prog.cellsOf 2) [z3, z4, z5, z6]) = some y2 := hg2 2 _ rfl
            rw [k2] at t2
            replace t2 : DataW.trod enc Try.prog w 0 spare held n2 2 [z3] = some y2 := t2
            have t3 : DataW.trod enc Try.prog w 0 spare held n2 22 (List.take (Try.prog.cellsOf 22) [z4, z5, z6]) = some y3 := hg2 3 _ rfl
            rw [k22] at t3
            replace t3 : DataW.trod enc Try.prog w 0 spare held n2 22 [z4] = some y3 := t3
            have t4 : DataW.trod enc Try.prog w 0 spare held n2 5 (List.take (Try.prog.cellsOf 5) [z5, z6]) = some y4 := hg2 4 _ rfl
            rw [k5] at t4
            replace t4 : DataW.trod enc Try.prog w 0 spare held n2 5 [z5] = some y4 := t4
            have t5 : DataW.trod enc Try.prog w 0 spare held n2 4 (List.take (Try.prog.cellsOf 4) [z6]) = some y5 := hg2 5 _ rfl
            rw [k4] at t5
            replace t5 : DataW.trod enc Try.prog w 0 spare held n2 4 [z6] = some y5 := t5
            obtain ⟨b, rfl, wb⟩ := int_at Try.underlying2 t0
            obtain ⟨d, rfl, wd⟩ := int_at Try.underlying3 t1
            obtain ⟨sq, rfl, wq⟩ := int_at Try.underlying2 t2
            obtain ⟨A3, c3, p, rfl, hl3, hC3, _, hB⟩ := row_at Try.underlying22 Try.underlying3 (by kernel_rfl) t3
            obtain ⟨tm, rfl, wt⟩ := int_at Try.underlying5 t4
            obtain ⟨rt, rfl⟩ := bool_at Try.underlying4 t5
            have hp : p.length ≤ 17592186044416 := by
              have z := hB 8 (by kernel_rfl) (fun m hm => hwall i hi m (by
                rw [hy.1]
                simp only [DataW.weights, Try.underlying66, DataW.weightsEach, List.mem_append, List.map]
                refine .inr (.inl ?_)
                rw [hx2]
                simp only [DataW.weights, Try.underlying24, DataW.weightsEach, List.map_cons, List.map_nil, List.mem_append]
                exact .inr (.inr (.inr (.inl hm)))))
              omega
            refine ⟨(d0, ⟨b, d, sq, p, tm, rt⟩), ⟨⟨i64_of wb, i64_of wq, (u8_of wt).1, (u8_of wt).2, hp⟩, i64_of w0⟩, _, rfl, kAI_mk (x := (d0, ⟨b, d, sq, p, tm, rt⟩)) hl3 hC3, ?_⟩
            intro j u hu
            have hj7 : j < 7 := (List.getElem?_eq_some_iff.1 hu).1
            have := hat j hj7
            rw [Go.Deep.add_add] at this
            rw [this]
            exact hu)
    refine ⟨some a, cap, l, by rw [hlen], by rw [hlen]; exact hl, ⟨rfl, by omega, fun _ => ⟨a, rfl, fun j p hp => ?_⟩⟩, fun x hx => ?_, by omega⟩
    · obtain ⟨_, cs, h7, hK, hcell⟩ := hq j p hp
      exact ⟨cs, h7, hK, hcell⟩
    · obtain ⟨i, hi⟩ := List.getElem?_of_mem hx
      exact (hq i x hi).1
end
end Go.Proofs.Ytebbikihhkjaaaa.Hand.Arg
