/- Notes as the laws take them: a row of notes, each made right; their bytes. -/
import Derived.Test.YtebbikihhkjaaaaPSpillBackx0
import Derived.Test.YtebbikihhkjaaaaNote
import Derived.Test.YtebbikihhkjaaaaRefb
namespace Go.Proofs.Ytebbikihhkjaaaa.Hand
open Go.RowKit Go.Proofs.YtebbikihhkjaaaaW.PrintWords Go.Proofs.YtebbikihhkjaaaaW.PrintMore Go.Proofs.Ytebbikihhkjaaaa.PSpillBytes
/-- A note as it comes in: bound, depth, seq, path, times, right. -/
abbrev NI := PSpillBack.S24
abbrev kNI : Kd NI := PSpillBack.k24
structure NIok (x : NI) : Prop where
  b : I64 x.f0
  s : I64 x.f2
  t0 : 0 ≤ x.f4
  t1 : x.f4 ≤ 255
  len : x.f3.length ≤ 17592186044416
def ntOf (x : NI) : Nt := ⟨x.f0, x.f2, noteP (min x.f3.length 40) x.f4.toNat true x.f3⟩
theorem noteP_le (n t : Nat) (rt : Bool) (l : List Int) : (noteP (min n 40) t rt l).length ≤ 1600 := by
  have h : (rep (1 + t % 40) (l.take (min n 40))).length ≤ 40 * 40 := by
    rw [rep_len, List.length_take]
    exact Nat.mul_le_mul (by omega) (by omega)
  unfold noteP
  split
  · rw [List.length_map]; omega
  · omega
theorem noteP_range (m t : Nat) (l : List Int) : ∀ d ∈ noteP m t true l, 0 ≤ d ∧ d ≤ 4096 := by
  intro d hd
  unfold noteP at hd
  rw [if_pos rfl] at hd
  obtain ⟨x, _, rfl⟩ := List.mem_map.1 hd
  unfold fixP
  split <;> omega
theorem ntOf_ok {x : NI} (h : NIok x) : OkNt (ntOf x) :=
  ⟨h.b, h.s, Nat.le_trans (noteP_le x.f3.length x.f4.toNat true x.f3) (by omega), noteP_range (min x.f3.length 40) x.f4.toNat x.f3⟩
theorem ntOf_len (x : NI) : (ntOf x).path.length ≤ 1600 := noteP_le x.f3.length x.f4.toNat true x.f3
theorem encB_right {b s : Int} {p : List Int} (d : Int) (h : OkNt ⟨b, s, p⟩) : encB b (noteD d true p) s p = strOfNums (encNt ⟨b, s, p⟩) := by
  have e : mayB (noteD d true p) p = true := mayB_iff.2 ⟨h.len, rfl, h.ds⟩
  unfold encB
  rw [if_pos e]
theorem encB_nt {n : Nt} (h : OkNt n) : encB n.b n.path.length n.s n.path = strOfNums (encNt n) := by
  unfold encB
  rw [if_pos (mayB_iff.2 ⟨h.len, rfl, h.ds⟩)]
def nts (l : List NI) : List Nt := l.map ntOf
theorem nts_ok {l : List NI} (h : ∀ x ∈ l, NIok x) : ∀ n ∈ nts l, OkNt n := by
  intro n hn
  obtain ⟨x, hx, rfl⟩ := List.mem_map.1 hn
  exact ntOf_ok (h x hx)
theorem encAll_len {l : List Nt} (h : ∀ n ∈ l, OkNt n) : (encAll l).length ≤ 8222 * l.length := by
  induction l with
  | nil => simp [encAll]
  | cons n l ih =>
    have e : encAll (n :: l) = encNt n ++ encAll l := by simp [encAll]
    have h1 := encNt_len (h n List.mem_cons_self)
    have h2 := ih (fun x hx => h x (List.mem_cons_of_mem _ hx))
    rw [e, List.length_append, List.length_cons]
    omega
theorem encAll_snoc (l : List Nt) (n : Nt) : encAll (l ++ [n]) = encAll l ++ encNt n := by simp [encAll]
theorem nts_take (l : List NI) (k : Nat) (hk : k < l.length) : nts (l.take (k + 1)) = nts (l.take k) ++ [ntOf (PSpillBack.rd_T24 l k)] := by
  unfold nts
  rw [List.take_add_one, List.getElem?_eq_getElem hk]
  simp only [Option.toList_some, List.map_append, List.map_cons, List.map_nil]
  have e : PSpillBack.rd_T24 l (k : Int) = l[k] := by
    unfold PSpillBack.rd_T24
    rw [Int.toNat_natCast, List.getD_eq_getElem?_getD, List.getElem?_eq_getElem hk, Option.getD_some]
  rw [e]
theorem nt_at {w : World} {A : Option Addr} {ns : List Nt} {q : Nat} (h : Kd.C k28 w A q (ns.map toS)) (i : Nat) (nt : Nt) (hi : ns[i]? = some nt) :
    ∃ ad A3 c3, A = some ad ∧ w.cell? (ad.add (i * 4)) = some (.int .i64 nt.b) ∧ w.cell? ⟨(ad.add (i * 4)).block, (ad.add (i * 4)).off + 1, none⟩ = some (.int .i64 nt.path.length) ∧ w.cell? ⟨(ad.add (i * 4)).block, (ad.add (i * 4)).off + 2, none⟩ = some (.int .i64 nt.s) ∧
      w.cell? ⟨(ad.add (i * 4)).block, (ad.add (i * 4)).off + 3, none⟩ = some (.slice A3 nt.path.length c3) ∧ nt.path.length ≤ c3 ∧ Kd.C (Kd.int .i64) w A3 nt.path.length nt.path := by
  have hlt : i < ns.length := (List.getElem?_eq_some_iff.1 hi).1
  have hq : q = ns.length := by
    have := h.1
    rw [List.length_map] at this
    exact this.symm
  obtain ⟨ad, A3, c3, e, x0, x1, x2, x3, hl, hC⟩ := at_T28 h (i : Int) (by omega) (by omega)
  have e2 : rd_T28 (ns.map toS) (i : Int) = toS nt := by
    unfold rd_T28
    rw [Int.toNat_natCast, List.getD_eq_getElem?_getD, List.getElem?_map, hi]
    rfl
  rw [e2] at x0 x1 x2 x3 hl hC
  rw [Int.toNat_natCast] at x0 x1 x2 x3
  exact ⟨ad, A3, c3, e, x0, x1, x2, x3, hl, hC⟩
end Go.Proofs.Ytebbikihhkjaaaa.Hand
