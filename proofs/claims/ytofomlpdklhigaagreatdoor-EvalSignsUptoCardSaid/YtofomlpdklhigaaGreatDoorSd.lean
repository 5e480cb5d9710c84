/- An answer's signs by the document: walked. -/
import Derived.Test.YtofomlpdklhigaaGreatDoorSc
import Derived.Test.YtofomlpdklhigaaGreatDoorDy
namespace Go.Proofs.YtofomlpdklhigaaGreatDoor.Hand
open Go.RowKit Go.Proofs.YtofomlpdklhigaaGreatDoorW.PrintWords Go.Proofs.YtofomlpdklhigaaGreatDoorW.PrintLast Go.Proofs.YtofomlpdklhigaaGreatDoorW.PrintMore
set_option linter.unusedVariables false
set_option linter.unusedSimpArgs false
/-- The numbers' words, a blank between two. -/
def wrdP (ns : List Int) : List UInt8 := Lib.join (ns.map Lib.itoa) [32]
theorem wrd_one (n : Int) : wrdP [n] = Lib.itoa n := by
  unfold wrdP
  rw [List.map_cons, List.map_nil, Lib.join_one]
theorem join_tail_snoc (r : List (List UInt8)) (w : List UInt8) : Lib.joinTail [32] (r ++ [w]) = Lib.joinTail [32] r ++ (32 :: w) := by
  simp [Lib.joinTail]
theorem wrd_snoc (ns : List Int) (n : Int) (h : ns ≠ []) : wrdP (ns ++ [n]) = wrdP ns ++ 32 :: Lib.itoa n := by
  cases ns with
  | nil => exact absurd rfl h
  | cons a l =>
    unfold wrdP
    rw [List.cons_append, List.map_cons, List.map_cons, Lib.join_cons, Lib.join_cons, List.map_append, List.map_cons, List.map_nil, join_tail_snoc, List.append_assoc]
theorem wrd_len : ∀ (ns : List Int), (∀ n ∈ ns, -9223372036854775808 ≤ n ∧ n ≤ 9223372036854775807) → (wrdP ns).length ≤ 22 * ns.length
  | [], _ => by simp [wrdP, Lib.join_nil]
  | [a], h => by
    rw [wrd_one]
    have h1 := h a List.mem_cons_self
    have := Lib.itoa_length_le a h1.1 h1.2
    simp only [List.length_cons, List.length_nil]
    omega
  | a :: b :: l, h => by
    have ih := wrd_len (b :: l) (fun n hn => h n (List.mem_cons_of_mem _ hn))
    have h1 := h a List.mem_cons_self
    have h2 := Lib.itoa_length_le a h1.1 h1.2
    unfold wrdP at ih ⊢
    rw [List.map_cons, List.map_cons, join_cons2, List.length_append, List.length_append]
    rw [List.map_cons] at ih
    simp only [List.length_cons, List.length_nil] at ih ⊢
    omega
theorem take_succ_snoc {l : List Int} {k : Nat} (h : k < l.length) : l.take (k + 1) = l.take k ++ [l.getD k 0] := by
  rw [List.take_add_one, List.getElem?_eq_getElem h, List.getD_eq_getElem?_getD, List.getElem?_eq_getElem h]
  rfl
set_option maxHeartbeats 1000000 in
theorem text12_any (w : World) (A : Option Addr) (m c : Nat) (ns : List Int) (hC : (Kd.int .i64).C w A m ns) (hm : m ≤ 4194304) (hb : ∀ n ∈ ns, -9223372036854775808 ≤ n ∧ n ≤ 9223372036854775807) :
    Calls Tryz.prog 12 #[.slice A m c] w fun e w' => e = .returned (.string (sB (textP ns))) ∧ Below w.heap.size w w' := by
  have hlen : m = ns.length := hC.1.symm
  have HC := Aside0.mk hC
  have HB := Aside0.mk hb
  have HL := Aside0.mk hlen
  clear hC hb hlen
  go_enter Tryz.func12, Tryz.ntmps12
  by_cases h0 : m = 0
  · subst h0
    go_wp2_with fail
    go_ret
    obtain rfl : ns = [] := List.length_eq_zero_iff.1 HL.out.symm
    exact ⟨rfl, Below.refl _ _⟩
  · have g0 : ((m : Int) == 0) = false := by
      have : ¬ (m : Int) = 0 := by omega
      simpa using this
    have hp : 0 < m := by omega
    clear h0
    go_wp2_with fail
    go_loopw [3, 4] (fun v3 v4 wr => ∃ i : Nat, i ≤ m ∧ v4 = .int .i64 (i : Int) ∧ v3 = .string (sB (wrdP (ns.take i))) ∧ Aside0 (Below w.heap.size w wr)) (fun _ v4 _ => m - (intOf v4).toNat)
    case atStart => exact ⟨0, Nat.zero_le _, rfl, rfl, ⟨Below.refl _ _⟩⟩
    case round =>
      obtain ⟨i, hi, rfl, rfl, BR⟩ := hrel
      by_cases hlt : i < m
      · have hil : i < ns.length := by rw [← HL.out]; exact hlt
        obtain ⟨ad, hA, c0⟩ := at_Int HC.out i hlt
        have c1 := pw_cell_below BR.out c0
        obtain ⟨k, hk⟩ : ∃ k, k = ns.getD i 0 := ⟨_, rfl⟩
        rw [← hk] at c1
        have hkb : -9223372036854775808 ≤ k ∧ k ≤ 9223372036854775807 := by
          rw [hk]
          refine HB.out _ ?_
          rw [List.getD_eq_getElem?_getD, List.getElem?_eq_getElem hil]
          exact List.getElem_mem hil
        have DG := Aside0.mk (fun W => dig_any k hkb.1 hkb.2 W)
        have TK : Aside0 (ns.take (i + 1) = ns.take i ++ [k]) := ⟨by rw [hk]; exact take_succ_snoc hil⟩
        have LT : Aside0 ((wrdP (ns.take i)).length ≤ 22 * 4194304 ∧ (Lib.itoa k).length ≤ 21) := ⟨by
          refine ⟨Nat.le_trans (wrd_len _ (fun n hn => HB.out n (List.mem_of_mem_take hn))) ?_, Lib.itoa_length_le k hkb.1 hkb.2⟩
          have : (ns.take i).length ≤ i := by rw [List.length_take]; omega
          omega⟩
        subst hA
        have wi : wrap64 ((i : Int) + 1) = ((i + 1 : Nat) : Int) := by unfold wrap64; omega
        clear hk hkb c0
        by_cases hi0 : i = 0
        · subst hi0
          have c2 := c1
          rw [Addr.add_zero'] at c2
          have EE : Aside0 (Lib.itoa k = wrdP (ns.take 1)) := ⟨by
            have := TK.out
            rw [this]
            exact (wrd_one k).symm⟩
          have hcat : ∀ W : World, (Op.stringOp .add (sB (wrdP [])) (sB (Lib.itoa k))).run Tryz.prog W = .ok (.string (sB (Lib.itoa k))) W := cat_run (wrdP []) (Lib.itoa k) (by have := LT.out; simp only [wrdP, List.map_nil, Lib.join_nil, List.length_nil]; omega)
          go_wp2_with fail
          refine (DG.out wr).mono ?_
          rintro _ W2 ⟨rfl, hb2⟩
          have B2 : Aside0 (Below w.heap.size w W2) := ⟨BR.out.trans (hb2.mono BR.out.size)⟩
          clear hb2 DG
          go_wp2_with fail
          exact ⟨⟨1, by omega, rfl, by rw [← EE.out], B2⟩, by simp [intOf]; omega⟩
        · have gi : (0 : Int) < (i : Int) := by omega
          have hne : ns.take i ≠ [] := by
            intro h
            have h2 : (ns.take i).length = 0 := by rw [h]; rfl
            rw [List.length_take] at h2
            clear wi
            omega
          have EE : Aside0 (wrdP (ns.take i) ++ [32] ++ Lib.itoa k = wrdP (ns.take (i + 1))) := ⟨by rw [TK.out, wrd_snoc _ _ hne]; simp⟩
          have hcat1 : ∀ W : World, (Op.stringOp .add (sB (wrdP (ns.take i))) ⟨#[32]⟩).run Tryz.prog W = .ok (.string (sB (wrdP (ns.take i) ++ [32]))) W := cat_run (wrdP (ns.take i)) [32] (by have := LT.out; simp only [List.length_cons, List.length_nil]; omega)
          have hcat2 := cat_run (wrdP (ns.take i) ++ [32]) (Lib.itoa k) (by have := LT.out; rw [List.length_append]; simp only [List.length_cons, List.length_nil]; omega)
          rw [EE.out] at hcat2
          go_wp2_with fail
          refine (DG.out wr).mono ?_
          rintro _ W2 ⟨rfl, hb2⟩
          have B2 : Aside0 (Below w.heap.size w W2) := ⟨BR.out.trans (hb2.mono BR.out.size)⟩
          clear hb2 DG
          go_wp2_with fail
          exact ⟨⟨i + 1, by omega, by go_num, rfl, B2⟩, by simp [intOf]; omega⟩
      · obtain rfl : i = m := by omega
        have FIN : Aside0 (sB (wrdP (ns.take i)) = sB (textP ns)) := ⟨by
          rw [HL.out, List.take_length]
          unfold textP wrdP
          rw [if_neg (by rintro rfl; have := HL.out; simp at this; omega)]⟩
        go_wp2_with fail
        go_ret
        exact ⟨by rw [← FIN.out]; rfl, BR.out⟩
end Go.Proofs.YtofomlpdklhigaaGreatDoor.Hand
