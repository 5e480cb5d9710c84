/- strings.SplitSeq at a blank: walked. -/
import Derived.Shelf.Abstract
import Derived.Shelf.RegionOpen
import Derived.OwnWalkIn
import Derived.TacticsInMore
import Derived.LoopNIn
import Derived.LoopIn
import Derived.Sort.QuietIn
import Derived.Sort.CutIn
import Derived.Test.YtofomlpdklhigaaGreatDoorSs
import Derived.Test.YtofomlpdklhigaaGreatDoorPl
import Derived.Test.YtofomlpdklhigaaGreatDoorShelf
namespace Go.Proofs.YtofomlpdklhigaaGreatDoor.Hand
open Go.RowKit Go.Shelf Go.Proofs.YtofomlpdklhigaaGreatDoorW.PrintWords Go.Proofs.YtofomlpdklhigaaGreatDoorW.PrintLast Go.Proofs.YtofomlpdklhigaaGreatDoorW.PrintMore
set_option linter.unusedVariables false
set_option linter.unusedSimpArgs false
attribute [local go_sem] Oper.semAt_some
theorem roundIn_free {F : Fence} {n n' : Nat} {P : Program} {l : Nat} {f : FuncId} {tmps : Array Value} {assign body : Code} {w : World} {R : Ending → World → Prop} (hd : F.depth = none)
    (h : RoundIn F n P l f tmps assign body w R) : RoundIn F n' P l f tmps assign body w R :=
  ⟨h.1, fun c cs _ => h.2 c cs fun d e => by rw [hd] at e; cases e⟩
theorem callsIn_free {F : Fence} {n n' : Nat} {P : Program} {f : FuncId} {args : Array Value} {w : World} {R : Ending → World → Prop} (hd : F.depth = none)
    (h : CallsIn F n P f args w R) : CallsIn F n' P f args w R :=
  ⟨h.1, fun cs _ => h.2 cs fun d e => by rw [hd] at e; cases e⟩
theorem yieldAt_free {F : Fence} {m m' : Nat} {P : Program} {l : Nat} {args : Array Value} {W : World} {R : Ending → World → Prop} (hd : F.depth = none)
    (h : YieldAt F m P l args W R) : YieldAt F m' P l args W R := by
  obtain ⟨fn, tmps, assign, body, h1, h2⟩ := h
  exact ⟨fn, tmps, assign, body, h1, roundIn_free hd h2⟩
/-- A text of bytes. -/
def sB (l : List UInt8) : ByteArray := ⟨l.toArray⟩
theorem sB_size (l : List UInt8) : (sB l).size = l.length := by simp [sB, ByteArray.size]
theorem sB_list (l : List UInt8) : (sB l).data.toList = l := by simp [sB]
theorem sB_take (r : List UInt8) (k : Nat) : (sB r).extract 0 k = sB (r.take k) := by
  apply ByteArray.ext
  simp [sB, ByteArray.data_extract]
theorem sB_drop (r : List UInt8) (k : Nat) : (sB r).extract k r.length = sB (r.drop k) := by
  apply ByteArray.ext
  simp only [sB, ByteArray.data_extract, List.extract_toArray, List.extract_eq_take_drop]
  rw [List.take_of_length_le (by rw [List.length_drop]; omega)]
theorem split49 (w : World) (s t : ByteArray) (z : Int) : Calls Tryz.prog 49 #[.string s, .string t, .int .i64 z] w fun e w' => e = .returned (.func (.func 80) #[] #[.pointer (some ⟨w.heap.size + 1, 0, none⟩), .pointer (some ⟨w.heap.size, 0, none⟩), .pointer (some ⟨w.heap.size + 2, 0, none⟩)]) ∧
    w' = ((w.alloc (.cells #[.string s] 9)).alloc (.cells #[.string t] 9)).alloc (.cells #[.int .i64 z] 3) := by
  go_enter Tryz.func49, Tryz.ntmps49
  go_wp2_with fail
  go_ret
  exact ⟨rfl, rfl⟩
/-- What a text that is split hands on, its boxes laid. -/
structure SplB (w : World) (b : Nat) (l : List UInt8) : Prop where
  s : w.heap[b]? = some (.cells #[.string (sB l)] 9 (0, 0))
  t : w.heap[b + 1]? = some (.cells #[.string ⟨#[32]⟩] 9 (0, 0))
  z : w.heap[b + 2]? = some (.cells #[.int .i64 0] 3 (0, 0))
theorem split_new (w : World) (l : List UInt8) : Calls Tryz.prog 22 #[.string (sB l), .string ⟨#[32]⟩] w fun e w' => ∃ b, e = .returned (.func (.func 80) #[] #[.pointer (some ⟨b + 1, 0, none⟩), .pointer (some ⟨b, 0, none⟩), .pointer (some ⟨b + 2, 0, none⟩)]) ∧
    Aside0 (SplB w' b l ∧ w.heap.size ≤ b ∧ b + 2 < w'.heap.size ∧ Below w.heap.size w w') := by
  go_enter Tryz.func22, Tryz.ntmps22
  go_wp2_with fail
  refine (split49 w (sB l) ⟨#[32]⟩ 0).mono ?_
  rintro _ w' ⟨rfl, rfl⟩
  go_wp2_with fail
  go_ret
  refine ⟨w.heap.size, rfl, ⟨⟨?_, ?_, ?_⟩, Nat.le_refl _, by simp, below_alloc (below_alloc (below_alloc (Below.refl _ _) _) _) _⟩⟩
  all_goals
    simp only [al_get, al_size]
    repeat (first | rw [if_pos trivial] | rw [if_neg (by omega)])
theorem ix_no : ∀ (l : List UInt8) (c : UInt8), Lib.indexByte l c < 0 → c ∉ l
  | [], c, _ => List.not_mem_nil
  | b :: l, c, h => by
    have hg := Lib.indexByte_ge l c
    unfold Lib.indexByte at h
    split at h
    · omega
    · rename_i hb
      split at h
      · rename_i h1
        intro hm
        rcases List.mem_cons.1 hm with hm | hm
        · exact hb (by rw [hm]; exact beq_self_eq_true b)
        · exact ix_no l c (by rw [beq_iff_eq] at h1; omega) hm
      · rename_i h1
        rw [beq_iff_eq] at h1
        omega
theorem ix_yes : ∀ (l : List UInt8) (c : UInt8) (i : Nat), Lib.indexByte l c = (i : Int) → i < l.length ∧ l = l.take i ++ c :: l.drop (i + 1) ∧ c ∉ l.take i
  | [], c, i, h => by
    simp only [Lib.indexByte] at h
    omega
  | b :: l, c, i, h => by
    have hg := Lib.indexByte_ge l c
    unfold Lib.indexByte at h
    split at h
    · rename_i hb
      obtain rfl : i = 0 := by omega
      rw [beq_iff_eq] at hb
      subst hb
      exact ⟨by simp, by simp, by simp⟩
    · rename_i hb
      split at h
      · omega
      · rename_i h1
        obtain ⟨j, rfl⟩ : ∃ j, i = j + 1 := ⟨i - 1, by rw [beq_iff_eq] at h1; omega⟩
        obtain ⟨e1, e2, e3⟩ := ix_yes l c j (by omega)
        refine ⟨by rw [List.length_cons]; omega, ?_, ?_⟩
        · show b :: l = b :: (l.take j) ++ c :: l.drop (j + 1)
          rw [List.cons_append, ← e2]
        · intro hm
          rw [List.take_succ_cons] at hm
          rcases List.mem_cons.1 hm with hm | hm
          · exact hb (by rw [hm]; exact beq_self_eq_true b)
          · exact e3 hm
def remB (w : World) (b : Nat) : Nat := match w.cell? ⟨b, 0, none⟩ with
  | some (.string s) => s.size + 1
  | _ => 0
theorem remB_of {w : World} {b : Nat} {l : List UInt8} (h : w.heap[b]? = some (.cells #[.string (sB l)] 9 (0, 0))) : remB w b = l.length + 1 := by
  unfold remB
  rw [blk_cell h]
  show (sB l).size + 1 = _
  rw [sB_size]
set_option maxHeartbeats 1000000 in
theorem split_gives (n : Nat) (w : World) (b : Nat) (l : List UInt8) (hl : l.length ≤ 281474976710656) (hB : SplB w b l) :
    GivesO Fence.wide n Tryz.prog 80 #[.pointer (some ⟨b + 1, 0, none⟩), .pointer (some ⟨b, 0, none⟩), .pointer (some ⟨b + 2, 0, none⟩)] (fun x : List UInt8 => .string (sB x)) (fun k => b ≤ k ∧ k ≤ b + 2) (fun pre x => ∃ t, spl l = pre ++ x :: t) (fun xs => xs = spl l) (fun pre => ∃ t, spl l = pre ++ t) (spl l).length w := by
  intro y J Jx W hb hJ hJx hY h0
  have S0 := Aside0.mk (blk_below hB.s hb)
  have T0 := Aside0.mk (blk_below hB.t hb)
  have Z0 := Aside0.mk (blk_below hB.z hb)
  have BW : Aside0 (b + 2 < W.heap.size) := ⟨(Array.getElem?_eq_some_iff.1 Z0.out).1⟩
  have HJ := Aside0.mk hJ
  have HX := Aside0.mk hJx
  have HY := Aside0.mk hY
  have H0 := Aside0.mk h0
  clear hB hb hJ hJx hY h0
  have f78 : Fence.wide.fn 78 := trivial
  have f3 : Fence.wide.depth.isSome = true → 1 ≤ n := fun h => by cases h
  refine callsIn_of_wp Tryz.func80 rfl trivial ?_ rfl
  simp only [Tryz.ntmps80, List.size_toArray, List.length_cons, List.length_nil, Nat.reduceAdd, Nat.reduceSub, Array.replicate_succ, Array.replicate_zero, List.push_toArray, List.append_toArray, List.nil_append, List.cons_append]
  have t0 : W.cell? ⟨b + 1, 0, none⟩ = some (.string ⟨#[32]⟩) := (blk_cell T0.out 0).trans rfl
  gi_wp2
  clear t0
  gi_loopw [7] (fun v7 wr => ∃ (pre : List (List UInt8)) (r : List UInt8), Aside0 (spl l = pre ++ spl r) ∧ Aside0 (r.length ≤ 281474976710656) ∧ Aside0 (wr.heap[b]? = some (.cells #[.string (sB r)] 9 (0, 0))) ∧ Aside0 (wr.heap[b + 1]? = some (.cells #[.string ⟨#[32]⟩] 9 (0, 0))) ∧ Aside0 (wr.heap[b + 2]? = some (.cells #[.int .i64 0] 3 (0, 0))) ∧ Aside0 (J pre wr)) (fun _ wr => remB wr b)
  case atStart => exact ⟨[], l, ⟨rfl⟩, ⟨hl⟩, S0, T0, Z0, H0⟩
  case round =>
    obtain ⟨pre, r, EQ, RL, S1, T1, Z1, J1⟩ := hrel
    have c0 : wr.cell? ⟨b, 0, none⟩ = some (.string (sB r)) := (blk_cell S1.out 0).trans rfl
    have c1 : wr.cell? ⟨b + 1, 0, none⟩ = some (.string ⟨#[32]⟩) := (blk_cell T1.out 0).trans rfl
    have c2 : wr.cell? ⟨b + 2, 0, none⟩ = some (.int .i64 0) := (blk_cell Z1.out 0).trans rfl
    have z0 : wr.frozen? ⟨b, 0, none⟩ = false := blk_frozen S1.out 0
    have IX := Aside0.mk (Tryz.strings_Index_one (sB r) 32 wr)
    clear S0 T0 Z0 H0
    gi_wp2
    refine ⟨f3, ?_⟩
    refine (callsIn_wide.2 IX.out).mono ?_
    rintro e W2 ⟨rfl, h2⟩
    obtain rfl := h2.symm
    clear IX h2
    rw [sB_list]
    obtain ⟨i, hi⟩ : ∃ i, i = Lib.indexByte r 32 := ⟨_, rfl⟩
    rw [← hi]
    by_cases hneg : i < 0
    · have HN : Aside0 (spl r = [r]) := ⟨spl_word r (ix_no r 32 (by rw [← hi]; exact hneg))⟩
      obtain ⟨fn, tmps, assign, body, hy, hR⟩ := HY.out pre r wr J1.out ⟨[], by rw [EQ.out, HN.out]⟩ (by rw [EQ.out, HN.out]; simp)
      have HR := Aside0.mk hR
      clear hR hi
      gi_wp2
      refine ⟨f3, ?_⟩
      refine (roundIn_free rfl HR.out).mono ?_
      rintro e W4 (⟨rfl, j4, c4⟩ | ⟨rfl, j4⟩)
      · have J4 := Aside0.mk j4
        clear j4 c4 HR hy c0 c1 c2 z0
        gi_wp2
        go_end0
        exact ⟨⟨_, rfl⟩, .inl ⟨pre ++ [r], by rw [EQ.out, HN.out], J4.out⟩⟩
      · have J4 := Aside0.mk j4
        clear j4 HR hy c0 c1 c2 z0
        gi_wp2
        go_end0
        exact ⟨⟨_, rfl⟩, .inr ⟨pre ++ [r], ⟨[], by rw [EQ.out, HN.out, List.append_nil]⟩, J4.out⟩⟩
    · obtain ⟨k, rfl⟩ : ∃ k : Nat, i = (k : Int) := ⟨i.toNat, by omega⟩
      obtain ⟨k1, k2, k3⟩ := ix_yes r 32 k hi.symm
      have HN : Aside0 (spl r = r.take k :: spl (r.drop (k + 1))) := ⟨by
        conv => lhs; rw [k2]
        exact spl_step _ _ k3⟩
      obtain ⟨fn, tmps, assign, body, hy, hR⟩ := HY.out pre (r.take k) wr J1.out ⟨spl (r.drop (k + 1)), by rw [EQ.out, HN.out]⟩ (by rw [EQ.out, HN.out]; simp)
      have HR := Aside0.mk hR
      have hsz := sB_size r
      have w1 : wrap64 (k : Int) = (k : Int) := by have := RL.out; unfold wrap64; omega
      have g1 : (k : Int) ≤ (r.length : Int) := by omega
      have g2 : (0 : Int) ≤ (k : Int) := by omega
      clear hR hi k2 k3
      gi_upto_region 8 with fail
      rw [sB_take]
      gi_wp2
      refine ⟨f3, ?_⟩
      refine (roundIn_free rfl HR.out).mono ?_
      rintro e W4 (⟨rfl, j4, c4⟩ | ⟨rfl, j4⟩)
      · have J4 := Aside0.mk j4
        have nO : ∀ j, j ≤ 2 → ¬ ¬ (b ≤ b + j ∧ b + j ≤ b + 2) := fun j hj h => h ⟨by omega, by omega⟩
        have S4 := Aside0.mk (c4.blk S1.out (nO 0 (by omega)))
        have T4 := Aside0.mk (c4.blk T1.out (nO 1 (by omega)))
        have Z4 := Aside0.mk (c4.blk Z1.out (nO 2 (by omega)))
        clear j4 c4 HR hy c0 c1 c2 z0 nO w1 g1
        have c0 : W4.cell? ⟨b, 0, none⟩ = some (.string (sB r)) := (blk_cell S4.out 0).trans rfl
        have c1 : W4.cell? ⟨b + 1, 0, none⟩ = some (.string ⟨#[32]⟩) := (blk_cell T4.out 0).trans rfl
        have z0 : W4.frozen? ⟨b, 0, none⟩ = false := blk_frozen S4.out 0
        have w2 : wrap64 ((k : Int) + 1) = ((k + 1 : Nat) : Int) := by have := RL.out; unfold wrap64; omega
        have g3 : ((k + 1 : Nat) : Int) ≤ (r.length : Int) := by omega
        have g4 : (0 : Int) ≤ ((k + 1 : Nat) : Int) := by omega
        have nOb : b ≠ b + 1 ∧ b ≠ b + 2 := ⟨by omega, by omega⟩
        have NX : Aside0 ((∃ (pre' : List (List UInt8)) (r' : List UInt8), Aside0 (spl l = pre' ++ spl r') ∧ Aside0 (r'.length ≤ 281474976710656) ∧ Aside0 ((W4.setCell ⟨b, 0, none⟩ (.string (sB (r.drop (k + 1))))).heap[b]? = some (.cells #[.string (sB r')] 9 (0, 0))) ∧
            Aside0 ((W4.setCell ⟨b, 0, none⟩ (.string (sB (r.drop (k + 1))))).heap[b + 1]? = some (.cells #[.string ⟨#[32]⟩] 9 (0, 0))) ∧ Aside0 ((W4.setCell ⟨b, 0, none⟩ (.string (sB (r.drop (k + 1))))).heap[b + 2]? = some (.cells #[.int .i64 0] 3 (0, 0))) ∧
            Aside0 (J pre' (W4.setCell ⟨b, 0, none⟩ (.string (sB (r.drop (k + 1))))))) ∧ remB (W4.setCell ⟨b, 0, none⟩ (.string (sB (r.drop (k + 1))))) b < remB wr b) := ⟨by
          have q := blk_put S4.out 0 (.string (sB (r.drop (k + 1)))) rfl
          have q' : (W4.setCell ⟨b, 0, none⟩ (.string (sB (r.drop (k + 1))))).heap[b]? = some (.cells #[.string (sB (r.drop (k + 1)))] 9 (0, 0)) := q
          refine ⟨⟨pre ++ [r.take k], r.drop (k + 1), ⟨by rw [EQ.out, HN.out]; simp⟩, ⟨by have := RL.out; rw [List.length_drop]; omega⟩, ⟨q'⟩, ⟨(Below.heap_setCell _ _ _ _ nOb.1.symm).trans T4.out⟩, ⟨(Below.heap_setCell _ _ _ _ nOb.2.symm).trans Z4.out⟩, ⟨?_⟩⟩, ?_⟩
          · exact HJ.out _ _ _ J4.out ((Chg.refl _ W4).setCell (.inl ⟨Nat.le_refl b, Nat.le_add_right b 2⟩) _)
          · rw [remB_of q', remB_of S1.out, List.length_drop]
            omega⟩
        clear J4 S4 T4 Z4 nOb EQ HN
        gi_wp2
        rw [sB_drop]
        exact NX.out
      · have J4 := Aside0.mk j4
        clear j4 HR hy c0 c1 c2 z0
        gi_wp2
        refine bodyPost_ret (v := .tuple #[]) (by simp [results, Tryz.results80, go_sem]) rfl ?_
        exact ⟨⟨_, rfl⟩, .inr ⟨pre ++ [r.take k], ⟨spl (r.drop (k + 1)), by rw [EQ.out, HN.out]; simp⟩, J4.out⟩⟩
end Go.Proofs.YtofomlpdklhigaaGreatDoor.Hand
