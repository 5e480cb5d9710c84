/- A segment's builder: copyCheck, WriteString, Len, String. -/
import Derived.Test.YtebbikihhkjaaaaProg
import Derived.WalkKit
import Derived.WalkSpells
import Derived.WalkLawsBesides
import Derived.Outline
import Derived.Lib.Builder
import Derived.Test.YtebbikihhkjaaaaMem
namespace Go.Proofs.Ytebbikihhkjaaaa.Hand
open Go.RowKit Go.Proofs.YtebbikihhkjaaaaW.PrintWords Go.Proofs.YtebbikihhkjaaaaW.PrintMore

theorem info5 : (Try.prog.info? 5).map (fun i => (i.zero, i.size, i.bytes)) = some (some (.int .u8 0), 1, 1) := by kernel_rfl
theorem info89 : (Try.prog.info? 89).map (fun i => (i.zero, i.size, i.bytes)) = some (some (.pointer none), 1, 8) := by kernel_rfl

/-- The block of a segment. -/
def SegBlk (w : World) (g : Nat) (a : Option Addr) (v : Value) (n : Int) : Prop := w.heap[g]? = some (.cells #[.pointer a, v, .int .i64 n] 99 (0, 0))
theorem SegBlk.c0 {w : World} {g : Nat} {a : Option Addr} {v : Value} {n : Int} (h : SegBlk w g a v n) : w.cell? ⟨g, 0, none⟩ = some (.pointer a) := by simp only [SegBlk] at h; simp [World.cell?, h]
theorem SegBlk.c1 {w : World} {g : Nat} {a : Option Addr} {v : Value} {n : Int} (h : SegBlk w g a v n) : w.cell? ⟨g, 1, none⟩ = some v := by simp only [SegBlk] at h; simp [World.cell?, h]
theorem SegBlk.c2 {w : World} {g : Nat} {a : Option Addr} {v : Value} {n : Int} (h : SegBlk w g a v n) : w.cell? ⟨g, 2, none⟩ = some (.int .i64 n) := by simp only [SegBlk] at h; simp [World.cell?, h]
theorem SegBlk.fz {w : World} {g : Nat} {a : Option Addr} {v : Value} {n : Int} (h : SegBlk w g a v n) (j : Nat) : w.frozen? ⟨g, j, none⟩ = false := by simp only [SegBlk] at h; simp [World.frozen?, h]
theorem SegBlk.lt {w : World} {g : Nat} {a : Option Addr} {v : Value} {n : Int} (h : SegBlk w g a v n) : g < w.heap.size := (Array.getElem?_eq_some_iff.1 h).1
theorem SegBlk.set0 {w : World} {g : Nat} {a : Option Addr} {v : Value} {n : Int} (h : SegBlk w g a v n) (b : Option Addr) : SegBlk (w.setCell ⟨g, 0, none⟩ (.pointer b)) g b v n := by
  simp only [SegBlk] at h ⊢; simp [World.setCell, Array.getElem?_modify, h]
theorem SegBlk.set1 {w : World} {g : Nat} {a : Option Addr} {v : Value} {n : Int} (h : SegBlk w g a v n) (u : Value) : SegBlk (w.setCell ⟨g, 1, none⟩ u) g a u n := by
  simp only [SegBlk] at h ⊢; simp [World.setCell, Array.getElem?_modify, h]
theorem SegBlk.set2 {w : World} {g : Nat} {a : Option Addr} {v : Value} {n : Int} (h : SegBlk w g a v n) (m : Int) : SegBlk (w.setCell ⟨g, 2, none⟩ (.int .i64 m)) g a v m := by
  simp only [SegBlk] at h ⊢; simp [World.setCell, Array.getElem?_modify, h]

theorem SegBlk.shape {w : World} {g : Nat} {a : Option Addr} {v : Value} {n : Int} (h : SegBlk w g a v n) : w.shape? g = some (99, 3) := by simp only [SegBlk] at h; simp [World.shape?, h]
theorem size97 : (Try.prog.info? 97).map (fun i => i.size) = some 2 := by kernel_rfl
theorem lies97 : liesAt Try.prog Try.prog.depth 99 (3 / Try.prog.cellsOf 99) 0 97 1 = true := by kernel_rfl

set_option maxHeartbeats 400000 in
set_option maxRecDepth 100000 in
theorem copyCheck_any (g : Nat) (a : Option Addr) (v : Value) (n : Int) (w : World) (h : SegBlk w g a v n) (ha : a = none ∨ a = some ⟨g, 0, none⟩) :
    Calls Try.prog 48 #[.pointer (some ⟨g, 0, none⟩)] w fun e w' => e = .returned (.tuple #[]) ∧ SegBlk w' g (some ⟨g, 0, none⟩) v n ∧ Chg (fun k => k = g) w w' ∧ w'.heap.size = w.heap.size := by
  have h0 := h.c0
  have h1 := h.fz 0
  have hsh := Aside0.mk h.shape
  have H := Aside0.mk h
  clear h
  obtain ⟨j, hj, hjs⟩ := Option.map_eq_some_iff.1 size97
  have HJ := Aside0.mk hj
  have HJS := Aside0.mk hjs
  clear hj hjs
  rcases ha with rfl | rfl
  · go_enter Try.func48, Try.ntmps48
    go_wp2
    rw [Lib.run_to_unsafe w ⟨g, 0, none⟩ Try.underlying95 Try.underlying108 HJ.out (by rw [HJS.out]; decide) hsh.out (Nat.zero_lt_succ 2)]
    simp only [Result.andThen]
    rw [Oper.upon_value]
    go_wp2
    rw [run_callFunc_extern Try.func51 (by kernel_rfl) (by kernel_rfl) (by kernel_rfl) (e := Extern.AbiNoEscape.same) (by kernel_rfl)]
    rw [Lib.run_noEscape]
    simp only [Result.andThen]
    rw [Oper.upon_value]
    go_wp2
    rw [Lib.run_from_unsafe w ⟨g, 0, none⟩ Try.underlying108 Try.underlying95 HJ.out hsh.out lies97]
    simp only [Result.andThen]
    rw [Oper.upon_value]
    go_wp2
    go_end0
    exact ⟨rfl, H.out.set0 _, Chg.setCell (S := fun k => k = g) (Chg.refl _ _) (p := ⟨g, 0, none⟩) (.inl rfl) _, by simp [World.setCell]⟩
  · go_enter Try.func48, Try.ntmps48
    go_wp2
    rw [Lib.run_neq_ptr_same _ _ Try.underlying95 HJ.out]
    go_wp2
    go_end0
    exact ⟨rfl, H.out, Chg.refl _ _, rfl⟩

set_option maxHeartbeats 400000 in
theorem bLen_any (g len c : Nat) (A a : Option Addr) (n : Int) (w : World) (h : SegBlk w g a (.slice A len c) n) (_hl : len ≤ 140737488355328) :
    Calls Try.prog 40 #[.pointer (some ⟨g, 0, none⟩)] w fun e w' => e = .returned (.int .i64 len) ∧ w = w' := by
  have h1 := h.c1
  clear h
  go_enter Try.func40, Try.ntmps40
  go_wp2
  go_ret
  exact ⟨rfl, rfl⟩

set_option maxHeartbeats 400000 in
set_option maxRecDepth 100000 in
theorem writeString_any (g len : Nat) (a : Option Addr) (v : Value) (n : Int) (xs : List Value) (s : ByteArray) (w : World) (h : SegBlk w g a v n) (ha : a = none ∨ a = some ⟨g, 0, none⟩)
    (ho : w.ownsRow 0 5 1 v len xs) (hs : len + s.size ≤ 140737488355328) (hne : v.ownBlock ≠ some g) :
    Calls Try.prog 39 #[.pointer (some ⟨g, 0, none⟩), .string s] w fun e w' => ∃ v' : Value, e = .returned (.tuple #[.int .i64 s.size, .nilIface]) ∧ SegBlk w' g (some ⟨g, 0, none⟩) v' n ∧
      w'.ownsRow 0 5 1 v' (len + s.size) (xs ++ Lib.strCells s) ∧ (v'.ownBlock = v.ownBlock ∨ v'.ownBlock = some w.heap.size) ∧ Chg (fun k => k = g ∨ some k = v.ownBlock) w w' := by
  have H := Aside0.mk h
  have HA := Aside0.mk ha
  have HO := Aside0.mk ho
  have HN := Aside0.mk hne
  clear h ha ho hne
  go_enter Try.func39, Try.ntmps39
  go_wp2_with fail
  refine (copyCheck_any g a v n _ H.out HA.out).mono ?_
  rintro e w1 ⟨rfl, h1, hc1, hz1⟩
  have H1 := Aside0.mk h1
  have C1 := Aside0.mk hc1
  have Z1 := Aside0.mk hz1
  clear h1 hc1 hz1
  have f0 := H1.out.c0
  have f1 := H1.out.c1
  have f2 := H1.out.fz 1
  go_wp2_with (at_builtin; refine append_string _ rfl _ _ 82 9 rfl 0 5 Try.underlying82 Try.underlying9 info5 v len xs rfl (C1.out.own HO.out (fun k hk (e : k = g) => HN.out (by rw [hk, e]))) s rfl hs (Nat.zero_le _) ?_; intro v' w2 ho2 hg2 hat2; obtain ⟨A', c', rfl, _⟩ := own_slice ho2; have O2 := Aside0.mk ho2; have G2 := Aside0.mk hg2; have A2 := Aside0.mk hat2; have S2 := Aside0.mk ((Chg.of_grown hg2).blk H1.out (fun e => HN.out e.symm)); clear ho2 hg2 hat2 f0 f1 f2; have f0 := SegBlk.c1 S2.out; have f1 := SegBlk.fz S2.out 1)
  clear f0 f1
  go_ret2
  have hgl := SegBlk.lt H.out
  have e1 : Chg (fun k => k = g ∨ some k = v.ownBlock) w w1 := C1.out.mono (fun _ _ h => .inl h)
  have e2 : Chg (fun k => k = g ∨ some k = v.ownBlock) w1 w2 := (Chg.of_grown G2.out).mono (fun _ _ h => .inr h)
  refine ⟨_, rfl, SegBlk.set1 (v := v) S2.out _, ?_, ?_, ?_⟩
  · refine Chg.own (S := fun k => k = g) (Chg.setCell (S := fun k => k = g) (Chg.refl _ _) (p := ⟨g, 1, none⟩) (.inl rfl) _) O2.out (fun k hk (e : k = g) => ?_)
    subst e
    rcases A2.out with h | h
    · exact HN.out (by rw [← h]; exact hk)
    · rw [hk] at h
      injection h with h
      have := Z1.out
      omega
  · rw [← Z1.out]; exact A2.out
  · exact Chg.setCell (e1.trans e2) (p := ⟨g, 1, none⟩) (.inl (.inl rfl)) _
end Go.Proofs.Ytebbikihhkjaaaa.Hand
