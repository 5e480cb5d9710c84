/- A log in memory, and what its calls do: New, Len, open, Put. -/
import Derived.Test.YtebbikihhkjaaaaSeg
import Derived.Test.YtebbikihhkjaaaaEnc
import Derived.Laws.MakeOwn
import Derived.Deep.OwnRows
namespace Go.Proofs.Ytebbikihhkjaaaa.Hand
open Go.RowKit Go.Proofs.YtebbikihhkjaaaaW.PrintWords Go.Proofs.YtebbikihhkjaaaaW.PrintMore

/-- A segment: its block, its buffer's block and room, its bytes, how many notes. -/
structure Sg where
  g : Nat
  b : Nat
  cap : Nat
  bs : List Int
  n : Nat

structure SgAt (fr : Bool) (w : World) (s : Sg) : Prop where
  blk : SegBlk w s.g (some ⟨s.g, 0, none⟩) (.slice (some ⟨s.b, 0, none⟩) s.bs.length s.cap) s.n
  buf : ∃ cur mk, w.heap[s.b]? = some (.cells cur 5 mk) ∧ (fr = false → mk = (0, 0)) ∧ s.bs.length ≤ s.cap ∧ s.cap ≤ maxLen ∧ cur.size = s.cap ∧ cur.toList.take s.bs.length = nums .u8 s.bs
  ne : s.bs ≠ []
  byt : Byt s.bs
  sm : s.bs.length ≤ 8222

theorem SgAt.own {w : World} {s : Sg} (h : SgAt false w s) : w.ownsRow 0 5 1 (.slice (some ⟨s.b, 0, none⟩) s.bs.length s.cap) s.bs.length (nums .u8 s.bs) := by
  obtain ⟨cur, mk, h1, h2, h3, h4, h5, h6⟩ := h.buf
  rw [h2 rfl] at h1
  exact ⟨by simp [nums], .inr ⟨s.b, s.cap, cur, rfl, Nat.zero_le _, h1, h3, h4, by rw [h5, Nat.mul_one], by rw [Nat.mul_one]; exact h6⟩⟩
theorem SgAt.of_own {w : World} {g n : Nat} {v : Value} {bs : List Int} (hb : SegBlk w g (some ⟨g, 0, none⟩) v n) (ho : w.ownsRow 0 5 1 v bs.length (nums .u8 bs)) (hne : bs ≠ []) (hby : Byt bs) (hsm : bs.length ≤ 8222) :
    ∃ b cap, v = .slice (some ⟨b, 0, none⟩) bs.length cap ∧ SgAt false w ⟨g, b, cap, bs, n⟩ := by
  rcases ho.2 with ⟨_, h0⟩ | ⟨b, cap, cur, rfl, _, h1, h2, h3, h4, h5⟩
  · exact absurd (List.eq_nil_of_length_eq_zero h0) hne
  · exact ⟨b, cap, rfl, hb, ⟨cur, (0, 0), h1, fun _ => rfl, h2, h3, by simpa using h4, by simpa using h5⟩, hne, hby, hsm⟩
theorem SgAt.step {fr : Bool} {w w1 : World} {s : Sg} (h : SgAt fr w s) (hg : w1.heap[s.g]? = w.heap[s.g]?) (hb : w1.heap[s.b]? = w.heap[s.b]?) : SgAt fr w1 s := by
  refine ⟨by unfold SegBlk; rw [hg]; exact h.blk, ?_, h.ne, h.byt, h.sm⟩
  rw [hb]
  exact h.buf
theorem SgAt.loose {fr : Bool} {w : World} {s : Sg} (h : SgAt fr w s) : SgAt true w s := by
  obtain ⟨cur, mk, h1, h2, r⟩ := h.buf
  exact ⟨h.blk, ⟨cur, mk, h1, fun e => (by cases e), r⟩, h.ne, h.byt, h.sm⟩
theorem SgAt.glt {fr : Bool} {w : World} {s : Sg} (h : SgAt fr w s) : s.g < w.heap.size := h.blk.lt
theorem SgAt.blt {fr : Bool} {w : World} {s : Sg} (h : SgAt fr w s) : s.b < w.heap.size := by
  obtain ⟨cur, mk, h1, _⟩ := h.buf
  exact (Array.getElem?_eq_some_iff.1 h1).1

def ptr (g : Nat) : Value := .pointer (some ⟨g, 0, none⟩)
def ptrs (ss : List Sg) : List Value := ss.map fun s => ptr s.g
def tot (ss : List Sg) : Nat := (ss.map Sg.n).sum

def Row88 (w : World) (l : Nat) (v : Value) (t : Int) : Prop := w.heap[l]? = some (.cells #[v, .int .i64 t] 88 (0, 0))
theorem Row88.c0 {w : World} {l : Nat} {v : Value} {t : Int} (h : Row88 w l v t) : w.cell? ⟨l, 0, none⟩ = some v := by simp only [Row88] at h; simp [World.cell?, h]
theorem Row88.c1 {w : World} {l : Nat} {v : Value} {t : Int} (h : Row88 w l v t) : w.cell? ⟨l, 1, none⟩ = some (.int .i64 t) := by simp only [Row88] at h; simp [World.cell?, h]
theorem Row88.fz {w : World} {l : Nat} {v : Value} {t : Int} (h : Row88 w l v t) (j : Nat) : w.frozen? ⟨l, j, none⟩ = false := by simp only [Row88] at h; simp [World.frozen?, h]
theorem Row88.lt {w : World} {l : Nat} {v : Value} {t : Int} (h : Row88 w l v t) : l < w.heap.size := (Array.getElem?_eq_some_iff.1 h).1
theorem Row88.set0 {w : World} {l : Nat} {v : Value} {t : Int} (h : Row88 w l v t) (u : Value) : Row88 (w.setCell ⟨l, 0, none⟩ u) l u t := by
  simp only [Row88] at h ⊢; simp [World.setCell, Array.getElem?_modify, h]
theorem Row88.set1 {w : World} {l : Nat} {v : Value} {t : Int} (h : Row88 w l v t) (m : Int) : Row88 (w.setCell ⟨l, 1, none⟩ (.int .i64 m)) l v m := by
  simp only [Row88] at h ⊢; simp [World.setCell, Array.getElem?_modify, h]

structure LogAt (fr : Bool) (ok : Nat → Prop) (w : World) (l : Nat) (v : Value) (ss : List Sg) : Prop where
  blk : Row88 w l v (tot ss)
  okl : ok l
  row : w.ownsRow 0 89 1 v ss.length (ptrs ss)
  okv : ∀ k, v.ownBlock = some k → ok k
  segs : ∀ s ∈ ss, SgAt fr w s ∧ ok s.g ∧ ok s.b
  apart : ss.Pairwise (fun s t => s.g ≠ t.g ∧ s.b ≠ t.b)

namespace LogAt
variable {fr : Bool} {ok ok1 : Nat → Prop} {w w1 : World} {l : Nat} {v : Value} {ss : List Sg}
theorem mono (h : LogAt fr ok w l v ss) (hok : ∀ k, k < w.heap.size → ok k → ok1 k) : LogAt fr ok1 w l v ss :=
  ⟨h.blk, hok _ h.blk.lt h.okl, h.row, fun k hk => hok k (own_lt h.row k hk) (h.okv k hk), fun s hs => ⟨(h.segs s hs).1, hok _ (h.segs s hs).1.glt (h.segs s hs).2.1, hok _ (h.segs s hs).1.blt (h.segs s hs).2.2⟩, h.apart⟩
theorem step (h : LogAt fr ok w l v ss) (hm : ∀ k, k < w.heap.size → ok k → w1.heap[k]? = w.heap[k]?) : LogAt fr ok w1 l v ss :=
  ⟨by unfold Row88; rw [hm _ h.blk.lt h.okl]; exact h.blk, h.okl, own_move h.row (fun k hk => hm k (own_lt h.row k hk) (h.okv k hk)), h.okv,
   fun s hs => ⟨(h.segs s hs).1.step (hm _ (h.segs s hs).1.glt (h.segs s hs).2.1) (hm _ (h.segs s hs).1.blt (h.segs s hs).2.2), (h.segs s hs).2⟩, h.apart⟩
theorem chg {S : Nat → Prop} (h : LogAt fr ok w l v ss) (hc : Chg S w w1) (hn : ∀ k, k < w.heap.size → ok k → ¬ S k) : LogAt fr ok w1 l v ss := h.step (fun k hk ho => hc.block k hk (hn k hk ho))
theorem below (h : LogAt fr ok w l v ss) (hb : Below w.heap.size w w1) : LogAt fr ok w1 l v ss := h.step (fun k hk _ => hb.block k hk)
theorem loose (h : LogAt fr ok w l v ss) : LogAt true ok w l v ss := ⟨h.blk, h.okl, h.row, h.okv, fun s hs => ⟨(h.segs s hs).1.loose, (h.segs s hs).2⟩, h.apart⟩
theorem bound (h : LogAt fr ok w l v ss) : LogAt fr (fun k => ok k ∧ k < w.heap.size) w l v ss := h.mono (fun _ hk ho => ⟨ho, hk⟩)
end LogAt

set_option maxHeartbeats 400000 in
theorem new_any (w : World) : Calls Try.prog 16 #[] w fun e w' => ∃ l, e = .returned (ptr l) ∧ LogAt false (fun k => w.heap.size ≤ k) w' l (.slice none 0 0) [] ∧ Below w.heap.size w w' := by
  have hu := Try.underlying88
  go_enter Try.func16, Try.ntmps16
  go_wp2
  go_ret
  refine ⟨w.heap.size, rfl, ⟨?_, Nat.le_refl _, own_nil _ _ _ _, fun k hk => by simp [Value.ownBlock] at hk, fun s hs => (by cases hs), List.Pairwise.nil⟩, below_alloc (Below.refl _ _) _⟩
  exact heap_alloc_new w _

set_option maxHeartbeats 400000 in
theorem len_nil (w : World) : Calls Try.prog 24 #[.pointer none] w fun e w' => e = .returned (.int .i64 0) ∧ w = w' := by
  go_enter Try.func24, Try.ntmps24
  go_wp2
  go_ret
  exact ⟨rfl, rfl⟩
set_option maxHeartbeats 400000 in
theorem len_any {fr : Bool} {ok : Nat → Prop} (w : World) (l : Nat) (v : Value) (ss : List Sg) (h : LogAt fr ok w l v ss) : Calls Try.prog 24 #[ptr l] w fun e w' => e = .returned (.int .i64 (tot ss)) ∧ w = w' := by
  have f1 := h.blk.c1
  clear h
  unfold ptr
  go_enter Try.func24, Try.ntmps24
  go_wp2
  go_ret
  exact ⟨rfl, rfl⟩

theorem row_cell {w : World} {v : Value} {ss : List Sg} (h : w.ownsRow 0 89 1 v ss.length (ptrs ss)) (i : Nat) (s : Sg) (hi : ss[i]? = some s) : ∃ r cap, v = .slice (some ⟨r, 0, none⟩) ss.length cap ∧ w.cell? ⟨r, i, none⟩ = some (ptr s.g) ∧ ss.length ≤ cap := by
  have hlt : i < ss.length := (List.getElem?_eq_some_iff.1 hi).1
  rcases h.2 with ⟨_, h0⟩ | ⟨r, cap, cur, rfl, _, h1, h2, h3, h4, h5⟩
  · omega
  · refine ⟨r, cap, rfl, ?_, h2⟩
    have h6 := h.cells (g := r) rfl i (ptr s.g) (by simp [ptrs, hi])
    rwa [add_plain] at h6

set_option maxHeartbeats 400000 in
/-- open, where the last segment has room. -/
theorem open_last {fr : Bool} {ok : Nat → Prop} (w : World) (l : Nat) (v : Value) (ss : List Sg) (s : Sg) (n : Nat) (h : LogAt fr ok w l v (ss ++ [s])) (hn : s.bs.length + n ≤ 4096) (hl : ss.length ≤ 1000000) :
    Calls Try.prog 38 #[ptr l, .int .i64 (n : Int)] w fun e w' => e = .returned (ptr s.g) ∧ w = w' := by
  obtain ⟨r, cap, rfl, hc, hcap⟩ := row_cell h.row ss.length s (by simp)
  have f0 := h.blk.c0
  have f1 := (h.segs s (by simp)).1.blk
  have F1 := Aside0.mk f1
  have F0 := Aside0.mk f0
  have FC := Aside0.mk hc
  have HC := Aside0.mk hcap
  clear h f1 f0 hc hcap
  obtain ⟨k, hk⟩ : ∃ k, k = ss.length := ⟨_, rfl⟩
  have e : (ss ++ [s]).length = k + 1 := by rw [hk]; simp
  rw [e] at F0 HC
  rw [← hk] at FC hl
  clear hk e
  have f0 := F0.out
  have fc := FC.out
  unfold ptr
  unfold ptr at fc
  go_enter Try.func38, Try.ntmps38
  go_wp2_with fail
  refine (bLen_any s.g s.bs.length s.cap _ _ _ _ F1.out (by omega)).mono ?_
  rintro e w' ⟨rfl, rfl⟩
  have g1 : decide ((s.bs.length : Int) + (n : Int) ≤ 4096) = true := decide_eq_true (by omega)
  have fc := FC.out
  unfold ptr at fc
  go_wp2
  go_ret
  exact ⟨rfl, rfl⟩

theorem info99 : (Try.prog.info? 99).map (fun i => (i.zero, i.size, i.bytes)) = some (some (.agg #[.pointer none, .slice none 0 0, .int .i64 0]), 3, 40) := by kernel_rfl

/-- A row's block is of its type. -/
theorem row_ne {w : World} {base e size n g t : Nat} {v : Value} {xs : List Value} {cs : Array Value} {m : Nat × Nat} (h : w.ownsRow base e size v n xs) (hb : w.heap[g]? = some (.cells cs t m)) (ht : e ≠ t) : ¬ some g = v.ownBlock := by
  intro e1
  obtain ⟨cells, hc⟩ := own_typed h g e1.symm
  rw [hc] at hb
  injection hb with hb
  injection hb with _ hb _
  exact ht hb

/-- What open leaves where it makes a segment. -/
def Opened (w : World) (l : Nat) (v : Value) (ss : List Sg) (e : Ending) (w' : World) : Prop :=
  ∃ (g : Nat) (v' : Value), e = .returned (ptr g) ∧ w.heap.size ≤ g ∧ SegBlk w' g none (.slice none 0 0) 0 ∧ Row88 w' l v' (tot ss) ∧ w'.ownsRow 0 89 1 v' (ss.length + 1) (ptrs ss ++ [ptr g]) ∧
    (∀ k, v'.ownBlock = some k → v.ownBlock = some k ∨ w.heap.size ≤ k) ∧ Chg (fun k => k = l ∨ some k = v.ownBlock) w w'

theorem append_ptr {ops : Array Oper} {rest : List Oper} {o : Oper} {a : Act} {Q : Exit → Act → World → Prop} (W : World) (hgd : o.guard = none) (s x : Operand)
    (ho : o.op = .call { callee := .builtin .append, args := #[s, x], argTypes := #[86, 86] })
    (v : Value) (n : Nat) (xs : List Value) (g : Nat) (hs : a.eval s = v) (hown : W.ownsRow 0 89 1 v n xs) (q : Nat) (hx : a.eval x = .slice (some ⟨q, 0, none⟩) 1 1) (hq : W.heap.size = q) (hn : n ≤ 1000000)
    (h : ∀ v' w', w'.ownsRow 0 89 1 v' (n + 1) (xs ++ [ptr g]) → Chg (fun k => some k = v.ownBlock) W w' → (v'.ownBlock = v.ownBlock ∨ ∃ b, v'.ownBlock = some b ∧ W.heap.size ≤ b) → wpList Try.prog ops Q rest (a.put o.dst v') w') :
    wpList Try.prog ops Q (o :: rest) a (W.alloc (.cells #[ptr g] 89)) := by
  subst hq
  obtain ⟨i, hi, hzz⟩ := Option.map_eq_some_iff.1 info89
  simp only [Prod.mk.injEq] at hzz
  obtain ⟨hz, hsize, hby⟩ := hzz
  refine wpList_append_own_at _ hgd s x 86 ho 0 89 i (.pointer none) 1 8 Try.underlying86 hi hz hsize hby rfl (by decide) v n xs hs (hown.alloc _) ⟨W.heap.size, 0, none⟩ 1 1 [ptr g] hx rfl (cell_one_new _ _ _) (by intro u hu; simp at hu; subst hu; rfl) (by unfold maxLen; omega) (by omega) (Nat.zero_le _) ?_
  intro v' w' ho' hg' _ hat'
  refine h v' w' ho' ?_ ?_
  · exact ((Chg.refl _ W).alloc _).then_ (Chg.of_grown hg') (fun k _ h => h)
  · rcases hat' with h | h
    · exact .inl h
    · exact .inr ⟨_, h, by simp⟩

set_option maxHeartbeats 400000 in
set_option maxRecDepth 100000 in
theorem open_new0 {fr : Bool} {ok : Nat → Prop} (w : World) (l : Nat) (v : Value) (n : Nat) (h : LogAt fr ok w l v []) (_hn : n ≤ 1000000) :
    Calls Try.prog 38 #[ptr l, .int .i64 (n : Int)] w (Opened w l v []) := by
  have R0 := Aside0.mk h.row
  have B0 := Aside0.mk h.blk
  clear h
  obtain ⟨A, c, rfl, _⟩ := own_slice R0.out
  have f0 : w.cell? ⟨l, 0, none⟩ = some (.slice A 0 c) := B0.out.c0
  unfold ptr
  have hu := Try.underlying99
  have hne := Aside0.mk (row_ne R0.out B0.out (by decide))
  have F0 := Aside0.mk f0
  go_enter Try.func38, Try.ntmps38
  have fa : ∀ o, (w.alloc o).cell? ⟨l, 0, none⟩ = some (.slice A 0 c) := fun o => pw_cell_below (below_alloc (Below.refl _ _) o) F0.out
  go_wp2_with (at_builtin; refine append_ptr (g := w.heap.size) _ rfl _ _ rfl (.slice A 0 c) 0 [] rfl (R0.out.alloc _) _ rfl (by simp) (by omega) ?_; intro v7 w7 ho7 hc7 hat7; obtain ⟨A7, c7, rfl, _⟩ := own_slice ho7; have O7 := Aside0.mk ho7; have C7 := Aside0.mk hc7; have T7 := Aside0.mk hat7; have B7 : Aside0 (Row88 w7 l (.slice A 0 c) 0) := ⟨(((Chg.refl _ w).alloc _).trans hc7).blk B0.out hne.out⟩; clear ho7 hc7 hat7 f0 fa; have f0 := B7.out.c0; have f1 := B7.out.fz 0)
  clear f0 f1
  go_ret
  have hw : Chg (fun k => some k = (.slice A 0 c : Value).ownBlock) w w7 := ((Chg.refl _ w).alloc _).trans C7.out
  refine ⟨w.heap.size, _, rfl, Nat.le_refl _, ?_, B7.out.set0 _, ?_, ?_, ?_⟩
  · have h1 : SegBlk (w.alloc (.cells #[.pointer none, .slice none 0 0, .int .i64 0] 99)) w.heap.size none (.slice none 0 0) 0 := heap_alloc_new w _
    have h2 := C7.out.blk h1 (fun e => by
      have := own_lt R0.out _ e.symm
      omega)
    unfold SegBlk
    rw [Below.heap_setCell _ _ _ _ (by have := B0.out.lt; simp; omega)]
    exact h2
  · refine Chg.own (S := fun k => k = l) (Chg.setCell (S := fun k => k = l) (Chg.refl _ _) (p := ⟨l, 0, none⟩) (.inl rfl) _) O7.out (fun k hk (e : k = l) => ?_)
    subst e
    exact row_ne O7.out B7.out (by decide) hk.symm
  · intro k hk
    rcases T7.out with h | ⟨b, h1, h2⟩
    · left; rw [← h]; exact hk
    · right; rw [hk] at h1; injection h1 with h1; simp at h2; omega
  · exact Chg.setCell (hw.mono (fun _ _ h => .inr h)) (p := ⟨l, 0, none⟩) (.inl (.inl rfl)) _

set_option maxHeartbeats 400000 in
set_option maxRecDepth 100000 in
theorem open_new1 {fr : Bool} {ok : Nat → Prop} (w : World) (l : Nat) (v : Value) (ss : List Sg) (s : Sg) (n : Nat) (h : LogAt fr ok w l v (ss ++ [s])) (hn : 4096 < s.bs.length + n) (hn2 : n ≤ 1000000) (hl : ss.length < 1000000) :
    Calls Try.prog 38 #[ptr l, .int .i64 (n : Int)] w (Opened w l v (ss ++ [s])) := by
  have R0 := Aside0.mk h.row
  have B0 := Aside0.mk h.blk
  obtain ⟨r, cap, rfl, hc, hcap⟩ := row_cell h.row ss.length s (by simp)
  have hb := (h.segs s (by simp)).1
  have f1 := hb.blk
  have HLEN := hb.sm
  have F1 := Aside0.mk f1
  have F0 := Aside0.mk B0.out.c0
  have FC := Aside0.mk hc
  have HC := Aside0.mk hcap
  clear h f1 hc hcap hb
  unfold Opened
  obtain ⟨k, hk⟩ : ∃ k, k = ss.length := ⟨_, rfl⟩
  have e : (ss ++ [s]).length = k + 1 := by rw [hk]; simp
  rw [e] at F0 HC R0 ⊢
  rw [← hk] at FC hl
  generalize ptrs (ss ++ [s]) = PS at *
  generalize ((tot (ss ++ [s]) : Nat) : Int) = T at *
  rw [e] at B0
  clear hk e
  have f0 := F0.out
  have fc := FC.out
  unfold ptr at fc
  have hne := Aside0.mk (row_ne R0.out B0.out (by decide))
  have hu := Try.underlying99
  have ep : ptr l = .pointer (some ⟨l, 0, none⟩) := rfl
  rw [ep]
  clear ep
  go_enter Try.func38, Try.ntmps38
  go_wp2_with fail
  refine (bLen_any s.g s.bs.length s.cap _ _ _ _ F1.out (by omega)).mono ?_
  rintro e w' ⟨rfl, rfl⟩
  have g1 : decide ((s.bs.length : Int) + (n : Int) ≤ 4096) = false := decide_eq_false (by omega)
  have fa : ∀ o, (w.alloc o).cell? ⟨l, 0, none⟩ = some (.slice (some ⟨r, 0, none⟩) (k + 1) cap) := fun o => pw_cell_below (below_alloc (Below.refl _ _) o) F0.out
  clear fc
  go_wp2_with (at_builtin; refine append_ptr (g := w.heap.size) _ rfl _ _ rfl (.slice (some ⟨r, 0, none⟩) (k + 1) cap) (k + 1) PS rfl (R0.out.alloc _) _ rfl (by simp) (by omega) ?_; intro v7 w7 ho7 hc7 hat7; obtain ⟨A7, c7, rfl, _⟩ := own_slice ho7; have O7 := Aside0.mk ho7; have C7 := Aside0.mk hc7; have T7 := Aside0.mk hat7; have B7 : Aside0 (Row88 w7 l (.slice (some ⟨r, 0, none⟩) (k + 1) cap) T) := ⟨(((Chg.refl _ w).alloc _).trans hc7).blk B0.out hne.out⟩; clear ho7 hc7 hat7 f0 fa; have f0 := B7.out.c0; have f1 := B7.out.fz 0)
  clear f0 f1
  go_ret
  have hw : Chg (fun i => some i = (.slice (some ⟨r, 0, none⟩) (k + 1) cap : Value).ownBlock) w w7 := ((Chg.refl _ w).alloc _).trans C7.out
  refine ⟨w.heap.size, _, rfl, Nat.le_refl _, ?_, B7.out.set0 _, ?_, ?_, ?_⟩
  · have h1 : SegBlk (w.alloc (.cells #[.pointer none, .slice none 0 0, .int .i64 0] 99)) w.heap.size none (.slice none 0 0) 0 := heap_alloc_new w _
    have h2 := C7.out.blk h1 (fun e => by
      have := own_lt R0.out _ e.symm
      omega)
    unfold SegBlk
    rw [Below.heap_setCell _ _ _ _ (by have := B0.out.lt; simp; omega)]
    exact h2
  · refine Chg.own (S := fun k => k = l) (Chg.setCell (S := fun k => k = l) (Chg.refl _ _) (p := ⟨l, 0, none⟩) (.inl rfl) _) O7.out (fun i hk (e : i = l) => ?_)
    subst e
    exact row_ne O7.out B7.out (by decide) hk.symm
  · intro i hk
    rcases T7.out with h | ⟨b, h1, h2⟩
    · left; rw [← h]; exact hk
    · right; rw [hk] at h1; injection h1 with h1; simp at h2; omega
  · exact Chg.setCell (hw.mono (fun _ _ h => .inr h)) (p := ⟨l, 0, none⟩) (.inl (.inl rfl)) _
end Go.Proofs.Ytebbikihhkjaaaa.Hand
