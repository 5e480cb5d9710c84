/- Texts Dc De Db Df, cut to what is used. -/
import Derived.Test.YtelabmhhnpfegaaXa0
import Derived.Test.YtelabmhhnpfegaaXa2
set_option linter.unusedVariables false
set_option linter.unusedSimpArgs false
section
namespace Go.Proofs.Ytelabmhhnpfegaa.Hand
open Go.RowKit Go.Proofs.YtelabmhhnpfegaaW.PrintWords Go.Proofs.YtelabmhhnpfegaaW.PrintLast Go.Proofs.YtelabmhhnpfegaaW.PrintMore Go.Proofs.Ytelabmhhnpfegaa.PDynCells
def P2 {α : Type} (d : Kd α) (e1 e2 base N : Nat) (w : World) (vA : Value) (xa : List α) (vB : Value) (xb : List α) : Prop :=
 ∃ okA okB : Nat → Prop, (∀ k, okA k → ¬ okB k) ∧ (∀ k, okA k → k < N) ∧ (∀ k, okB k → k < N) ∧ d.R e1 w base okA vA xa ∧ d.R e2 w base okB vB xb
section
variable {α : Type} {d : Kd α} {e1 e2 base N : Nat} {w w1 : World} {vA vB : Value} {xa xb : List α}
theorem P2.nil (d : Kd α) (e1 e2 base N : Nat) (w : World) : P2 d e1 e2 base N w (.slice none 0 0) [] (.slice none 0 0) [] :=
 ⟨fun _ => False, fun _ => False, fun _ h => h.elim, fun _ h => h.elim, fun _ h => h.elim, Kd.R_nil _ _ _ _ _, Kd.R_nil _ _ _ _ _⟩
theorem P2.step (h : P2 d e1 e2 base N w vA xa vB xb) (hm : ∀ k, k < w.heap.size → base ≤ k → (∃ q, q ∈ e1 :: e2 :: d.E ∧ ∃ cells, w.heap[k]? = some (.cells cells q (0, 0))) → w1.heap[k]? = w.heap[k]?) : P2 d e1 e2 base N w1 vA xa vB xb := by
 obtain ⟨okA, okB, h1, h2, h3, h4, h5⟩ := h
 refine ⟨okA, okB, h1, h2, h3, ?_, ?_⟩
 ·refine Kd.R_mono (Kd.R_move (Kd.R_bound h4) (fun k hk => hm k hk.2.2.1 hk.2.1 ?_)) (fun _ hk => hk.1)
  obtain ⟨q, hq, hc⟩ := hk.2.2.2
  refine ⟨q, ?_, hc⟩
  rcases List.mem_cons.1 hq with e | e
  ·exact e ▸ List.mem_cons_self
  ·exact List.mem_cons_of_mem _ (List.mem_cons_of_mem _ e)
 ·refine Kd.R_mono (Kd.R_move (Kd.R_bound h5) (fun k hk => hm k hk.2.2.1 hk.2.1 ?_)) (fun _ hk => hk.1)
  obtain ⟨q, hq, hc⟩ := hk.2.2.2
  refine ⟨q, ?_, hc⟩
  rcases List.mem_cons.1 hq with e | e
  ·exact e ▸ List.mem_cons_of_mem _ List.mem_cons_self
  ·exact List.mem_cons_of_mem _ (List.mem_cons_of_mem _ e)
theorem P2.all (h : P2 d e1 e2 base N w vA xa vB xb) (hm : ∀ k, k < w.heap.size → w1.heap[k]? = w.heap[k]?) : P2 d e1 e2 base N w1 vA xa vB xb := h.step (fun k hk _ _ => hm k hk)
theorem P2.le (h : P2 d e1 e2 base N w vA xa vB xb) {N' : Nat} (hN : N ≤ N') : P2 d e1 e2 base N' w vA xa vB xb := by
 obtain ⟨okA, okB, h1, h2, h3, h4, h5⟩ := h
 exact ⟨okA, okB, h1, fun k hk => Nat.lt_of_lt_of_le (h2 k hk) hN, fun k hk => Nat.lt_of_lt_of_le (h3 k hk) hN, h4, h5⟩
theorem P2.set (h : P2 d e1 e2 base N w vA xa vB xb) {p : Addr} {cs : Array Value} {t : TypeId} (hb : w.heap[p.block]? = some (.cells cs t (0, 0))) (ht : t ∉ e1 :: e2 :: d.E) (u : Value) : P2 d e1 e2 base N (w.setCell p u) vA xa vB xb :=
 h.step (fun k hk _ hq => Below.heap_setCell _ _ _ _ (fun e => by
  obtain ⟨q, hq, cells, hc⟩ := hq
  rw [e, hb] at hc
  injection hc with hc
  injection hc with _ h2 _
  exact ht (h2 ▸ hq)))
theorem P2.swap (h : P2 d e1 e2 base N w vA xa vB xb) : P2 d e2 e1 base N w vB xb vA xa := by
 obtain ⟨okA, okB, h1, h2, h3, h4, h5⟩ := h
 exact ⟨okB, okA, fun k hb ha => h1 k ha hb, h3, h2, h5, h4⟩
section
variable {P : Program} {ops : Array Oper} {o : Oper} {a : Act} {Kc : Act → World → Prop} {Q : Exit → Act → World → Prop}
theorem p2_appA (h : P2 d e1 e2 base N w vA xa vB xb) (hN : N ≤ w.heap.size) (hbase : base ≤ N) (hw : Region.wanted o (yielded ops a.tmps) = true) (s x : Operand) (t : TypeId) (z : Value) (bytes : Nat)
  (ho : o.op = .call { callee := .builtin .append, args := #[s, x], argTypes := #[t, t] })
  (ht : P.underlying t = some (.slice e1)) (hinfo : (P.info? e1).map (fun i => (i.zero, i.size, i.bytes)) = some (some z, d.sz, bytes)) (hz : z.cells.size = d.sz) (hs0 : 0 < d.sz) (hb0 : 0 < bytes)
  (p : α) (cs : List Value) (hs : a.eval s = vA) (hx : a.eval x = .slice (some ⟨w.heap.size, 0, none⟩) 1 1) (hp : d.M w base (fun k => N ≤ k) p cs) (hl : (xa.length + 1) * bytes ≤ 140737488355328)
  (hh : ∀ v1 w1, P2 d e1 e2 base w1.heap.size w1 v1 (xa ++ [p]) vB xb → (∃ A c, v1 = .slice A (xa.length + 1) c) → w.grownBy w1 vA.ownBlock → (∀ k, vA.ownBlock = some k → base ≤ k ∧ ∃ cells, w.heap[k]? = some (.cells cells e1 (0, 0))) → Kc (a.put o.dst v1) w1) :
  if Region.wanted o (yielded ops a.tmps) = true then Oper.wp P o a (w.alloc (.cells cs.toArray e1)) Kc Q else Kc (a.put o.dst undef) (w.alloc (.cells cs.toArray e1)) := by
 obtain ⟨okA, okB, h1, h2, h3, h4, h5⟩ := h
 have hvA : ∀ k, vA.ownBlock = some k → okA k := h4.1
 refine Kd.R_append_step d (w0 := w) base hw s x t e1 z bytes ho ht hinfo hz hs0 hb0 vA xa p cs (fun k => okA k ∨ N ≤ k) (fun k => N ≤ k) hs hx hp (fun k hk => ⟨.inr hk, fun e => ?_⟩) (fun k hk => .inr (by omega)) (Kd.R_mono h4 (fun _ hk => .inl hk)) (Below.refl _ _) (by omega) hl ?_
 ·have := h2 k (hvA k e.symm)
  omega
 ·intro v1 w1 hR hB hg _
  refine hh v1 w1 ⟨fun k => (okA k ∨ N ≤ k) ∧ k < w1.heap.size, okB, fun k hk hB => ?_, fun k hk => hk.2, fun k hk => by have := h3 k hk; have := hg.size; omega, Kd.R_mono (Kd.R_bound hR) (fun k hk => ⟨hk.1, hk.2.2.1⟩), ?_⟩ ?_ hg (fun k hk => ?_)
  ·rcases hk.1 with hk | hk
   ·exact h1 k hk hB
   ·have := h3 k hB
    omega
  ·exact Kd.R_step h5 (fun k hk hlt => hg.block k hlt (fun e => h1 k (hvA k e.symm) hk))
  ·obtain ⟨A, c, e⟩ := Kd.R_slice hR
   rw [List.length_append, List.length_singleton] at e
   exact ⟨A, c, e⟩
  ·obtain ⟨_, inner, ho', _⟩ := h4
   exact ⟨own_base ho' k hk, own_typed ho' k hk⟩
theorem p2_appB (h : P2 d e1 e2 base N w vA xa vB xb) (hN : N ≤ w.heap.size) (hbase : base ≤ N) (hw : Region.wanted o (yielded ops a.tmps) = true) (s x : Operand) (t : TypeId) (z : Value) (bytes : Nat)
  (ho : o.op = .call { callee := .builtin .append, args := #[s, x], argTypes := #[t, t] })
  (ht : P.underlying t = some (.slice e2)) (hinfo : (P.info? e2).map (fun i => (i.zero, i.size, i.bytes)) = some (some z, d.sz, bytes)) (hz : z.cells.size = d.sz) (hs0 : 0 < d.sz) (hb0 : 0 < bytes)
  (p : α) (cs : List Value) (hs : a.eval s = vB) (hx : a.eval x = .slice (some ⟨w.heap.size, 0, none⟩) 1 1) (hp : d.M w base (fun k => N ≤ k) p cs) (hl : (xb.length + 1) * bytes ≤ 140737488355328)
  (hh : ∀ v1 w1, P2 d e1 e2 base w1.heap.size w1 vA xa v1 (xb ++ [p]) → (∃ A c, v1 = .slice A (xb.length + 1) c) → w.grownBy w1 vB.ownBlock → (∀ k, vB.ownBlock = some k → base ≤ k ∧ ∃ cells, w.heap[k]? = some (.cells cells e2 (0, 0))) → Kc (a.put o.dst v1) w1) :
  if Region.wanted o (yielded ops a.tmps) = true then Oper.wp P o a (w.alloc (.cells cs.toArray e2)) Kc Q else Kc (a.put o.dst undef) (w.alloc (.cells cs.toArray e2)) :=
 p2_appA h.swap hN hbase hw s x t z bytes ho ht hinfo hz hs0 hb0 p cs hs hx hp hl (fun v1 w1 hP he hg hk => hh v1 w1 hP.swap he hg hk)
theorem copy_row (hbase : base ≤ w.heap.size) (hw : Region.wanted o (yielded ops a.tmps) = true) (s x : Operand) (t e : TypeId)
  (ho : o.op = .call { callee := .builtin .append, args := #[s, x], argTypes := #[t, t] })
  (ht : P.underlying t = some (.slice e)) (hinfo : (P.info? e).map (fun i => (i.zero, i.size, i.bytes)) = some (some (.int .i64 0), 1, 8))
  (ys : List Int) (A : Option Addr) (c : Nat) (hs : a.eval s = .slice none 0 0) (hx : a.eval x = .slice A ys.length c) (hC : (Kd.int .i64).C w A ys.length ys) (hl : ys.length ≤ 17592186044416)
  (hh : ∀ v1 w1, (Kd.int .i64).R e w1 base (fun k => w.heap.size ≤ k) v1 ys → Below w.heap.size w w1 → Kc (a.put o.dst v1) w1) :
  if Region.wanted o (yielded ops a.tmps) = true then Oper.wp P o a w Kc Q else Kc (a.put o.dst undef) w := by
 refine Kd.R_append_rows_step (Kd.int .i64) (Rr := fun x cs => cs = [.int .i64 x]) (w0 := w) base hw s x t e (.int .i64 0) 8 ho ht hinfo rfl (by decide) (by omega) (.slice none 0 0) [] ys A ys.length c (fun k => w.heap.size ≤ k) (fun _ => False) hs hx (Kd.R_nil _ _ _ _ _) hC (fun _ _ h => h) (fun _ hk => hk.elim) (fun _ hk => hk) (Below.refl _ _) hbase (by simp; omega) ?_
 intro v1 w1 hR _ hg _
 rw [List.nil_append] at hR
 exact hh v1 w1 hR ⟨hg.os, hg.tape, hg.output, hg.size, fun k hk => hg.block k hk (by simp [Value.ownBlock])⟩
end
end
theorem C_take {w : World} {A : Option Addr} {ys : List Int} (h : (Kd.int .i64).C w A ys.length ys) (m : Nat) : (Kd.int .i64).C w A (ys.take m).length (ys.take m) := by
 obtain ⟨_, hm, hc⟩ := h
 refine ⟨rfl, by rw [List.length_take]; omega, fun h0 => ?_⟩
 rw [List.length_take] at h0
 obtain ⟨ad, e, hj⟩ := hc (by omega)
 refine ⟨ad, e, fun j p hp => hj j p ?_⟩
 rw [List.getElem?_take] at hp
 split at hp
 ·exact hp
 ·cases hp
structure RS {α : Type} (d : Kd α) (e1 e2 : Nat) (w W6 : World) (p4 p5 : Nat) (c4 c5 : Array Value) (N : Nat) (wc : World) (vA : Value) (xa : List α) (vB : Value) (xb : List α) : Prop where
 pp : P2 d e1 e2 W6.heap.size N wc vA xa vB xb
 nn : N ≤ wc.heap.size
 b6 : W6.heap.size ≤ N
 h4 : wc.heap[p4]? = some (.cells c4 54 (0, 0))
 h5 : wc.heap[p5]? = some (.cells c5 57 (0, 0))
 bw : Below w.heap.size w wc
 ww : w.heap.size ≤ W6.heap.size
 c : Chg (fun k => k = p4 ∨ k = p5) W6 wc
namespace RS
variable {α : Type} {d : Kd α} {e1 e2 : Nat} {w W6 : World} {p4 p5 : Nat} {c4 c5 : Array Value} {N : Nat} {wc w1 : World} {vA : Value} {xa : List α} {vB : Value} {xb : List α}
theorem drew (h : RS d e1 e2 w W6 p4 p5 c4 c5 N wc vA xa vB xb) : RS d e1 e2 w W6 p4 p5 c4 c5 N wc.drew vA xa vB xb :=
 ⟨h.pp.all (fun _ _ => rfl), h.nn, h.b6, h.h4, h.h5, below_drew h.bw, h.ww, h.c.drew⟩
theorem new (h : RS d e1 e2 w W6 p4 p5 c4 c5 N wc vA xa vB xb) (bb : Below wc.heap.size wc w1) : RS d e1 e2 w W6 p4 p5 c4 c5 N w1 vA xa vB xb :=
 ⟨h.pp.all (fun k hk => bb.block k hk), Nat.le_trans h.nn bb.size, h.b6, blk_below h.h4 bb, blk_below h.h5 bb, h.bw.trans (bb.mono h.bw.size), h.ww, h.c.trans (Chg.of_below bb)⟩
theorem grow {v : Value} {e : Nat} {v1 : Value} {xa1 : List α} {vB1 : Value} {xb1 : List α} (h : RS d e1 e2 w W6 p4 p5 c4 c5 N wc vA xa vB xb) (h54 : 54 ≠ e) (h57 : 57 ≠ e) (PQ : P2 d e1 e2 W6.heap.size w1.heap.size w1 v1 xa1 vB1 xb1) (gg : wc.grownBy w1 v.ownBlock) (ty : ∀ k, v.ownBlock = some k → W6.heap.size ≤ k ∧ ∃ cells, wc.heap[k]? = some (.cells cells e (0, 0))) :
  RS d e1 e2 w W6 p4 p5 c4 c5 w1.heap.size w1 v1 xa1 vB1 xb1 := by
 have ne : ∀ {g : Nat} {cs : Array Value} {t : TypeId}, wc.heap[g]? = some (.cells cs t (0, 0)) → t ≠ e → some g ≠ v.ownBlock := fun hg ht e' => by
  obtain ⟨_, cells, hc⟩ := ty _ e'.symm
  exact ty_ne hg hc ht rfl
 exact ⟨PQ, Nat.le_refl _, Nat.le_trans h.b6 (Nat.le_trans h.nn gg.size), blk_grown h.h4 gg (ne h.h4 h54), blk_grown h.h5 gg (ne h.h5 h57), h.bw.trans ⟨gg.os, gg.tape, gg.output, gg.size, fun k hk => gg.block k (Nat.lt_of_lt_of_le hk h.bw.size) (fun e' => by
  have h1 := (ty _ e'.symm).1
  have h2 := h.ww
  omega)⟩, h.ww, h.c.then_ (Chg.of_grown gg) (fun k hk e' => by
  have h1 := (ty _ e'.symm).1
  omega)⟩
end RS
structure L2 {α : Type} (d : Kd α) (e1 e2 : Nat) (w W6 wr : World) (p4 p5 : Nat) (c4 c5 : Value → Array Value) (i : Nat) (vA vB : Value) (l : List α) : Prop where
 s : RS d e1 e2 w W6 p4 p5 (c4 vA) (c5 vB) wr.heap.size wr vA l vB l
 a : ∃ A c, vA = .slice A i c
 b : ∃ A c, vB = .slice A i c
theorem L2.next {α : Type} {d : Kd α} {e1 e2 : Nat} {w W6 : World} {p4 p5 : Nat} {c4 c5 c4' c5' : Array Value} {N : Nat} {wc : World} {vA vB : Value} {l : List α} (h : RS d e1 e2 w W6 p4 p5 c4 c5 N wc vA l vB l) (h45 : p4 ≠ p5) (hp : w.heap.size ≤ p4) (hp5 : w.heap.size ≤ p5) (h54 : 54 ∉ e1 :: e2 :: d.E) (h57 : 57 ∉ e1 :: e2 :: d.E) (j : Nat) (e4 : c4.setIfInBounds j vA = c4') (e5 : c5.setIfInBounds j vB = c5') :
  RS d e1 e2 w W6 p4 p5 c4' c5' ((wc.setCell ⟨p4, j, none⟩ vA).setCell ⟨p5, j, none⟩ vB).heap.size ((wc.setCell ⟨p4, j, none⟩ vA).setCell ⟨p5, j, none⟩ vB) vA l vB l := by
 have hs : ((wc.setCell ⟨p4, j, none⟩ vA).setCell ⟨p5, j, none⟩ vB).heap.size = wc.heap.size := by simp [World.setCell]
 have H5 := blk_far h.h5 (p := ⟨p4, j, none⟩) h45.symm vA
 refine ⟨(((h.pp.le h.nn).set (p := ⟨p4, j, none⟩) h.h4 h54 vA).set (p := ⟨p5, j, none⟩) H5 h57 vB).le (by rw [hs]; exact Nat.le_refl _), Nat.le_refl _, by rw [hs]; exact Nat.le_trans h.b6 h.nn, ?_, ?_, (h.bw.setCell hp _).setCell hp5 _, h.ww, (h.c.setCell (.inl (.inl rfl)) _).setCell (.inl (.inr rfl)) _⟩
 ·exact blk_far (blk_put h.h4 j vA e4) h45 _
 ·exact blk_put H5 j vB e5
theorem R_final {α : Type} {d : Kd α} {e base : Nat} {w wz : World} {ok : Nat → Prop} {v : Value} {xs : List α} (h : d.R e w base ok v xs) (hm : ∀ (k q : Nat) (cells : Array Value), q ∈ e :: d.E → w.heap[k]? = some (.cells cells q (0, 0)) → wz.heap[k]? = some (.cells cells q (0, 0))) : d.R e wz base ok v xs :=
 Kd.R_mono (Kd.R_move (Kd.R_bound h) (fun k hk => by
  obtain ⟨q, hq, cells, hc⟩ := hk.2.2.2
  rw [hm k q cells hq hc, hc])) (fun _ hk => hk.1)
theorem R_C {α : Type} {d : Kd α} {e base n c : Nat} {w : World} {ok : Nat → Prop} {A : Option Addr} {xs : List α} (h : d.R e w base ok (.slice A n c) xs) : d.C w A n xs ∧ xs.length = n ∧ n ≤ c := by
 have hc := Kd.C_kept_own (S := fun _ => False) h (fun _ _ => id) w (Kept.refl _ _)
 obtain ⟨_, inner, ho, _⟩ := h
 refine ⟨hc, hc.1, ?_⟩
 rcases ho.2 with ⟨e, h0⟩ | ⟨g, cap, cur, hv, _, _, hn, _⟩
 ·injection e with _ e2 e3
  omega
 ·injection hv with _ e2 e3
  omega
theorem take_min {α : Type} (l : List α) (k : Nat) : l.take (min l.length k) = l.take k := by
 rw [Nat.min_comm, ← List.take_take, List.take_length]
end Go.Proofs.Ytelabmhhnpfegaa.Hand
end
section
namespace Go.Proofs.Ytelabmhhnpfegaa.Hand
open Go.RowKit Go.Proofs.YtelabmhhnpfegaaW.PrintWords Go.Proofs.YtelabmhhnpfegaaW.PrintLast Go.Proofs.YtelabmhhnpfegaaW.PrintMore Go.Proofs.Ytelabmhhnpfegaa.PDynCells
attribute [local go_sem] max2_int min2_int
def mag (x : Int) : Int := if 2147483648 < (if x < -2147483648 then -2147483648 else x) then 2147483648 else (if x < -2147483648 then -2147483648 else x)
theorem mag_bd (x : Int) : -2147483648 ≤ mag x ∧ mag x ≤ 2147483648 := by
 unfold mag
 split <;> split <;> omega
structure R1 {α : Type} (d : Kd α) (e : Nat) (w W6 : World) (p t : Nat) (cs : Array Value) (N : Nat) (wc : World) (v : Value) (xs : List α) : Prop where
 r : d.R e wc W6.heap.size (fun k => k < N) v xs
 nn : N ≤ wc.heap.size
 b6 : W6.heap.size ≤ N
 hp : wc.heap[p]? = some (.cells cs t (0, 0))
 bw : Below w.heap.size w wc
 ww : w.heap.size ≤ W6.heap.size
 c : Chg (fun k => k = p) W6 wc
namespace R1
variable {α : Type} {d : Kd α} {e : Nat} {w W6 : World} {p t : Nat} {cs cs' : Array Value} {N : Nat} {wc w1 : World} {v : Value} {xs : List α}
theorem start (d : Kd α) (e : Nat) (hp : W6.heap[p]? = some (.cells cs t (0, 0))) (bw : Below w.heap.size w W6) : R1 d e w W6 p t cs W6.heap.size W6 (.slice none 0 0) [] :=
 ⟨Kd.R_nil _ _ _ _ _, Nat.le_refl _, Nat.le_refl _, hp, bw, bw.size, Chg.refl _ _⟩
theorem drew (h : R1 d e w W6 p t cs N wc v xs) : R1 d e w W6 p t cs N wc.drew v xs :=
 ⟨Kd.R_move h.r (fun _ _ => rfl), h.nn, h.b6, h.hp, below_drew h.bw, h.ww, h.c.drew⟩
theorem le (h : R1 d e w W6 p t cs N wc v xs) : R1 d e w W6 p t cs wc.heap.size wc v xs :=
 ⟨Kd.R_mono h.r (fun _ hk => Nat.lt_of_lt_of_le hk h.nn), Nat.le_refl _, Nat.le_trans h.b6 h.nn, h.hp, h.bw, h.ww, h.c⟩
theorem new (h : R1 d e w W6 p t cs N wc v xs) (bb : Below wc.heap.size wc w1) : R1 d e w W6 p t cs N w1 v xs :=
 ⟨Kd.R_step h.r (fun k _ hk => bb.block k hk), Nat.le_trans h.nn bb.size, h.b6, blk_below h.hp bb, h.bw.trans (bb.mono h.bw.size), h.ww, h.c.trans (Chg.of_below bb)⟩
theorem put (h : R1 d e w W6 p t cs N wc v xs) (hp : w.heap.size ≤ p) (ht : t ∉ e :: d.E) (j : Nat) (u : Value) (e4 : cs.setIfInBounds j u = cs') : R1 d e w W6 p t cs' N (wc.setCell ⟨p, j, none⟩ u) v xs :=
 ⟨R_final h.r (fun k q cells hq hc => blk_far hc (ty_ne hc h.hp (fun e' => ht (by rw [← e']; exact hq))) u), by simpa [World.setCell] using h.nn, h.b6, blk_put h.hp j u e4, h.bw.setCell hp _, h.ww, h.c.setCell (.inl rfl) _⟩
theorem far (h : R1 d e w W6 p t cs N wc v xs) {a : Addr} (hp : p ≠ a.block) (ha : N ≤ a.block) (u : Value) : R1 d e w W6 p t cs N (wc.setCell a u) v xs :=
 ⟨Kd.R_move h.r (fun k hk => Below.heap_setCell _ _ _ _ (by omega)), by simpa [World.setCell] using h.nn, h.b6, blk_far h.hp hp u, h.bw.setCell (by have := h.b6; have := h.ww; omega) _, h.ww, h.c.setCell (.inr (by have := h.b6; omega)) _⟩
section
variable {P : Program} {ops : Array Oper} {o : Oper} {a : Act} {Kc : Act → World → Prop} {Q : Exit → Act → World → Prop}
theorem app (h : R1 d e w W6 p t cs N wc v xs) (hte : t ≠ e) (hw : Region.wanted o (yielded ops a.tmps) = true) (s x : Operand) (ty : TypeId) (z : Value) (bytes : Nat)
  (ho : o.op = .call { callee := .builtin .append, args := #[s, x], argTypes := #[ty, ty] })
  (ht : P.underlying ty = some (.slice e)) (hinfo : (P.info? e).map (fun i => (i.zero, i.size, i.bytes)) = some (some z, d.sz, bytes)) (hz : z.cells.size = d.sz) (hs0 : 0 < d.sz) (hb0 : 0 < bytes)
  (q : α) (ys : List Value) (hs : a.eval s = v) (hx : a.eval x = .slice (some ⟨wc.heap.size, 0, none⟩) 1 1) (hp : d.M wc W6.heap.size (fun k => N ≤ k) q ys) (hl : (xs.length + 1) * bytes ≤ 140737488355328)
  (hh : ∀ v1 w1, R1 d e w W6 p t cs w1.heap.size w1 v1 (xs ++ [q]) → (∃ A c, v1 = .slice A (xs.length + 1) c) → (∀ k, N ≤ k → k < wc.heap.size → w1.heap[k]? = wc.heap[k]?) → Kc (a.put o.dst v1) w1) :
  if Region.wanted o (yielded ops a.tmps) = true then Oper.wp P o a (wc.alloc (.cells ys.toArray e)) Kc Q else Kc (a.put o.dst undef) (wc.alloc (.cells ys.toArray e)) := by
 have hvA : ∀ k, v.ownBlock = some k → k < N := h.r.1
 refine Kd.R_append_step d (w0 := wc) W6.heap.size hw s x ty e z bytes ho ht hinfo hz hs0 hb0 v xs q ys (fun k => k < N ∨ N ≤ k) (fun k => N ≤ k) hs hx hp (fun k hk => ⟨.inr hk, fun e' => ?_⟩) (fun k (hk : wc.heap.size ≤ k) => .inr (by have := h.nn; omega)) (Kd.R_mono h.r (fun _ hk => .inl hk)) (Below.refl _ _) (by have := h.b6; have := h.nn; omega) hl ?_
 ·have := hvA k e'.symm
  omega
 ·intro v1 w1 hR hB hg _
  obtain ⟨_, inner, ho', _⟩ := h.r
  have hb : ∀ k, v.ownBlock = some k → W6.heap.size ≤ k := fun k hk => own_base ho' k hk
  refine hh v1 w1 ⟨Kd.R_mono (Kd.R_bound hR) (fun k hk => hk.2.2.1), Nat.le_refl _, Nat.le_trans h.b6 (Nat.le_trans h.nn hg.size), blk_grown h.hp hg (blk_apart h.hp ho' hte), h.bw.trans ⟨hg.os, hg.tape, hg.output, hg.size, fun k hk => hg.block k (Nat.lt_of_lt_of_le hk h.bw.size) (fun e' => by
   have h1 := hb _ e'.symm
   have h2 := h.ww
   omega)⟩, h.ww, h.c.then_ (Chg.of_grown hg) (fun k hk e' => by
   have h1 := hb _ e'.symm
   omega)⟩ ?_ (fun k hk hlt => hg.block k hlt (fun e' => by
   have := hvA k e'.symm
   omega))
  obtain ⟨A, c, e⟩ := Kd.R_slice hR
  rw [List.length_append, List.length_singleton] at e
  exact ⟨A, c, e⟩
theorem appL {rest : List Oper} (h : R1 d e w W6 p t cs N wc v xs) (hte : t ≠ e) (hgd : o.guard = none) (s x : Operand) (ty : TypeId) (z : Value) (bytes : Nat)
  (ho : o.op = .call { callee := .builtin .append, args := #[s, x], argTypes := #[ty, ty] })
  (ht : P.underlying ty = some (.slice e)) (hinfo : (P.info? e).map (fun i => (i.zero, i.size, i.bytes)) = some (some z, d.sz, bytes)) (hz : z.cells.size = d.sz) (hs0 : 0 < d.sz) (hb0 : 0 < bytes)
  (q : α) (ys : List Value) (hs : a.eval s = v) (hx : a.eval x = .slice (some ⟨wc.heap.size, 0, none⟩) 1 1) (hp : d.M wc W6.heap.size (fun k => N ≤ k) q ys) (hl : (xs.length + 1) * bytes ≤ 140737488355328)
  (hh : ∀ v1 w1, R1 d e w W6 p t cs w1.heap.size w1 v1 (xs ++ [q]) → (∃ A c, v1 = .slice A (xs.length + 1) c) → (∀ k, N ≤ k → k < wc.heap.size → w1.heap[k]? = wc.heap[k]?) → wpList P ops Q rest (a.put o.dst v1) w1) :
  wpList P ops Q (o :: rest) a (wc.alloc (.cells ys.toArray e)) := by
 have hvA : ∀ k, v.ownBlock = some k → k < N := h.r.1
 refine Kd.R_append d (w0 := wc) W6.heap.size hgd s x ty e z bytes ho ht hinfo hz hs0 hb0 v xs q ys (fun k => k < N ∨ N ≤ k) (fun k => N ≤ k) hs hx hp (fun k hk => ⟨.inr hk, fun e' => ?_⟩) (fun k (hk : wc.heap.size ≤ k) => .inr (by have := h.nn; omega)) (Kd.R_mono h.r (fun _ hk => .inl hk)) (Below.refl _ _) (by have := h.b6; have := h.nn; omega) hl ?_
 ·have := hvA k e'.symm
  omega
 ·intro v1 w1 hR hB hg _
  obtain ⟨_, inner, ho', _⟩ := h.r
  have hb : ∀ k, v.ownBlock = some k → W6.heap.size ≤ k := fun k hk => own_base ho' k hk
  refine hh v1 w1 ⟨Kd.R_mono (Kd.R_bound hR) (fun k hk => hk.2.2.1), Nat.le_refl _, Nat.le_trans h.b6 (Nat.le_trans h.nn hg.size), blk_grown h.hp hg (blk_apart h.hp ho' hte), h.bw.trans ⟨hg.os, hg.tape, hg.output, hg.size, fun k hk => hg.block k (Nat.lt_of_lt_of_le hk h.bw.size) (fun e' => by
   have h1 := hb _ e'.symm
   have h2 := h.ww
   omega)⟩, h.ww, h.c.then_ (Chg.of_grown hg) (fun k hk e' => by
   have h1 := hb _ e'.symm
   omega)⟩ ?_ (fun k hk hlt => hg.block k hlt (fun e' => by
   have := hvA k e'.symm
   omega))
  obtain ⟨A, c, e⟩ := Kd.R_slice hR
  rw [List.length_append, List.length_singleton] at e
  exact ⟨A, c, e⟩
end
end R1
end Go.Proofs.Ytelabmhhnpfegaa.Hand
end
section
namespace Go.Proofs.Ytelabmhhnpfegaa.Hand
open Go.RowKit Go.Proofs.YtelabmhhnpfegaaW.PrintWords Go.Proofs.YtelabmhhnpfegaaW.PrintLast Go.Proofs.YtelabmhhnpfegaaW.PrintMore Go.Proofs.Ytelabmhhnpfegaa.PDynCells
attribute [local go_sem] max2_int min2_int
theorem put6 {w : World} {g : Nat} {t : TypeId} {c0 c1 c2 c3 c4 c5 : Value} (h : w.heap[g]? = some (.cells #[c0, c1, c2, c3, c4, c5] t (0, 0))) (v0 v1 v2 v3 v4 v5 : Value) :
  ((((((w.setCell ⟨g, 0, none⟩ v0).setCell ⟨g, 1, none⟩ v1).setCell ⟨g, 2, none⟩ v2).setCell ⟨g, 3, none⟩ v3).setCell ⟨g, 4, none⟩ v4).setCell ⟨g, 5, none⟩ v5).heap[g]? = some (.cells #[v0, v1, v2, v3, v4, v5] t (0, 0)) :=
 blk_put (blk_put (blk_put (blk_put (blk_put (blk_put h 0 v0 rfl) 1 v1 rfl) 2 v2 rfl) 3 v3 rfl) 4 v4 rfl) 5 v5 rfl
theorem far6 {w : World} {g p : Nat} {t : TypeId} {cs : Array Value} (h : w.heap[g]? = some (.cells cs t (0, 0))) (hne : g ≠ p) (v0 v1 v2 v3 v4 v5 : Value) :
  ((((((w.setCell ⟨p, 0, none⟩ v0).setCell ⟨p, 1, none⟩ v1).setCell ⟨p, 2, none⟩ v2).setCell ⟨p, 3, none⟩ v3).setCell ⟨p, 4, none⟩ v4).setCell ⟨p, 5, none⟩ v5).heap[g]? = some (.cells cs t (0, 0)) :=
 blk_far (blk_far (blk_far (blk_far (blk_far (blk_far h hne _) hne _) hne _) hne _) hne _) hne _
theorem infoR30 : (Try.prog.info? 30).map (fun i => (i.zero, i.size, i.bytes)) = some (some (.slice none 0 0), 1, 24) := by kernel_rfl
theorem infoR2 : (Try.prog.info? 2).map (fun i => (i.zero, i.size, i.bytes)) = some (some (.int .i64 0), 1, 8) := by kernel_rfl
theorem infoR3 : (Try.prog.info? 3).map (fun i => (i.zero, i.size, i.bytes)) = some (some (.int .i64 0), 1, 8) := by kernel_rfl
theorem infoR102 : (Try.prog.info? 102).map (fun i => (i.zero, i.size, i.bytes)) = some (some (.agg #[.int .i64 0, .slice none 0 0]), 2, 32) := by kernel_rfl
theorem infoR103 : (Try.prog.info? 103).map (fun i => (i.zero, i.size, i.bytes)) = some (some (.agg #[.int .i64 0, .slice none 0 0]), 2, 32) := by kernel_rfl
structure L1 (W5 wr : World) (p4 p5 : Nat) (kd cap sz : Int) (i : Nat) (AA AB : Option Addr) (cA cB : Nat) (l : List S101) : Prop where
 oa : wr.ownsRow W5.heap.size 101 2 (.slice AA i cA) i (itC l)
 ob : wr.ownsRow W5.heap.size 68 2 (.slice AB i cB) i (itC l)
 h4 : wr.heap[p4]? = some (.cells #[.int .i64 kd, .int .i64 cap, .slice AA i cA, .slice none 0 0, .int .i64 sz, .slice none 0 0] 54 (0, 0))
 h5 : wr.heap[p5]? = some (.cells #[.int .i64 kd, .int .i64 cap, .slice AB i cB, .slice none 0 0, .int .i64 sz, .slice none 0 0] 57 (0, 0))
 c : Chg (fun k => k = p4 ∨ k = p5) W5 wr
theorem chg_below {w0 w w1 : World} {S : Nat → Prop} (h : Below w0.heap.size w0 w) (hc : Chg S w w1) (hp : ∀ k, S k → w0.heap.size ≤ k) : Below w0.heap.size w0 w1 :=
 h.trans ⟨hc.os, hc.tape, hc.output, hc.size, fun q hq => hc.block q (Nat.lt_of_lt_of_le hq h.size) (fun e => by have := hp q e; omega)⟩
theorem info101 : (Try.prog.info? 101).map (fun i => (i.zero, i.size, i.bytes)) = some (some (.agg #[.int .i64 0, .int .i64 0]), 2, 16) := by kernel_rfl
theorem info68 : (Try.prog.info? 68).map (fun i => (i.zero, i.size, i.bytes)) = some (some (.agg #[.int .i64 0, .int .i64 0]), 2, 16) := by kernel_rfl
theorem L1.next {W5 wr : World} {p4 p5 : Nat} {kd cap sz : Int} {i : Nat} {AA AB : Option Addr} {cA cB : Nat} {l : List S101} (h : L1 W5 wr p4 p5 kd cap sz i AA AB cA cB l) (h45 : p4 ≠ p5) (s : S101) {cs7 : Array Value}
  {w5 : World} {g1 c1 g2 c2 : Nat} (T : Tw W5.heap.size 2 2 101 68 (.slice AA i cA) (.slice AB i cB) (wr.alloc (.cells cs7 68)) w5 (.slice (some ⟨g1, 0, none⟩) (i + 1) c1) (i + 1) (itC l ++ [.int .i64 s.f0, .int .i64 s.f1]) (.slice (some ⟨g2, 0, none⟩) (i + 1) c2) (i + 1) (itC l ++ [.int .i64 s.f0, .int .i64 s.f1])) :
  L1 W5 ((w5.setCell ⟨p4, 2, none⟩ (.slice (some ⟨g1, 0, none⟩) (i + 1) c1)).setCell ⟨p5, 2, none⟩ (.slice (some ⟨g2, 0, none⟩) (i + 1) c2)) p4 p5 kd cap sz (i + 1) (some ⟨g1, 0, none⟩) (some ⟨g2, 0, none⟩) c1 c2 (l ++ [s]) := by
 have H4 : w5.heap[p4]? = some (.cells #[.int .i64 kd, .int .i64 cap, .slice AA i cA, .slice none 0 0, .int .i64 sz, .slice none 0 0] 54 (0, 0)) := T.keep (blk_alloc h.h4 _) (blk_apart h.h4 h.oa (by decide)) (blk_apart h.h4 h.ob (by decide))
 have H5 : w5.heap[p5]? = some (.cells #[.int .i64 kd, .int .i64 cap, .slice AB i cB, .slice none 0 0, .int .i64 sz, .slice none 0 0] 57 (0, 0)) := T.keep (blk_alloc h.h5 _) (blk_apart h.h5 h.oa (by decide)) (blk_apart h.h5 h.ob (by decide))
 have o1 := T.o1
 have o2 := T.o2
 rw [← itC_snoc] at o1 o2
 refine ⟨?_, ?_, ?_, ?_, ?_⟩
 ·refine own_move o1 (fun q hq => ?_)
  obtain ⟨cs, hcs⟩ := own_typed o1 q hq
  show ((w5.setCell _ _).setCell _ _).heap[q]? = _
  rw [blk_far (blk_far hcs (ty_ne hcs H4 (by decide)) _) (ty_ne hcs H5 (by decide)) _, hcs]
 ·refine own_move o2 (fun q hq => ?_)
  obtain ⟨cs, hcs⟩ := own_typed o2 q hq
  show ((w5.setCell _ _).setCell _ _).heap[q]? = _
  rw [blk_far (blk_far hcs (ty_ne hcs H4 (by decide)) _) (ty_ne hcs H5 (by decide)) _, hcs]
 ·exact blk_far (blk_put H4 2 _ rfl) h45 _
 ·exact blk_put (blk_far H5 h45.symm _) 2 _ rfl
 ·have c1 : Chg (fun k => k = p4 ∨ k = p5) W5 w5 := (h.c.alloc _).then_ T.c (fun k hk e => by
   rcases e with e | e
   ·have := own_base h.oa k e.symm
    omega
   ·have := own_base h.ob k e.symm
    omega)
  exact ((c1.setCell (.inl (.inl rfl)) _).setCell (.inl (.inr rfl)) _)
end Go.Proofs.Ytelabmhhnpfegaa.Hand
end
section
namespace Go.Proofs.Ytelabmhhnpfegaa.Hand
open Go.RowKit Go.Proofs.YtelabmhhnpfegaaW.PrintWords Go.Proofs.YtelabmhhnpfegaaW.PrintLast Go.Proofs.YtelabmhhnpfegaaW.PrintMore Go.Proofs.Ytelabmhhnpfegaa.PDynCells
attribute [local go_sem] max2_int min2_int
def InstO (base : Nat) (w : World) (x : PI) (v : Value) : Prop := ∃ A2 n2 c2 A3 n3 c3 A5 n5 c5, v = .agg #[.int .i64 x.kind, .int .i64 x.cap, .slice A2 n2 c2, .slice A3 n3 c3, .int .i64 x.size, .slice A5 n5 c5] ∧
 k101.R 68 w base (fun _ => True) (.slice A2 n2 c2) x.items ∧ (Kd.slice 2 (Kd.int .i64)).R 30 w base (fun _ => True) (.slice A3 n3 c3) x.cost ∧ k102.R 99 w base (fun _ => True) (.slice A5 n5 c5) x.sets
theorem InstO.c {base : Nat} {w : World} {x : PI} {v : Value} (h : InstO base w x v) : InstC w x v := by
 obtain ⟨A2, n2, c2, A3, n3, c3, A5, n5, c5, e, h1, h2, h3⟩ := h
 obtain ⟨r1, e1, l1⟩ := R_C h1
 obtain ⟨r2, e2, l2⟩ := R_C h2
 obtain ⟨r3, e3, l3⟩ := R_C h3
 subst e1
 subst e2
 subst e3
 exact ⟨A2, c2, A3, c3, A5, c5, e, r1, l1, r2, l2, r3, l3⟩
def pos (x : Int) : Int := if 0 < x then x else 0
def kindT (k : Int) : Int := ((k.tmod 4) + 4).tmod 4
structure TameP (most : Nat) (k : Int) (x : PI) : Prop where
 kind : x.kind = kindT k
 cap : 0 ≤ x.cap ∧ x.cap ≤ 2147483648
 items : x.items.length ≤ most ∧ ∀ s ∈ x.items, (0 ≤ s.f0 ∧ s.f0 ≤ 2147483648) ∧ 0 ≤ s.f1 ∧ s.f1 ≤ 2147483648
 size : 0 ≤ x.size ∧ x.size ≤ 8
 sets : x.sets.length ≤ most ∧ ∀ s ∈ x.sets, (0 ≤ s.f0 ∧ s.f0 ≤ 2147483648) ∧ s.f1.Pairwise (· < ·) ∧ ∀ e ∈ s.f1, 0 ≤ e ∧ e < x.size
 cost : x.cost.length ≤ max 1 (most - 1) ∧ ∀ r ∈ x.cost, r.length = x.cost.length ∧ ∀ y ∈ r, -2147483648 ≤ y ∧ y ≤ 2147483648
 diag : x.kind = 2 → ∀ i, i < x.cost.length → (x.cost.getD i []).getD i 0 = 0
 k0 : x.kind = 0 → x.cost = [] ∧ x.sets = [] ∧ x.size = 0
 k3 : x.kind = 3 → x.cost = [] ∧ x.items = [] ∧ x.cap = 0
 k1 : x.kind ≠ 0 → x.kind ≠ 3 → 1 ≤ x.cost.length ∧ x.items = [] ∧ x.sets = [] ∧ x.cap = 0 ∧ x.size = 0
theorem pos_mag (x : Int) : 0 ≤ pos (mag x) ∧ pos (mag x) ≤ 2147483648 := by
 have := mag_bd x
 unfold pos
 split <;> omega
theorem fin_B {w wr : World} {q : Nat} (h : Below w.heap.size w wr) (hq : w.heap.size ≤ q) (v0 v1 v2 v3 v4 v5 : Value) :
  Below w.heap.size w ((((((wr.setCell ⟨q, 0, none⟩ v0).setCell ⟨q, 1, none⟩ v1).setCell ⟨q, 2, none⟩ v2).setCell ⟨q, 3, none⟩ v3).setCell ⟨q, 4, none⟩ v4).setCell ⟨q, 5, none⟩ v5) :=
 (((((h.setCell hq _).setCell hq _).setCell hq _).setCell hq _).setCell hq _).setCell hq _
theorem R_IB {W : World} {B n base : Nat} {f : Nat → Int} {ok : Nat → Prop} (h : IB W B 2 n f) (hb : base ≤ B) (hok : ok B) (hn : n ≤ 1000) : (Kd.int .i64).R 2 W base ok (.slice (some ⟨B, 0, none⟩) n n) ((List.range n).map f) := by
 have e : ((List.range n).map f).length = n := by simp
 refine Kd.R_of_own (enc := Value.int .i64) ?_ (fun k hk => ?_)
 ·rw [e]
  refine ⟨by simp [encs], .inr ⟨B, n, tabI n f, rfl, hb, h, Nat.le_refl _, by unfold maxLen; omega, by simp [tabI], ?_⟩⟩
  simp only [tabI, encs, List.map_map]
  rw [List.take_of_length_le (by simp)]
  rfl
 ·have : B = k := by simpa [Value.ownBlock] using hk
  rw [← this]
  exact hok
theorem upd_bd {f : Nat → Int} {n k : Nat} {z : Int} (h : ∀ j, j < n → -2147483648 ≤ f j ∧ f j ≤ 2147483648) (hz : -2147483648 ≤ z ∧ z ≤ 2147483648) : ∀ j, j < n → -2147483648 ≤ upd f k z j ∧ upd f k z j ≤ 2147483648 := fun j hj => by
 unfold upd
 split
 ·exact hz
 ·exact h j hj
theorem at_Int {w : World} {A : Option Addr} {n : Nat} {xs : List Int} (h : (Kd.int .i64).C w A n xs) (k : Nat) (hk : k < n) : ∃ ad, A = some ad ∧ w.cell? (ad.add k) = some (.int .i64 (xs.getD k 0)) := by
 obtain ⟨ad, e, hc⟩ := (Kd.reads_of_C (enc := Value.int .i64) (d := (0 : Int)) h).at_ (k : Int) (by omega) (by omega)
 rw [Int.toNat_natCast] at hc
 exact ⟨ad, e, by rw [hc]; unfold rdOf; rw [Int.toNat_natCast]⟩
theorem getD_snoc {α : Type} {l : List α} {q z : α} {j i : Nat} (hl : l.length = i) (hj : j < i + 1) : (l ++ [q]).getD j z = if j < i then l.getD j z else q := by
 split
 ·rename_i h
  rw [List.getD_eq_getElem?_getD, List.getD_eq_getElem?_getD, List.getElem?_append_left (by omega)]
 ·have e : j = l.length := by omega
  subst e
  simp
theorem getD_map {n : Nat} {f : Nat → Int} {i : Nat} (h : i < n) : ((List.range n).map f).getD i 0 = f i := by
 simp [List.getD_eq_getElem?_getD, h]
theorem mem_rng {n : Nat} {f : Nat → Int} {P : Int → Prop} (h : ∀ j, j < n → P (f j)) : ∀ y ∈ (List.range n).map f, P y := fun y hy => by
 obtain ⟨j, hj, rfl⟩ := List.mem_map.1 hy
 exact h j (List.mem_range.1 hj)
theorem posmod (z : Int) : 0 ≤ (pos z).tmod 9 ∧ (pos z).tmod 9 ≤ 8 := by
 have h0 : 0 ≤ pos z := by unfold pos; split <;> omega
 have h1 := Int.tmod_nonneg 9 h0
 have h2 := Int.tmod_lt_of_pos (pos z) (b := 9) (by omega)
 omega
theorem pw_snoc {xs : List Int} {e : Int} (h : xs.Pairwise (· < ·)) (hb : ∀ y ∈ xs, 0 ≤ y ∧ y < e) (h0 : 0 ≤ e) : (xs ++ [e]).Pairwise (· < ·) ∧ ∀ y ∈ xs ++ [e], 0 ≤ y ∧ y < e + 1 :=
 ⟨List.pairwise_append.2 ⟨h, List.pairwise_singleton _ _, fun a ha b hb' => by
  have e' : b = e := by simpa using hb'
  have := hb a ha
  omega⟩, fun y hy => (List.mem_append.1 hy).elim (fun h => by have := hb y h; omega) (fun h => by
  have e' : y = e := by simpa using h
  omega)⟩
end Go.Proofs.Ytelabmhhnpfegaa.Hand
end
