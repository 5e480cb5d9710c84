/- Texts De, cut to what is used. -/
import Derived.Test.YtelabmhhnpfegaaYa0
import Derived.Test.YtelabmhhnpfegaaYa3
set_option linter.unusedVariables false
set_option linter.unusedSimpArgs false
section
namespace Go.Proofs.Ytelabmhhnpfegaa.Hand
open Go.RowKit Go.Proofs.YtelabmhhnpfegaaW.PrintWords Go.Proofs.YtelabmhhnpfegaaW.PrintLast Go.Proofs.YtelabmhhnpfegaaW.PrintMore Go.Proofs.Ytelabmhhnpfegaa.PDynCells
attribute [local go_sem] max2_int min2_int
def mag (x : Int) : Int := if 2147483648 < (if x < -2147483648 then -2147483648 else x) then 2147483648 else (if x < -2147483648 then -2147483648 else x)
theorem mag_bd (x : Int) : -2147483648 ≤ mag x ∧ mag x ≤ 2147483648 := by
 unfold mag
 split <;> split <;> omega
theorem mag_any (x : Int) (w : World) : Calls Try.prog 43 #[.int .i64 x] w fun e w' => e = .returned (.int .i64 (mag x)) ∧ w = w' := by
 go_enter Try.func43, Try.ntmps43
 go_wp2
 all_goals
  go_ret
  refine ⟨congrArg (fun z => Ending.returned (.int .i64 z)) ?_, rfl⟩
  unfold mag
  split <;> split <;> omega
structure R1 {α : Type} (d : Kd α) (e : Nat) (w W6 : World) (p t : Nat) (cs : Array Value) (N : Nat) (wc : World) (v : Value) (xs : List α) : Prop where
 r : d.R e wc W6.heap.size (fun k => k < N) v xs
 nn : N ≤ wc.heap.size
 b6 : W6.heap.size ≤ N
 hp : wc.heap[p]? = some (.cells cs t (0, 0))
 bw : Below w.heap.size w wc
 ww : w.heap.size ≤ W6.heap.size
 c : Chg (fun k => k = p) W6 wc
namespace R1
variable {α : Type} {d : Kd α} {e : Nat} {w W6 : World} {p t : Nat} {cs cs' : Array Value} {N : Nat} {wc w1 : World} {v : Value} {xs : List α}
theorem start (d : Kd α) (e : Nat) (hp : W6.heap[p]? = some (.cells cs t (0, 0))) (bw : Below w.heap.size w W6) : R1 d e w W6 p t cs W6.heap.size W6 (.slice none 0 0) [] :=
 ⟨Kd.R_nil _ _ _ _ _, Nat.le_refl _, Nat.le_refl _, hp, bw, bw.size, Chg.refl _ _⟩
theorem drew (h : R1 d e w W6 p t cs N wc v xs) : R1 d e w W6 p t cs N wc.drew v xs :=
 ⟨Kd.R_move h.r (fun _ _ => rfl), h.nn, h.b6, h.hp, below_drew h.bw, h.ww, h.c.drew⟩
theorem le (h : R1 d e w W6 p t cs N wc v xs) : R1 d e w W6 p t cs wc.heap.size wc v xs :=
 ⟨Kd.R_mono h.r (fun _ hk => Nat.lt_of_lt_of_le hk h.nn), Nat.le_refl _, Nat.le_trans h.b6 h.nn, h.hp, h.bw, h.ww, h.c⟩
theorem new (h : R1 d e w W6 p t cs N wc v xs) (bb : Below wc.heap.size wc w1) : R1 d e w W6 p t cs N w1 v xs :=
 ⟨Kd.R_step h.r (fun k _ hk => bb.block k hk), Nat.le_trans h.nn bb.size, h.b6, blk_below h.hp bb, h.bw.trans (bb.mono h.bw.size), h.ww, h.c.trans (Chg.of_below bb)⟩
theorem put (h : R1 d e w W6 p t cs N wc v xs) (hp : w.heap.size ≤ p) (ht : t ∉ e :: d.E) (j : Nat) (u : Value) (e4 : cs.setIfInBounds j u = cs') : R1 d e w W6 p t cs' N (wc.setCell ⟨p, j, none⟩ u) v xs :=
 ⟨R_final h.r (fun k q cells hq hc => blk_far hc (ty_ne hc h.hp (fun e' => ht (by rw [← e']; exact hq))) u), by simpa [World.setCell] using h.nn, h.b6, blk_put h.hp j u e4, h.bw.setCell hp _, h.ww, h.c.setCell (.inl rfl) _⟩
theorem far (h : R1 d e w W6 p t cs N wc v xs) {a : Addr} (hp : p ≠ a.block) (ha : N ≤ a.block) (u : Value) : R1 d e w W6 p t cs N (wc.setCell a u) v xs :=
 ⟨Kd.R_move h.r (fun k hk => Below.heap_setCell _ _ _ _ (by omega)), by simpa [World.setCell] using h.nn, h.b6, blk_far h.hp hp u, h.bw.setCell (by have := h.b6; have := h.ww; omega) _, h.ww, h.c.setCell (.inr (by have := h.b6; omega)) _⟩
section
variable {P : Program} {ops : Array Oper} {o : Oper} {a : Act} {Kc : Act → World → Prop} {Q : Exit → Act → World → Prop}
theorem app (h : R1 d e w W6 p t cs N wc v xs) (hte : t ≠ e) (hw : Region.wanted o (yielded ops a.tmps) = true) (s x : Operand) (ty : TypeId) (z : Value) (bytes : Nat)
  (ho : o.op = .call { callee := .builtin .append, args := #[s, x], argTypes := #[ty, ty] })
  (ht : P.underlying ty = some (.slice e)) (hinfo : (P.info? e).map (fun i => (i.zero, i.size, i.bytes)) = some (some z, d.sz, bytes)) (hz : z.cells.size = d.sz) (hs0 : 0 < d.sz) (hb0 : 0 < bytes)
  (q : α) (ys : List Value) (hs : a.eval s = v) (hx : a.eval x = .slice (some ⟨wc.heap.size, 0, none⟩) 1 1) (hp : d.M wc W6.heap.size (fun k => N ≤ k) q ys) (hl : (xs.length + 1) * bytes ≤ 140737488355328)
  (hh : ∀ v1 w1, R1 d e w W6 p t cs w1.heap.size w1 v1 (xs ++ [q]) → (∃ A c, v1 = .slice A (xs.length + 1) c) → (∀ k, N ≤ k → k < wc.heap.size → w1.heap[k]? = wc.heap[k]?) → Kc (a.put o.dst v1) w1) :
  if Region.wanted o (yielded ops a.tmps) = true then Oper.wp P o a (wc.alloc (.cells ys.toArray e)) Kc Q else Kc (a.put o.dst undef) (wc.alloc (.cells ys.toArray e)) := by
 have hvA : ∀ k, v.ownBlock = some k → k < N := h.r.1
 refine Kd.R_append_step d (w0 := wc) W6.heap.size hw s x ty e z bytes ho ht hinfo hz hs0 hb0 v xs q ys (fun k => k < N ∨ N ≤ k) (fun k => N ≤ k) hs hx hp (fun k hk => ⟨.inr hk, fun e' => ?_⟩) (fun k (hk : wc.heap.size ≤ k) => .inr (by have := h.nn; omega)) (Kd.R_mono h.r (fun _ hk => .inl hk)) (Below.refl _ _) (by have := h.b6; have := h.nn; omega) hl ?_
 ·have := hvA k e'.symm
  omega
 ·intro v1 w1 hR hB hg _
  obtain ⟨_, inner, ho', _⟩ := h.r
  have hb : ∀ k, v.ownBlock = some k → W6.heap.size ≤ k := fun k hk => own_base ho' k hk
  refine hh v1 w1 ⟨Kd.R_mono (Kd.R_bound hR) (fun k hk => hk.2.2.1), Nat.le_refl _, Nat.le_trans h.b6 (Nat.le_trans h.nn hg.size), blk_grown h.hp hg (blk_apart h.hp ho' hte), h.bw.trans ⟨hg.os, hg.tape, hg.output, hg.size, fun k hk => hg.block k (Nat.lt_of_lt_of_le hk h.bw.size) (fun e' => by
   have h1 := hb _ e'.symm
   have h2 := h.ww
   omega)⟩, h.ww, h.c.then_ (Chg.of_grown hg) (fun k hk e' => by
   have h1 := hb _ e'.symm
   omega)⟩ ?_ (fun k hk hlt => hg.block k hlt (fun e' => by
   have := hvA k e'.symm
   omega))
  obtain ⟨A, c, e⟩ := Kd.R_slice hR
  rw [List.length_append, List.length_singleton] at e
  exact ⟨A, c, e⟩
theorem appL {rest : List Oper} (h : R1 d e w W6 p t cs N wc v xs) (hte : t ≠ e) (hgd : o.guard = none) (s x : Operand) (ty : TypeId) (z : Value) (bytes : Nat)
  (ho : o.op = .call { callee := .builtin .append, args := #[s, x], argTypes := #[ty, ty] })
  (ht : P.underlying ty = some (.slice e)) (hinfo : (P.info? e).map (fun i => (i.zero, i.size, i.bytes)) = some (some z, d.sz, bytes)) (hz : z.cells.size = d.sz) (hs0 : 0 < d.sz) (hb0 : 0 < bytes)
  (q : α) (ys : List Value) (hs : a.eval s = v) (hx : a.eval x = .slice (some ⟨wc.heap.size, 0, none⟩) 1 1) (hp : d.M wc W6.heap.size (fun k => N ≤ k) q ys) (hl : (xs.length + 1) * bytes ≤ 140737488355328)
  (hh : ∀ v1 w1, R1 d e w W6 p t cs w1.heap.size w1 v1 (xs ++ [q]) → (∃ A c, v1 = .slice A (xs.length + 1) c) → (∀ k, N ≤ k → k < wc.heap.size → w1.heap[k]? = wc.heap[k]?) → wpList P ops Q rest (a.put o.dst v1) w1) :
  wpList P ops Q (o :: rest) a (wc.alloc (.cells ys.toArray e)) := by
 have hvA : ∀ k, v.ownBlock = some k → k < N := h.r.1
 refine Kd.R_append d (w0 := wc) W6.heap.size hgd s x ty e z bytes ho ht hinfo hz hs0 hb0 v xs q ys (fun k => k < N ∨ N ≤ k) (fun k => N ≤ k) hs hx hp (fun k hk => ⟨.inr hk, fun e' => ?_⟩) (fun k (hk : wc.heap.size ≤ k) => .inr (by have := h.nn; omega)) (Kd.R_mono h.r (fun _ hk => .inl hk)) (Below.refl _ _) (by have := h.b6; have := h.nn; omega) hl ?_
 ·have := hvA k e'.symm
  omega
 ·intro v1 w1 hR hB hg _
  obtain ⟨_, inner, ho', _⟩ := h.r
  have hb : ∀ k, v.ownBlock = some k → W6.heap.size ≤ k := fun k hk => own_base ho' k hk
  refine hh v1 w1 ⟨Kd.R_mono (Kd.R_bound hR) (fun k hk => hk.2.2.1), Nat.le_refl _, Nat.le_trans h.b6 (Nat.le_trans h.nn hg.size), blk_grown h.hp hg (blk_apart h.hp ho' hte), h.bw.trans ⟨hg.os, hg.tape, hg.output, hg.size, fun k hk => hg.block k (Nat.lt_of_lt_of_le hk h.bw.size) (fun e' => by
   have h1 := hb _ e'.symm
   have h2 := h.ww
   omega)⟩, h.ww, h.c.then_ (Chg.of_grown hg) (fun k hk e' => by
   have h1 := hb _ e'.symm
   omega)⟩ ?_ (fun k hk hlt => hg.block k hlt (fun e' => by
   have := hvA k e'.symm
   omega))
  obtain ⟨A, c, e⟩ := Kd.R_slice hR
  rw [List.length_append, List.length_singleton] at e
  exact ⟨A, c, e⟩
end
end R1
end Go.Proofs.Ytelabmhhnpfegaa.Hand
end
