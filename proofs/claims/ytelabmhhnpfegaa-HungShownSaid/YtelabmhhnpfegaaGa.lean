/- Two rows of one's own, that are appended to in any order: what is kept. Without conditions. -/
import Derived.Test.YtelabmhhnpfegaaHt
import Derived.Test.YtelabmhhnpfegaaWLast
import Derived.Deep.AppendLies
namespace Go.Proofs.Ytelabmhhnpfegaa.Hand
open Go.RowKit Go.Proofs.YtelabmhhnpfegaaW.PrintWords Go.Proofs.YtelabmhhnpfegaaW.PrintLast Go.Proofs.YtelabmhhnpfegaaW.PrintMore
theorem own_grow {w w1 : World} {base n size : Nat} {e : TypeId} {v : Value} {xs : List Value} {row : Option Nat} (hg : w.grownBy w1 row) (h : w.ownsRow base e size v n xs) (hne : ∀ q, v.ownBlock = some q → some q ≠ row) : w1.ownsRow base e size v n xs :=
  own_move h (fun q hq => hg.block q (own_lt h q hq) (hne q hq))
theorem own_apart {w : World} {base1 base2 s1 s2 n1 n2 : Nat} {e1 e2 : TypeId} {v1 v2 : Value} {x1 x2 : List Value} (h1 : w.ownsRow base1 e1 s1 v1 n1 x1) (h2 : w.ownsRow base2 e2 s2 v2 n2 x2) (he : e1 ≠ e2) : ∀ q, v1.ownBlock = some q → some q ≠ v2.ownBlock := fun q hq e => by
  obtain ⟨cs, hcs⟩ := own_typed h1 q hq
  obtain ⟨cs', hcs'⟩ := own_typed h2 q e.symm
  exact ty_ne hcs hcs' he rfl
theorem blk_apart {w : World} {base s n : Nat} {e t : TypeId} {v : Value} {x : List Value} {g : Nat} {cs : Array Value} (hb : w.heap[g]? = some (.cells cs t (0, 0))) (h : w.ownsRow base e s v n x) (he : t ≠ e) : some g ≠ v.ownBlock := fun e' => by
  obtain ⟨cs', hcs'⟩ := own_typed h g e'.symm
  exact ty_ne hb hcs' he rfl
structure Tw (base s1 s2 : Nat) (e1 e2 : TypeId) (u1 u2 : Value) (w0 w : World) (v1 : Value) (n1 : Nat) (x1 : List Value) (v2 : Value) (n2 : Nat) (x2 : List Value) : Prop where
  o1 : w.ownsRow base e1 s1 v1 n1 x1
  o2 : w.ownsRow base e2 s2 v2 n2 x2
  c : Chg (fun k => some k = u1.ownBlock ∨ some k = u2.ownBlock) w0 w
  b1 : ∀ k, v1.ownBlock = some k → some k = u1.ownBlock ∨ w0.heap.size ≤ k
  b2 : ∀ k, v2.ownBlock = some k → some k = u2.ownBlock ∨ w0.heap.size ≤ k
  bs : base ≤ w0.heap.size
namespace Tw
variable {base s1 s2 : Nat} {e1 e2 : TypeId} {u1 u2 : Value} {w0 w : World} {v1 : Value} {n1 : Nat} {x1 : List Value} {v2 : Value} {n2 : Nat} {x2 : List Value}
theorem start (h1 : w0.ownsRow base e1 s1 u1 n1 x1) (h2 : w0.ownsRow base e2 s2 u2 n2 x2) (hb : base ≤ w0.heap.size) : Tw base s1 s2 e1 e2 u1 u2 w0 w0.drew u1 n1 x1 u2 n2 x2 :=
  ⟨own_move h1 (fun _ _ => rfl), own_move h2 (fun _ _ => rfl), (Chg.refl _ _).drew, fun _ hk => .inl hk.symm, fun _ hk => .inl hk.symm, hb⟩
theorem base_le (h : Tw base s1 s2 e1 e2 u1 u2 w0 w v1 n1 x1 v2 n2 x2) : base ≤ w.heap.size := Nat.le_trans h.bs h.c.size
theorem keep (h : Tw base s1 s2 e1 e2 u1 u2 w0 w v1 n1 x1 v2 n2 x2) {g : Nat} {o : Obj} (hb : w0.heap[g]? = some o) (h1 : some g ≠ u1.ownBlock) (h2 : some g ≠ u2.ownBlock) : w.heap[g]? = some o :=
  h.c.blk hb (fun e => e.elim h1 h2)
theorem alloc (h : Tw base s1 s2 e1 e2 u1 u2 w0 w v1 n1 x1 v2 n2 x2) (o : Obj) : Tw base s1 s2 e1 e2 u1 u2 w0 (w.alloc o) v1 n1 x1 v2 n2 x2 :=
  ⟨World.ownsRow.alloc h.o1 o, World.ownsRow.alloc h.o2 o, h.c.alloc o, h.b1, h.b2, h.bs⟩
theorem grow1 (he : e1 ≠ e2) (h : Tw base s1 s2 e1 e2 u1 u2 w0 w v1 n1 x1 v2 n2 x2) {w1 : World} {g n' c' : Nat} {x' : List Value} (ho : w1.ownsRow base e1 s1 (.slice (some ⟨g, 0, none⟩) n' c') n' x') (hg : w.grownBy w1 v1.ownBlock) (hat : v1.ownBlock = some g ∨ g = w.heap.size) :
    Tw base s1 s2 e1 e2 u1 u2 w0 w1 (.slice (some ⟨g, 0, none⟩) n' c') n' x' v2 n2 x2 :=
  ⟨ho, own_grow hg h.o2 (own_apart h.o2 h.o1 he.symm), h.c.then_ (Chg.of_grown hg) (fun k hk e => by
      rcases h.b1 k e.symm with hu | hu
      · exact .inl hu
      · omega), fun k hk => by
      have hk' : g = k := by simpa [Value.ownBlock] using hk
      rcases hat with hat | hat
      · exact h.b1 k (by rw [hat, hk'])
      · right
        have := h.c.size
        omega, h.b2, h.bs⟩
theorem grow2 (he : e1 ≠ e2) (h : Tw base s1 s2 e1 e2 u1 u2 w0 w v1 n1 x1 v2 n2 x2) {w1 : World} {g n' c' : Nat} {x' : List Value} (ho : w1.ownsRow base e2 s2 (.slice (some ⟨g, 0, none⟩) n' c') n' x') (hg : w.grownBy w1 v2.ownBlock) (hat : v2.ownBlock = some g ∨ g = w.heap.size) :
    Tw base s1 s2 e1 e2 u1 u2 w0 w1 v1 n1 x1 (.slice (some ⟨g, 0, none⟩) n' c') n' x' :=
  ⟨own_grow hg h.o1 (own_apart h.o1 h.o2 he), ho, h.c.then_ (Chg.of_grown hg) (fun k hk e => by
      rcases h.b2 k e.symm with hu | hu
      · exact .inr hu
      · omega), h.b1, fun k hk => by
      have hk' : g = k := by simpa [Value.ownBlock] using hk
      rcases hat with hat | hat
      · exact h.b2 k (by rw [hat, hk'])
      · right
        have := h.c.size
        omega, h.bs⟩
theorem blk1 (he : e1 ≠ e2) (h : Tw base s1 s2 e1 e2 u1 u2 w0 w v1 n1 x1 v2 n2 x2) {w1 : World} {B : Nat} {cs : Array Value} (hb : w.heap[B]? = some (.cells cs e1 (0, 0))) (hg : w.grownBy w1 v2.ownBlock) : w1.heap[B]? = some (.cells cs e1 (0, 0)) :=
  blk_grown hb hg (blk_apart hb h.o2 he)
theorem blk2 (he : e1 ≠ e2) (h : Tw base s1 s2 e1 e2 u1 u2 w0 w v1 n1 x1 v2 n2 x2) {w1 : World} {B : Nat} {cs : Array Value} (hb : w.heap[B]? = some (.cells cs e2 (0, 0))) (hg : w.grownBy w1 v1.ownBlock) : w1.heap[B]? = some (.cells cs e2 (0, 0)) :=
  blk_grown hb hg (blk_apart hb h.o1 he.symm)
end Tw
end Go.Proofs.Ytelabmhhnpfegaa.Hand
