/- The law's table: its words. Without conditions. -/
import Derived.Test.YtelabmhhnpfegaaGa
import Derived.Deep.RegionHeld3
namespace Go.Proofs.Ytelabmhhnpfegaa.Hand
open Go.RowKit Go.Proofs.YtelabmhhnpfegaaW.PrintWords Go.Proofs.YtelabmhhnpfegaaW.PrintLast Go.Proofs.YtelabmhhnpfegaaW.PrintMore
def RowB (w : World) (A : Option Addr) (n : Nat) (c : Nat → Bool) : Prop := ∀ k, k < n → ∃ ad, A = some ad ∧ w.cell? (ad.add k) = some (.bool (c k))
def RawI (w : World) (A : Option Addr) (nc : Nat) (len : Nat → Nat) (c : Nat → Nat → Int) : Prop := ∀ i, i < nc → ∃ ad AR cR, A = some ad ∧ w.cell? (ad.add i) = some (.slice AR (len i) cR) ∧ RowI w AR (len i) (c i)
def RawB (w : World) (A : Option Addr) (nc : Nat) (len : Nat → Nat) (c : Nat → Nat → Bool) : Prop := ∀ i, i < nc → ∃ ad AR cR, A = some ad ∧ w.cell? (ad.add i) = some (.slice AR (len i) cR) ∧ RowB w AR (len i) (c i)
def cutT (nc nn most : Nat) (len mlen : Nat → Nat) (c : Nat → Nat → Int) (g : Nat → Nat → Bool) : Tb := ⟨min nc most, fun i k => if k < len i then min (max (c i k) (-2147483648)) 2147483648 else 0, fun i k => decide (i < nn) && decide (k < mlen i) && g i k⟩
def rowsL (B : Nat → Nat) (i n : Nat) : List Value := (List.range i).map fun j => .slice (some ⟨B j, 0, none⟩) n n
structure TabO (W : World) (base : Nat) (AC AN : Option Addr) (t : Tb) (B D : Nat → Nat) : Prop where
  oc : 0 < t.n → ∃ gC cs, AC = some ⟨gC, 0, none⟩ ∧ base ≤ gC ∧ W.heap[gC]? = some (.cells cs 30 (0, 0)) ∧ ∀ i, i < t.n → cs[i]? = some (.slice (some ⟨B i, 0, none⟩) t.n t.n)
  on : 0 < t.n → ∃ gN cs, AN = some ⟨gN, 0, none⟩ ∧ base ≤ gN ∧ W.heap[gN]? = some (.cells cs 35 (0, 0)) ∧ ∀ i, i < t.n → cs[i]? = some (.slice (some ⟨D i, 0, none⟩) t.n t.n)
  ib : ∀ i, i < t.n → base ≤ B i ∧ IB W (B i) 2 t.n (t.c i)
  bb : ∀ i, i < t.n → base ≤ D i ∧ BB W (D i) t.n (t.no i)
  injB : ∀ i j, i < t.n → j < t.n → B i = B j → i = j
  injD : ∀ i j, i < t.n → j < t.n → D i = D j → i = j
/-- Between two rounds. -/
structure Mk (w wr : World) (t8 : Nat) (t : Tb) (i : Nat) (vC vN : Value) (B D : Nat → Nat) : Prop where
  oc : wr.ownsRow w.heap.size 30 1 vC i (rowsL B i t.n)
  on : wr.ownsRow w.heap.size 35 1 vN i (rowsL D i t.n)
  ib : ∀ j, j < i → w.heap.size ≤ B j ∧ IB wr (B j) 2 t.n (t.c j)
  bb : ∀ j, j < i → w.heap.size ≤ D j ∧ BB wr (D j) t.n (t.no j)
  injB : ∀ j l, j < i → l < i → B j = B l → j = l
  injD : ∀ j l, j < i → l < i → D j = D l → j = l
  t8 : wr.heap[t8]? = some (.cells #[vC, vN] 27 (0, 0))
  r6 : wr.heap[w.heap.size]? = some (.cells #[.slice none 0 0, .slice none 0 0] 27 (0, 0))
  below : Below w.heap.size w wr
def cutI (f : Nat → Int) (k : Nat) : Nat → Int := fun j => if j < k then f j else 0
def cutB (f : Nat → Bool) (k : Nat) : Nat → Bool := fun j => if j < k then f j else false
theorem cutI_succ (f : Nat → Int) (k : Nat) : cutI f (k + 1) = upd (cutI f k) k (f k) := by
  funext j
  unfold cutI upd
  by_cases hj : j = k
  · rw [if_pos hj, if_pos (by omega), hj]
  · rw [if_neg hj]
    by_cases hk : j < k
    · simp only [if_pos hk]
      exact if_pos (by omega)
    · simp only [if_neg hk]
      exact if_neg (by omega)
theorem cutB_succ (f : Nat → Bool) (k : Nat) : cutB f (k + 1) = upd (cutB f k) k (f k) := by
  funext j
  unfold cutB upd
  by_cases hj : j = k
  · rw [if_pos hj, if_pos (by omega), hj]
  · rw [if_neg hj]
    by_cases hk : j < k
    · simp only [if_pos hk]
      exact if_pos (by omega)
    · simp only [if_neg hk]
      exact if_neg (by omega)
theorem cutI_zero (f : Nat → Int) : cutI f 0 = fun _ => 0 := by
  funext j
  exact if_neg (Nat.not_lt_zero _)
theorem cutB_zero (f : Nat → Bool) : cutB f 0 = fun _ => false := by
  funext j
  exact if_neg (Nat.not_lt_zero _)
theorem info30 : (Try.prog.info? 30).map (fun i => (i.zero, i.size, i.bytes)) = some (some (.slice none 0 0), 1, 24) := by kernel_rfl
theorem info35 : (Try.prog.info? 35).map (fun i => (i.zero, i.size, i.bytes)) = some (some (.slice none 0 0), 1, 24) := by kernel_rfl

theorem cutI_full {n : Nat} {f : Nat → Int} : tabI n (cutI f n) = tabI n f := tabI_congr (fun _ hi => if_pos hi)
theorem cutB_full {n : Nat} {f : Nat → Bool} : tabB n (cutB f n) = tabB n f := tabB_congr (fun _ hi => if_pos hi)
theorem rowsL_snoc (B : Nat → Nat) (i n R : Nat) : rowsL B i n ++ [.slice (some ⟨R, 0, none⟩) n n] = rowsL (fun j => if j = i then R else B j) (i + 1) n := by
  unfold rowsL
  rw [List.range_succ, List.map_append]
  congr 1
  · apply List.map_congr_left
    intro j hj
    have := List.mem_range.1 hj
    simp only [if_neg (Nat.ne_of_lt this)]
  · simp
theorem mk_step {w wo wr : World} {t8 : Nat} {t : Tb} {i cC cN : Nat} {AC AN : Option Addr} {B' D' : Nat → Nat} (K : Mk w wo t8 t i (.slice AC i cC) (.slice AN i cN) B' D') (ht8 : t8 ≠ w.heap.size) (h8 : w.heap.size ≤ t8)
    (BL : Below wo.heap.size wo wr) {R D : Nat} (hR : wo.heap.size ≤ R) (hD : wo.heap.size ≤ D) (RK : IB wr R 2 t.n (cutI (t.c i) t.n)) (DK : BB wr D t.n (cutB (t.no i) t.n))
    {w5 : World} {g1 c1 g2 c2 : Nat} (T : Tw w.heap.size 1 1 30 35 (.slice AC i cC) (.slice AN i cN) wr w5 (.slice (some ⟨g1, 0, none⟩) (i + 1) c1) (i + 1) (rowsL B' i t.n ++ [.slice (some ⟨R, 0, none⟩) t.n t.n]) (.slice (some ⟨g2, 0, none⟩) (i + 1) c2) (i + 1) (rowsL D' i t.n ++ [.slice (some ⟨D, 0, none⟩) t.n t.n])) :
    ∃ AC cC AN cN B2 D2, (⟨g1, 0, none⟩ : Addr) = AC ∧ c1 = cC ∧ (⟨g2, 0, none⟩ : Addr) = AN ∧ c2 = cN ∧ Mk w ((w5.setCell ⟨t8, 0, none⟩ (.slice (some AC) (i + 1) cC)).setCell ⟨t8, 1, none⟩ (.slice (some AN) (i + 1) cN)) t8 t (i + 1) (.slice (some AC) (i + 1) cC) (.slice (some AN) (i + 1) cN) B2 D2 := by
  refine ⟨_, _, _, _, fun j => if j = i then R else B' j, fun j => if j = i then D else D' j, rfl, rfl, rfl, rfl, ?_⟩
  have OC : wr.ownsRow w.heap.size 30 1 (.slice AC i cC) i (rowsL B' i t.n) := own_move K.oc (fun q hq => BL.block q (own_lt K.oc q hq))
  have ON : wr.ownsRow w.heap.size 35 1 (.slice AN i cN) i (rowsL D' i t.n) := own_move K.on (fun q hq => BL.block q (own_lt K.on q hq))
  have keep : ∀ {g : Nat} {cs : Array Value} {ty : TypeId}, wr.heap[g]? = some (.cells cs ty (0, 0)) → ty ≠ 30 → ty ≠ 35 → w5.heap[g]? = some (.cells cs ty (0, 0)) := fun h h1 h2 => T.keep h (blk_apart h OC h1) (blk_apart h ON h2)
  have T8 := keep (blk_below K.t8 BL) (by decide) (by decide)
  have R6 := keep (blk_below K.r6 BL) (by decide) (by decide)
  have far : ∀ {g : Nat} {cs : Array Value} {ty : TypeId} (u v : Value), w5.heap[g]? = some (.cells cs ty (0, 0)) → g ≠ t8 → ((w5.setCell ⟨t8, 0, none⟩ u).setCell ⟨t8, 1, none⟩ v).heap[g]? = some (.cells cs ty (0, 0)) := fun u v h hne => blk_far (blk_far h hne u) hne v
  have o1 := T.o1
  have o2 := T.o2
  rw [rowsL_snoc] at o1 o2
  have hBR : ∀ j, j < i → B' j < wo.heap.size := fun j hj => blk_lt (K.ib j hj).2
  have hDR : ∀ j, j < i → D' j < wo.heap.size := fun j hj => blk_lt (K.bb j hj).2
  unfold IB at RK
  unfold BB at DK
  rw [cutI_full] at RK
  rw [cutB_full] at DK
  have big : w.heap.size ≤ wo.heap.size := K.below.size
  constructor
  · refine own_move o1 (fun q hq => ?_)
    obtain ⟨cs, hcs⟩ := own_typed o1 q hq
    rw [far _ _ hcs (ty_ne hcs T8 (by decide)), hcs]
  · refine own_move o2 (fun q hq => ?_)
    obtain ⟨cs, hcs⟩ := own_typed o2 q hq
    rw [far _ _ hcs (ty_ne hcs T8 (by decide)), hcs]
  · intro j hj
    by_cases hji : j = i
    · subst hji
      simp only [if_true]
      have r := keep RK (by decide) (by decide)
      exact ⟨by omega, far _ _ r (ty_ne r T8 (by decide))⟩
    · simp only [if_neg hji]
      have hj' : j < i := by omega
      have r := keep (blk_below (K.ib j hj').2 BL) (by decide) (by decide)
      exact ⟨(K.ib j hj').1, far _ _ r (ty_ne r T8 (by decide))⟩
  · intro j hj
    by_cases hji : j = i
    · subst hji
      simp only [if_true]
      have r := keep DK (by decide) (by decide)
      exact ⟨by omega, far _ _ r (ty_ne r T8 (by decide))⟩
    · simp only [if_neg hji]
      have hj' : j < i := by omega
      have r := keep (blk_below (K.bb j hj').2 BL) (by decide) (by decide)
      exact ⟨(K.bb j hj').1, far _ _ r (ty_ne r T8 (by decide))⟩
  · intro j l hj hl
    by_cases h1 : j = i
    · by_cases h2 : l = i
      · intro _; omega
      · simp only [if_pos h1, if_neg h2]
        intro e
        have := hBR l (by omega)
        omega
    · by_cases h2 : l = i
      · simp only [if_neg h1, if_pos h2]
        intro e
        have := hBR j (by omega)
        omega
      · simp only [if_neg h1, if_neg h2]
        exact K.injB j l (by omega) (by omega)
  · intro j l hj hl
    by_cases h1 : j = i
    · by_cases h2 : l = i
      · intro _; omega
      · simp only [if_pos h1, if_neg h2]
        intro e
        have := hDR l (by omega)
        omega
    · by_cases h2 : l = i
      · simp only [if_neg h1, if_pos h2]
        intro e
        have := hDR j (by omega)
        omega
      · simp only [if_neg h1, if_neg h2]
        exact K.injD j l (by omega) (by omega)
  · exact blk_put (blk_put T8 0 _ rfl) 1 _ rfl
  · exact far _ _ R6 ht8.symm
  · have BR : Below w.heap.size w wr := K.below.trans (BL.mono big)
    have B5 : Below w.heap.size w w5 := BR.trans ⟨T.c.os, T.c.tape, T.c.output, T.c.size, fun q hq => T.c.block q (by have := BR.size; omega) (fun e => by
      rcases e with e | e
      · have := (own_base OC q e.symm); omega
      · have := (own_base ON q e.symm); omega)⟩
    exact (B5.setCell h8 _).setCell h8 _

theorem own_cap {w : World} {base n m c size : Nat} {e : TypeId} {A : Option Addr} {xs : List Value} (h : w.ownsRow base e size (.slice A n c) m xs) : m ≤ c := by
  rcases h.2 with ⟨_, h0⟩ | ⟨g, cap, cur, hv, _, _, hn, _⟩
  · omega
  · injection hv with _ _ e3
    omega
theorem mk_end {w wr : World} {t8 : Nat} {t : Tb} {cC cN : Nat} {AC AN : Option Addr} {B' D' : Nat → Nat} (K : Mk w wr t8 t t.n (.slice AC t.n cC) (.slice AN t.n cN) B' D') (u v : Value) :
    TabO ((wr.setCell ⟨w.heap.size, 0, none⟩ u).setCell ⟨w.heap.size, 1, none⟩ v) w.heap.size AC AN t B' D' ∧ Below w.heap.size w ((wr.setCell ⟨w.heap.size, 0, none⟩ u).setCell ⟨w.heap.size, 1, none⟩ v) ∧ t.n ≤ cC ∧ t.n ≤ cN := by
  have far : ∀ {g : Nat} {cs : Array Value} {ty : TypeId}, wr.heap[g]? = some (.cells cs ty (0, 0)) → ty ≠ 27 → ((wr.setCell ⟨w.heap.size, 0, none⟩ u).setCell ⟨w.heap.size, 1, none⟩ v).heap[g]? = some (.cells cs ty (0, 0)) := fun h hne => blk_far (blk_far h (ty_ne h K.r6 hne) u) (ty_ne h K.r6 hne) v
  refine ⟨⟨fun hn => ?_, fun hn => ?_, fun i hi => ⟨(K.ib i hi).1, far (K.ib i hi).2 (by decide)⟩, fun i hi => ⟨(K.bb i hi).1, far (K.bb i hi).2 (by decide)⟩, K.injB, K.injD⟩, (K.below.setCell (Nat.le_refl _) _).setCell (Nat.le_refl _) _, own_cap K.oc, own_cap K.on⟩
  · obtain ⟨g, cap, e, hb, _⟩ := K.oc.form hn
    injection e with e1 e2 e3
    subst e1
    obtain ⟨cs, hcs⟩ := own_typed K.oc g rfl
    refine ⟨g, cs, rfl, hb, far hcs (by decide), fun i hi => ?_⟩
    have := K.oc.cells (g := g) rfl i (.slice (some ⟨B' i, 0, none⟩) t.n t.n) (by unfold rowsL; simp [hi])
    have hadd : (⟨g, 0, none⟩ : Addr).add i = ⟨g, i, none⟩ := by unfold Addr.add; split <;> simp_all
    rw [hadd, blk_cell hcs] at this
    exact this
  · obtain ⟨g, cap, e, hb, _⟩ := K.on.form hn
    injection e with e1 e2 e3
    subst e1
    obtain ⟨cs, hcs⟩ := own_typed K.on g rfl
    refine ⟨g, cs, rfl, hb, far hcs (by decide), fun i hi => ?_⟩
    have := K.on.cells (g := g) rfl i (.slice (some ⟨D' i, 0, none⟩) t.n t.n) (by unfold rowsL; simp [hi])
    have hadd : (⟨g, 0, none⟩ : Addr).add i = ⟨g, i, none⟩ := by unfold Addr.add; split <;> simp_all
    rw [hadd, blk_cell hcs] at this
    exact this
end Go.Proofs.Ytelabmhhnpfegaa.Hand
