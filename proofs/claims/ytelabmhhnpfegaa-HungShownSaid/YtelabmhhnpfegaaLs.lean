/- The law's signs of life: walked. Without conditions. -/
import Derived.Test.YtelabmhhnpfegaaLw
namespace Go.Proofs.Ytelabmhhnpfegaa.Hand
open Go.RowKit Go.Proofs.YtelabmhhnpfegaaW.PrintWords Go.Proofs.YtelabmhhnpfegaaW.PrintLast Go.Proofs.YtelabmhhnpfegaaW.PrintMore
def wt : Tb := ⟨2, fun i k => if i = 0 then (if k = 0 then 4 else 1) else (if k = 0 then 2 else 0), fun _ _ => false⟩
theorem two_cases {i : Nat} (h : i < 2) : i = 0 ∨ i = 1 := by omega
theorem blk_at {w : World} {g : Nat} {cs : Array Value} {t : TypeId} (h : w.heap[g]? = some (.cells cs t (0, 0))) {i : Nat} {v : Value} (hi : cs[i]? = some v) : w.cell? ((⟨g, 0, none⟩ : Addr).add i) = some v := by
  have hadd : (⟨g, 0, none⟩ : Addr).add i = ⟨g, i, none⟩ := by unfold Addr.add; split <;> simp_all
  rw [hadd, blk_cell h, hi]
theorem wt_tab {W : World} {s : Nat} {s1 s2 s3 s4 s5 : Nat} (h0 : W.heap[s]? = some (.cells #[.int .i64 4, .int .i64 1] 2 (0, 0))) (h1 : W.heap[s1]? = some (.cells #[.int .i64 2, .int .i64 0] 2 (0, 0)))
    (h2 : W.heap[s2]? = some (.cells #[.slice (some ⟨s, 0, none⟩) 2 2, .slice (some ⟨s1, 0, none⟩) 2 2] 30 (0, 0))) (h3 : W.heap[s3]? = some (.cells #[.bool false, .bool false] 4 (0, 0))) (h4 : W.heap[s4]? = some (.cells #[.bool false, .bool false] 4 (0, 0)))
    (h5 : W.heap[s5]? = some (.cells #[.slice (some ⟨s3, 0, none⟩) 2 2, .slice (some ⟨s4, 0, none⟩) 2 2] 35 (0, 0))) : TabR W (some ⟨s2, 0, none⟩) (some ⟨s5, 0, none⟩) wt := by
  constructor
  · intro i hi
    rcases two_cases hi with rfl | rfl
    · refine ⟨_, ⟨s, 0, none⟩, 2, rfl, blk_at h2 rfl, fun k hk => ?_⟩
      rcases two_cases hk with rfl | rfl
      · exact blk_at h0 rfl
      · exact blk_at h0 rfl
    · refine ⟨_, ⟨s1, 0, none⟩, 2, rfl, blk_at h2 rfl, fun k hk => ?_⟩
      rcases two_cases hk with rfl | rfl
      · exact blk_at h1 rfl
      · exact blk_at h1 rfl
  · intro i hi
    rcases two_cases hi with rfl | rfl
    · refine ⟨_, ⟨s3, 0, none⟩, 2, rfl, blk_at h5 rfl, fun k hk => ?_⟩
      rcases two_cases hk with rfl | rfl
      · exact blk_at h3 rfl
      · exact blk_at h3 rfl
    · refine ⟨_, ⟨s4, 0, none⟩, 2, rfl, blk_at h5 rfl, fun k hk => ?_⟩
      rcases two_cases hk with rfl | rfl
      · exact blk_at h4 rfl
      · exact blk_at h4 rfl
theorem wt_ok : TbOk wt := ⟨by decide, fun i k hi hk => by
  rcases two_cases hi with rfl | rfl <;> rcases two_cases hk with rfl | rfl <;> simp [wt]⟩
theorem wt_swap : PM wt.n wt.no (fun i => 1 - i) := ⟨⟨fun i hi => by show 1 - i < 2; omega, fun i j hi hj e => by
  have hi' : i < 2 := hi
  have hj' : j < 2 := hj
  have e' : 1 - i = 1 - j := e
  omega⟩, fun _ _ => rfl⟩
theorem wt_told {σ : Nat → Nat} (h : PM wt.n wt.no σ) (hl : ∀ τ, PM wt.n wt.no τ → cost wt.n wt.c σ ≤ cost wt.n wt.c τ) : cost wt.n wt.c σ = 3 ∧ σ 0 = 1 ∧ σ 1 = 0 := by
  have h3 := hl _ wt_swap
  have e3 : cost wt.n wt.c (fun i => 1 - i) = 3 := by decide
  rw [e3] at h3
  have a0 : σ 0 < 2 := h.inj.lt 0 (by decide)
  have a1 : σ 1 < 2 := h.inj.lt 1 (by decide)
  have ne : σ 0 ≠ σ 1 := fun e => by
    have := h.inj.inj 0 1 (by decide) (by decide) e
    omega
  have ec : cost wt.n wt.c σ = wt.c 0 (σ 0) + wt.c 1 (σ 1) := by simp [cost, sumTo, wt, List.range_succ]
  rcases two_cases a0 with e0 | e0
  · rw [ec, e0, show σ 1 = 1 by omega] at h3
    simp [wt] at h3
  · rw [ec, e0, show σ 1 = 0 by omega]
    simp [wt]
set_option maxHeartbeats 1000000 in
set_option maxRecDepth 100000 in
theorem wakes_any (w : World) : Calls Try.prog 14 #[] w fun e w' => e = .returned (.bool true) ∧ Below w.heap.size w w' := by
  have hu := Try.underlying27
  have hu2 := Try.underlying32
  go_enter Try.func14, Try.ntmps14
  go_wp2_with fail
  refine (solve_any _ _ _ 2 2 wt (wt_tab (s := w.heap.size) (s1 := w.heap.size + 1) (s3 := w.heap.size + 1 + 1 + 1) (s4 := w.heap.size + 1 + 1 + 1 + 1) ?_ ?_ ?_ ?_ ?_ ?_) wt_ok).mono ?_
  case refine_7 =>
    rintro _ w1 ⟨m, okv, rfl, T⟩
    have B0 : Aside0 (Below w.heap.size w w1) := ⟨by
      obtain ⟨ok, _, T⟩ := T.out
      exact (below_alloc (below_alloc (below_alloc (below_alloc (below_alloc (below_alloc (Below.refl _ _) _) _) _) _) _) _).trans (T.below.mono (by simp; omega))⟩
    obtain ⟨⟨ok, rfl, T⟩⟩ := T
    cases ok with
    | false => exact absurd wt_swap ((T.no rfl).2 _)
    | true =>
      obtain ⟨σ, u, v, of, C, r, c, rfl, D, i1, _, _⟩ := T.yes rfl
      obtain ⟨e3, e1, e0⟩ := wt_told D.pm (by
        exact D.least.2)
      rw [e3]
      have I1 := Aside0.mk i1
      have c0 : w1.cell? ⟨C, 0, none⟩ = some (.int .i64 1) := by rw [i1.c (i := 0) (by decide), e1]; rfl
      have c1 : w1.cell? ⟨C, 1, none⟩ = some (.int .i64 0) := by rw [i1.c (i := 1) (by decide), e0]; rfl
      have hn : wt.n = 2 := rfl
      have hC : C ≠ w1.heap.size := Nat.ne_of_lt (blk_lt i1)
      have hC2 : C < w1.heap.size := blk_lt i1
      rw [hn]
      clear T D i1 e3 e1 e0 hn
      go_wp2_with fail
      go_ret
      exact ⟨rfl, below_alloc B0.out _⟩
  all_goals
    simp only [al_get, al_size]
    repeat (first | rw [if_pos trivial] | rw [if_neg (by omega)])
end Go.Proofs.Ytelabmhhnpfegaa.Hand
/- Square tables of one's own: what is kept of them when one of their numbers is turned. Without conditions. -/
namespace Go.Proofs.Ytelabmhhnpfegaa.Hand
open Go.RowKit Go.Proofs.YtelabmhhnpfegaaW.PrintWords Go.Proofs.YtelabmhhnpfegaaW.PrintLast Go.Proofs.YtelabmhhnpfegaaW.PrintMore
def upd2 {α : Type} (c : Nat → Nat → α) (a b : Nat) (x : α) : Nat → Nat → α := fun i => if i = a then upd (c i) b x else c i
/-- A square table in blocks of one's own, from lo on and below hi. -/
structure Sq (W : World) (lo hi : Nat) (AC AN : Option Addr) (n : Nat) (c : Nat → Nat → Int) (no : Nat → Nat → Bool) (B D : Nat → Nat) : Prop where
  oc : 0 < n → ∃ gC cs, AC = some ⟨gC, 0, none⟩ ∧ (lo ≤ gC ∧ gC < hi) ∧ W.heap[gC]? = some (.cells cs 30 (0, 0)) ∧ ∀ i, i < n → cs[i]? = some (.slice (some ⟨B i, 0, none⟩) n n)
  on : 0 < n → ∃ gN cs, AN = some ⟨gN, 0, none⟩ ∧ (lo ≤ gN ∧ gN < hi) ∧ W.heap[gN]? = some (.cells cs 35 (0, 0)) ∧ ∀ i, i < n → cs[i]? = some (.slice (some ⟨D i, 0, none⟩) n n)
  ib : ∀ i, i < n → (lo ≤ B i ∧ B i < hi) ∧ IB W (B i) 2 n (c i)
  bb : ∀ i, i < n → (lo ≤ D i ∧ D i < hi) ∧ BB W (D i) n (no i)
  injB : ∀ i j, i < n → j < n → B i = B j → i = j
  injD : ∀ i j, i < n → j < n → D i = D j → i = j
theorem TabO.sq {W : World} {base : Nat} {AC AN : Option Addr} {t : Tb} {B D : Nat → Nat} (h : TabO W base AC AN t B D) : Sq W base W.heap.size AC AN t.n t.c t.no B D :=
  ⟨fun hn => by
    obtain ⟨g, cs, e, hb, hg, hc⟩ := h.oc hn
    exact ⟨g, cs, e, ⟨hb, blk_lt hg⟩, hg, hc⟩, fun hn => by
    obtain ⟨g, cs, e, hb, hg, hc⟩ := h.on hn
    exact ⟨g, cs, e, ⟨hb, blk_lt hg⟩, hg, hc⟩, fun i hi => ⟨⟨(h.ib i hi).1, blk_lt (h.ib i hi).2⟩, (h.ib i hi).2⟩, fun i hi => ⟨⟨(h.bb i hi).1, blk_lt (h.bb i hi).2⟩, (h.bb i hi).2⟩, h.injB, h.injD⟩
namespace Sq
variable {W W1 : World} {lo hi : Nat} {AC AN : Option Addr} {n : Nat} {c : Nat → Nat → Int} {no : Nat → Nat → Bool} {B D : Nat → Nat}
theorem move (h : Sq W lo hi AC AN n c no B D) (hm : ∀ k, lo ≤ k → k < hi → W1.heap[k]? = W.heap[k]?) : Sq W1 lo hi AC AN n c no B D :=
  ⟨fun hn => by
    obtain ⟨g, cs, e, hb, hg, hc⟩ := h.oc hn
    exact ⟨g, cs, e, hb, (hm g hb.1 hb.2).trans hg, hc⟩, fun hn => by
    obtain ⟨g, cs, e, hb, hg, hc⟩ := h.on hn
    exact ⟨g, cs, e, hb, (hm g hb.1 hb.2).trans hg, hc⟩, fun i hi => ⟨(h.ib i hi).1, (hm _ (h.ib i hi).1.1 (h.ib i hi).1.2).trans (h.ib i hi).2⟩, fun i hi => ⟨(h.bb i hi).1, (hm _ (h.bb i hi).1.1 (h.bb i hi).1.2).trans (h.bb i hi).2⟩, h.injB, h.injD⟩
theorem below (h : Sq W lo hi AC AN n c no B D) {l : Nat} (hb : Below l W W1) (hl : hi ≤ l) : Sq W1 lo hi AC AN n c no B D :=
  h.move (fun k _ hk => hb.block k (by omega))
theorem far (h : Sq W lo hi AC AN n c no B D) {p : Addr} (hp : p.block < lo ∨ hi ≤ p.block) (u : Value) : Sq (W.setCell p u) lo hi AC AN n c no B D :=
  h.move (fun k h1 h2 => Below.heap_setCell _ _ _ _ (by omega))
theorem drew (h : Sq W lo hi AC AN n c no B D) : Sq W.drew lo hi AC AN n c no B D := h.move (fun _ _ _ => rfl)
theorem alloc (h : Sq W lo hi AC AN n c no B D) (hh : hi ≤ W.heap.size) (o : Obj) : Sq (W.alloc o) lo hi AC AN n c no B D :=
  h.move (fun k _ h2 => Below.heap_alloc W o k (by omega))
theorem congr (h : Sq W lo hi AC AN n c no B D) {c' : Nat → Nat → Int} {no' : Nat → Nat → Bool} (hc : ∀ a b, a < n → b < n → c a b = c' a b) (hn : ∀ a b, a < n → b < n → no a b = no' a b) : Sq W lo hi AC AN n c' no' B D :=
  ⟨h.oc, h.on, fun i hi => ⟨(h.ib i hi).1, by
    have := (h.ib i hi).2
    unfold IB at this ⊢
    rw [this, tabI_congr (fun b hb => hc i b hi hb)]⟩, fun i hi => ⟨(h.bb i hi).1, by
    have := (h.bb i hi).2
    unfold BB at this ⊢
    rw [this, tabB_congr (fun b hb => hn i b hi hb)]⟩, h.injB, h.injD⟩
theorem neBD (h : Sq W lo hi AC AN n c no B D) {a b : Nat} (ha : a < n) (hb : b < n) : B a ≠ D b := by
  have h1 := (h.ib a ha).2
  have h2 := (h.bb b hb).2
  unfold IB at h1
  unfold BB at h2
  exact ty_ne h1 h2 (by decide)
theorem setC (h : Sq W lo hi AC AN n c no B D) {a : Nat} (ha : a < n) (b : Nat) (x : Int) : Sq (W.setCell ⟨B a, b, none⟩ (.int .i64 x)) lo hi AC AN n (upd2 c a b x) no B D := by
  have hB := (h.ib a ha).2
  unfold IB at hB
  refine ⟨fun hn => ?_, fun hn => ?_, fun i hi => ⟨(h.ib i hi).1, ?_⟩, fun i hi => ⟨(h.bb i hi).1, ?_⟩, h.injB, h.injD⟩
  · obtain ⟨g, cs, e, hb, hg, hc⟩ := h.oc hn
    exact ⟨g, cs, e, hb, blk_far hg (ty_ne hg hB (by decide)) _, hc⟩
  · obtain ⟨g, cs, e, hb, hg, hc⟩ := h.on hn
    exact ⟨g, cs, e, hb, blk_far hg (ty_ne hg hB (by decide)) _, hc⟩
  · by_cases hia : i = a
    · subst hia
      have := (h.ib i hi).2.set b x
      unfold upd2
      rw [if_pos rfl]
      exact this
    · have h1 := (h.ib i hi).2
      unfold upd2
      rw [if_neg hia]
      unfold IB at h1 ⊢
      exact blk_far h1 (fun e => hia (h.injB i a hi ha e)) _
  · have h1 := (h.bb i hi).2
    unfold BB at h1 ⊢
    exact blk_far h1 (ty_ne h1 hB (by decide)) _
theorem setN (h : Sq W lo hi AC AN n c no B D) {a : Nat} (ha : a < n) (b : Nat) (x : Bool) : Sq (W.setCell ⟨D a, b, none⟩ (.bool x)) lo hi AC AN n c (upd2 no a b x) B D := by
  have hB := (h.bb a ha).2
  unfold BB at hB
  refine ⟨fun hn => ?_, fun hn => ?_, fun i hi => ⟨(h.ib i hi).1, ?_⟩, fun i hi => ⟨(h.bb i hi).1, ?_⟩, h.injB, h.injD⟩
  · obtain ⟨g, cs, e, hb, hg, hc⟩ := h.oc hn
    exact ⟨g, cs, e, hb, blk_far hg (ty_ne hg hB (by decide)) _, hc⟩
  · obtain ⟨g, cs, e, hb, hg, hc⟩ := h.on hn
    exact ⟨g, cs, e, hb, blk_far hg (ty_ne hg hB (by decide)) _, hc⟩
  · have h1 := (h.ib i hi).2
    unfold IB at h1 ⊢
    exact blk_far h1 (ty_ne h1 hB (by decide)) _
  · by_cases hia : i = a
    · subst hia
      have := (h.bb i hi).2.set b x
      unfold upd2
      rw [if_pos rfl]
      exact this
    · have h1 := (h.bb i hi).2
      unfold upd2
      rw [if_neg hia]
      unfold BB at h1 ⊢
      exact blk_far h1 (fun e => hia (h.injD i a hi ha e)) _
theorem rowC (h : Sq W lo hi AC AN n c no B D) {i : Nat} (hi' : i < n) : ∃ g, AC = some ⟨g, 0, none⟩ ∧ W.cell? ⟨g, i, none⟩ = some (.slice (some ⟨B i, 0, none⟩) n n) := by
  obtain ⟨g, cs, e, hb, hg, hc⟩ := h.oc (by omega)
  exact ⟨g, e, (blk_cell hg i).trans (hc i hi')⟩
theorem rowN (h : Sq W lo hi AC AN n c no B D) {i : Nat} (hi' : i < n) : ∃ g, AN = some ⟨g, 0, none⟩ ∧ W.cell? ⟨g, i, none⟩ = some (.slice (some ⟨D i, 0, none⟩) n n) := by
  obtain ⟨g, cs, e, hb, hg, hc⟩ := h.on (by omega)
  exact ⟨g, e, (blk_cell hg i).trans (hc i hi')⟩
theorem tabR (h : Sq W lo hi AC AN n c no B D) : TabR W AC AN ⟨n, c, no⟩ := by
  constructor
  · intro i hi
    obtain ⟨g, cs, e, hb, hg, hc⟩ := h.oc (Nat.lt_of_le_of_lt (Nat.zero_le _) hi)
    refine ⟨_, ⟨B i, 0, none⟩, n, e, ?_, fun k hk => ?_⟩
    · have hadd : (⟨g, 0, none⟩ : Addr).add i = ⟨g, i, none⟩ := by unfold Addr.add; split <;> simp_all
      rw [hadd, blk_cell hg, hc i hi]
    · have hadd : (⟨B i, 0, none⟩ : Addr).add k = ⟨B i, k, none⟩ := by unfold Addr.add; split <;> simp_all
      rw [hadd]
      exact (h.ib i hi).2.c hk
  · intro i hi
    obtain ⟨g, cs, e, hb, hg, hc⟩ := h.on (Nat.lt_of_le_of_lt (Nat.zero_le _) hi)
    refine ⟨_, ⟨D i, 0, none⟩, n, e, ?_, fun k hk => ?_⟩
    · have hadd : (⟨g, 0, none⟩ : Addr).add i = ⟨g, i, none⟩ := by unfold Addr.add; split <;> simp_all
      rw [hadd, blk_cell hg, hc i hi]
    · have hadd : (⟨D i, 0, none⟩ : Addr).add k = ⟨D i, k, none⟩ := by unfold Addr.add; split <;> simp_all
      rw [hadd]
      exact (h.bb i hi).2.c hk
end Sq
/-! The tables of HungMoved, half done. -/
def tF {α : Type} (c : Nat → Nat → α) (i k : Nat) : Nat → Nat → α := fun a b => if b < i ∨ b = i ∧ a < k then c b a else c a b
def mF (c : Nat → Nat → Int) (n : Nat) (m0 m1 : Int) (i k : Nat) : Nat → Nat → Int := fun a b => if a < i ∨ a = i ∧ b < k then c a b + (if a = 0 then m0 else 0) + (if b = n - 1 then m1 else 0) else c a b
theorem tF_zero {α : Type} (c : Nat → Nat → α) : tF c 0 0 = c := by
  funext a b
  exact if_neg (by omega)
theorem tF_next {α : Type} (c : Nat → Nat → α) (i k : Nat) : tF c i (k + 1) = upd2 (tF c i k) k i (c i k) := by
  funext a b
  unfold upd2 upd tF
  by_cases ha : a = k
  · subst ha
    rw [if_pos rfl]
    by_cases hb : b = i
    · subst hb
      rw [if_pos rfl, if_pos (by omega)]
    · rw [if_neg hb]
      by_cases hx : b < i
      · rw [if_pos (by omega), if_pos (by omega)]
      · rw [if_neg (by omega), if_neg (by omega)]
  · rw [if_neg ha]
    by_cases hx : b < i ∨ b = i ∧ a < k
    · rw [if_pos (by omega), if_pos hx]
    · rw [if_neg (by omega), if_neg hx]
theorem tF_row {α : Type} (c : Nat → Nat → α) {n a b : Nat} (i : Nat) (ha : a < n) : tF c i n a b = tF c (i + 1) 0 a b := by
  unfold tF
  by_cases hx : b < i ∨ b = i ∧ a < n
  · rw [if_pos hx, if_pos (by omega)]
  · rw [if_neg hx, if_neg (by omega)]
theorem tF_full {α : Type} (c : Nat → Nat → α) {n a b : Nat} (hb : b < n) : tF c n 0 a b = c b a := if_pos (.inl hb)
theorem ite_iff {α : Type} {P Q : Prop} [Decidable P] [Decidable Q] {x y : α} (h : P ↔ Q) : (if P then x else y) = (if Q then x else y) := by
  by_cases hp : P
  · rw [if_pos hp, if_pos (h.1 hp)]
  · rw [if_neg hp, if_neg (fun q => hp (h.2 q))]
theorem mF_zero (c : Nat → Nat → Int) (n : Nat) (m0 m1 : Int) : mF c n m0 m1 0 0 = c := by
  funext a b
  exact if_neg (by omega)
theorem mF_at (c : Nat → Nat → Int) (n : Nat) (m0 m1 : Int) (i k : Nat) : mF c n m0 m1 i k i k = c i k := if_neg (by omega)
theorem mF_next (c : Nat → Nat → Int) (n : Nat) (m0 m1 : Int) (i k : Nat) : mF c n m0 m1 i (k + 1) = upd2 (mF c n m0 m1 i k) i k (c i k + (if i = 0 then m0 else 0) + (if k = n - 1 then m1 else 0)) := by
  funext a b
  unfold upd2 upd
  by_cases ha : a = i
  · subst ha
    rw [if_pos rfl]
    by_cases hb : b = k
    · subst hb
      rw [if_pos rfl]
      exact if_pos (by omega)
    · rw [if_neg hb]
      exact ite_iff (by omega)
  · rw [if_neg ha]
    exact ite_iff (by omega)
theorem mF_row (c : Nat → Nat → Int) {n a b : Nat} (m0 m1 : Int) (i : Nat) (hb : b < n) : mF c n m0 m1 i n a b = mF c n m0 m1 (i + 1) 0 a b := by
  exact ite_iff (by omega)
theorem mF_full (c : Nat → Nat → Int) {n a b : Nat} (m0 m1 : Int) (ha : a < n) : mF c n m0 m1 n 0 a b = c a b + (if a = 0 then m0 else 0) + (if b = n - 1 then m1 else 0) := if_pos (.inl ha)
theorem upd2_upd2 {α : Type} (c : Nat → Nat → α) (a b : Nat) (x y : α) : upd2 (upd2 c a b x) a b y = upd2 c a b y := by
  funext i j
  unfold upd2 upd
  by_cases h1 : i = a
  · rw [if_pos h1, if_pos h1, if_pos h1]
    by_cases h2 : j = b
    · rw [if_pos h2, if_pos h2]
    · rw [if_neg h2, if_neg h2, if_neg h2]
  · rw [if_neg h1, if_neg h1, if_neg h1]
theorem upd2_at {α : Type} (c : Nat → Nat → α) (a b : Nat) (x : α) : upd2 c a b x a b = x := by
  unfold upd2 upd
  rw [if_pos rfl, if_pos rfl]
theorem upd2_self {α : Type} (c : Nat → Nat → α) (a b : Nat) : upd2 c a b (c a b) = c := by
  funext i j
  unfold upd2 upd
  by_cases h1 : i = a
  · subst h1
    rw [if_pos rfl]
    by_cases h2 : j = b
    · subst h2
      rw [if_pos rfl]
    · rw [if_neg h2]
  · rw [if_neg h1]
end Go.Proofs.Ytelabmhhnpfegaa.Hand
