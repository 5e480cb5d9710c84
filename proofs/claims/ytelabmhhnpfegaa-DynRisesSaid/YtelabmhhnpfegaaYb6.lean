/- Texts Qi Qb Qj Qk Ql Qm Qn, cut to what is used. -/
import Derived.Deep.RegionHeld3
import Derived.StillTailTactics
import Derived.Test.YtelabmhhnpfegaaYa0
import Derived.Test.YtelabmhhnpfegaaYb2
import Derived.Test.YtelabmhhnpfegaaYb5
set_option linter.unusedVariables false
set_option linter.unusedSimpArgs false
section
namespace Go.Proofs.Ytelabmhhnpfegaa.Hand
open Go.RowKit Go.Proofs.YtelabmhhnpfegaaW.PrintWords Go.Proofs.YtelabmhhnpfegaaW.PrintLast Go.Proofs.YtelabmhhnpfegaaW.PrintMore Go.Proofs.Ytelabmhhnpfegaa.PDynCells
def worthP (a b c d : Int) : Int := if b = 0 then (if d = 0 then 0 else -1) else if d = 0 then 1 else -(cmpU (a * d) (c * b))
theorem cmpU_in (p q : Int) : cmpU p q = -1 ∨ cmpU p q = 0 ∨ cmpU p q = 1 := by
 unfold cmpU
 split
 ·exact .inl rfl
 ·split
  ·exact .inr (.inr rfl)
  ·exact .inr (.inl rfl)
theorem compare_b (w : World) (a b z : Int) (hz : z = cmpP a b) : Calls Try.prog 140 #[.int .i64 a, .int .i64 b] w fun e w' => e = .returned (.int .i64 z) ∧ Below w.heap.size w w' :=
 (compare_any w a b z hz).mono fun _ _ h => ⟨h.1, by rw [← h.2]; exact Below.refl _ _⟩
theorem two_keep {W1 w' w'' : World} {a0 a1 b0 b1 : Addr} {v0 v1 u0 u1 : Value} (h0 : w'.cell? a0 = some v0) (h1 : w'.cell? a1 = some v1) (h2 : w'.cell? b0 = some u0) (h3 : w'.cell? b1 = some u1) (hB : Aside0 (Below W1.heap.size W1 w')) (e0 : a0.block < W1.heap.size) (e1 : a1.block < W1.heap.size) (e2 : b0.block < W1.heap.size) (e3 : b1.block < W1.heap.size) (hb : Below w'.heap.size w' w'') :
  w''.cell? a0 = some v0 ∧ w''.cell? a1 = some v1 ∧ w''.cell? b0 = some u0 ∧ w''.cell? b1 = some u1 ∧ Aside0 (Below W1.heap.size W1 w'') := by
 have hs := hB.out.size
 exact ⟨(hb.cell (by omega)).trans h0, (hb.cell (by omega)).trans h1, (hb.cell (by omega)).trans h2, (hb.cell (by omega)).trans h3, ⟨hB.out.trans (hb.mono hs)⟩⟩
set_option maxRecDepth 100000 in
set_option maxHeartbeats 2000000 in
theorem worth_any (w : World) (a b c d : Int) (z : Int) (hz : z = worthP a b c d) (ha : 0 ≤ a) (ha1 : a ≤ 2147483648) (hb : 0 ≤ b) (hb1 : b ≤ 2147483648) (hc : 0 ≤ c) (hc1 : c ≤ 2147483648) (hd : 0 ≤ d) (hd1 : d ≤ 2147483648) :
  Calls Try.prog 112 #[.agg #[.int .i64 a, .int .i64 b], .agg #[.int .i64 c, .int .i64 d]] w fun e w' => e = .returned (.int .i64 z) ∧ Below w.heap.size w w' := by
 have hu101 := Try.underlying101
 have X := Aside0.mk (fun w => cross_any a b c d _ _ rfl rfl ha ha1 hb hb1 hc hc1 hd hd1 w)
 clear ha ha1 hb hb1 hc hc1 hd hd1
 obtain ⟨y1, hy1⟩ : ∃ y : Int, y = if b = 0 then 0 else 1 := ⟨_, rfl⟩
 obtain ⟨y2, hy2⟩ : ∃ y : Int, y = if d = 0 then 0 else 1 := ⟨_, rfl⟩
 obtain ⟨y3, hy3⟩ : ∃ y : Int, y = cmpP y1 y2 := ⟨_, rfl⟩
 have C1 := Aside0.mk (fun w => class_any w a b y1 hy1)
 have C2 := Aside0.mk (fun w => class_any w c d y2 hy2)
 have C3 := Aside0.mk (fun w => compare_b w y1 y2 y3 hy3)
 have HY := Aside0.mk (And.intro hy1 (And.intro hy2 (And.intro hy3 hz)))
 clear hy1 hy2 hy3 hz
 go_enter Try.func112, Try.ntmps112
 go_upto_region 2 with fail
 obtain ⟨W1, hW1⟩ : ∃ W, W = (w.alloc (.cells #[.int .i64 a, .int .i64 b] 101)).alloc (.cells #[.int .i64 c, .int .i64 d] 101) := ⟨_, rfl⟩
 rw [← hW1]
 have B1 : Aside0 (Below w.heap.size w W1) := ⟨by rw [hW1]; exact below_alloc (below_alloc (Below.refl _ _) _) _⟩
 obtain ⟨p1, hp1⟩ : ∃ p, p = w.heap.size := ⟨_, rfl⟩
 have Q1 : W1.heap[p1]? = some (.cells #[.int .i64 a, .int .i64 b] 101 (0, 0)) := by rw [hW1, hp1]; simp only [al_get, al_size]; rw [if_neg (by omega), if_pos trivial]
 have Q2 : W1.heap[p1 + 1]? = some (.cells #[.int .i64 c, .int .i64 d] 101 (0, 0)) := by rw [hW1, hp1]; simp only [al_get, al_size]; rw [if_pos trivial]
 have S1 : p1 + 1 < W1.heap.size := by rw [hW1, hp1]; simp only [al_size]; omega
 have S0 : p1 < W1.heap.size := by omega
 rw [← hp1]
 clear hW1 hp1
 have z0 : W1.drew.cell? ⟨p1, 0, none⟩ = some (.int .i64 a) := (blk_cell Q1 0).trans rfl
 have z1 : W1.drew.cell? ⟨p1, 1, none⟩ = some (.int .i64 b) := (blk_cell Q1 1).trans rfl
 have z2 : W1.drew.cell? ⟨p1 + 1, 0, none⟩ = some (.int .i64 c) := (blk_cell Q2 0).trans rfl
 have z3 : W1.drew.cell? ⟨p1 + 1, 1, none⟩ = some (.int .i64 d) := (blk_cell Q2 1).trans rfl
 have hbb : Aside0 (Below W1.heap.size W1 W1.drew) := ⟨below_drew (Below.refl _ _)⟩
 clear Q1 Q2
 go_region_held3 (fun w' => w'.cell? ⟨p1, 0, none⟩ = some (.int .i64 a) ∧ w'.cell? ⟨p1, 1, none⟩ = some (.int .i64 b) ∧ w'.cell? ⟨p1 + 1, 0, none⟩ = some (.int .i64 c) ∧ w'.cell? ⟨p1 + 1, 1, none⟩ = some (.int .i64 d) ∧ Aside0 (Below W1.heap.size W1 w'))
  (first | exact ⟨z0, z1, z2, z3, hbb⟩ | (go_split_ands; exact two_keep (by assumption) (by assumption) (by assumption) (by assumption) (by assumption) S0 S0 S1 S1 hbq))
  (first
   | (go_at_call 139; (with_reducible refine (C1.out _).mono ?_); rintro e w' ⟨rfl, hbq⟩)
   | (go_at_call 139; (with_reducible refine (C2.out _).mono ?_); rintro e w' ⟨rfl, hbq⟩)
   | (go_at_call 140; refine (C3.out _).mono ?_; rintro e w' ⟨rfl, hbq⟩))
 clear z0 z1 z2 z3 hbb
 go_split_ands
 rename_i c0 c1 c2 c3 cB
 have BW : Aside0 (Below w.heap.size w w') := ⟨B1.out.trans (cB.out.mono B1.out.size)⟩
 clear hbq cB B1 C1 C2 C3 S0 S1
 obtain ⟨hy1, hy2, hy3, hz⟩ := HY.out
 clear HY
 by_cases hb0 : b = 0
 ·by_cases hd0 : d = 0
  ·subst hb0 hd0
   rw [if_pos rfl] at hy1 hy2
   rw [hy1, hy2] at hy3
   obtain rfl : y3 = 0 := hy3
   obtain rfl : z = 0 := hz
   clear hy1 hy2 X
   go_wp2_with fail
   go_ret
   exact ⟨rfl, BW.out⟩
  ·subst hb0
   have hz' : z = -1 := by rw [hz]; unfold worthP; rw [if_pos rfl, if_neg hd0]
   rw [if_pos rfl] at hy1
   rw [if_neg hd0] at hy2
   rw [hy1, hy2] at hy3
   obtain rfl : y3 = -1 := hy3
   clear hz
   subst hz'
   clear hy1 hy2 X
   go_wp2_with fail
   go_ret
   exact ⟨rfl, BW.out⟩
 ·have g : (b == 0) = false := by simpa using hb0
  by_cases hd0 : d = 0
  ·subst hd0
   have hz' : z = 1 := by rw [hz]; unfold worthP; rw [if_neg hb0, if_pos rfl]
   rw [if_pos rfl] at hy2
   rw [if_neg hb0] at hy1
   rw [hy1, hy2] at hy3
   obtain rfl : y3 = 1 := hy3
   clear hz
   subst hz'
   clear hy1 hy2 X hb0
   go_wp2_with fail
   go_ret
   exact ⟨rfl, BW.out⟩
  ·have hz' : z = -(cmpU (a * d) (c * b)) := by rw [hz]; unfold worthP; rw [if_neg hb0, if_neg hd0]
   rw [if_neg hd0] at hy2
   rw [if_neg hb0] at hy1
   rw [hy1, hy2] at hy3
   obtain rfl : y3 = 0 := hy3
   obtain ⟨u, hu⟩ : ∃ u, u = cmpU (a * d) (c * b) := ⟨_, rfl⟩
   have hi := cmpU_in (a * d) (c * b)
   rw [← hu] at hz' hi X
   clear hy1 hy2 hz hb0 hd0 hu
   have HZ := Aside0.mk hz'
   have hl : -1 ≤ u := by omega
   have hl2 : u ≤ 1 := by omega
   clear hz' hi
   go_wp2_with fail
   refine (X.out _).mono ?_
   rintro _ W3 ⟨rfl, B3'⟩
   have B3 := Aside0.mk (BW.out.trans (B3'.mono BW.out.size))
   clear B3' BW
   go_wp2_with fail
   go_ret
   exact ⟨by rw [HZ.out]; rfl, B3.out⟩
end Go.Proofs.Ytelabmhhnpfegaa.Hand
end
section
namespace Go.Proofs.Ytelabmhhnpfegaa.Hand
open Go.RowKit Go.Proofs.Ytelabmhhnpfegaa.PDynCells
def vOf (l : List S101) (k : Nat) : Int := (l.getD k z101).f0
def wOf (l : List S101) (k : Nat) : Int := (l.getD k z101).f1
def bt (m j : Nat) : Bool := decide (m / 2 ^ j % 2 = 1)
theorem m_vs (l : List S101) (m : Nat) : ∀ k, k ≤ l.length → mv (l.take k) m = vs (vOf l) (bt m) (List.range k) ∧ mw (l.take k) m = vs (wOf l) (bt m) (List.range k)
 | 0, _ => ⟨rfl, rfl⟩
 | k + 1, hk => by
  obtain ⟨i1, i2⟩ := m_vs l m k (by omega)
  have hlen : (l.take k).length = k := by rw [List.length_take]; omega
  have hd : ∀ f : Nat → Int, vs f (bt m) [k] = if m / 2 ^ k % 2 = 1 then f k else 0 := fun f => by
   rw [vs, vs, Int.add_zero]
   unfold bt
   by_cases h : m / 2 ^ k % 2 = 1
   ·rw [if_pos h, if_pos (decide_eq_true h)]
   ·rw [if_neg h, if_neg (by rw [decide_eq_false h]; decide)]
  rw [take_snoc (show k < l.length by omega) z101, mv_snoc, mw_snoc, hlen, List.range_succ, vs_app, vs_app, hd, hd, i1, i2]
  exact ⟨rfl, rfl⟩
theorem row_relx {m : Nat} {l : List S101} (hb : ∀ s ∈ l, 0 ≤ s.f1 ∧ s.f1 ≤ 2147483648) (hv : ∀ s ∈ l, 0 ≤ s.f0 ∧ s.f0 ≤ 2147483648) {o : List Nat} (hp : o.Perm (List.range l.length)) (ho : o.Pairwise fun a b => vOf l b * wOf l a ≤ vOf l a * wOf l b) {r : Nat} (hr : r < m) :
  (rowK m l l.length).getD r 0 ≤ relx (vOf l) (wOf l) o r 0 := by
 obtain ⟨mask, _, g2, g3⟩ := row_is (m := m) hb l.length (Nat.le_refl _) r hr
 obtain ⟨e1, e2⟩ := m_vs l mask l.length (Nat.le_refl _)
 rw [← g3, e1, ← vs_perm _ _ hp]
 rw [e2, ← vs_perm _ _ hp] at g2
 refine relx_ge (fun k => ?_) ho r _ g2 (by omega)
 unfold vOf
 rw [List.getD_eq_getElem?_getD]
 by_cases hk : k < l.length
 ·rw [List.getElem?_eq_getElem hk, Option.getD_some]
  exact (hv _ (List.getElem_mem hk)).1
 ·rw [List.getElem?_eq_none (by omega)]
  exact Int.le_refl _
theorem row_rises {m : Nat} {l : List S101} (hb : ∀ s ∈ l, 0 ≤ s.f1 ∧ s.f1 ≤ 2147483648) (hv : ∀ s ∈ l, 0 ≤ s.f0 ∧ s.f0 ≤ 2147483648) {a b : Nat} (hab : a ≤ b) (hm : b < m) : (rowK m l l.length).getD a 0 ≤ (rowK m l l.length).getD b 0 := by
 obtain ⟨mask, g1, g2, g3⟩ := row_is (m := m) hb l.length (Nat.le_refl _) a (by omega)
 rw [List.take_length] at g2 g3
 rw [← g3, ← front_eq hb hv hm]
 exact outF_ge (by omega) _ g1
end Go.Proofs.Ytelabmhhnpfegaa.Hand
end
section
namespace Go.Proofs.Ytelabmhhnpfegaa.Hand
open Go.RowKit Go.Proofs.YtelabmhhnpfegaaW.PrintWords Go.Proofs.YtelabmhhnpfegaaW.PrintLast Go.Proofs.YtelabmhhnpfegaaW.PrintMore Go.Proofs.Ytelabmhhnpfegaa.PDynCells
def wrtP (l : List S101) (i j : Nat) : Int := worthP (vOf l i) (wOf l i) (vOf l j) (wOf l j)
theorem wrtP_lt {l : List S101} (hw : ∀ k, 0 ≤ wOf l k) {i j : Nat} (h : wrtP l i j < 0) : leW (vOf l) (wOf l) i j := by
 have hi := cmpU_in (vOf l i * wOf l j) (vOf l j * wOf l i)
 have := hw j
 unfold wrtP worthP at h
 by_cases h1 : wOf l i = 0
 ·exact .inl h1
 ·rw [if_neg h1] at h
  by_cases h2 : wOf l j = 0
  ·rw [if_pos h2] at h
   omega
  ·rw [if_neg h2] at h
   unfold cmpU at h
   refine .inr ⟨by omega, ?_⟩
   split at h
   ·omega
   ·split at h <;> omega
theorem wrtP_ge {l : List S101} (hw : ∀ k, 0 ≤ wOf l k) {i j : Nat} (h : ¬ wrtP l i j < 0) : leW (vOf l) (wOf l) j i := by
 have := hw i
 unfold wrtP worthP at h
 by_cases h1 : wOf l j = 0
 ·exact .inl h1
 ·by_cases h2 : wOf l i = 0
  ·rw [if_pos h2, if_neg h1] at h
   omega
  ·rw [if_neg h2, if_neg h1] at h
   unfold cmpU at h
   refine .inr ⟨by omega, ?_⟩
   split at h
   ·omega
   ·split at h <;> omega
theorem rd_v (l : List S101) (k : Nat) : (rd_T101 l (k : Int)).f0 = vOf l k ∧ (rd_T101 l (k : Int)).f1 = wOf l k := by
 unfold rd_T101 vOf wOf
 rw [Int.toNat_natCast]
 exact ⟨rfl, rfl⟩
structure Good (l : List S101) : Prop where
 v : ∀ k, 0 ≤ vOf l k ∧ vOf l k ≤ 2147483648
 w : ∀ k, 0 ≤ wOf l k ∧ wOf l k ≤ 2147483648
set_option maxRecDepth 100000 in
set_option maxHeartbeats 2000000 in
theorem cmpf_any (w : World) (g o : Nat) (A : Option Addr) (n c : Nat) (l : List S101) (i j : Nat) (hp : w.cell? ⟨g, o, none⟩ = some (.slice A n c)) (hC : k101.C w A n l) (hi : i < n) (hj : j < n) (hG : Good l) :
  Calls Try.prog 111 #[.int .i64 (i : Int), .int .i64 (j : Int), .pointer (some ⟨g, o, none⟩)] w fun e w' => e = .returned (.int .i64 (wrtP l i j)) ∧ Below w.heap.size w w' := by
 have hu101 := Try.underlying101
 obtain ⟨ad, rfl, a0, a1⟩ := at_T101 hC (i : Int) (by omega) (by omega)
 obtain ⟨ad', e', b0, b1⟩ := at_T101 hC (j : Int) (by omega) (by omega)
 injection e' with e'
 subst e'
 obtain ⟨r1, r2⟩ := rd_v l i
 obtain ⟨r3, r4⟩ := rd_v l j
 rw [r1] at a0
 rw [r2] at a1
 rw [r3] at b0
 rw [r4] at b1
 rw [Int.toNat_natCast] at a0 a1 b0 b1
 have X := Aside0.mk (fun w => worth_any w (vOf l i) (wOf l i) (vOf l j) (wOf l j) (wrtP l i j) rfl (hG.v i).1 (hG.v i).2 (hG.w i).1 (hG.w i).2 (hG.v j).1 (hG.v j).2 (hG.w j).1 (hG.w j).2)
 obtain ⟨z, hz⟩ : ∃ z, z = wrtP l i j := ⟨_, rfl⟩
 rw [← hz] at X ⊢
 generalize vOf l i = v1 at *
 generalize wOf l i = v2 at *
 generalize vOf l j = v3 at *
 generalize wOf l j = v4 at *
 clear r1 r2 r3 r4 hz hG hC
 go_enter Try.func111, Try.ntmps111
 go_upto_region 1 with fail
 go_still_tail 8, (by kernel_rfl)
 change wpList _ _ _ _ _ w.drew
 have BW : Aside0 (Below w.heap.size w w.drew) := ⟨below_drew (Below.refl _ _)⟩
 generalize w.drew = w2 at *
 go_wp2_with (go_at_call 112; refine (X.out _).mono ?_; rintro _ W3 ⟨rfl, B3'⟩)
 have B3 := Aside0.mk (BW.out.trans (B3'.mono BW.out.size))
 clear B3'
 go_wp2
 go_ret
 exact ⟨rfl, B3.out⟩
end Go.Proofs.Ytelabmhhnpfegaa.Hand
end
section
namespace Go.Proofs.Ytelabmhhnpfegaa.Hand
open Go.RowKit Go.Proofs.YtelabmhhnpfegaaW.PrintWords Go.Proofs.YtelabmhhnpfegaaW.PrintLast Go.Proofs.YtelabmhhnpfegaaW.PrintMore Go.Proofs.Ytelabmhhnpfegaa.PDynCells
def cst (X : Nat → Nat) (k : Nat) : Int := ((X k : Nat) : Int)
theorem cst_swp (X : Nat → Nat) {j : Nat} (hj : 0 < j) : upd (upd (cst X) j (cst X (j - 1))) (j - 1) (cst X j) = cst (swp X j) := by
 funext k
 unfold upd cst swp
 by_cases h1 : k = j - 1
 ·rw [if_pos h1, if_neg (by omega), if_pos h1]
 ·rw [if_neg h1]
  by_cases h2 : k = j
  ·rw [if_pos h2, if_pos h2]
  ·rw [if_neg h2, if_neg h2, if_neg h1]
def PermX (X : Nat → Nat) (n : Nat) : Prop := ((List.range n).map X).Perm (List.range n)
theorem PermX.lt {X : Nat → Nat} {n k : Nat} (h : PermX X n) (hk : k < n) : X k < n :=
 List.mem_range.1 (h.mem_iff.1 (List.mem_map.2 ⟨k, List.mem_range.2 hk, rfl⟩))
theorem PermX.swp {X : Nat → Nat} {n j : Nat} (h : PermX X n) (h0 : 0 < j) (hj : j < n) : PermX (swp X j) n := (swp_perm X h0 hj).trans h
structure SrtW (w0 wr : World) (g p n : Nat) (A : Option Addr) (c : Nat) (X : Nat → Nat) : Prop where
 row : IB wr g 3 n (cst X)
 box : wr.heap[p]? = some (.cells #[.slice A n c] 51 (0, 0))
 low : Below w0.heap.size w0 wr
theorem SrtW.step {w0 wr w' : World} {g p n c : Nat} {A : Option Addr} {X : Nat → Nat} (h : SrtW w0 wr g p n A c X) (hb : Below wr.heap.size wr w') : SrtW w0 w' g p n A c X :=
 ⟨(hb.block g (Array.getElem?_eq_some_iff.1 h.row).1).trans h.row, (hb.block p (Array.getElem?_eq_some_iff.1 h.box).1).trans h.box, h.low.trans (hb.mono h.low.size)⟩
theorem SrtW.swap {w0 wr : World} {g p n c : Nat} {A : Option Addr} {X : Nat → Nat} (h : SrtW w0 wr g p n A c X) (hg : w0.heap.size ≤ g) {j : Nat} (hj : 0 < j) :
  SrtW w0 ((wr.setCell ⟨g, j, none⟩ (.int .i64 (cst X (j - 1)))).setCell ⟨g, j - 1, none⟩ (.int .i64 (cst X j))) g p n A c (swp X j) := by
 have hne : p ≠ g := ty_ne h.box h.row (by decide)
 have hr := h.row
 refine ⟨?_, ?_, (h.low.setCell hg _).setCell hg _⟩
 ·rw [← cst_swp X hj]
  exact (hr.set j _).set (j - 1) _
 ·rw [Below.heap_setCell _ _ _ _ (fun e => hne e), Below.heap_setCell _ _ _ _ (fun e => hne e)]
  exact h.box
set_option maxRecDepth 100000 in
set_option maxHeartbeats 4000000 in
theorem ins_any (w0 w : World) (g p n c : Nat) (A : Option Addr) (l : List S101) (X : Nat → Nat) (hS : SrtW w0 w g p n A c X) (hX : PermX X n) (hC : k101.C w0 A n l) (hn : n ≤ 64) (hg : w0.heap.size ≤ g) (hG : Good l) :
  Calls Try.prog 153 #[.slice (some ⟨g, 0, none⟩) n n, .int .i64 0, .int .i64 (n : Int), .func (.func 111) #[] #[.pointer (some ⟨p, 0, none⟩)]] w fun e w' => e = .returned (.tuple #[]) ∧ ∃ X', SrtW w0 w' g p n A c X' ∧ PermX X' n ∧ InO (vOf l) (wOf l) X' n := by
 have HS := Aside0.mk hS
 have HX := Aside0.mk hX
 have HC := Aside0.mk hC
 have HG := Aside0.mk hG
 have HGG := Aside0.mk hg
 clear hS hX hC hG hg
 go_enter Try.func153, Try.ntmps153
 go_wp2_with fail
 go_loopw [8, 9] (fun v8 v9 wr => ∃ (i : Nat) (Y : Nat → Nat), 1 ≤ i ∧ i ≤ n + 1 ∧ v8 = .int .i64 (i : Int) ∧ Aside0 (SrtW w0 wr g p n A c Y) ∧ Aside0 (PermX Y n) ∧ Aside0 (InO (vOf l) (wOf l) Y i)) (fun v8 _ _ => n + 1 - (intOf v8).toNat)
 case atStart => exact ⟨1, X, by omega, by omega, rfl, HS, HX, ⟨fun a b h1 h2 => by omega⟩⟩
 case round =>
  obtain ⟨i, Y, hi1, hi2, rfl, WS, PY, OY⟩ := hrel
  clear HS HX
  by_cases hlt : i < n
  ·go_wp2_with fail
   obtain ⟨wo, hwo⟩ : ∃ wo : World, wo = wr := ⟨_, rfl⟩
   go_loopw [9] (fun v9 wr => ∃ (j : Nat) (Y : Nat → Nat), j ≤ i ∧ v9 = .int .i64 (j : Int) ∧ Aside0 (SrtW w0 wr g p n A c Y) ∧ Aside0 (PermX Y n) ∧ Aside0 (Mid (vOf l) (wOf l) Y i j)) (fun v9 _ => (intOf v9).toNat)
   case atStart => exact ⟨i, Y, Nat.le_refl _, rfl, WS, PY, ⟨Mid.start OY.out⟩⟩
   case round =>
    clear WS PY OY
    obtain ⟨j, Z, hj, rfl, WZ, PZ, MZ⟩ := hrel
    by_cases h0 : j = 0
    ·subst h0
     go_wp2_with fail
     go_quiet (fail)
     rename_i nq
     have WN : Aside0 (SrtW w0 (wr.drewN nq) g p n A c Z) := ⟨WZ.out.step (pw_below_drewN (Below.refl _ _) nq)⟩
     go_wp2_with fail
     exact ⟨⟨i + 1, Z, by omega, by omega, by go_num, WN, PZ, ⟨MZ.out.done (fun k => (HG.out.v k).1) (fun k => (HG.out.w k).1) (.inl rfl)⟩⟩, by simp [intOf]; omega⟩
    ·have hj0 : 0 < j := by omega
     have hjn : j < n := by omega
     obtain ⟨q, hq⟩ : ∃ q, q = j - 1 := ⟨_, rfl⟩
     have HQ := Aside0.mk hq
     have c0 := WZ.out.row.c (i := j) (by omega)
     have c1 := WZ.out.row.c (i := q) (by omega)
     have hqn : q < n := by omega
     have wq : IntKind.i64.wrap ((j : Int) - 1) = (q : Int) := by rw [IntWalk.i64_in _ (by omega)]; omega
     clear hq
     go_wp2_with fail
     go_still_tail 14, (by kernel_rfl)
     change wpList _ _ _ _ _ wr.drew
     have WD : Aside0 (SrtW w0 wr.drew g p n A c Z) := ⟨WZ.out.step (below_drew (Below.refl _ _))⟩
     generalize wr.drew = wd at *
     have cb := WD.out.box
     have X := Aside0.mk (cmpf_any wd p 0 A n c l (Z j) (Z q) ((blk_cell cb 0).trans rfl) (Kd.C_below HC.out WD.out.low) (PZ.out.lt hjn) (PZ.out.lt hqn) HG.out)
     obtain ⟨z, hz⟩ : ∃ z, z = wrtP l (Z j) (Z q) := ⟨_, rfl⟩
     rw [← hz] at X
     have HZ := Aside0.mk hz
     clear hz cb
     clear c0 c1
     by_cases hlz : z < 0
     ·go_wp2_with (go_at_call 111; refine X.out.mono ?_; rintro _ W3 ⟨rfl, B3⟩)
      have W3' : Aside0 (SrtW w0 W3 g p n A c Z) := ⟨WD.out.step B3⟩
      have c0 := W3'.out.row.c (i := j) (by omega)
      have c1 := W3'.out.row.c (i := q) (by omega)
      have z0 := W3'.out.row.z j
      have z1 := W3'.out.row.z q
      obtain ⟨v', hy'⟩ := cell?_setCell_some (w := W3) (p := ⟨g, j, none⟩) (x := .int .i64 (cst Z q)) (q := ⟨g, q, none⟩) (v := .int .i64 (cst Z q)) c1
      clear B3
      go_region
      go_wp2_with fail
      have eq := HQ.out
      clear hy' c0 c1 z0 z1 wq
      rw [HZ.out] at hlz
      subst eq
      exact ⟨⟨j - 1, swp Z j, by omega, rfl, ⟨(W3'.out.swap HGG.out hj0).step (below_drew (Below.refl _ _))⟩, ⟨PZ.out.swp hj0 hjn⟩, ⟨MZ.out.step hj0 (wrtP_lt (fun k => (HG.out.w k).1) hlz)⟩⟩, by simp [intOf]; omega⟩
     ·go_wp2_with (go_at_call 111; refine X.out.mono ?_; rintro _ W3 ⟨rfl, B3⟩)
      refine ⟨⟨i + 1, Z, by omega, by omega, by go_num, ⟨WD.out.step B3⟩, PZ, ⟨MZ.out.done (fun k => (HG.out.v k).1) (fun k => (HG.out.w k).1) (.inr ?_)⟩⟩, by simp [intOf]; omega⟩
      rw [← HQ.out]
      rw [HZ.out] at hlz
      exact wrtP_ge (fun k => (HG.out.w k).1) (by omega)
  ·go_wp2_with fail
   go_end0
   exact ⟨rfl, Y, WS.out, PY.out, fun a b h1 h2 => OY.out a b h1 (by omega)⟩
end Go.Proofs.Ytelabmhhnpfegaa.Hand
end
section
namespace Go.Proofs.Ytelabmhhnpfegaa.Hand
open Go.RowKit Go.Proofs.YtelabmhhnpfegaaW.PrintWords Go.Proofs.YtelabmhhnpfegaaW.PrintLast Go.Proofs.YtelabmhhnpfegaaW.PrintMore Go.Proofs.Ytelabmhhnpfegaa.PDynCells
set_option maxHeartbeats 2000000 in
theorem stable_any (w0 w : World) (g p n c : Nat) (A : Option Addr) (l : List S101) (X : Nat → Nat) (hS : SrtW w0 w g p n A c X) (hX : PermX X n) (hC : k101.C w0 A n l) (hn : n < 20) (hg : w0.heap.size ≤ g) (hG : Good l) :
  Calls Try.prog 110 #[.slice (some ⟨g, 0, none⟩) n n, .func (.func 111) #[] #[.pointer (some ⟨p, 0, none⟩)]] w fun e w' => e = .returned (.tuple #[]) ∧ ∃ X', SrtW w0 w' g p n A c X' ∧ PermX X' n ∧ InO (vOf l) (wOf l) X' n := by
 have H := Aside0.mk (ins_any w0 w g p n c A l X hS hX hC (by omega) hg hG)
 clear hS hX hC hg hG
 go_enter Try.func110, Try.ntmps110
 go_wp2_with fail
 have K : Aside0 (Calls Try.prog 138 #[.slice (some ⟨g, 0, none⟩) n n, .int .i64 (n : Int), .func (.func 111) #[] #[.pointer (some ⟨p, 0, none⟩)]] w fun e w' => e = .returned (.tuple #[]) ∧ ∃ X', SrtW w0 w' g p n A c X' ∧ PermX X' n ∧ InO (vOf l) (wOf l) X' n) := ⟨by
  go_enter Try.func138, Try.ntmps138
  go_wp2_with fail
  refine wp_loop_rounds 1 ?_
  rw [rounds_succ]
  go_wp2_with fail
  refine H.out.mono ?_
  rintro _ W1 ⟨rfl, R⟩
  have HR := Aside0.mk R
  clear R
  go_wp2_with fail
  refine wp_loop_rounds 1 ?_
  rw [rounds_succ]
  go_wp2_with fail
  go_end0
  exact ⟨rfl, HR.out⟩⟩
 refine K.out.mono ?_
 rintro _ W1 ⟨rfl, R⟩
 have HR := Aside0.mk R
 clear R
 go_wp2_with fail
 go_end0
 exact ⟨rfl, HR.out⟩
theorem Good.all {l : List S101} (h : ∀ s ∈ l, (0 ≤ s.f0 ∧ s.f0 ≤ 2147483648) ∧ 0 ≤ s.f1 ∧ s.f1 ≤ 2147483648) : Good l := by
 have key : ∀ k, (0 ≤ (l.getD k z101).f0 ∧ (l.getD k z101).f0 ≤ 2147483648) ∧ 0 ≤ (l.getD k z101).f1 ∧ (l.getD k z101).f1 ≤ 2147483648 := fun k => by
  rw [List.getD_eq_getElem?_getD]
  by_cases hk : k < l.length
  ·rw [List.getElem?_eq_getElem hk, Option.getD_some]
   exact h _ (List.getElem_mem hk)
  ·rw [List.getElem?_eq_none (by omega)]
   exact ⟨⟨by decide, by decide⟩, by decide, by decide⟩
 exact ⟨fun k => (key k).1, fun k => (key k).2⟩
def ordP (l : List S101) (n : Nat) (w : World) (e : Ending) (w' : World) : Prop := ∃ g X, e = .returned (.slice (some ⟨g, 0, none⟩) n n) ∧ IB w' g 3 n (cst X) ∧ PermX X n ∧ InO (vOf l) (wOf l) X n ∧ Below w.heap.size w w'
set_option maxHeartbeats 2000000 in
theorem korder_any (w : World) (A : Option Addr) (n c : Nat) (l : List S101) (hC : k101.C w A n l) (hn : n < 20) (hg : ∀ s ∈ l, (0 ≤ s.f0 ∧ s.f0 ≤ 2147483648) ∧ 0 ≤ s.f1 ∧ s.f1 ≤ 2147483648) :
  Calls Try.prog 67 #[.slice A n c] w (ordP l n w) := by
 have mk := mk29 n (by omega)
 have HC := Aside0.mk hC
 have HG := Aside0.mk hg
 clear hC hg
 go_enter Try.func67, Try.ntmps67
 go_upto_region 1 with fail
 obtain ⟨W0, hW0⟩ : ∃ W, W = w.alloc (.cells #[.slice A n c] 51) := ⟨_, rfl⟩
 rw [← hW0]
 obtain ⟨p, hp⟩ : ∃ p, p = w.heap.size := ⟨_, rfl⟩
 have B0 : Aside0 (Below w.heap.size w W0) := ⟨by rw [hW0]; exact below_alloc (Below.refl _ _) _⟩
 have Q0 : Aside0 (W0.heap[p]? = some (.cells #[.slice A n c] 51 (0, 0))) := ⟨by rw [hW0, hp]; exact heap_alloc_new _ _⟩
 have c0 : W0.cell? ⟨p, 0, none⟩ = some (.slice A n c) := (blk_cell Q0.out 0).trans rfl
 rw [← hp]
 clear hW0 hp
 go_wp2_with fail
 refine (kmay_any _ A n c l 0 (Kd.C_below HC.out B0.out) (by omega) HG.out (by omega) (by omega)).mono ?_
 rintro _ W1 ⟨rfl, B1⟩
 have Q1 : Aside0 (W1.heap[p]? = some (.cells #[.slice A n c] 51 (0, 0))) := ⟨(B1.block p (Array.getElem?_eq_some_iff.1 Q0.out).1).trans Q0.out⟩
 have BW : Aside0 (Below w.heap.size w W1) := ⟨B0.out.trans (B1.mono B0.out.size)⟩
 have c1 : W1.cell? ⟨p, 0, none⟩ = some (.slice A n c) := (blk_cell Q1.out 0).trans rfl
 clear c0 B1 B0 Q0
 go_wp2_with fail
 obtain ⟨g, hg⟩ : ∃ g, g = W1.heap.size := ⟨_, rfl⟩
 rw [← hg]
 obtain ⟨W2, hW2⟩ : ∃ W, W = W1.alloc (.cells (tabI n fun _ => 0) 3) := ⟨_, rfl⟩
 have HGG : Aside0 (w.heap.size ≤ g) := ⟨by rw [hg]; exact BW.out.size⟩
 have S2 : Aside0 (IB W2 g 3 n (fun _ => 0) ∧ W2.heap[p]? = some (.cells #[.slice A n c] 51 (0, 0)) ∧ Below w.heap.size w W2) := ⟨by
  refine ⟨?_, ?_, ?_⟩
  ·rw [hW2, hg]
   exact heap_alloc_new _ _
  ·have := (Array.getElem?_eq_some_iff.1 Q1.out).1
   rw [hW2, al_get, if_neg (by omega)]
   exact Q1.out
  ·rw [hW2]
   exact below_alloc BW.out _⟩
 rw [← hW2]
 clear hW2 hg c1 Q1 BW
 go_loopw [4, 13] (fun v4 v13 wr => ∃ (k : Nat) (f : Nat → Int), k ≤ n ∧ v13 = .int .i64 (k : Int) ∧ Aside0 (∀ i, i < k → f i = (i : Int)) ∧ Aside0 (IB wr g 3 n f ∧ wr.heap[p]? = some (.cells #[.slice A n c] 51 (0, 0)) ∧ Below w.heap.size w wr)) (fun _ v13 _ => n - (intOf v13).toNat)
 case atStart => exact ⟨0, _, Nat.zero_le _, rfl, ⟨fun i h => by omega⟩, S2⟩
 case round =>
  clear S2
  obtain ⟨k, f, hk, rfl, F, S⟩ := hrel
  by_cases hlt : k < n
  ·have c1 := S.out.1.c hlt
   have z1 := S.out.1.z k
   go_wp2_with fail
   go_roundw
   case measure => simp [intOf]; omega
   case rel =>
    refine ⟨k + 1, upd f k (k : Int), by omega, by go_num, ⟨fun i h => ?_⟩, ⟨S.out.1.set k _, ?_, S.out.2.2.setCell HGG.out _⟩⟩
    ·unfold upd
     by_cases e : i = k
     ·rw [if_pos e, e]
     ·rw [if_neg e]
      exact F.out i (by omega)
    ·rw [Below.heap_setCell _ _ _ _ (fun e => ty_ne S.out.2.1 S.out.1 (by decide) e)]
     exact S.out.2.1
  ·obtain rfl : k = n := by omega
   go_wp2_with fail
   have hrow : IB wr g 3 k (cst id) := by
    have e : tabI k f = tabI k (cst id) := tabI_congr (fun i h => F.out i h)
    have := S.out.1
    unfold IB at this ⊢
    rw [← e]
    exact this
   refine (stable_any w wr g p k c A l id ⟨hrow, S.out.2.1, S.out.2.2⟩ (by unfold PermX; rw [List.map_id]) HC.out (by omega) HGG.out (Good.all HG.out)).mono ?_
   rintro _ W3 ⟨rfl, R⟩
   have HR := Aside0.mk R
   clear R hrow
   go_wp2_with fail
   go_ret
   obtain ⟨X, h1, h2, h3⟩ := HR.out
   exact ⟨g, X, rfl, h1.row, h2, h3, h1.low⟩
end Go.Proofs.Ytelabmhhnpfegaa.Hand
end
section
namespace Go.Proofs.Ytelabmhhnpfegaa.Hand
open Go.RowKit Go.Proofs.YtelabmhhnpfegaaW.PrintWords Go.Proofs.YtelabmhhnpfegaaW.PrintLast Go.Proofs.YtelabmhhnpfegaaW.PrintMore Go.Proofs.Ytelabmhhnpfegaa.PDynCells
theorem short0_any (x : Int) (h0 : 0 ≤ x) (h : x ≤ 9223372036854775807) (w : World) : Calls Try.prog 119 #[.agg #[.bool false, .int .u64 0, .int .u64 x]] w fun e w' => e = .returned (.tuple #[.int .i64 x, .bool true]) ∧ Below w.heap.size w w' := by
 have := nshort_any x ⟨by omega, h⟩ w
 rw [decide_eq_false (by omega), ab_pos (by omega)] at this
 exact this
theorem size0_any (z : Int) (h0 : 0 ≤ z) (h : z ≤ 2147483648) (w : World) : Calls Try.prog 142 #[.int .i64 z] w fun e w' => e = .returned (.int .u64 z) ∧ w' = w := by
 have := size_any z ⟨by omega, by omega⟩ w
 rw [ab_pos (by omega)] at this
 exact this.mono fun _ _ h => ⟨h.1, h.2.symm⟩
theorem normal0_any (x : Int) (h0 : 0 ≤ x) (h : x < 18446744073709551616) (w : World) : Calls Try.prog 160 #[.agg #[.bool false, .int .u64 0, .int .u64 x]] w fun e w' => e = .returned (.agg #[.bool false, .int .u64 0, .int .u64 x]) ∧ Below w.heap.size w w' :=
 normal_any false x h0 h w
def gcdP (w : World) (e : Ending) (w' : World) : Prop := ∃ g : Int, 1 ≤ g ∧ g ≤ 2147483648 ∧ e = .returned (.tuple #[.int .i64 g, .bool true]) ∧ Below w.heap.size w w'
set_option maxHeartbeats 2000000 in
theorem gcd_any (a b : Int) (ha : 0 ≤ a) (ha1 : a ≤ 2147483648) (hb : 1 ≤ b) (hb1 : b ≤ 2147483648) (w : World) : Calls Try.prog 113 #[.int .i64 a, .int .i64 b] w (gcdP w) := by
 have S1 := Aside0.mk (size_any a ⟨by omega, by omega⟩)
 have S2 := Aside0.mk (size_any b ⟨by omega, by omega⟩)
 rw [ab_pos (show ¬ a < 0 by omega)] at S1
 rw [ab_pos (show ¬ b < 0 by omega)] at S2
 have hu := Try.underlying179
 have K0 : Aside0 (Below w.heap.size w w) := ⟨Below.refl _ _⟩
 go_enter Try.func113, Try.ntmps113
 go_wp2_with fail
 refine (S1.out _).mono ?_
 rintro _ _ ⟨rfl, rfl⟩
 go_wp2_with fail
 refine (S2.out _).mono ?_
 rintro _ _ ⟨rfl, rfl⟩
 go_wp2_with fail
 go_loopw [6, 7] (fun v6 v7 wr => ∃ x y : Int, 0 ≤ x ∧ x ≤ 2147483648 ∧ 0 ≤ y ∧ y ≤ 2147483648 ∧ 1 ≤ x + y ∧ v6 = .int .u64 x ∧ v7 = .int .u64 y ∧ Aside0 (Below w.heap.size w wr)) (fun _ v7 _ => (intOf v7).toNat)
 case atStart => exact ⟨a, b, ha, ha1, by omega, hb1, by omega, rfl, rfl, K0⟩
 case round =>
  clear K0 S1 S2 ha ha1 hb hb1
  obtain ⟨x, y, hx, hx1, hy, hy1, hxy, rfl, rfl, BW⟩ := hrel
  by_cases h0 : y = 0
  ·subst h0
   have HX := Aside0.mk (short0_any x hx (by omega))
   have h1x : 1 ≤ x := by omega
   go_wp2_with fail
   refine (HX.out _).mono ?_
   rintro _ W2 ⟨rfl, B2⟩
   have B3 := Aside0.mk (BW.out.trans (B2.mono BW.out.size))
   clear B2
   go_wp2_with fail
   go_ret2
   exact ⟨x, h1x, hx1, rfl, B3.out⟩
  ·have hne : (y != 0) = true := by simpa using h0
   have hm0 := Int.emod_nonneg x h0
   have hm1 := Int.emod_lt_of_pos x (show 0 < y by omega)
   go_wp2_with fail
   go_quiet (fail)
   rename_i nq
   go_wp2_with fail
   exact ⟨⟨y, x % y, hy, hy1, hm0, by omega, by omega, rfl, rfl, ⟨pw_below_drewN BW.out nq⟩⟩, by simp [intOf]; omega⟩
set_option maxHeartbeats 2000000 in
theorem divided_any (a b : Int) (ha : 0 ≤ a) (ha1 : a ≤ 2147483648) (hb : 1 ≤ b) (hb1 : b ≤ 2147483648) (w : World) : Calls Try.prog 158 #[.int .i64 a, .int .i64 b] w fun e w' => ∃ l : Bool, e = .returned (.tuple #[.agg #[.bool false, .int .u64 0, .int .u64 (a / b)], .bool l]) ∧ Below w.heap.size w w' := by
 have hu := Try.underlying179
 have g1 : decide (a < 0) = false := decide_eq_false (by omega)
 have g2 : decide (b < 0) = false := decide_eq_false (by omega)
 have g3 : (b != 0) = true := by
  have : b ≠ 0 := by omega
  simpa using this
 have hq0 : 0 ≤ a / b := Int.ediv_nonneg ha (by omega)
 have hq1 : a / b ≤ a := Int.ediv_le_self b ha
 have N := Aside0.mk (normal0_any (a / b) hq0 (by omega))
 go_enter Try.func158, Try.ntmps158
 go_upto_region 1 with fail
 go_quiet ((go_at_call 142; exact Calls.quiet_of_same (size0_any _ (by omega) (by omega) _)))
 rename_i nq
 obtain ⟨W1, hW1⟩ : ∃ W, W = (w.alloc (.cells #[.bool false, .int .u64 0, .int .u64 0] 179)).drewN nq := ⟨_, rfl⟩
 rw [← hW1]
 obtain ⟨p, hp⟩ : ∃ p, p = w.heap.size := ⟨_, rfl⟩
 have B1 : Aside0 (Below w.heap.size w W1) := ⟨by rw [hW1]; exact pw_below_drewN (below_alloc (Below.refl _ _) _) nq⟩
 have Q1 : Aside0 (W1.heap[p]? = some (.cells #[.bool false, .int .u64 0, .int .u64 0] 179 (0, 0))) := ⟨by rw [hW1, hp]; exact heap_alloc_new _ _⟩
 have HP : Aside0 (w.heap.size ≤ p) := ⟨by omega⟩
 rw [← hp]
 clear hW1 hp
 go_wp2_with fail
 refine (N.out _).mono ?_
 rintro _ W2 ⟨rfl, B2⟩
 have Q2 := (B2.block p (Array.getElem?_eq_some_iff.1 Q1.out).1).trans Q1.out
 have BW : Aside0 (Below w.heap.size w W2) := ⟨B1.out.trans (B2.mono B1.out.size)⟩
 have c0 : W2.cell? ⟨p, 0, none⟩ = some (.bool false) := (blk_cell Q2 0).trans rfl
 have c1 : W2.cell? ⟨p, 1, none⟩ = some (.int .u64 0) := (blk_cell Q2 1).trans rfl
 have c2 : W2.cell? ⟨p, 2, none⟩ = some (.int .u64 0) := (blk_cell Q2 2).trans rfl
 have z0 : ∀ j, W2.frozen? ⟨p, j, none⟩ = false := fun j => blk_frozen Q2 j
 clear B1 B2 Q1
 go_wp2_with fail
 refine bodyPost_ret (v := .tuple #[.agg #[.bool false, .int .u64 0, .int .u64 (a / b)], .bool (a % b != 0)]) (by simp [results, Try.results158, go_sem, c0, c1, c2, hu]) rfl ?_
 exact ⟨_, rfl, ((BW.out.setCell HP.out _).setCell HP.out _).setCell HP.out _⟩
set_option maxHeartbeats 2000000 in
theorem floor_any (a b : Int) (ha : 0 ≤ a) (ha1 : a ≤ 2147483648) (hb : 1 ≤ b) (hb1 : b ≤ 2147483648) (w : World) : Calls Try.prog 143 #[.int .i64 a, .int .i64 b] w fun e w' => e = .returned (.tuple #[.int .i64 (a / b), .bool true]) ∧ Below w.heap.size w w' := by
 have hu := Try.underlying179
 have D := Aside0.mk (divided_any a b ha ha1 hb hb1)
 have hq0 : 0 ≤ a / b := Int.ediv_nonneg ha (by omega)
 have hq1 : a / b ≤ a := Int.ediv_le_self b ha
 have N := Aside0.mk (short0_any (a / b) hq0 (by omega))
 have g1 : decide (a < 0) = false := decide_eq_false (by omega)
 have g2 : decide (b < 0) = false := decide_eq_false (by omega)
 have g3 : (b == 0) = false := by
  have : b ≠ 0 := by omega
  simpa using this
 obtain ⟨q, hq⟩ : ∃ q, q = a / b := ⟨_, rfl⟩
 rw [← hq] at D N ⊢
 clear hq hq0 hq1 ha ha1 hb hb1
 go_enter Try.func143, Try.ntmps143
 go_wp2_with fail
 refine (D.out _).mono ?_
 rintro _ W1 ⟨l, rfl, B1'⟩
 have B1 := Aside0.mk B1'
 clear B1'
 cases l with
 | false =>
  go_wp2_with fail
  refine (N.out _).mono ?_
  rintro _ W2 ⟨rfl, B2⟩
  have BW := Aside0.mk ((below_alloc B1.out _).trans (B2.mono (below_alloc B1.out _).size))
  clear B2
  go_wp2_with fail
  go_ret2
  exact ⟨rfl, BW.out⟩
 | true =>
  go_wp2_with fail
  refine (N.out _).mono ?_
  rintro _ W2 ⟨rfl, B2⟩
  have BW := Aside0.mk ((below_alloc B1.out _).trans (B2.mono (below_alloc B1.out _).size))
  clear B2
  go_wp2_with fail
  go_ret2
  exact ⟨rfl, BW.out⟩
theorem kexact_any (a b : Int) (ha : 0 ≤ a) (ha1 : a ≤ 2147483648) (hb : 1 ≤ b) (hb1 : b ≤ 2147483648) (w : World) : Calls Try.prog 115 #[.int .i64 a, .int .i64 b] w fun e w' => e = .returned (.tuple #[.int .i64 (a / b), .bool true]) ∧ Below w.heap.size w w' := by
 have D := Aside0.mk (floor_any a b ha ha1 hb hb1)
 obtain ⟨q, hq⟩ : ∃ q, q = a / b := ⟨_, rfl⟩
 rw [← hq] at D ⊢
 clear hq ha ha1 hb hb1
 go_enter Try.func115, Try.ntmps115
 go_wp2_with fail
 refine (D.out _).mono ?_
 rintro _ W2 ⟨rfl, B2'⟩
 have B2 := Aside0.mk B2'
 clear B2'
 go_wp2_with fail
 go_ret2
 exact ⟨rfl, B2.out⟩
set_option maxHeartbeats 2000000 in
theorem of0_any (a : Int) (w : World) : Calls Try.prog 69 #[.int .i64 a] w fun e w' => e = .returned (.agg #[.int .i64 a, .int .i64 1]) ∧ Below w.heap.size w w' := by
 have hu := Try.underlying86
 go_enter Try.func69, Try.ntmps69
 go_wp2_with fail
 refine bodyPost_ret (v := .agg #[.int .i64 a, .int .i64 1]) (by simp [results, Try.results69, go_sem]) rfl ?_
 exact ⟨rfl, below_alloc (Below.refl _ _) _⟩
def makeP (w : World) (e : Ending) (w' : World) : Prop := ∃ x y : Int, e = .returned (.tuple #[.agg #[.int .i64 x, .int .i64 y], .bool true]) ∧ Below w.heap.size w w'
set_option maxHeartbeats 2000000 in
theorem make_any (a b : Int) (ha : 0 ≤ a) (ha1 : a ≤ 2147483648) (hb : 1 ≤ b) (hb1 : b ≤ 2147483648) (w : World) : Calls Try.prog 68 #[.int .i64 a, .int .i64 b] w (makeP w) := by
 have hu := Try.underlying86
 have G := Aside0.mk (gcd_any a b ha ha1 hb hb1)
 have D1 := Aside0.mk (fun g h1 h2 => kexact_any a g ha ha1 h1 h2)
 have D2 := Aside0.mk (fun g h1 h2 => kexact_any b g (by omega) hb1 h1 h2)
 have g2 : decide (b < 0) = false := decide_eq_false (by omega)
 have g3 : (b == 0) = false := by
  have : b ≠ 0 := by omega
  simpa using this
 clear ha ha1 hb hb1
 go_enter Try.func68, Try.ntmps68
 go_upto_region 1 with fail
 obtain ⟨W1, hW1⟩ : ∃ W, W = (w.alloc (.cells #[.int .i64 0, .int .i64 0] 86)) := ⟨_, rfl⟩
 rw [← hW1]
 obtain ⟨p, hp⟩ : ∃ p, p = w.heap.size := ⟨_, rfl⟩
 have B1 : Aside0 (Below w.heap.size w W1) := ⟨by rw [hW1]; exact below_alloc (Below.refl _ _) _⟩
 have Q1 : Aside0 (W1.heap[p]? = some (.cells #[.int .i64 0, .int .i64 0] 86 (0, 0))) := ⟨by rw [hW1, hp]; exact heap_alloc_new _ _⟩
 have HP : Aside0 (w.heap.size ≤ p) := ⟨by omega⟩
 rw [← hp]
 clear hW1 hp
 go_wp2_with fail
 refine (G.out _).mono ?_
 rintro _ W2 ⟨g, h1, h2, rfl, B2⟩
 have Q2 : Aside0 (W2.heap[p]? = some (.cells #[.int .i64 0, .int .i64 0] 86 (0, 0))) := ⟨(B2.block p (Array.getElem?_eq_some_iff.1 Q1.out).1).trans Q1.out⟩
 have BW : Aside0 (Below w.heap.size w W2) := ⟨B1.out.trans (B2.mono B1.out.size)⟩
 clear B1 B2 Q1
 go_wp2_with fail
 refine (D1.out g h1 h2 _).mono ?_
 rintro _ W3 ⟨rfl, B2⟩
 have Q3 : Aside0 (W3.heap[p]? = some (.cells #[.int .i64 0, .int .i64 0] 86 (0, 0))) := ⟨(B2.block p (Array.getElem?_eq_some_iff.1 Q2.out).1).trans Q2.out⟩
 have BX : Aside0 (Below w.heap.size w W3) := ⟨BW.out.trans (B2.mono BW.out.size)⟩
 clear BW B2 Q2
 go_wp2_with fail
 refine (D2.out g h1 h2 _).mono ?_
 rintro _ W4 ⟨rfl, B2⟩
 have Q4 := (B2.block p (Array.getElem?_eq_some_iff.1 Q3.out).1).trans Q3.out
 have BY : Aside0 (Below w.heap.size w W4) := ⟨BX.out.trans (B2.mono BX.out.size)⟩
 have c0 : W4.cell? ⟨p, 0, none⟩ = some (.int .i64 0) := (blk_cell Q4 0).trans rfl
 have c1 : W4.cell? ⟨p, 1, none⟩ = some (.int .i64 0) := (blk_cell Q4 1).trans rfl
 have z0 : ∀ j, W4.frozen? ⟨p, j, none⟩ = false := fun j => blk_frozen Q4 j
 clear BX B2 Q3
 obtain ⟨x, hx⟩ : ∃ x, x = a / g := ⟨_, rfl⟩
 obtain ⟨y, hy⟩ : ∃ y, y = b / g := ⟨_, rfl⟩
 rw [← hx, ← hy]
 clear hx hy
 go_wp2_with fail
 refine bodyPost_ret (v := .tuple #[.agg #[.int .i64 x, .int .i64 y], .bool true]) (by simp [results, Try.results68, go_sem, c0, c1, hu]) rfl ?_
 exact ⟨x, y, rfl, (BY.out.setCell HP.out _).setCell HP.out _⟩
end Go.Proofs.Ytelabmhhnpfegaa.Hand
end
section
namespace Go.Proofs.Ytelabmhhnpfegaa.Hand
open Go.RowKit Go.Proofs.YtelabmhhnpfegaaW.PrintWords Go.Proofs.YtelabmhhnpfegaaW.PrintLast Go.Proofs.YtelabmhhnpfegaaW.PrintMore Go.Proofs.Ytelabmhhnpfegaa.PDynCells
def relP (l : List S101) (n : Nat) (room : Int) (w : World) (e : Ending) (w' : World) : Prop :=
 ∃ (o : List Nat) (x y : Int), o.Perm (List.range n) ∧ (o.Pairwise fun a b => vOf l b * wOf l a ≤ vOf l a * wOf l b) ∧ e = .returned (.tuple #[.int .i64 (relx (vOf l) (wOf l) o room 0), .agg #[.int .i64 x, .int .i64 y], .bool true]) ∧ Below w.heap.size w w'
theorem ord_drop (X : Nat → Nat) {n k : Nat} (h : k < n) : ((List.range n).map X).drop k = X k :: ((List.range n).map X).drop (k + 1) := by
 rw [List.drop_eq_getElem_cons (by simpa using h)]
 simp
theorem ord_pair {l : List S101} {X : Nat → Nat} {n : Nat} (hG : Good l) (h : InO (vOf l) (wOf l) X n) : ((List.range n).map X).Pairwise fun a b => vOf l b * wOf l a ≤ vOf l a * wOf l b := by
 rw [List.pairwise_map, List.pairwise_iff_getElem]
 intro i j hi hj hij
 rw [List.getElem_range, List.getElem_range]
 have hj' : j < n := by simpa using hj
 exact leW_pair (fun k => (hG.v k).1) (fun k => (hG.w k).1) (h i j hij hj')
set_option maxRecDepth 100000 in
set_option maxHeartbeats 4000000 in
theorem relax_any (w : World) (A : Option Addr) (n c : Nat) (l : List S101) (room : Int) (hC : k101.C w A n l) (hn : n < 20) (hg : ∀ s ∈ l, (0 ≤ s.f0 ∧ s.f0 ≤ 2147483648) ∧ 0 ≤ s.f1 ∧ s.f1 ≤ 2147483648) (h0 : 0 ≤ room) (h1 : room ≤ 2147483648) :
  Calls Try.prog 35 #[.slice A n c, .int .i64 room] w (relP l n room w) := by
 have hu101 := Try.underlying101
 have hu86 := Try.underlying86
 have HC := Aside0.mk hC
 have HG := Aside0.mk hg
 have HZ := Aside0.mk (And.intro h0 h1)
 have GG := Aside0.mk (Good.all hg)
 clear hC hg h0 h1
 go_enter Try.func35, Try.ntmps35
 go_upto_region 1 with fail
 obtain ⟨W0, hW0⟩ : ∃ W, W = w.alloc (.cells #[.int .i64 0, .int .i64 0] 86) := ⟨_, rfl⟩
 rw [← hW0]
 obtain ⟨p, hp⟩ : ∃ p, p = w.heap.size := ⟨_, rfl⟩
 have B0 : Aside0 (Below w.heap.size w W0) := ⟨by rw [hW0]; exact below_alloc (Below.refl _ _) _⟩
 have Q0 : Aside0 (W0.heap[p]? = some (.cells #[.int .i64 0, .int .i64 0] 86 (0, 0))) := ⟨by rw [hW0, hp]; exact heap_alloc_new _ _⟩
 have HP : Aside0 (w.heap.size ≤ p) := ⟨by omega⟩
 rw [← hp]
 clear hW0 hp
 go_wp2_with fail
 refine (kmay_any _ A n c l room (Kd.C_below HC.out B0.out) (by omega) HG.out HZ.out.1 HZ.out.2).mono ?_
 rintro _ W1 ⟨rfl, B1⟩
 have Q1 : Aside0 (W1.heap[p]? = some (.cells #[.int .i64 0, .int .i64 0] 86 (0, 0))) := ⟨(B1.block p (Array.getElem?_eq_some_iff.1 Q0.out).1).trans Q0.out⟩
 have BW : Aside0 (Below w.heap.size w W1) := ⟨B0.out.trans (B1.mono B0.out.size)⟩
 clear B1 B0 Q0
 go_wp2_with fail
 refine (korder_any _ A n c l (Kd.C_below HC.out BW.out) hn HG.out).mono ?_
 rintro _ W2 ⟨g, X, rfl, R, PX, OX, B2⟩
 have S2 : Aside0 (IB W2 g 3 n (cst X) ∧ W2.heap[p]? = some (.cells #[.int .i64 0, .int .i64 0] 86 (0, 0)) ∧ Below w.heap.size w W2) := ⟨R, (B2.block p (Array.getElem?_eq_some_iff.1 Q1.out).1).trans Q1.out, BW.out.trans (B2.mono BW.out.size)⟩
 obtain ⟨o, ho⟩ : ∃ o, o = (List.range n).map X := ⟨_, rfl⟩
 have HO : Aside0 (o = (List.range n).map X) := ⟨ho⟩
 have OP : Aside0 (o.Perm (List.range n) ∧ o.Pairwise fun a b => vOf l b * wOf l a ≤ vOf l a * wOf l b) := ⟨by rw [ho]; exact ⟨PX, ord_pair GG.out OX⟩⟩
 have PXX := Aside0.mk PX
 clear B2 BW Q1 R ho OX PX
 go_wp2_with fail
 go_loopw [7, 1, 21] (fun v7 v1 v21 wr => ∃ (k : Nat) (r s : Int), k ≤ n ∧ v7 = .int .i64 s ∧ v1 = .int .i64 r ∧ v21 = .int .i64 (k : Int) ∧ 0 ≤ r ∧ r ≤ 2147483648 ∧ 0 ≤ s ∧ s ≤ k * 2147483648 ∧ Aside0 (relx (vOf l) (wOf l) (o.drop k) r s = relx (vOf l) (wOf l) o room 0) ∧ Aside0 (IB wr g 3 n (cst X) ∧ wr.heap[p]? = some (.cells #[.int .i64 0, .int .i64 0] 86 (0, 0)) ∧ Below w.heap.size w wr)) (fun _ _ v21 _ => n - (intOf v21).toNat)
 case atStart => exact ⟨0, room, 0, Nat.zero_le _, rfl, rfl, rfl, HZ.out.1, HZ.out.2, Int.le_refl _, Int.le_refl _, ⟨rfl⟩, S2⟩
 case round =>
  clear S2
  obtain ⟨k, r, s, hk, rfl, rfl, rfl, hr, hr1, hs, hs1, RX, S⟩ := hrel
  by_cases hlt : k < n
  ·have c1 := S.out.1.c hlt
   obtain ⟨ad, rfl, a0', a1'⟩ := at_T101 HC.out ((X k : Nat) : Int) (by omega) (by have := PXX.out.lt hlt; omega)
   obtain ⟨r1, r2⟩ := rd_v l (X k)
   rw [r1] at a0'
   rw [r2] at a1'
   have a0 := pw_cell_below S.out.2.2 a0'
   have a1 := pw_cell_below S.out.2.2 a1'
   rw [Int.toNat_natCast] at a0 a1
   have hxn := PXX.out.lt hlt
   have hv := GG.out.v (X k)
   have hw := GG.out.w (X k)
   rw [HO.out, ord_drop X hlt, relx] at RX
   rw [show cst X k = ((X k : Nat) : Int) from rfl] at c1
   obtain ⟨xk, hxk⟩ : ∃ xk, xk = X k := ⟨_, rfl⟩
   rw [← hxk] at RX c1 a0 a1 hxn hv hw
   clear r1 r2 a0' a1' hxk
   obtain ⟨v, hv'⟩ : ∃ v, v = vOf l xk := ⟨_, rfl⟩
   obtain ⟨u, hu'⟩ : ∃ u, u = wOf l xk := ⟨_, rfl⟩
   rw [← hv', ← hu'] at RX
   rw [← hv'] at a0 hv
   rw [← hu'] at a1 hw
   clear hv' hu'
   go_upto_region 8 with fail
   obtain ⟨W3, hW3⟩ : ∃ W, W = wr.alloc (.cells #[.int .i64 v, .int .i64 u] 101) := ⟨_, rfl⟩
   rw [← hW3]
   obtain ⟨p3, hp3⟩ : ∃ p, p = wr.heap.size := ⟨_, rfl⟩
   have QB : Aside0 (W3.heap[p3]? = some (.cells #[.int .i64 v, .int .i64 u] 101 (0, 0))) := ⟨by rw [hW3, hp3]; exact heap_alloc_new _ _⟩
   have S3 : Aside0 (IB W3 g 3 n (cst X) ∧ W3.heap[p]? = some (.cells #[.int .i64 0, .int .i64 0] 86 (0, 0)) ∧ Below w.heap.size w W3) := ⟨by
    have q1 := (Array.getElem?_eq_some_iff.1 S.out.1).1
    have q2 := (Array.getElem?_eq_some_iff.1 S.out.2.1).1
    refine ⟨?_, ?_, ?_⟩
    ·unfold IB
     rw [hW3, al_get, if_neg (by omega)]
     exact S.out.1
    ·rw [hW3, al_get, if_neg (by omega)]
     exact S.out.2.1
    ·rw [hW3]
     exact below_alloc S.out.2.2 _⟩
   rw [← hp3]
   have e0 : W3.cell? ⟨p3, 0, none⟩ = some (.int .i64 v) := (blk_cell QB.out 0).trans rfl
   have e1 : W3.cell? ⟨p3, 1, none⟩ = some (.int .i64 u) := (blk_cell QB.out 1).trans rfl
   clear hW3 hp3 S a0 a1 c1
   by_cases hru : r < u
   ·rw [if_pos hru] at RX
    have M := Aside0.mk (make_any v u hv.1 hv.2 (by omega) hw.2)
    go_wp2_with fail
    refine (M.out _).mono ?_
    rintro _ W4 ⟨x, y, rfl, B4⟩
    have S4 : Aside0 (W4.heap[p]? = some (.cells #[.int .i64 0, .int .i64 0] 86 (0, 0)) ∧ W4.heap[p3]? = some (.cells #[.int .i64 v, .int .i64 u] 101 (0, 0)) ∧ Below w.heap.size w W4) := ⟨(B4.block p (Array.getElem?_eq_some_iff.1 S3.out.2.1).1).trans S3.out.2.1, (B4.block p3 (Array.getElem?_eq_some_iff.1 QB.out).1).trans QB.out, S3.out.2.2.trans (B4.mono S3.out.2.2.size)⟩
    clear B4 S3 QB e0 e1 M
    go_upto_region 10 with fail
    obtain ⟨W5, hW5⟩ : ∃ W, W = W4.alloc (.cells #[.int .i64 x, .int .i64 y] 86) := ⟨_, rfl⟩
    rw [← hW5]
    obtain ⟨p5, hp5⟩ : ∃ p, p = W4.heap.size := ⟨_, rfl⟩
    have q1 := (Array.getElem?_eq_some_iff.1 S4.out.1).1
    have q2 := (Array.getElem?_eq_some_iff.1 S4.out.2.1).1
    have hne : p ≠ p5 := by omega
    have Q5 : W5.heap[p5]? = some (.cells #[.int .i64 x, .int .i64 y] 86 (0, 0)) := by rw [hW5, hp5]; exact heap_alloc_new _ _
    have Q6 : W5.heap[p]? = some (.cells #[.int .i64 0, .int .i64 0] 86 (0, 0)) := by
     rw [hW5, al_get, if_neg (by omega)]
     exact S4.out.1
    have Q7 : W5.heap[p3]? = some (.cells #[.int .i64 v, .int .i64 u] 101 (0, 0)) := by
     rw [hW5, al_get, if_neg (by omega)]
     exact S4.out.2.1
    have BB : Aside0 (Below w.heap.size w W5) := ⟨by rw [hW5]; exact below_alloc S4.out.2.2 _⟩
    rw [← hp5]
    clear hW5 hp5 q1 q2 S4
    have e0 : W5.cell? ⟨p3, 0, none⟩ = some (.int .i64 v) := (blk_cell Q7 0).trans rfl
    have e1 : W5.cell? ⟨p3, 1, none⟩ = some (.int .i64 u) := (blk_cell Q7 1).trans rfl
    have f0 : W5.cell? ⟨p5, 0, none⟩ = some (.int .i64 x) := (blk_cell Q5 0).trans rfl
    have f1 : W5.cell? ⟨p5, 1, none⟩ = some (.int .i64 y) := (blk_cell Q5 1).trans rfl
    have d0 : W5.cell? ⟨p, 0, none⟩ = some (.int .i64 0) := (blk_cell Q6 0).trans rfl
    have d1 : W5.cell? ⟨p, 1, none⟩ = some (.int .i64 0) := (blk_cell Q6 1).trans rfl
    have z0 : ∀ j, W5.frozen? ⟨p, j, none⟩ = false := fun j => blk_frozen Q6 j
    have BR := Aside0.mk Q6
    clear Q5 Q6 Q7
    have m0 : 0 ≤ v * r := Int.mul_nonneg hv.1 hr
    have m1 : v * r ≤ 2147483648 * 2147483648 := Int.mul_le_mul hv.2 hr1 hr (by decide)
    have t0 : 0 ≤ v * r / u := Int.ediv_nonneg m0 (by omega)
    have t1 : v * r / u ≤ v * r := Int.ediv_le_self _ m0
    obtain ⟨P, hP⟩ : ∃ P, P = v * r := ⟨_, rfl⟩
    rw [← hP] at m0 m1 t0 t1 RX
    have m2 : P ≤ 4611686018427387904 := m1
    obtain ⟨T, hT⟩ : ∃ T, T = P / u := ⟨_, rfl⟩
    rw [← hT] at t0 t1 RX
    have HPT := Aside0.mk (And.intro hP hT)
    have k1 : IntKind.i64.wrap (v * r) = P := by rw [← hP]; exact IntWalk.i64_in _ (by omega)
    have k2 : IntKind.i64.wrap T = T := IntWalk.i64_in _ (by omega)
    have k3 : IntKind.i64.wrap (s + T) = s + T := IntWalk.i64_in _ (by omega)
    have k4 : P / u = T := hT.symm
    have k5 : P.tdiv u = T := by rw [hT]; exact Int.tdiv_eq_ediv_of_nonneg m0
    clear hP hT m1
    have hu0 : (u == 0) = false := by
     have : u ≠ 0 := by omega
     simpa using this
    have hu1 : u ≠ 0 := by omega
    go_region
    clear k1 k2 k3 k4 k5 e0 e1 hu0 hu1 m0 m2 t0 t1
    go_wp2_with fail
    refine bodyPost_ret (v := .tuple #[.int .i64 (s + T), .agg #[.int .i64 x, .int .i64 y], .bool true]) (by simp [results, Try.results35, go_sem, d0, d1, hu86]) rfl ?_
    refine ⟨o, x, y, OP.out.1, OP.out.2, ?_, below_drew ((BB.out.setCell HP.out _).setCell HP.out _)⟩
    rw [HO.out, ← RX.out]
   ·rw [if_neg hru] at RX
    have k1 : IntKind.i64.wrap (s + v) = s + v := IntWalk.i64_in _ (by omega)
    have k2 : IntKind.i64.wrap (r - u) = r - u := IntWalk.i64_in _ (by omega)
    go_wp2_with fail
    go_quiet (fail)
    rename_i nq
    clear k1 k2 e0 e1
    go_wp2_with fail
    exact ⟨⟨k + 1, r - u, s + v, by omega, rfl, rfl, by go_num, by omega, by omega, by omega, by push_cast; omega, ⟨by rw [HO.out]; exact RX.out⟩, ⟨S3.out.1, S3.out.2.1, pw_below_drewN S3.out.2.2 nq⟩⟩, by simp [intOf]; omega⟩
  ·obtain rfl : k = n := by omega
   have er : relx (vOf l) (wOf l) (o.drop k) r s = s := by
    rw [HO.out, List.drop_of_length_le (by simp), relx]
   rw [er] at RX
   have Z := Aside0.mk (of0_any 0)
   go_wp2_with fail
   refine (Z.out _).mono ?_
   rintro _ W4 ⟨rfl, B4⟩
   have Q6 := (B4.block p (Array.getElem?_eq_some_iff.1 S.out.2.1).1).trans S.out.2.1
   have BB : Aside0 (Below w.heap.size w W4) := ⟨S.out.2.2.trans (B4.mono S.out.2.2.size)⟩
   have d0 : W4.cell? ⟨p, 0, none⟩ = some (.int .i64 0) := (blk_cell Q6 0).trans rfl
   have d1 : W4.cell? ⟨p, 1, none⟩ = some (.int .i64 0) := (blk_cell Q6 1).trans rfl
   have z0 : ∀ j, W4.frozen? ⟨p, j, none⟩ = false := fun j => blk_frozen Q6 j
   clear B4 Q6 S er
   go_wp2_with fail
   refine bodyPost_ret (v := .tuple #[.int .i64 s, .agg #[.int .i64 0, .int .i64 1], .bool true]) (by simp [results, Try.results35, go_sem, d0, d1, hu86]) rfl ?_
   refine ⟨o, 0, 1, OP.out.1, OP.out.2, ?_, (BB.out.setCell HP.out _).setCell HP.out _⟩
   rw [← RX.out]
end Go.Proofs.Ytelabmhhnpfegaa.Hand
end
