/- Texts Rk Jd Je Jm, cut to what is used. -/
import Derived.Sort.QuietIn
import Derived.Sort.CutIn
import Derived.Test.YtelabmhhnpfegaaProg
import Derived.Laws.MakeOwn
import Derived.Deep.OwnRows
import Derived.Deep.QuietTactic
import Derived.BigQuiet
import Derived.RegionTactic
import Derived.Deep.LoopGhost
import Derived.RowKit3
import Derived.KernelRfl
import Derived.Tactics
import Derived.OwnWalk
import Derived.Test.YtelabmhhnpfegaaXa0
import Derived.Test.YtelabmhhnpfegaaXa1
import Derived.Test.YtelabmhhnpfegaaXa5
import Derived.Test.YtelabmhhnpfegaaXa6
import Derived.Test.YtelabmhhnpfegaaXa9
import Derived.Test.YtelabmhhnpfegaaXb0
set_option linter.unusedVariables false
set_option linter.unusedSimpArgs false
section
namespace Go.Proofs.Ytelabmhhnpfegaa.Hand
open Go.RowKit Go.Shelf
open Go.Proofs.YtelabmhhnpfegaaW.PrintWords Go.Proofs.YtelabmhhnpfegaaW.PrintLast Go.Proofs.YtelabmhhnpfegaaW.PrintMore Go.Proofs.Ytelabmhhnpfegaa.PDynCells
attribute [local go_sem] Oper.semAt_some
theorem keeps_below {W W' : World} (h : Below W.heap.size W W') : KeepsOthers W W' := ⟨h.size, fun k o hk _ => (h.block k (Array.getElem?_eq_some_iff.1 hk).1).trans hk⟩
def toI (l : List Nat) : List Int := l.map fun k : Nat => (k : Int)
def visI (n : Nat) : List (List Int) := (visit 721 (List.range n)).map toI
def ordI (o : Ord) : List Int := toI o.l
def BI (x : PI) (wb : World) (b8 b9 b10 p1 : Nat) (cs : Array Value) (pre : List Ord) (W : World) : Prop := ∃ (vb : Value) (z : Int) (f : Bool),
 W.heap[b8]? = some (.cells #[vb] 29 (0, 0)) ∧ W.heap[b9]? = some (.cells #[.int .i64 z] 2 (0, 0)) ∧ W.heap[b10]? = some (.cells #[.bool f] 4 (0, 0)) ∧ W.heap[p1]? = some (.cells cs 54 (0, 0)) ∧ BstP x (pre.map ordI) f z ∧ Below wb.heap.size wb W
theorem ord_len {n : Nat} {xs : List Ord} (h : xs.map Ord.l = visit 721 (List.range n)) : xs.map ordI = visI n := by
 unfold visI ordI
 rw [← h, List.map_map]
 rfl
theorem blk_set_ne {w : World} {g : Nat} {o : Obj} (h : w.heap[g]? = some o) {p : Addr} (hp : g ≠ p.block) (u : Value) : (w.setCell p u).heap[g]? = some o := (Below.heap_setCell _ _ _ _ hp).trans h
theorem cell_put {A : World} {l : Nat} {o : Obj} {r : Loop} (hl : A.heap[l]? = some (.loop r)) {q : Addr} {v : Value} (h : A.cell? q = some v) : (A.putObj l o).cell? q = some v := by
 by_cases e : q.block = l
 ·unfold World.cell? at h
  rw [e, hl] at h
  simp at h
 ·unfold World.cell? at h ⊢
  rw [World.putObj_heap_other e]
  exact h
theorem ord_put {x : Ord} {A : World} {l : Nat} {o : Obj} (h : x.Rd A) (hl : ∃ r, A.heap[l]? = some (.loop r)) : x.Rd (A.putObj l o) := by
 obtain ⟨r, hl⟩ := hl
 have h1 := Kd.reads_of_C (d := (0 : Int)) h.1
 refine ⟨Kd.C_of_reads (d := (0 : Int)) ⟨h1.1, h1.2.1, fun hn => ?_⟩, h.2⟩
 obtain ⟨a, ea, hc⟩ := h1.2.2 hn
 exact ⟨a, ea, fun j hj => cell_put hl (hc j hj)⟩
set_option maxHeartbeats 2000000 in
set_option maxRecDepth 100000 in
theorem best1_any (w : World) (x : PI) (v : Value) (h : InstC w x v) (hi : IOk x) (hx : PIok x) (hk : x.kind = 1) (n : Nat) (hn : x.cost.length = n) (h1 : 1 ≤ n) (h6 : n ≤ 6) :
  Calls Try.prog 34 #[v] w fun e w' => ∃ vb z f, e = .returned (.tuple #[vb, .int .i64 z, .bool f, .int .i64 0]) ∧ Aside0 (BstP x (visI n) f z ∧ Below w.heap.size w w') := by
 have HIN := Aside0.mk h
 have HI := Aside0.mk hi
 have HX := Aside0.mk hx
 have HK := Aside0.mk hk
 have HN := Aside0.mk hn
 obtain ⟨A2, c2, A3, c3, A5, c5, rfl, h2, l2, h3, l3, h5, l5⟩ := h
 obtain ⟨n2, hn2⟩ : ∃ n, n = x.items.length := ⟨_, rfl⟩
 obtain ⟨n5, hn5⟩ : ∃ n, n = x.sets.length := ⟨_, rfl⟩
 obtain ⟨cap, hcap⟩ : ∃ n, n = x.cap := ⟨_, rfl⟩
 obtain ⟨sz, hsz⟩ : ∃ n, n = x.size := ⟨_, rfl⟩
 rw [← hn2, hn, ← hn5, hk, ← hcap, ← hsz] at HIN
 rw [← hn2, hn, ← hn5, hk, ← hcap, ← hsz]
 clear h2 h3 h5 l2 l3 l5 hn2 hn5 hcap hsz hi hx hn hk
 have hu54 := Try.underlying54
 refine (callsIn_wide (n := 9)).1 (callsIn_of_wp_marks Try.func34 rfl trivial ?_ rfl)
 simp only [Try.ntmps34, List.size_toArray, List.length_cons, List.length_nil, Nat.reduceAdd, Nat.reduceSub, Array.replicate_succ, Array.replicate_zero, List.push_toArray, List.append_toArray, List.nil_append, List.cons_append]
 gi_upto_region 1 with fail
 obtain ⟨W1, hW1⟩ : ∃ W, W = w.alloc (.cells #[.int .i64 1, .int .i64 cap, .slice A2 n2 c2, .slice A3 n c3, .int .i64 sz, .slice A5 n5 c5] 54) := ⟨_, rfl⟩
 rw [← hW1]
 have B1 : Aside0 (Below w.heap.size w W1) := ⟨by rw [hW1]; exact below_alloc (Below.refl _ _) _⟩
 obtain ⟨p1, hp1⟩ : ∃ p, p = w.heap.size := ⟨_, rfl⟩
 have Q1 : Aside0 (W1.heap[p1]? = some (.cells #[.int .i64 1, .int .i64 cap, .slice A2 n2 c2, .slice A3 n c3, .int .i64 sz, .slice A5 n5 c5] 54 (0, 0))) := ⟨by rw [hW1, hp1]; exact heap_alloc_new _ _⟩
 have HP : Aside0 (w.heap.size ≤ p1) := ⟨by omega⟩
 rw [← hp1]
 clear hW1 hp1
 have IW : Aside0 (InstC W1 x (.agg #[.int .i64 1, .int .i64 cap, .slice A2 n2 c2, .slice A3 n c3, .int .i64 sz, .slice A5 n5 c5])) := ⟨HIN.out.below B1.out⟩
 have CN := Aside0.mk (count1_any W1 x _ IW.out HI.out HX.out HK.out n HN.out h6)
 have f1 : ∀ k, Fence.wide.fn k := fun _ => trivial
 have f3 : ∀ k, Fence.wide.depth.isSome = true → 1 ≤ k := fun k h => by cases h
 obtain ⟨q0, q1, q2, q3, q4, q5, _⟩ := six Q1.out (Below.refl _ _)
 have f64 := f1 64
 have f65 := f1 65
 gi_wp2
 refine (callsIn_wide.2 CN.out).mono ?_
 rintro e w2 ⟨⟨t, rfl⟩, HB2⟩
 clear CN q0 q1 q2 q3 q4 q5
 obtain ⟨q0, q1, q2, q3, q4, q5, _⟩ := six Q1.out HB2.out
 gi_upto_region 6 with fail
 obtain ⟨W3, hW3⟩ : ∃ W, W = ((w2.alloc (.cells #[.slice none 0 0] 29)).alloc (.cells #[.int .i64 0] 2)).alloc (.cells #[.bool false] 4) := ⟨_, rfl⟩
 rw [← hW3]
 obtain ⟨b10, hb10⟩ : ∃ b, b = w2.heap.size + 1 + 1 := ⟨_, rfl⟩
 obtain ⟨b9, hb9⟩ : ∃ b, b = w2.heap.size + 1 := ⟨_, rfl⟩
 obtain ⟨b8, hb8⟩ : ∃ b, b = w2.heap.size := ⟨_, rfl⟩
 have BX : Aside0 (W3.heap[b8]? = some (.cells #[.slice none 0 0] 29 (0, 0)) ∧ W3.heap[b9]? = some (.cells #[.int .i64 0] 2 (0, 0)) ∧ W3.heap[b10]? = some (.cells #[.bool false] 4 (0, 0))) := ⟨by
  rw [hW3, hb8, hb9, hb10]
  refine ⟨?_, ?_, ?_⟩
  all_goals
   simp only [al_get, al_size]
   repeat (first | rw [if_pos trivial] | rw [if_neg (by omega)])⟩
 have B3 : Aside0 (Below W1.heap.size W1 W3) := ⟨HB2.out.trans (by rw [hW3]; exact (below_alloc (below_alloc (below_alloc (Below.refl _ _) _) _) _).mono HB2.out.size)⟩
 have BZ : Aside0 (w.heap.size ≤ b8 ∧ b9 = b8 + 1 ∧ b10 = b8 + 2 ∧ b8 + 3 = W3.heap.size ∧ p1 < b8) := ⟨by
  have h1 := HB2.out.size
  have h2 := B1.out.size
  have h3 := (Array.getElem?_eq_some_iff.1 Q1.out).1
  have h4 : W3.heap.size = w2.heap.size + 3 := by rw [hW3]; simp
  omega⟩
 rw [← hb10, ← hb9, ← hb8]
 clear hW3 hb8 hb9 hb10 HB2 q0 q1 q2 q3 q4 q5
 obtain ⟨q0, q1, q2, q3, q4, q5, _⟩ := six Q1.out B3.out
 gi_wp2
 refine (callsIn_wide.2 (all_new W3 cap sz A2 A3 A5 n2 c2 n c3 n5 c5)).mono ?_
 rintro e W4 ⟨B, rfl, HA⟩
 clear q0 q1 q2 q3 q4 q5
 gi_wp2
 have B4 : Aside0 (Below W1.heap.size W1 W4) := ⟨B3.out.trans (HA.out.2.mono B3.out.size)⟩
 have S4 := HA.out.2.size
 have P8 : b8 < W4.heap.size := by have := BZ.out; omega
 have P9 : b9 < W4.heap.size := by have := BZ.out; omega
 have P10 : b10 < W4.heap.size := by have := BZ.out; omega
 have P1 : p1 < W4.heap.size := by have := BZ.out; omega
 have PW : w.heap.size < W4.heap.size := by have := BZ.out; omega
 refine range_all rfl (by omega) (gf := 104) (lb := #[.pointer (some ⟨B, 0, none⟩)]) rfl trivial (enters_of Try.func104 (by kernel_rfl) rfl)
  (all_gives _ x HI.out HX.out HK.out n HN.out h1 h6 W4 cap sz A2 A3 A5 n2 c2 c3 n5 c5 B HA.out.1 (IW.out.below B4.out)) (Below.refl _ _) rfl (fun x A l o h hl => ord_put h hl)
  (BI x w b8 b9 b10 p1 #[.int .i64 1, .int .i64 cap, .slice A2 n2 c2, .slice A3 n c3, .int .i64 sz, .slice A5 n5 c5]) ?hI ?h0 (fun o => { tmps := List.toArray (.agg #[.int .i64 1, .int .i64 cap, .slice A2 n2 c2, .slice A3 n c3, .int .i64 sz, .slice A5 n5 c5] :: .pointer (some ⟨p1, 0, none⟩) :: .slice none 0 0 :: .int .i64 0 :: .bool false :: .int .i64 0 :: .int .i64 t :: .int .i64 0 :: .pointer (some ⟨b8, 0, none⟩) :: .pointer (some ⟨b9, 0, none⟩) :: .pointer (some ⟨b10, 0, none⟩) :: (.slice (some ⟨o.g, 0, none⟩) o.l.length o.cap) :: undef :: undef :: .tuple #[.int .i64 t, .int .i64 0] :: .agg #[.int .i64 1, .int .i64 cap, .slice A2 n2 c2, .slice A3 n c3, .int .i64 sz, .slice A5 n5 c5] :: .tuple #[.int .i64 t, .int .i64 0] :: .int .i64 t :: .int .i64 0 :: .int .i64 0 :: .bool false :: undef :: .agg #[.int .i64 1, .int .i64 cap, .slice A2 n2 c2, .slice A3 n c3, .int .i64 sz, .slice A5 n5 c5] :: .func (.func 104) #[] #[.pointer (some ⟨B, 0, none⟩)] :: (.slice (some ⟨o.g, 0, none⟩) o.l.length o.cap) :: undef :: undef :: undef :: undef :: undef :: undef :: undef :: undef :: undef :: undef :: undef :: undef :: undef :: undef :: undef :: undef :: undef :: undef :: undef :: undef :: undef :: undef :: []), defers := [] }) ?assign ?body ?done
 case h0 => exact ⟨_, 0, false, blk_below BX.out.1 HA.out.2, blk_below BX.out.2.1 HA.out.2, blk_below BX.out.2.2 HA.out.2, blk_below Q1.out B4.out, BstP.nil x, B1.out.trans (B4.out.mono B1.out.size)⟩
 case hI =>
  rintro s X Y ⟨vb, z, f, i1, i2, i3, i4, i5, i6⟩ hc
  refine ⟨vb, z, f, hc.blk i1 (by omega), hc.blk i2 (by omega), hc.blk i3 (by omega), hc.blk i4 (by omega), i5, i6.trans ⟨hc.os, hc.tape, hc.output, hc.size, fun k hk => hc.block k (by have := i6.size; omega) (by show ¬ W4.heap.size ≤ k; omega)⟩⟩
 case assign =>
  intro l o W K hK
  gi_wp2
  exact hK
 case body =>
  rintro l pre o W hsz ⟨vb, z, f, i1, i2, i3, i4, i5, i6⟩ ⟨hc, hm⟩ hlen
  obtain ⟨m, hmm⟩ : ∃ m, m = o.l.length := ⟨_, rfl⟩
  obtain ⟨z1, hz1⟩ : ∃ z, z = (cosP x (toI o.l)).1 := ⟨_, rfl⟩
  obtain ⟨e1, he1⟩ : ∃ z, z = (cosP x (toI o.l)).2 := ⟨_, rfl⟩
  have CC := Aside0.mk (cost_any W x _ (HIN.out.below i6) HX.out (some ⟨o.g, 0, none⟩) o.l.length o.cap (toI o.l) hc (Nat.le_trans hm (by decide)) z1 e1 (by rw [hz1, he1]))
  have HCO : Aside0 (cosP x (ordI o) = (z1, e1)) := ⟨by rw [hz1, he1]; rfl⟩
  have HBL := Aside0.mk i6
  have HBS := Aside0.mk i5
  have HI1 := Aside0.mk i1
  have HI2 := Aside0.mk i2
  have HI3 := Aside0.mk i3
  have HI4 := Aside0.mk i4
  have PP : Aside0 ((pre ++ [o]).map ordI = pre.map ordI ++ [ordI o]) := ⟨by rw [List.map_append]; rfl⟩
  obtain ⟨q0, q1, q2, q3, q4, q5, _⟩ := six i4 (Below.refl _ _)
  have f30 := f1 30
  clear hc hm hmm hz1 he1 i1 i2 i3 i4 i5 i6 hlen
  gi_wp2
  refine (CallsIn.inRound l (callsIn_wide.2 CC.out)).mono ?_
  rintro e W2 ⟨rfl, HB⟩
  clear CC q0 q1 q2 q3 q4 q5
  have J1 := Aside0.mk (blk_below HI1.out HB.out)
  have J2 := Aside0.mk (blk_below HI2.out HB.out)
  have J3 := Aside0.mk (blk_below HI3.out HB.out)
  have J4 := Aside0.mk (blk_below HI4.out HB.out)
  have JL : Aside0 (Below w.heap.size w W2) := ⟨HBL.out.trans (HB.out.mono HBL.out.size)⟩
  have k1 : W2.cell? ⟨b8, 0, none⟩ = some vb := (blk_cell J1.out 0).trans rfl
  have k2 : W2.cell? ⟨b9, 0, none⟩ = some (.int .i64 z) := (blk_cell J2.out 0).trans rfl
  have k3 : W2.cell? ⟨b10, 0, none⟩ = some (.bool f) := (blk_cell J3.out 0).trans rfl
  have y1 : W2.frozen? ⟨b8, 0, none⟩ = false := blk_frozen J1.out 0
  have y2 : W2.frozen? ⟨b9, 0, none⟩ = false := blk_frozen J2.out 0
  have y3 : W2.frozen? ⟨b10, 0, none⟩ = false := blk_frozen J3.out 0
  clear HI1 HI2 HI3 HI4 HBL
  have KEEP : Aside0 (KeepsOthers W W2) := ⟨keeps_below HB.out⟩
  have CHG : Aside0 (Chg (fun k => k < W4.heap.size) W W2) := ⟨Chg.of_below HB.out⟩
  have SKIP : Aside0 (((cosP x (ordI o)).2 ≠ 0 ∨ (f = true ∧ z ≤ (cosP x (ordI o)).1)) → BI x w b8 b9 b10 p1 #[.int .i64 1, .int .i64 cap, .slice A2 n2 c2, .slice A3 n c3, .int .i64 sz, .slice A5 n5 c5] (pre ++ [o]) W2) := ⟨fun h => ⟨vb, z, f, J1.out, J2.out, J3.out, J4.out, by rw [PP.out]; exact HBS.out.skip h, JL.out⟩⟩
  have TAKE : Aside0 (cosP x (ordI o) = (z1, 0) → (f = false ∨ z1 < z) → ∀ u : Value, BI x w b8 b9 b10 p1 #[.int .i64 1, .int .i64 cap, .slice A2 n2 c2, .slice A3 n c3, .int .i64 sz, .slice A5 n5 c5] (pre ++ [o]) (((W2.setCell ⟨b8, 0, none⟩ u).setCell ⟨b9, 0, none⟩ (.int .i64 z1)).setCell ⟨b10, 0, none⟩ (.bool true))) := ⟨fun h h2 u => by
   have hz := BZ.out
   have n1 : b8 ≠ b9 := by omega
   have n2' : b8 ≠ b10 := by omega
   have n3 : b9 ≠ b10 := by omega
   refine ⟨u, z1, true, ?_, ?_, ?_, ?_, by rw [PP.out]; exact HBS.out.take h h2, ((JL.out.setCell hz.1 _).setCell (by show w.heap.size ≤ b9; omega) _).setCell (by show w.heap.size ≤ b10; omega) _⟩
   ·exact blk_set_ne (blk_set_ne (blk_put J1.out 0 _ rfl) n1 _) n2' _
   ·exact blk_set_ne (blk_put (blk_set_ne J2.out n1.symm _) 0 _ rfl) n3 _
   ·exact blk_put (blk_set_ne (blk_set_ne J3.out n2'.symm _) n3.symm _) 0 _ rfl
   ·exact blk_set_ne (blk_set_ne (blk_set_ne J4.out (by show p1 ≠ b8; omega) _) (by show p1 ≠ b9; omega) _) (by show p1 ≠ b10; omega) _⟩
  have CH3 : Aside0 (∀ u v v' : Value, Chg (fun k => k < W4.heap.size) W (((W2.setCell ⟨b8, 0, none⟩ u).setCell ⟨b9, 0, none⟩ v).setCell ⟨b10, 0, none⟩ v')) := ⟨fun u v v' => ((CHG.out.setCell (.inl P8) _).setCell (.inl P9) _).setCell (.inl P10) _⟩
  have KE3 : Aside0 (∀ u v v' : Value, KeepsOthers W (((W2.setCell ⟨b8, 0, none⟩ u).setCell ⟨b9, 0, none⟩ v).setCell ⟨b10, 0, none⟩ v')) := ⟨fun u v v' => ((KEEP.out.trans (KeepsOthers.setCell _ _ _)).trans (KeepsOthers.setCell _ _ _)).trans (KeepsOthers.setCell _ _ _)⟩
  have x2 : ∀ u : Value, (W2.setCell ⟨b8, 0, none⟩ u).cell? ⟨b9, 0, none⟩ = some (.int .i64 z) := fun u => (blk_cell (blk_set_ne J2.out (by have := BZ.out; show b9 ≠ b8; omega) u) 0).trans rfl
  have x3 : ∀ u v : Value, ((W2.setCell ⟨b8, 0, none⟩ u).setCell ⟨b9, 0, none⟩ v).cell? ⟨b10, 0, none⟩ = some (.bool f) := fun u v => (blk_cell (blk_set_ne (blk_set_ne J3.out (by have := BZ.out; show b10 ≠ b8; omega) u) (by have := BZ.out; show b10 ≠ b9; omega) v) 0).trans rfl
  clear HB J1 J2 J3 J4 JL HBS PP
  by_cases h0 : e1 = 0
  ·subst h0
   cases f with
   | false =>
    gi_wp2
    exact ⟨KE3.out _ _ _, CH3.out _ _ _, TAKE.out HCO.out (.inl (by simp)) _⟩
   | true =>
    by_cases hlt : z1 < z
    ·gi_wp2
     exact ⟨KE3.out _ _ _, CH3.out _ _ _, TAKE.out HCO.out (.inr hlt) _⟩
    ·gi_wp2
     exact ⟨KEEP.out, CHG.out, SKIP.out (.inr ⟨by simp, by rw [HCO.out]; show z ≤ z1; omega⟩)⟩
  ·have g1 : (e1 == 0) = false := by simp [h0]
   gi_wp2
   exact ⟨KEEP.out, CHG.out, SKIP.out (.inl (by rw [HCO.out]; exact h0))⟩
 case done =>
  rintro D xs W hD hS ⟨vb, z, f, i1, i2, i3, i4, i5, i6⟩ hK
  have k1 : W.cell? ⟨b8, 0, none⟩ = some vb := (blk_cell i1 0).trans rfl
  have k2 : W.cell? ⟨b9, 0, none⟩ = some (.int .i64 z) := (blk_cell i2 0).trans rfl
  have k3 : W.cell? ⟨b10, 0, none⟩ = some (.bool f) := (blk_cell i3 0).trans rfl
  have FIN : Aside0 (BstP x (visI n) f z ∧ Below w.heap.size w W) := ⟨by rw [← ord_len hS]; exact i5, i6⟩
  have HD := Aside0.mk hD
  clear i1 i2 i3 i4 i5 i6 hS hD
  gi_upto_region 11 with fail
  gi_quiet (fail)
  obtain ⟨Wq, hWq⟩ : ∃ Wq, Wq = W.drewN nq := ⟨_, rfl⟩
  rw [← hWq]
  have hKq : Wq.heap[D]? = some (.deferred (some [])) := by rw [hWq]; exact hK
  have FQ : Aside0 (BstP x (visI n) f z ∧ Below w.heap.size w Wq) := ⟨FIN.out.1, by rw [hWq]; exact pw_below_drewN FIN.out.2 nq⟩
  clear FIN hWq hK k1 k2 k3
  gi_wp2
  refine ⟨by simp, .inl ⟨_, _, rfl, run_takeDeferred hKq, ?_⟩⟩
  refine ⟨.tuple #[vb, .int .i64 z, .bool f, .int .i64 0], by simp [results, Try.results34, go_sem], ⟨vb, z, f, rfl, ⟨FQ.out.1, ?_⟩⟩⟩
  exact FQ.out.2.trans ⟨rfl, rfl, rfl, by simp [World.putObj], fun k hk => World.putObj_heap_other (by have := HD.out; omega)⟩
end Go.Proofs.Ytelabmhhnpfegaa.Hand
end
section
namespace Go.Proofs.Ytelabmhhnpfegaa.Hand
theorem tree_next {t : Tb} {r : Nat} {s : St} {L : List Nat} (h : Look t r s L) (i : Nat) : Tree s r L i ↔ (L ≠ [] ∧ Tree s r L.tail i) ∨ i = nextRow s r L := by
 cases L with
 | nil => simp [Tree, nextRow]
 | cons k L =>
  have h0 := (h.lin k List.mem_cons_self).2
  simp only [Tree, nextRow, List.tail_cons, List.mem_cons]
  constructor
  ·rintro (rfl | ⟨b, rfl | hb, e⟩)
   ·exact .inl ⟨by simp, .inl rfl⟩
   ·exact .inr (by omega)
   ·exact .inl ⟨by simp, .inr ⟨b, hb, e⟩⟩
  ·rintro (⟨_, rfl | ⟨b, hb, e⟩⟩ | e)
   ·exact .inl rfl
   ·exact .inr ⟨b, .inr hb, e⟩
   ·exact .inr ⟨k, .inl rfl, by omega⟩
theorem next_row_lt {t : Tb} {r : Nat} {s : St} {L : List Nat} (h : Look t r s L) : nextRow s r L < t.n := by
 cases L with
 | nil => exact h.rlt
 | cons k L =>
  obtain ⟨h1, h2⟩ := h.lin k List.mem_cons_self
  have := h.rlt
  rcases h.range k h1 with e | ⟨i, e, hi⟩
  ·rw [e] at h2; omega
  ·show (s.of k).toNat < t.n
   rw [e]
   simp
   omega
theorem row_next {s : St} {r : Nat} {L : List Nat} : rowOf s.of r (nextBy L) = nextRow s r L := by
 cases L with
 | nil => rfl
 | cons k L =>
  have : ¬ ((k : Int) < 0) := by omega
  simp [rowOf, nextBy, nextRow, this]
theorem spreadC_seen {t : Tb} {s : St} {row k : Nat} (h : s.seen k = true) : spreadC t s row k = false := by simp [spreadC, h]
theorem Look.from_eq {t : Tb} {r : Nat} {s s' : St} {L : List Nat} (h : Look t r s L) (hu : s'.u = s.u) (hv : s'.v = s.v) (ho : s'.of = s.of) (hs : s'.seen = s.seen) (hf : ∀ k ∈ L, s'.from_ k = s.from_ k) : Look t r s' L := by
 obtain ⟨a1, a2, a3, a4, a5, a6, a7, a8, a9, a10, a11, a12, a13, a14, a15, a16⟩ := h
 refine ⟨a1, by rw [ho]; exact a2, by rw [ho]; exact a3, by rw [ho]; exact a4, by rw [ho, hu, hv]; exact a5, by rw [hu, hv]; exact a6, by rw [ho, hv]; exact a7, by rw [hu]; exact a8, a9, by rw [hs]; exact a10, by rw [ho]; exact a11, by rw [hv]; exact a12, by rw [hu, hv]; exact a13, by rw [hu]; exact a14, ?_, ?_⟩
 ·intro l1 k l2 e
  rw [hf k (by rw [e]; simp)]
  exact a15 l1 k l2 e
 ·intro k hk
  rw [hf k hk, ho, hu, hv]
  exact a16 k hk
theorem spread_ok {t : Tb} (ht : TbOk t) {r : Nat} {s : St} {L : List Nat} (h : Ahead t r s L) : Spread t r (spread t s (nextRow s r L) (nextBy L)) L := by
 obtain ⟨row, hrow⟩ : ∃ row, row = nextRow s r L := ⟨_, rfl⟩
 have hrl : row < t.n := by rw [hrow]; exact next_row_lt h.toLook
 have hseen : ∀ k, k < t.n → k ∈ L → spreadC t s row k = false := fun k hk hL => spreadC_seen ((h.sees k hk).2 hL)
 have hns : ∀ k, k < t.n → k ∉ L → s.seen k = false := fun k hk hL => by
  cases e : s.seen k with
  | false => rfl
  | true => exact absurd ((h.sees k hk).1 e) hL
 have hC : ∀ k, k < t.n → k ∉ L → (spreadC t s row k = true ↔ t.no row k = false ∧ (s.far k = true ∨ t.c row k - s.u row - s.v k < s.least k)) := fun k hk hL => by
  simp [spreadC, hns k hk hL]
 have hT : ∀ i, Tree s r L i ↔ (L ≠ [] ∧ Tree s r L.tail i) ∨ i = row := fun i => by rw [hrow]; exact tree_next h.toLook i
 have hL' : Look t r (spread t s row (nextBy L)) L := h.toLook.from_eq rfl rfl rfl rfl (fun k hk => by
  show spreadB t s row (nextBy L) t.n k = s.from_ k
  unfold spreadB
  rw [if_neg]
  rintro ⟨h1, h2⟩
  rw [hseen k h1 hk] at h2
  cases h2)
 rw [← hrow]
 have eT : ∀ i, Tree (spread t s row (nextBy L)) r L i ↔ Tree s r L i := fun i => Iff.rfl
 refine ⟨hL', ?_, ?_, ?_, ?_, ?_, h.own⟩
 ·intro k hk hkL hf
  have hf' : spreadF t s row t.n k = true := hf
  unfold spreadF at hf'
  split at hf'
  ·cases hf'
  ·rename_i hc
   show spreadL t s row t.n k = 0
   unfold spreadL
   rw [if_neg hc]
   exact h.fbnd k hk hkL hf'
 ·intro k hk hkL
  show spreadF t s row t.n k = true ↔ _
  unfold spreadF
  have h1 := h.fars k hk hkL
  by_cases hc : spreadC t s row k = true
  ·rw [if_pos ⟨hk, hc⟩]
   have h2 := (hC k hk hkL).1 hc
   constructor
   ·intro h; cases h
   ·intro hall
    have := hall row ((hT row).2 (.inr rfl))
    rw [h2.1] at this
    cases this
  ·rw [if_neg (fun x => hc x.2), h1]
   constructor
   ·intro hall i hi
    rcases (hT i).1 hi with ⟨a, b⟩ | rfl
    ·exact hall i a b
    ·cases e : t.no i k with
     | true => rfl
     | false => exact absurd ((hC k hk hkL).2 ⟨e, .inl (h1.2 hall)⟩) hc
   ·intro hall i a b
    exact hall i ((hT i).2 (.inl ⟨a, b⟩))
 ·intro k hk hkL hf
  have hf' : spreadF t s row t.n k = false := hf
  show (spreadB t s row (nextBy L) t.n k = -1 ∨ ∃ b ∈ L, spreadB t s row (nextBy L) t.n k = (b : Int)) ∧ t.no (rowOf s.of r (spreadB t s row (nextBy L) t.n k)) k = false ∧ spreadL t s row t.n k = t.c (rowOf s.of r (spreadB t s row (nextBy L) t.n k)) k - s.u (rowOf s.of r (spreadB t s row (nextBy L) t.n k)) - s.v k
  unfold spreadB spreadL
  unfold spreadF at hf'
  by_cases hc : spreadC t s row k = true
  ·rw [if_pos ⟨hk, hc⟩, if_pos ⟨hk, hc⟩, row_next, ← hrow]
   refine ⟨?_, ((hC k hk hkL).1 hc).1, rfl⟩
   cases L with
   | nil => exact .inl rfl
   | cons b L => exact .inr ⟨b, List.mem_cons_self, rfl⟩
  ·rw [if_neg (fun x => hc x.2)] at hf' ⊢
   rw [if_neg (fun x => hc x.2)]
   obtain ⟨h1, h2, h3⟩ := h.comes k hk hkL hf'
   exact ⟨h1.imp id (fun ⟨b, hb, e⟩ => ⟨b, List.mem_of_mem_tail hb, e⟩), h2, h3⟩
 ·intro k hk hkL i hi hno
  show spreadL t s row t.n k ≤ t.c i k - s.u i - s.v k
  unfold spreadL
  by_cases hc : spreadC t s row k = true
  ·rw [if_pos ⟨hk, hc⟩]
   have h2 := (hC k hk hkL).1 hc
   rcases (hT i).1 hi with ⟨a, b⟩ | rfl
   ·rcases h2.2 with hf | hlt
    ·have := (h.fars k hk hkL).1 hf i a b
     rw [hno] at this
     cases this
    ·have := h.min k hk hkL i a b hno
     omega
   ·exact Int.le_refl _
  ·rw [if_neg (fun x => hc x.2)]
   rcases (hT i).1 hi with ⟨a, b⟩ | rfl
   ·exact h.min k hk hkL i a b hno
   ·refine Classical.byContradiction fun hlt => hc ((hC k hk hkL).2 ⟨hno, .inr (by omega)⟩)
 ·intro k hk hkL hf
  have hf' : spreadF t s row t.n k = false := hf
  show -((2 * (L.length : Int) + 1) * M) ≤ spreadL t s row t.n k + s.v k + s.u r ∧ spreadL t s row t.n k + s.v k + s.u r ≤ (2 * (L.length : Int) + 1) * M
  unfold spreadL
  unfold spreadF at hf'
  by_cases hc : spreadC t s row k = true
  ·rw [if_pos ⟨hk, hc⟩]
   have hm := ht.mag row k hrl hk
   cases L with
   | nil =>
    obtain rfl : row = r := hrow
    simp
    unfold M
    omega
   | cons b L =>
    obtain ⟨hb1, hb2⟩ := h.lin b List.mem_cons_self
    have hrb : s.of b = (row : Int) := by
     have : row = (s.of b).toNat := hrow
     omega
    have ht1 := (h.tight b row hb1 hrb).2
    have hm2 := ht.mag row b hrl hb1
    have hs := h.sb b List.mem_cons_self
    unfold M at *
    rw [List.length_cons] at hs ⊢
    omega
  ·rw [if_neg (fun x => hc x.2)] at hf' ⊢
   have := h.lb k hk hkL hf'
   unfold M at *
   omega
theorem near_spec (s : St) (m : Nat) : (near s m = -1 ∧ ∀ j, j < m → s.seen j = true ∨ s.far j = true) ∨ ∃ k : Nat, near s m = (k : Int) ∧ k < m ∧ s.seen k = false ∧ s.far k = false ∧ ∀ j, j < m → s.seen j = false → s.far j = false → s.least k ≤ s.least j := by
 induction m with
 | zero => exact .inl ⟨rfl, fun j h => absurd h (Nat.not_lt_zero _)⟩
 | succ m ih =>
  by_cases hc : nearC s (near s m) m = true
  ·have e : near s (m + 1) = (m : Int) := if_pos hc
   simp only [nearC, Bool.and_eq_true, Bool.not_eq_true', Bool.or_eq_true, decide_eq_true_eq] at hc
   refine .inr ⟨m, e, by omega, hc.1.1, hc.1.2, fun j hj h1 h2 => ?_⟩
   rcases Nat.lt_succ_iff_lt_or_eq.1 hj with h3 | rfl
   ·rcases ih with ⟨e0, h4⟩ | ⟨k, e0, hk, a1, a2, a3⟩
    ·rcases h4 j h3 with h5 | h5
     ·rw [h1] at h5; cases h5
     ·rw [h2] at h5; cases h5
    ·have h6 := a3 j h3 h1 h2
     rcases hc.2 with h7 | h7
     ·omega
     ·rw [e0] at h7
      simp at h7
      omega
   ·exact Int.le_refl _
  ·have e : near s (m + 1) = near s m := if_neg hc
   rw [e]
   have hc' : ¬ (s.seen m = false ∧ s.far m = false ∧ (near s m < 0 ∨ s.least m < s.least (near s m).toNat)) := by
    intro hh
    apply hc
    simp only [nearC, Bool.and_eq_true, Bool.not_eq_true', Bool.or_eq_true, decide_eq_true_eq]
    exact ⟨⟨hh.1, hh.2.1⟩, hh.2.2⟩
   rcases ih with ⟨e0, h4⟩ | ⟨k, e0, hk, a1, a2, a3⟩
   ·refine .inl ⟨e0, fun j hj => ?_⟩
    rcases Nat.lt_succ_iff_lt_or_eq.1 hj with h3 | rfl
    ·exact h4 j h3
    ·cases h5 : s.seen j with
     | true => exact .inl rfl
     | false =>
      cases h6 : s.far j with
      | true => exact .inr rfl
      | false => exact absurd ⟨h5, h6, .inl (by rw [e0]; omega)⟩ hc'
   ·refine .inr ⟨k, e0, by omega, a1, a2, fun j hj h1 h2 => ?_⟩
    rcases Nat.lt_succ_iff_lt_or_eq.1 hj with h3 | rfl
    ·exact a3 j h3 h1 h2
    ·refine Classical.byContradiction fun hlt => hc' ⟨h1, h2, .inr ?_⟩
     rw [e0]
     simp
     omega
theorem sub_len : ∀ (L l : List Nat), l.Nodup → (∀ x ∈ l, x ∈ L) → l.length ≤ L.length := by
 intro L
 induction L with
 | nil =>
  intro l _ h
  cases l with
  | nil => simp
  | cons x l => exact absurd (h x List.mem_cons_self) (by simp)
 | cons a L ih =>
  intro l hn h
  have h1 := ih (l.erase a) (hn.erase a) (fun x hx => by
   have h2 := h x (List.mem_of_mem_erase hx)
   rcases List.mem_cons.1 h2 with rfl | h2
   ·exact absurd hx hn.not_mem_erase
   ·exact h2)
  by_cases hm : a ∈ l
  ·rw [List.length_erase_of_mem hm] at h1
   rw [List.length_cons]
   omega
  ·rw [List.erase_of_not_mem hm] at h1
   rw [List.length_cons]
   omega
theorem Look.rows {t : Tb} {r : Nat} {s : St} {L : List Nat} (h : Look t r s L) : (r :: L.map fun k => (s.of k).toNat).Nodup ∧ ∀ i ∈ (r :: L.map fun k => (s.of k).toNat), i < t.n ∧ Tree s r L i := by
 have hlt : ∀ k ∈ L, (s.of k).toNat < r ∧ s.of k = ((s.of k).toNat : Int) := fun k hk => by
  obtain ⟨h1, h2⟩ := h.lin k hk
  rcases h.range k h1 with e | ⟨i, e, hi⟩
  ·rw [e] at h2; omega
  ·rw [e]; simp; omega
 refine ⟨?_, fun i hi => ?_⟩
 ·rw [List.nodup_cons]
  refine ⟨fun hm => ?_, ?_⟩
  ·obtain ⟨k, hk, e⟩ := List.mem_map.1 hm
   have := (hlt k hk).1
   omega
  ·have : ∀ l : List Nat, l.Nodup → (∀ k ∈ l, k ∈ L) → (l.map fun k => (s.of k).toNat).Nodup := by
    intro l
    induction l with
    | nil => intro _ _; simp
    | cons a l ih =>
     intro hn hl
     rw [List.nodup_cons] at hn
     rw [List.map_cons, List.nodup_cons]
     refine ⟨fun hm => ?_, ih hn.2 (fun k hk => hl k (List.mem_cons_of_mem _ hk))⟩
     obtain ⟨b, hb, e⟩ := List.mem_map.1 hm
     have h1 := hl a List.mem_cons_self
     have h2 := hl b (List.mem_cons_of_mem _ hb)
     have e2 := h.inj a b (h.lin a h1).1 (h.lin b h2).1 (by have := (hlt a h1).2; have := (hlt b h2).2; omega) (h.lin a h1).2
     exact hn.1 (e2 ▸ hb)
   exact this L h.nodup (fun _ hk => hk)
 ·have := h.rlt
  rcases List.mem_cons.1 hi with rfl | hi
  ·exact ⟨this, .inl rfl⟩
  ·obtain ⟨k, hk, rfl⟩ := List.mem_map.1 hi
   exact ⟨by have := (hlt k hk).1; omega, .inr ⟨k, hk, (hlt k hk).2⟩⟩
theorem no_match {t : Tb} {r : Nat} {s : St} {L : List Nat} (h : Spread t r s L) (hn : near s t.n = -1) : ∀ σ, ¬ PM t.n t.no σ := by
 intro σ hσ
 have hall : ∀ j, j < t.n → s.seen j = true ∨ s.far j = true := by
  rcases near_spec s t.n with ⟨_, h1⟩ | ⟨k, e, _⟩
  ·exact h1
  ·rw [hn] at e; omega
 obtain ⟨h1, h2⟩ := h.toLook.rows
 have hin : ∀ x ∈ (r :: L.map fun k => (s.of k).toNat).map σ, x ∈ L := fun x hx => by
  obtain ⟨i, hi, rfl⟩ := List.mem_map.1 hx
  obtain ⟨h3, h4⟩ := h2 i hi
  have h5 := hσ.inj.lt i h3
  refine Classical.byContradiction fun hL => ?_
  rcases hall (σ i) h5 with h6 | h6
  ·exact hL ((h.sees _ h5).1 h6)
  ·have := (h.fars _ h5 hL).1 h6 i h4
   rw [hσ.may i h3] at this
   cases this
 have hnd : ((r :: L.map fun k => (s.of k).toNat).map σ).Nodup := by
  have : ∀ l : List Nat, l.Nodup → (∀ i ∈ l, i < t.n) → (l.map σ).Nodup := by
   intro l
   induction l with
   | nil => intro _ _; simp
   | cons a l ih =>
    intro hn hl
    rw [List.nodup_cons] at hn
    rw [List.map_cons, List.nodup_cons]
    refine ⟨fun hm => ?_, ih hn.2 (fun k hk => hl k (List.mem_cons_of_mem _ hk))⟩
    obtain ⟨b, hb, e⟩ := List.mem_map.1 hm
    exact hn.1 (hσ.inj.inj b a (hl b (List.mem_cons_of_mem _ hb)) (hl a List.mem_cons_self) e ▸ hb)
  exact this _ h1 (fun i hi => (h2 i hi).1)
 have := sub_len L _ hnd hin
 simp at this
 omega
end Go.Proofs.Ytelabmhhnpfegaa.Hand
namespace Go.Proofs.Ytelabmhhnpfegaa.Hand
theorem shiftU_spec {t : Tb} {r : Nat} {s : St} {L : List Nat} (h : Look t r s L) (d : Int) (m : Nat) (hm : m ≤ t.n) :
  ∀ i, shiftU s r d m i = s.u i + (if i = r ∨ ∃ k, k < m ∧ s.seen k = true ∧ s.of k = (i : Int) then d else 0) := by
 induction m with
 | zero =>
  intro i
  simp only [shiftU, upd]
  by_cases hi : i = r
  ·subst hi; rw [if_pos rfl, if_pos (.inl rfl)]
  ·rw [if_neg hi, if_neg]
   ·omega
   ·rintro (e | ⟨k, hk, _⟩)
    ·exact hi e
    ·omega
 | succ m ih =>
  intro i
  have ih := ih (by omega)
  simp only [shiftU]
  by_cases hs : s.seen m = true
  ·rw [if_pos hs]
   obtain ⟨hml, hmo⟩ := h.lin m ((h.sees m (by omega)).1 hs)
   have hmr : (s.of m).toNat < r ∧ s.of m = ((s.of m).toNat : Int) := by
    rcases h.range m hml with e | ⟨j, e, hj⟩
    ·rw [e] at hmo; omega
    ·rw [e]; simp; omega
   by_cases hi : i = (s.of m).toNat
   ·subst hi
    rw [upd_self, ih, if_neg, if_pos]
    ·omega
    ·exact .inr ⟨m, by omega, hs, hmr.2⟩
    ·rintro (e | ⟨k, hk, hks, e⟩)
     ·omega
     ·have := h.inj k m (by omega) hml (by rw [e]; exact hmr.2.symm) (by rw [e]; omega)
      omega
   ·rw [upd_ne _ _ hi, ih]
    congr 1
    have : (i = r ∨ ∃ k, k < m ∧ s.seen k = true ∧ s.of k = (i : Int)) ↔ (i = r ∨ ∃ k, k < m + 1 ∧ s.seen k = true ∧ s.of k = (i : Int)) := by
     constructor
     ·rintro (e | ⟨k, hk, a, b⟩)
      ·exact .inl e
      ·exact .inr ⟨k, by omega, a, b⟩
     ·rintro (e | ⟨k, hk, a, b⟩)
      ·exact .inl e
      ·rcases Nat.lt_succ_iff_lt_or_eq.1 hk with h1 | rfl
       ·exact .inr ⟨k, h1, a, b⟩
       ·exact absurd (show i = (s.of k).toNat by omega) hi
    simp only [this]
  ·rw [if_neg hs, ih]
   congr 1
   have : (i = r ∨ ∃ k, k < m ∧ s.seen k = true ∧ s.of k = (i : Int)) ↔ (i = r ∨ ∃ k, k < m + 1 ∧ s.seen k = true ∧ s.of k = (i : Int)) := by
    constructor
    ·rintro (e | ⟨k, hk, a, b⟩)
     ·exact .inl e
     ·exact .inr ⟨k, by omega, a, b⟩
    ·rintro (e | ⟨k, hk, a, b⟩)
     ·exact .inl e
     ·rcases Nat.lt_succ_iff_lt_or_eq.1 hk with h1 | rfl
      ·exact .inr ⟨k, h1, a, b⟩
      ·exact absurd a hs
   simp only [this]
theorem shift_u {t : Tb} {r : Nat} {s : St} {L : List Nat} (h : Look t r s L) (d : Int) (i : Nat) : (Tree s r L i → (shift t.n s r d).u i = s.u i + d) ∧ (¬ Tree s r L i → (shift t.n s r d).u i = s.u i) := by
 have h1 := shiftU_spec h d t.n (Nat.le_refl _) i
 have e : (i = r ∨ ∃ k, k < t.n ∧ s.seen k = true ∧ s.of k = (i : Int)) ↔ Tree s r L i := by
  unfold Tree
  constructor
  ·rintro (e | ⟨k, hk, a, b⟩)
   ·exact .inl e
   ·exact .inr ⟨k, (h.sees k hk).1 a, b⟩
  ·rintro (e | ⟨k, hk, b⟩)
   ·exact .inl e
   ·have := (h.lin k hk).1
    exact .inr ⟨k, this, (h.sees k this).2 hk, b⟩
 constructor
 ·intro hT
  rw [if_pos (e.2 hT)] at h1
  exact h1
 ·intro hT
  rw [if_neg (fun x => hT (e.1 x))] at h1
  rw [show (shift t.n s r d).u i = shiftU s r d t.n i from rfl, h1]
  omega
theorem shift_v {t : Tb} {r : Nat} {s : St} {L : List Nat} (h : Look t r s L) (d : Int) {k : Nat} (hk : k < t.n) : (k ∈ L → (shift t.n s r d).v k = s.v k - d) ∧ (k ∉ L → (shift t.n s r d).v k = s.v k) := by
 constructor
 ·intro hL
  exact if_pos ⟨hk, (h.sees k hk).2 hL⟩
 ·intro hL
  exact if_neg (fun x => hL ((h.sees k hk).1 x.2))
theorem shift_l {t : Tb} {r : Nat} {s : St} {L : List Nat} (h : Look t r s L) (d : Int) {k : Nat} (hk : k < t.n) (hL : k ∉ L) : (s.far k = false → (shift t.n s r d).least k = s.least k - d) ∧ (s.far k = true → (shift t.n s r d).least k = s.least k) := by
 have hs : s.seen k = false := by
  cases e : s.seen k with
  | false => rfl
  | true => exact absurd ((h.sees k hk).1 e) hL
 constructor
 ·intro hf
  exact if_pos ⟨hk, hs, hf⟩
 ·intro hf
  refine if_neg (fun x => ?_)
  rw [hf] at x
  cases x.2.2
theorem rowOf_tree {t : Tb} {r : Nat} {s : St} {L : List Nat} (h : Look t r s L) {f : Int} (hf : f = -1 ∨ ∃ b ∈ L, f = (b : Int)) : Tree s r L (rowOf s.of r f) ∧ rowOf s.of r f ≤ r := by
 rcases hf with rfl | ⟨b, hb, rfl⟩
 ·exact ⟨.inl rfl, Nat.le_refl _⟩
 ·obtain ⟨h1, h2⟩ := h.lin b hb
  have e : rowOf s.of r (b : Int) = (s.of b).toNat := by
   have : ¬ ((b : Int) < 0) := by omega
   simp [rowOf, this]
  rw [e]
  rcases h.range b h1 with e2 | ⟨i, e2, hi⟩
  ·rw [e2] at h2; omega
  ·exact ⟨.inr ⟨b, hb, by rw [e2]; simp⟩, by rw [e2]; simp; omega⟩
theorem shift_ok {t : Tb} (ht : TbOk t) {r : Nat} {s : St} {L : List Nat} (h : Spread t r s L) {k : Nat} (hk : k < t.n) (hkL : k ∉ L) (hkf : s.far k = false) (hmin : ∀ j, j < t.n → s.seen j = false → s.far j = false → s.least k ≤ s.least j) :
  Spread t r (shift t.n s r (s.least k)) L ∧ (shift t.n s r (s.least k)).least k = 0 ∧ ∀ j, j < t.n → t.no r j = false → (shift t.n s r (s.least k)).u r + (shift t.n s r (s.least k)).v j ≤ t.c r j := by
 obtain ⟨d, hd⟩ : ∃ d, d = s.least k := ⟨_, rfl⟩
 rw [← hd]
 have hU := fun i => shift_u h.toLook d i
 have hV := fun {j : Nat} (hj : j < t.n) => shift_v h.toLook d hj
 have hLe := fun {j : Nat} (hj : j < t.n) (hL : j ∉ L) => shift_l h.toLook d hj hL
 have hns : ∀ j, j < t.n → j ∉ L → s.seen j = false := fun j hj hL => by
  cases e : s.seen j with
  | false => rfl
  | true => exact absurd ((h.sees j hj).1 e) hL
 have hdle : ∀ j, j < t.n → j ∉ L → ∀ i, Tree s r L i → t.no i j = false → d ≤ t.c i j - s.u i - s.v j := fun j hj hjL i hT hno => by
  have hf : s.far j = false := by
   cases e : s.far j with
   | false => rfl
   | true =>
    have := (h.fars j hj hjL).1 e i hT
    rw [hno] at this
    cases this
  have h1 := h.min j hj hjL i hT hno
  have h2 := hmin j hj (hns j hj hjL) hf
  omega
 have hcomes := h.comes k hk hkL hkf
 have hd0 : L ≠ [] → 0 ≤ d := fun hne => by
  obtain ⟨h1, h2, h3⟩ := hcomes
  obtain ⟨hT, hle⟩ := rowOf_tree h.toLook h1
  have hfair : s.u (rowOf s.of r (s.from_ k)) + s.v k ≤ t.c (rowOf s.of r (s.from_ k)) k := by
   rcases Nat.lt_or_ge (rowOf s.of r (s.from_ k)) r with h4 | h4
   ·exact h.fair _ k h4 hk h2
   ·have e : rowOf s.of r (s.from_ k) = r := by omega
    rw [e] at h2 ⊢
    exact h.own hne k hk h2
  omega
 have hlb := h.lb k hk hkL hkf
 have hvk := h.vb k hk hkL
 have hlen := h.toLook.len
 have hn64 := ht.n64
 have hrl := h.rlt
 have hUr : (shift t.n s r d).u r = s.u r + d := (hU r).1 (.inl rfl)
 have hlook : Look t r (shift t.n s r d) L := by
  refine ⟨h.rlt, h.range, h.onto, h.inj, ?_, ?_, ?_, ?_, h.nodup, h.sees, h.lin, ?_, ?_, ?_, h.way, ?_⟩
  ·intro j i hj e
   obtain ⟨h1, h2⟩ := h.tight j i hj e
   refine ⟨h1, ?_⟩
   by_cases hjL : j ∈ L
   ·rw [(hU i).1 (.inr ⟨j, hjL, e⟩), (hV hj).1 hjL]
    omega
   ·have hnT : ¬ Tree s r L i := by
     rintro (e2 | ⟨b, hb, e2⟩)
     ·rcases h.range j hj with e3 | ⟨i', e3, hi'⟩
      ·have e' : s.of j = (i : Int) := e
       omega
      ·have e' : s.of j = (i : Int) := e
       omega
     ·have := h.inj b j (h.lin b hb).1 hj (by rw [e2]; exact e.symm) (by rw [e2]; omega)
      exact hjL (this ▸ hb)
    rw [(hU i).2 hnT, (hV hj).2 hjL]
    exact h2
  ·intro i j hi hj hno
   have hf := h.fair i j hi hj hno
   by_cases hT : Tree s r L i
   ·rw [(hU i).1 hT]
    by_cases hjL : j ∈ L
    ·rw [(hV hj).1 hjL]; omega
    ·rw [(hV hj).2 hjL]
     have := hdle j hj hjL i hT hno
     omega
   ·rw [(hU i).2 hT]
    by_cases hjL : j ∈ L
    ·rw [(hV hj).1 hjL]
     have := hd0 (fun e => by rw [e] at hjL; cases hjL)
     omega
    ·rw [(hV hj).2 hjL]; exact hf
  ·intro j hj e
   have hjL : j ∉ L := fun hb => by
    have h1 := (h.lin j hb).2
    have e' : s.of j = -1 := e
    omega
   rw [(hV hj).2 hjL]
   exact h.free j hj e
  ·intro i hi
   have hnT : ¬ Tree s r L i := by
    rintro (e | ⟨b, hb, e⟩)
    ·omega
    ·rcases h.range b (h.lin b hb).1 with e2 | ⟨i', e2, hi'⟩ <;> omega
   rw [(hU i).2 hnT]
   exact h.rest i hi
  ·intro j hj hjL
   rw [(hV hj).2 hjL]
   exact h.vb j hj hjL
  ·intro j hjL
   rw [(hV (h.lin j hjL).1).1 hjL, hUr]
   have := h.sb j hjL
   omega
  ·rw [hUr, hd]
   unfold M at *
   omega
  ·intro j hjL
   show t.no (rowOf s.of r (s.from_ j)) j = false ∧ (shift t.n s r d).u (rowOf s.of r (s.from_ j)) + (shift t.n s r d).v j = t.c (rowOf s.of r (s.from_ j)) j
   obtain ⟨h1, h2⟩ := h.edge j hjL
   refine ⟨h1, ?_⟩
   obtain ⟨l1, l2, e⟩ := List.append_of_mem hjL
   have hw := h.way l1 j l2 e
   have hT := (rowOf_tree h.toLook (hw.imp id (fun ⟨b, hb, e2⟩ => ⟨b, by rw [e]; simp [hb], e2⟩))).1
   rw [(hU _).1 hT, (hV (h.lin j hjL).1).1 hjL]
   omega
 have hown : ∀ j, j < t.n → t.no r j = false → (shift t.n s r d).u r + (shift t.n s r d).v j ≤ t.c r j := fun j hj hno => by
  rw [hUr]
  by_cases hjL : j ∈ L
  ·rw [(hV hj).1 hjL]
   have := h.own (fun e => by rw [e] at hjL; cases hjL) j hj hno
   omega
  ·rw [(hV hj).2 hjL]
   have := hdle j hj hjL r (.inl rfl) hno
   omega
 refine ⟨⟨hlook, ?_, h.fars, ?_, ?_, ?_, fun _ => hown⟩, ?_, hown⟩
 ·intro j hj hjL hf
  rw [(hLe hj hjL).2 hf]
  exact h.fbnd j hj hjL hf
 ·intro j hj hjL hf
  obtain ⟨h1, h2, h3⟩ := h.comes j hj hjL hf
  refine ⟨h1, h2, ?_⟩
  show (shift t.n s r d).least j = t.c (rowOf s.of r (s.from_ j)) j - (shift t.n s r d).u (rowOf s.of r (s.from_ j)) - (shift t.n s r d).v j
  rw [(hLe hj hjL).1 hf, (hU _).1 (rowOf_tree h.toLook h1).1, (hV hj).2 hjL]
  omega
 ·intro j hj hjL i hT hno
  have hf : s.far j = false := by
   cases e : s.far j with
   | false => rfl
   | true =>
    have := (h.fars j hj hjL).1 e i hT
    rw [hno] at this
    cases this
  rw [(hLe hj hjL).1 hf, (hU i).1 hT, (hV hj).2 hjL]
  have := h.min j hj hjL i hT hno
  omega
 ·intro j hj hjL hf
  rw [(hLe hj hjL).1 hf, (hV hj).2 hjL, hUr]
  have := h.lb j hj hjL hf
  omega
 ·rw [(hLe hk hkL).1 hkf, hd]
  omega
theorem see_ok {t : Tb} {r : Nat} {s : St} {L : List Nat} (h : Spread t r s L) {k : Nat} (hk : k < t.n) (hkL : k ∉ L) (hkf : s.far k = false) (hk0 : s.least k = 0) (hown : ∀ j, j < t.n → t.no r j = false → s.u r + s.v j ≤ t.c r j) (hof : 0 ≤ s.of k) :
  Ahead t r { s with seen := upd s.seen k true } (k :: L) := by
 have hc := h.comes k hk hkL hkf
 have hlen : ((k :: L).length : Int) = (L.length : Int) + 1 := by simp
 refine ⟨⟨h.rlt, h.range, h.onto, h.inj, h.tight, h.fair, h.free, h.rest, List.nodup_cons.2 ⟨hkL, h.nodup⟩, ?_, ?_, ?_, ?_, h.rb, ?_, ?_⟩, ?_, ?_, ?_, ?_, ?_, fun _ => hown⟩
 ·intro j hj
  show upd s.seen k true j = true ↔ _
  rw [List.mem_cons]
  by_cases e : j = k
  ·subst e; rw [upd_self]; simp
  ·rw [upd_ne _ _ e, h.sees j hj]
   constructor
   ·exact .inr
   ·rintro (e2 | e2)
    ·exact absurd e2 e
    ·exact e2
 ·intro j hj
  rcases List.mem_cons.1 hj with rfl | hj
  ·exact ⟨hk, hof⟩
  ·exact h.lin j hj
 ·intro j hj hjL
  exact h.vb j hj (fun x => hjL (List.mem_cons_of_mem _ x))
 ·intro j hj
  rw [hlen]
  rcases List.mem_cons.1 hj with rfl | hj
  ·have := h.lb j hk hkL hkf
   rw [hk0] at this
   show -((2 * ((L.length : Int) + 1) - 1) * M) ≤ s.v j + s.u r ∧ s.v j + s.u r ≤ (2 * ((L.length : Int) + 1) - 1) * M
   unfold M at *
   omega
  ·have := h.sb j hj
   show -((2 * ((L.length : Int) + 1) - 1) * M) ≤ s.v j + s.u r ∧ s.v j + s.u r ≤ (2 * ((L.length : Int) + 1) - 1) * M
   unfold M at *
   omega
 ·intro l1 j l2 e
  cases l1 with
  | nil =>
   simp at e
   obtain ⟨rfl, rfl⟩ := e
   exact hc.1
  | cons a l1 =>
   simp at e
   exact h.way l1 j l2 e.2
 ·intro j hj
  rcases List.mem_cons.1 hj with rfl | hj
  ·refine ⟨hc.2.1, ?_⟩
   have := hc.2.2
   rw [hk0] at this
   show s.u (rowOf s.of r (s.from_ j)) + s.v j = t.c (rowOf s.of r (s.from_ j)) j
   omega
  ·exact h.edge j hj
 ·intro j hj hjL
  exact h.fbnd j hj (fun x => hjL (List.mem_cons_of_mem _ x))
 ·intro j hj hjL
  have := h.fars j hj (fun x => hjL (List.mem_cons_of_mem _ x))
  exact ⟨fun hf i _ hT => this.1 hf i hT, fun hall => this.2 (fun i hT => hall i (by simp) hT)⟩
 ·intro j hj hjL hf
  exact h.comes j hj (fun x => hjL (List.mem_cons_of_mem _ x)) hf
 ·intro j hj hjL i _ hT hno
  exact h.min j hj (fun x => hjL (List.mem_cons_of_mem _ x)) i hT hno
 ·intro j hj hjL hf
  rw [hlen]
  have := h.lb j hj (fun x => hjL (List.mem_cons_of_mem _ x)) hf
  show -((2 * ((L.length : Int) + 1) - 1) * M) ≤ s.least j + s.v j + s.u r ∧ s.least j + s.v j + s.u r ≤ (2 * ((L.length : Int) + 1) - 1) * M
  unfold M at *
  omega
end Go.Proofs.Ytelabmhhnpfegaa.Hand
end
section
namespace Go.Proofs.Ytelabmhhnpfegaa.Hand
theorem way_of {t : Tb} {r : Nat} {s : St} {L : List Nat} (h : Look t r s L) (m : Nat) : ∀ (l1 l2 : List Nat) (k : Nat), l2.length ≤ m → L = l1 ++ l2 → (s.from_ k = -1 ∨ ∃ b ∈ l2, s.from_ k = (b : Int)) → ∃ W : List Nat, Way s (k :: W) ∧ W.Sublist l2 := by
 induction m with
 | zero =>
  intro l1 l2 k hm _ hk
  obtain rfl := List.eq_nil_of_length_eq_zero (Nat.le_zero.1 hm)
  rcases hk with e | ⟨b, hb, _⟩
  ·exact ⟨[], e, List.nil_sublist _⟩
  ·cases hb
 | succ m ih =>
  intro l1 l2 k hm hL hk
  rcases hk with e | ⟨b, hb, e⟩
  ·exact ⟨[], e, List.nil_sublist _⟩
  ·obtain ⟨m1, m2, rfl⟩ := List.append_of_mem hb
   have hw := h.way (l1 ++ m1) b m2 (by rw [hL, List.append_assoc])
   obtain ⟨W, h1, h2⟩ := ih (l1 ++ m1 ++ [b]) m2 b (by simp at hm; omega) (by rw [hL]; simp) hw
   exact ⟨b :: W, ⟨e, h1⟩, (List.Sublist.cons_cons b h2).trans (List.sublist_append_right _ _)⟩
theorem way_tail {s : St} : ∀ (P : List Nat) (k : Nat), Way s (k :: P) → ∀ j ∈ k :: P, s.from_ j = -1 ∨ ∃ b ∈ P, s.from_ j = (b : Int)
 | [], k, h, j, hj => by
  rw [List.mem_singleton.1 hj]
  exact .inl h
 | k' :: l, k, h, j, hj => by
  rcases List.mem_cons.1 hj with rfl | hj
  ·exact .inr ⟨k', by simp, h.1⟩
  ·rcases way_tail l k' h.2 j hj with e | ⟨b, hb, e⟩
   ·exact .inl e
   ·exact .inr ⟨b, List.mem_cons_of_mem _ hb, e⟩
theorem way_inj {s : St} : ∀ (P : List Nat), P.Nodup → Way s P → ∀ i ∈ P, ∀ j ∈ P, s.from_ i = s.from_ j → i = j
 | [], _, _, i, hi, _, _, _ => by cases hi
 | [k], _, _, i, hi, j, hj, _ => by rw [List.mem_singleton.1 hi, List.mem_singleton.1 hj]
 | k :: k' :: l, hn, h, i, hi, j, hj, e => by
  rw [List.nodup_cons] at hn
  have key : ∀ x ∈ k' :: l, s.from_ x ≠ (k' : Int) := fun x hx e2 => by
   rcases way_tail l k' h.2 x hx with e3 | ⟨b, hb, e3⟩
   ·omega
   ·have : b = k' := by omega
    subst this
    exact (List.nodup_cons.1 hn.2).1 hb
  rcases List.mem_cons.1 hi with hi2 | hi2
  ·rcases List.mem_cons.1 hj with hj2 | hj2
   ·rw [hi2, hj2]
   ·rw [hi2, h.1] at e
    exact absurd e.symm (key j hj2)
  ·rcases List.mem_cons.1 hj with hj2 | hj2
   ·rw [hj2, h.1] at e
    exact absurd e (key i hi2)
   ·exact way_inj (k' :: l) hn.2 h.2 i hi2 j hj2 e
theorem turnF_spec {s : St} (r : Nat) : ∀ (P : List Nat) (o : Nat → Int), P.Nodup → Way s P → (∀ j ∈ P.tail, 0 ≤ o j) → (∀ j, j ∉ P → turnF r P o j = o j) ∧ ∀ j ∈ P, turnF r P o j = (rowOf o r (s.from_ j) : Int)
 | [], o, _, _, _ => ⟨fun _ _ => rfl, fun j hj => by cases hj⟩
 | [k], o, _, h, _ => ⟨fun j hj => upd_ne _ _ (by simpa using hj), fun j hj => by
   have hj := List.mem_singleton.1 hj
   subst hj
   have e : s.from_ j = -1 := h
   show upd o j (r : Int) j = _
   rw [upd_self, e]
   rfl⟩
 | k :: k' :: l, o, hn, h, ho => by
  rw [List.nodup_cons] at hn
  have ho' : ∀ j ∈ l, 0 ≤ upd o k (o k') j := fun j hj => by
   have : j ≠ k := fun e => hn.1 (e ▸ List.mem_cons_of_mem _ hj)
   rw [upd_ne _ _ this]
   exact ho j (by simp [hj])
  obtain ⟨h1, h2⟩ := turnF_spec r (k' :: l) (upd o k (o k')) hn.2 h.2 ho'
  refine ⟨fun j hj => ?_, fun j hj => ?_⟩
  ·show turnF r (k' :: l) (upd o k (o k')) j = o j
   have : j ≠ k := fun e => hj (by simp [e])
   rw [h1 j (fun x => hj (List.mem_cons_of_mem _ x)), upd_ne _ _ this]
  ·show turnF r (k' :: l) (upd o k (o k')) j = _
   rcases List.mem_cons.1 hj with rfl | hj
   ·rw [h1 j hn.1, upd_self, h.1]
    have h0 := ho k' (by simp)
    have : ¬ ((k' : Int) < 0) := by omega
    unfold rowOf
    rw [if_neg this]
    simp
    omega
   ·rw [h2 j hj]
    rcases way_tail l k' h.2 j hj with e | ⟨b, hb, e⟩
    ·rw [e]; rfl
    ·rw [e]
     have : ¬ ((b : Int) < 0) := by omega
     have hbk : b ≠ k := fun x => hn.1 (x ▸ List.mem_cons_of_mem _ hb)
     unfold rowOf
     rw [if_neg this, if_neg this]
     simp only [Int.toNat_natCast]
     rw [upd_ne _ _ hbk]
theorem turn_ok {t : Tb} (ht : TbOk t) {r : Nat} {s : St} {L : List Nat} (h : Spread t r s L) {k : Nat} (hk : k < t.n) (hkL : k ∉ L) (hkf : s.far k = false) (hk0 : s.least k = 0) (hown : ∀ j, j < t.n → t.no r j = false → s.u r + s.v j ≤ t.c r j) (hof : s.of k = -1) :
  ∃ W : List Nat, Way s (k :: W) ∧ (∀ j ∈ k :: W, j < t.n) ∧ (k :: W).length ≤ t.n ∧ Inv t (r + 1) s.u s.v (turnF r (k :: W) s.of) := by
 have hc := h.comes k hk hkL hkf
 obtain ⟨W, hW, hsub⟩ := way_of h.toLook L.length [] L k (Nat.le_refl _) rfl hc.1
 have hnd : (k :: W).Nodup := List.nodup_cons.2 ⟨fun x => hkL (hsub.subset x), hsub.nodup h.nodup⟩
 have hmem : ∀ j ∈ W, j ∈ L := fun j hj => hsub.subset hj
 have hlt : ∀ j ∈ k :: W, j < t.n := fun j hj => by
  rcases List.mem_cons.1 hj with rfl | hj
  ·exact hk
  ·exact (h.lin j (hmem j hj)).1
 obtain ⟨t1, t2⟩ := turnF_spec r (k :: W) s.of hnd hW (fun j hj => (h.lin j (hmem j hj)).2)
 have hedge : ∀ j ∈ k :: W, t.no (rowOf s.of r (s.from_ j)) j = false ∧ s.u (rowOf s.of r (s.from_ j)) + s.v j = t.c (rowOf s.of r (s.from_ j)) j := fun j hj => by
  rcases List.mem_cons.1 hj with rfl | hj
  ·refine ⟨hc.2.1, ?_⟩
   have := hc.2.2
   rw [hk0] at this
   omega
  ·exact h.edge j (hmem j hj)
 have hfrom : ∀ j ∈ k :: W, s.from_ j = -1 ∨ ∃ b ∈ W, s.from_ j = (b : Int) := way_tail W k hW
 have hrow : ∀ j ∈ k :: W, (s.from_ j = -1 ∧ rowOf s.of r (s.from_ j) = r) ∨ ∃ b ∈ W, s.from_ j = (b : Int) ∧ s.of b = (rowOf s.of r (s.from_ j) : Int) ∧ rowOf s.of r (s.from_ j) < r := fun j hj => by
  rcases hfrom j hj with e | ⟨b, hb, e⟩
  ·exact .inl ⟨e, by rw [e]; rfl⟩
  ·obtain ⟨h1, h2⟩ := h.lin b (hmem b hb)
   have hn : ¬ ((b : Int) < 0) := by omega
   have e2 : rowOf s.of r (b : Int) = (s.of b).toNat := by simp [rowOf, hn]
   rcases h.range b h1 with e3 | ⟨i, e3, hi⟩
   ·rw [e3] at h2; omega
   ·exact .inr ⟨b, hb, e, by rw [e, e2, e3]; simp, by rw [e, e2, e3]; simpa using hi⟩
 have hlen := h.toLook.len
 have hn64 := ht.n64
 have hrl := h.rlt
 have hvk := h.free k hk hof
 have hlb := h.lb k hk hkL hkf
 have hP : (k :: W).length ≤ t.n := pigeon t.n _ hnd hlt
 refine ⟨W, hW, hlt, hP, ⟨?_, ?_, ?_, ?_, ?_, ?_, ?_, ?_⟩⟩
 ·intro j hj
  by_cases hjP : j ∈ k :: W
  ·rw [t2 j hjP]
   refine .inr ⟨_, rfl, ?_⟩
   rcases hrow j hjP with ⟨_, e⟩ | ⟨b, _, _, _, hlt2⟩ <;> omega
  ·rw [t1 j hjP]
   rcases h.range j hj with e | ⟨i, e, hi⟩
   ·exact .inl e
   ·exact .inr ⟨i, e, by omega⟩
 ·intro i hi
  have hlast : ∃ j ∈ k :: W, s.from_ j = -1 := by
   have : ∀ (P : List Nat) (k : Nat), Way s (k :: P) → ∃ j ∈ k :: P, s.from_ j = -1 := by
    intro P
    induction P with
    | nil => intro k h; exact ⟨k, by simp, h⟩
    | cons a P ih =>
     intro k h
     obtain ⟨j, hj, e⟩ := ih a h.2
     exact ⟨j, List.mem_cons_of_mem _ hj, e⟩
   exact this W k hW
  by_cases hir : i = r
  ·obtain ⟨j, hj, e⟩ := hlast
   refine ⟨j, hlt j hj, ?_⟩
   rw [t2 j hj, e, hir]
   rfl
  ·obtain ⟨j, hj, e⟩ := h.onto i (by omega)
   by_cases hjP : j ∈ k :: W
   ·have hjW : j ∈ W := by
     rcases List.mem_cons.1 hjP with rfl | hj2
     ·omega
     ·exact hj2
    have hpred : ∀ (P : List Nat) (k : Nat), Way s (k :: P) → ∀ j ∈ P, ∃ q ∈ k :: P, s.from_ q = (j : Int) := by
     intro P
     induction P with
     | nil => intro k _ j hj; cases hj
     | cons a P ih =>
      intro k h j hj
      rcases List.mem_cons.1 hj with rfl | hj
      ·exact ⟨k, by simp, h.1⟩
      ·obtain ⟨q, hq, e⟩ := ih a h.2 j hj
       exact ⟨q, List.mem_cons_of_mem _ hq, e⟩
    obtain ⟨q, hq, e2⟩ := hpred W k hW j hjW
    refine ⟨q, hlt q hq, ?_⟩
    rw [t2 q hq, e2]
    have hn : ¬ ((j : Int) < 0) := by omega
    unfold rowOf
    rw [if_neg hn]
    simp
    rw [e]
    simp
   ·exact ⟨j, hj, by rw [t1 j hjP]; exact e⟩
 ·intro j j' hj hj' e h0
  by_cases hjP : j ∈ k :: W
  ·by_cases hjP' : j' ∈ k :: W
   ·rw [t2 j hjP, t2 j' hjP'] at e
    refine way_inj _ hnd hW j hjP j' hjP' ?_
    rcases hrow j hjP with ⟨e1, e2⟩ | ⟨b, hb, e1, e2, e3⟩
    ·rcases hrow j' hjP' with ⟨f1, f2⟩ | ⟨b', hb', f1, f2, f3⟩
     ·rw [e1, f1]
     ·omega
    ·rcases hrow j' hjP' with ⟨f1, f2⟩ | ⟨b', hb', f1, f2, f3⟩
     ·omega
     ·have := h.inj b b' (h.lin b (hmem b hb)).1 (h.lin b' (hmem b' hb')).1 (by rw [e2, f2]; exact e) (h.lin b (hmem b hb)).2
      rw [e1, f1, this]
   ·rw [t2 j hjP, t1 j' hjP'] at e
    rcases hrow j hjP with ⟨e1, e2⟩ | ⟨b, hb, e1, e2, e3⟩
    ·rcases h.range j' hj' with f | ⟨i, f, hi⟩ <;> omega
    ·have := h.inj b j' (h.lin b (hmem b hb)).1 hj' (by rw [e2]; exact e) (h.lin b (hmem b hb)).2
     exact absurd (List.mem_cons_of_mem _ (this ▸ hb)) hjP'
  ·rw [t1 j hjP] at e h0
   by_cases hjP' : j' ∈ k :: W
   ·rw [t2 j' hjP'] at e
    rcases hrow j' hjP' with ⟨e1, e2⟩ | ⟨b, hb, e1, e2, e3⟩
    ·rcases h.range j hj with f | ⟨i, f, hi⟩ <;> omega
    ·have := h.inj b j (h.lin b (hmem b hb)).1 hj (by rw [e2]; exact e.symm) (h.lin b (hmem b hb)).2
     exact absurd (List.mem_cons_of_mem _ (this ▸ hb)) hjP
   ·rw [t1 j' hjP'] at e
    exact h.inj j j' hj hj' e h0
 ·intro j i hj e
  by_cases hjP : j ∈ k :: W
  ·rw [t2 j hjP] at e
   have : i = rowOf s.of r (s.from_ j) := by omega
   rw [this]
   exact hedge j hjP
  ·rw [t1 j hjP] at e
   exact h.tight j i hj e
 ·intro i j hi hj hno
  by_cases hir : i = r
  ·subst hir
   exact hown j hj hno
  ·exact h.fair i j (by omega) hj hno
 ·intro j hj e
  by_cases hjP : j ∈ k :: W
  ·rw [t2 j hjP] at e
   omega
  ·rw [t1 j hjP] at e
   exact h.free j hj e
 ·intro j hj
  by_cases hjL : j ∈ L
  ·have := h.sb j hjL
   rw [hk0, hvk] at hlb
   unfold M at *
   omega
  ·exact h.vb j hj hjL
 ·intro i hi
  exact h.rest i (by omega)
structure Done (t : Tb) (u v of : Nat → Int) (σ : Nat → Nat) : Prop where
 pm : PM t.n t.no σ
 col : ∀ i, i < t.n → of (σ i) = (i : Int)
 fair : Fair t.n t.c t.no u v
 sum : cost t.n t.c σ = sumTo t.n u + sumTo t.n v
 ub : ∀ i, i < t.n → -(256 * M) ≤ u i ∧ u i ≤ 256 * M
 vb : ∀ i, i < t.n → -(256 * M) ≤ v i ∧ v i ≤ 256 * M
theorem inv_done {t : Tb} (ht : TbOk t) {u v of : Nat → Int} (h : Inv t t.n u v of) : ∃ σ, Done t u v of σ := by
 have hex : ∀ i, ∃ k, i < t.n → (k < t.n ∧ of k = (i : Int)) := fun i => by
  by_cases hi : i < t.n
  ·obtain ⟨k, hk⟩ := h.onto i hi
   exact ⟨k, fun _ => hk⟩
  ·exact ⟨0, fun x => absurd x hi⟩
 obtain ⟨σ, hσ⟩ : ∃ σ : Nat → Nat, ∀ i, i < t.n → σ i < t.n ∧ of (σ i) = (i : Int) := ⟨fun i => (hex i).choose, fun i hi => (hex i).choose_spec hi⟩
 have hinj : Inj t.n σ := ⟨fun i hi => (hσ i hi).1, fun i j hi hj e => by
  have h1 := (hσ i hi).2
  rw [e, (hσ j hj).2] at h1
  omega⟩
 have hub := h.ub ht (Nat.le_refl _)
 refine ⟨σ, ⟨⟨hinj, fun i hi => (h.tight (σ i) i (hσ i hi).1 (hσ i hi).2).1⟩, fun i hi => (hσ i hi).2, ⟨fun i k hi hk hno => h.fair i k hi hk hno⟩, ?_, fun i hi => ?_, fun i hi => ?_⟩⟩
 ·unfold cost
  rw [← hinj.sum v, ← sumTo_add]
  exact sumTo_congr (fun i hi => (h.tight (σ i) i (hσ i hi).1 (hσ i hi).2).2.symm)
 ·have := hub i hi
  unfold M at *
  omega
 ·have := h.vb i hi
  unfold M at *
  omega
theorem Done.least {t : Tb} {u v of : Nat → Int} {σ : Nat → Nat} (h : Done t u v of σ) : IsLeast t.n t.c t.no (some (cost t.n t.c σ)) :=
 ⟨⟨σ, h.pm, rfl⟩, fun τ hτ => by rw [h.sum]; exact dual_le h.fair hτ⟩
end Go.Proofs.Ytelabmhhnpfegaa.Hand
end
section
namespace Go.Proofs.Ytelabmhhnpfegaa.Hand
open Go.RowKit Go.Proofs.YtelabmhhnpfegaaW.PrintWords Go.Proofs.YtelabmhhnpfegaaW.PrintMore
structure Geo where
 n : Nat
 AC : Option Addr
 cC : Nat
 AN : Option Addr
 cN : Nat
 w : Nat
 r : Nat
 c : Nat
 o : Nat
structure Geo2 extends Geo where
 s : Nat
 l : Nat
 f : Nat
 m : Nat
 e : Nat
structure Wk (W : World) (G : Geo) (u v of : Nat → Int) : Prop where
 blk : W.heap[G.w]? = some (.cells #[.slice G.AC G.n G.cC, .slice G.AN G.n G.cN, .slice (some ⟨G.r, 0, none⟩) G.n G.n, .slice (some ⟨G.c, 0, none⟩) G.n G.n, .slice (some ⟨G.o, 0, none⟩) G.n G.n] 132 (0, 0))
 rows : IB W G.r 2 G.n u
 cols : IB W G.c 2 G.n v
 of : IB W G.o 3 G.n of
 ne : G.r ≠ G.c
structure Sk (W : World) (G : Geo2) (s : St) : Prop extends Wk W G.toGeo s.u s.v s.of where
 sblk : W.heap[G.s]? = some (.cells #[.pointer (some ⟨G.w, 0, none⟩), .slice (some ⟨G.l, 0, none⟩) G.n G.n, .slice (some ⟨G.f, 0, none⟩) G.n G.n, .slice (some ⟨G.m, 0, none⟩) G.n G.n, .slice (some ⟨G.e, 0, none⟩) G.n G.n] 138 (0, 0))
 least : IB W G.l 2 G.n s.least
 far : BB W G.f G.n s.far
 from_ : IB W G.m 3 G.n s.from_
 seen : BB W G.e G.n s.seen
 nel : G.l ≠ G.r ∧ G.l ≠ G.c
 neo : G.m ≠ G.o
 nef : G.f ≠ G.e
section
variable {W W1 : World} {G : Geo2} {s : St}
theorem Sk.s0 (h : Sk W G s) : W.cell? ⟨G.s, 0, none⟩ = some (.pointer (some ⟨G.w, 0, none⟩)) := (blk_cell h.sblk 0).trans rfl
theorem Sk.s1 (h : Sk W G s) : W.cell? ⟨G.s, 1, none⟩ = some (.slice (some ⟨G.l, 0, none⟩) G.n G.n) := (blk_cell h.sblk 1).trans rfl
theorem Sk.s2 (h : Sk W G s) : W.cell? ⟨G.s, 2, none⟩ = some (.slice (some ⟨G.f, 0, none⟩) G.n G.n) := (blk_cell h.sblk 2).trans rfl
theorem Sk.s3 (h : Sk W G s) : W.cell? ⟨G.s, 3, none⟩ = some (.slice (some ⟨G.m, 0, none⟩) G.n G.n) := (blk_cell h.sblk 3).trans rfl
theorem Sk.s4 (h : Sk W G s) : W.cell? ⟨G.s, 4, none⟩ = some (.slice (some ⟨G.e, 0, none⟩) G.n G.n) := (blk_cell h.sblk 4).trans rfl
theorem Sk.below (h : Sk W G s) (hb : Below W.heap.size W W1) : Sk W1 G s := by
 obtain ⟨⟨a1, a2, a3, a4, a5⟩, b1, b2, b3, b4, b5, b6, b7, b8⟩ := h
 have mv : ∀ {g : Nat} {o : Obj}, W.heap[g]? = some o → W1.heap[g]? = some o := fun hg => (hb.block _ (blk_lt hg)).trans hg
 exact ⟨⟨mv a1, mv a2, mv a3, mv a4, a5⟩, mv b1, mv b2, mv b3, mv b4, mv b5, b6, b7, b8⟩
end
section
variable {W W1 : World} {G : Geo} {u v of : Nat → Int}
theorem Wk.w0 (h : Wk W G u v of) : W.cell? ⟨G.w, 0, none⟩ = some (.slice G.AC G.n G.cC) := (blk_cell h.blk 0).trans rfl
theorem Wk.w1 (h : Wk W G u v of) : W.cell? ⟨G.w, 1, none⟩ = some (.slice G.AN G.n G.cN) := (blk_cell h.blk 1).trans rfl
theorem Wk.w2 (h : Wk W G u v of) : W.cell? ⟨G.w, 2, none⟩ = some (.slice (some ⟨G.r, 0, none⟩) G.n G.n) := (blk_cell h.blk 2).trans rfl
theorem Wk.w3 (h : Wk W G u v of) : W.cell? ⟨G.w, 3, none⟩ = some (.slice (some ⟨G.c, 0, none⟩) G.n G.n) := (blk_cell h.blk 3).trans rfl
theorem Wk.w4 (h : Wk W G u v of) : W.cell? ⟨G.w, 4, none⟩ = some (.slice (some ⟨G.o, 0, none⟩) G.n G.n) := (blk_cell h.blk 4).trans rfl
theorem Wk.below (h : Wk W G u v of) (hb : Below W.heap.size W W1) : Wk W1 G u v of := by
 obtain ⟨a1, a2, a3, a4, a5⟩ := h
 have mv : ∀ {g : Nat} {o : Obj}, W.heap[g]? = some o → W1.heap[g]? = some o := fun hg => (hb.block _ (blk_lt hg)).trans hg
 exact ⟨mv a1, mv a2, mv a3, mv a4, a5⟩
end
set_option maxHeartbeats 1000000 in
set_option maxRecDepth 100000 in
theorem nearest_any (w : World) (G : Geo2) (s : St) (h : Sk w G s) (hn : G.n ≤ 64) :
  Calls Try.prog 72 #[.pointer (some ⟨G.s, 0, none⟩)] w fun e w' => e = .returned (.int .i64 (near s G.n)) ∧ Drawn0 w w' := by
 have H := Aside0.mk h
 have NS := Aside0.mk (near_spec s)
 obtain ⟨n, hn1⟩ : ∃ n, n = G.n := ⟨_, rfl⟩
 have f1 := h.s1
 rw [← hn1] at f1 hn ⊢
 have HN := Aside0.mk hn1
 clear h hn1
 go_enter Try.func72, Try.ntmps72
 go_wp2_with fail
 clear f1
 go_loopw [3, 10] (fun v3 v10 wr => ∃ k : Nat, k ≤ n ∧ v3 = .int .i64 (near s k) ∧ v10 = .int .i64 k ∧ Aside0 (Drawn0 w wr)) (fun _ v _ => n - (intOf v).toNat)
 case atStart => exact ⟨0, Nat.zero_le _, rfl, rfl, ⟨Drawn0.refl _⟩⟩
 case round =>
  obtain ⟨k, hk, rfl, rfl, D⟩ := hrel
  by_cases hlt : k < n
  ·have HW := Aside0.mk (H.out.below D.out.below)
   have f1 := HW.out.s1
   have f2 := HW.out.s2
   have f4 := HW.out.s4
   rw [← HN.out] at f1 f2 f4
   have e1 := HW.out.seen.c (i := k) (by rw [← HN.out]; exact hlt)
   have e2 := HW.out.far.c (i := k) (by rw [← HN.out]; exact hlt)
   have e3 := HW.out.least.c (i := k) (by rw [← HN.out]; exact hlt)
   have NE : ∀ b : Bool, nearC s (near s k) k = b → Aside0 (near s (k + 1) = if b = true then (k : Int) else near s k) := fun b h => ⟨by rw [← h]; rfl⟩
   cases hs : s.seen k with
   | true =>
    rw [hs] at e1
    have NX := NE false (by simp [nearC, hs])
    simp only [Bool.false_eq_true, if_false] at NX
    clear NE hs
    go_wp2_with fail
    go_quiet (fail)
    go_wp2_with fail
    go_roundw
    case measure => simp [intOf]; omega
    case rel => exact ⟨k + 1, by omega, by rw [NX.out], by go_num, ⟨D.out.step _⟩⟩
   | false =>
    rw [hs] at e1
    cases hf : s.far k with
    | true =>
     rw [hf] at e2
     have NX := NE false (by simp [nearC, hf])
     simp only [Bool.false_eq_true, if_false] at NX
     clear NE hs hf
     go_wp2_with fail
     go_quiet (fail)
     go_wp2_with fail
     go_roundw
     case measure => simp [intOf]; omega
     case rel => exact ⟨k + 1, by omega, by rw [NX.out], by go_num, ⟨D.out.step _⟩⟩
    | false =>
     rw [hf] at e2
     rcases NS.out k with ⟨h1, _⟩ | ⟨b, h1, hb, _⟩
     ·have NX := NE true (by simp [nearC, hs, hf, h1])
      simp only [if_true] at NX
      rw [h1]
      clear NE hs hf h1
      go_wp2_with fail
      go_quiet (fail)
      go_wp2_with fail
      go_roundw
      case measure => simp [intOf]; omega
      case rel => exact ⟨k + 1, by omega, by rw [NX.out], by go_num, ⟨D.out.step _⟩⟩
     ·have e4 := HW.out.least.c (i := b) (by rw [← HN.out]; omega)
      have b0 : decide ((b : Int) < 0) = false := decide_eq_false (by omega)
      have hbn : (b : Int) < (n : Int) := by omega
      obtain ⟨x, hx⟩ : ∃ x, x = s.least k := ⟨_, rfl⟩
      obtain ⟨y, hy⟩ : ∃ y, y = s.least b := ⟨_, rfl⟩
      rw [← hx] at e3
      rw [← hy] at e4
      by_cases hxy : x < y
      ·have NX := NE true (by simp [nearC, hs, hf, h1, ← hx, ← hy, hxy])
       simp only [if_true] at NX
       have d1 : decide (x < y) = true := decide_eq_true hxy
       rw [h1]
       clear NE hs hf h1 hx hy
       go_wp2_with fail
       go_quiet (fail)
       go_wp2_with fail
       go_roundw
       case measure => simp [intOf]; omega
       case rel => exact ⟨k + 1, by omega, by rw [NX.out], by go_num, ⟨D.out.step _⟩⟩
      ·have NX := NE false (by simp [nearC, hs, hf, h1, ← hx, ← hy, hxy])
       simp only [Bool.false_eq_true, if_false] at NX
       have d1 : decide (x < y) = false := decide_eq_false hxy
       rw [h1] at NX ⊢
       clear NE hs hf h1 hx hy
       go_wp2_with fail
       go_quiet (fail)
       go_wp2_with fail
       go_roundw
       case measure => simp [intOf]; omega
       case rel => exact ⟨k + 1, by omega, by rw [NX.out], by go_num, ⟨D.out.step _⟩⟩
  ·obtain rfl : k = n := by omega
   go_wp2_with fail
   go_ret
   exact ⟨rfl, D.out⟩
end Go.Proofs.Ytelabmhhnpfegaa.Hand
end
