/- Texts Rc Ra Rd Re Rf Rg Rv Rh WTab WFour WFootNe WAt WEqStruct WRepsOne WInv WInvWords WGuard PDynCellsx0 Da, cut to what is used. -/
import Derived.Shelf.Abstract
import Derived.Shelf.RegionOpen
import Derived.OwnWalkIn
import Derived.TacticsInMore
import Derived.LoopNIn
import Derived.LoopIn
import Derived.StillTailTactics
import Derived.Lib.BufferMore
import Derived.Laws.StructEq
import Derived.Test.YtelabmhhnpfegaaProg
import Derived.Below
import Derived.Deep.Draws
import Derived.Deep.AppendLies
import Derived.Maps.AppendAt
import Derived.OwnWalk
import Derived.Laws.BytesArg
import Derived.Laws.MakeOwn
import Derived.Laws.OwnMore
import Derived.Deep.OwnRows
import Derived.Tactics
import Derived.Lib.ConvBytes
import Derived.Laws.Slices
import Derived.WalkKit
import Derived.KernelRfl
import Derived.RowKit3
import Derived.Deep.LoopGhost
import Derived.Deep.QuietTactic
import Derived.BigQuiet
import Derived.WideLaws
import Derived.Deep.DeepCutAuto
import Derived.Deep.CutBlock
import Derived.Deep.RegionHeld3
import Derived.Laws.Rows
import Derived.Lib.AppendStr
import Derived.ArgAppend
import Derived.Laws.IdiomCopy
import Derived.OrdersHeld
import Derived.Laws.BitsLemmas
import Derived.RowKit
import Derived.Test.YtelabmhhnpfegaaXa0
import Derived.Test.YtelabmhhnpfegaaXa1
set_option linter.unusedVariables false
set_option linter.unusedSimpArgs false
section
namespace Go.Proofs.Ytelabmhhnpfegaa.Hand
open Go.RowKit Go.Shelf
open Go.Proofs.YtelabmhhnpfegaaW.PrintWords Go.Proofs.YtelabmhhnpfegaaW.PrintLast Go.Proofs.YtelabmhhnpfegaaW.PrintMore
attribute [local go_sem] Oper.semAt_some
def ups (k : Nat) : List Int := (List.range k).map fun i : Nat => (i : Int) + 1
theorem ups_succ (k : Nat) : ups (k + 1) = ups k ++ [(k : Int) + 1] := by simp [ups, List.range_succ]
theorem ups_len (k : Nat) : (ups k).length = k := by simp [ups]
theorem upto_gives (F : Fence) (n : Nat) (hF : F.fn 133) (hro : F.round = none) (hn : 1 ≤ n) (B m : Nat) (hm : m ≤ 64) (w : World) (hB : B < w.heap.size) (hc : w.cell? ⟨B, 0, none⟩ = some (.int .i64 (m : Int))) :
  Gives F n Try.prog 133 #[.pointer (some ⟨B, 0, none⟩)] (fun x : Int => .int .i64 x) (fun x _ => 1 ≤ x ∧ x ≤ 64) (fun xs => xs = ups m) m w := by
 intro l J W hb hJ hY h0
 have hcW : W.cell? ⟨B, 0, none⟩ = some (.int .i64 (m : Int)) := pw_cell_below hb hc
 refine callsIn_of_wp Try.func133 rfl hF ?_ hro
 simp only [Try.ntmps133, List.size_toArray, List.length_cons, List.length_nil, Nat.reduceAdd, Nat.reduceSub, Array.replicate_succ, Array.replicate_zero, List.push_toArray, List.append_toArray, List.nil_append, List.cons_append]
 gi_wp2
 gi_loopw [5] (fun v5 wr => ∃ k : Nat, k ≤ m ∧ v5 = .int .i64 (k : Int) ∧ Aside0 (J (ups k) wr)) (fun v5 _ => m - (intOf v5).toNat)
 case atStart => exact ⟨0, Nat.zero_le _, rfl, ⟨h0⟩⟩
 case round =>
  obtain ⟨k, hk, rfl, HJ⟩ := hrel
  by_cases hlt : k < m
  ·have w1 : IntKind.i64.wrap ((k : Int) + 1) = (k : Int) + 1 := IntWalk.i64_in _ (by omega)
   obtain ⟨fn, tmps, assign, body, hy, hR⟩ := hY (ups k) ((k : Int) + 1) wr HJ.out (by omega) (by rw [ups_len]; exact hlt)
   gi_wp2
   refine hR.mono ?_
   rintro e W' ⟨rfl, hJ', hk'⟩
   have HJ' := Aside0.mk hJ'
   gi_wp2
   exact ⟨⟨k + 1, by omega, by go_num, ⟨by rw [ups_succ]; exact HJ'.out⟩⟩, by simp [intOf]; omega⟩
  ·obtain rfl : k = m := by omega
   gi_wp2
   go_end0
   exact ⟨⟨_, rfl⟩, _, rfl, HJ.out⟩
def timC (l : List Int) : Int := l.foldl (fun n k => if 1048577 < n * k then 1048577 else n * k) 1
theorem timC_snoc (l : List Int) (x : Int) : timC (l ++ [x]) = if 1048577 < timC l * x then 1048577 else timC l * x := by
 unfold timC
 rw [List.foldl_append]
 rfl
attribute [local go_sem] max2_int min2_int max_two min_two
set_option maxHeartbeats 1000000 in
theorem times_up (F : Fence) (n : Nat) (hF : F.fn 103) (hF2 : F.fn 133) (hro : F.round = none) (hn : 3 ≤ n) (B m : Nat) (hm : m ≤ 64) (w : World) (hB : B < w.heap.size) (hc : w.cell? ⟨B, 0, none⟩ = some (.int .i64 (m : Int))) :
  CallsIn F n Try.prog 103 #[.func (.func 133) #[] #[.pointer (some ⟨B, 0, none⟩)]] w fun e w' => e = .returned (.int .i64 (timC (ups m))) ∧ Below w.heap.size w w' := by
 refine callsIn_of_wp_marks Try.func103 rfl hF ?_ hro
 simp only [Try.ntmps103, List.size_toArray, List.length_cons, List.length_nil, Nat.reduceAdd, Nat.reduceSub, Array.replicate_succ, Array.replicate_zero, List.push_toArray, List.append_toArray, List.nil_append, List.cons_append]
 gi_wp2
 obtain ⟨W1, hW1⟩ : ∃ W, W = w.alloc (.cells #[.int .i64 1] 3) := ⟨_, rfl⟩
 rw [← hW1]
 have hz : W1.heap.size = w.heap.size + 1 := by rw [hW1]; simp
 have b1 : Below w.heap.size w W1 := by rw [hW1]; exact below_alloc (Below.refl _ _) _
 have q1 : W1.heap[w.heap.size]? = some (.cells #[.int .i64 1] 3 (0, 0)) := by rw [hW1]; exact heap_alloc_new _ _
 have c1 : W1.cell? ⟨B, 0, none⟩ = some (.int .i64 (m : Int)) := pw_cell_below b1 hc
 obtain ⟨p, hp⟩ : ∃ p, p = w.heap.size := ⟨_, rfl⟩
 have b1' : Below w.heap.size w W1 := b1
 have P1 : p < W1.heap.size := by omega
 have P2 : w.heap.size ≤ p := by omega
 have P3 : w.heap.size ≤ W1.heap.size := by omega
 have P4 : B < W1.heap.size := by omega
 rw [← hp] at q1 ⊢
 clear hW1 hp hz hc b1
 refine range_all hro (by omega) (gf := 133) (lb := #[.pointer (some ⟨B, 0, none⟩)]) rfl hF2 (enters_of Try.func133 (by kernel_rfl) rfl) (upto_gives F (n - 1) hF2 hro (by omega) B m hm W1 P4 c1) (Below.refl _ _) rfl (fun _ _ _ _ h _ => h)
  (fun pre W => W.heap[p]? = some (.cells #[.int .i64 (timC pre)] 3 (0, 0)) ∧ (1 ≤ timC pre ∧ timC pre ≤ 1048577) ∧ Below w.heap.size w W)
  ?hI ⟨q1, by decide, b1'⟩
  (fun x => { tmps := #[.func (.func 133) #[] #[.pointer (some ⟨B, 0, none⟩)], undef, .int .i64 0, .pointer (some ⟨p, 0, none⟩), .int .i64 x, .func (.func 133) #[] #[.pointer (some ⟨B, 0, none⟩)], .int .i64 x, undef, undef, undef, undef, undef], defers := [] }) ?assign ?body ?done
 case hI =>
  rintro s X Y ⟨i1, i2, i3⟩ hc
  have e1 : ¬ W1.heap.size ≤ p := by omega
  exact ⟨hc.blk i1 e1, i2, i3.trans ⟨hc.os, hc.tape, hc.output, hc.size, fun k hk => hc.block k (by have := i3.size; omega) (by show ¬ W1.heap.size ≤ k; omega)⟩⟩
 case assign =>
  intro l x W K hK
  gi_wp2
  exact hK
 case body =>
  rintro l pre x W hsz ⟨i1, ⟨i2, i3⟩, i4⟩ ⟨x0, x1⟩ hlen
  have k1 : W.cell? ⟨p, 0, none⟩ = some (.int .i64 (timC pre)) := (blk_cell i1 0).trans rfl
  have k2 : W.frozen? ⟨p, 0, none⟩ = false := blk_frozen i1 0
  have m0 : 0 ≤ timC pre * x := Int.mul_nonneg (by omega) (by omega)
  have m1 : timC pre * x ≤ 1048577 * 64 := Int.mul_le_mul i3 x1 (by omega) (by decide)
  have m2 : 1 * 1 ≤ timC pre * x := Int.mul_le_mul i2 x0 (by decide) (by omega)
  have hs := timC_snoc pre x
  obtain ⟨t, ht⟩ : ∃ t, t = timC pre := ⟨_, rfl⟩
  rw [← ht] at k1 m0 m1 m2 hs
  obtain ⟨y, hy⟩ : ∃ y, t * x = y := ⟨_, rfl⟩
  rw [hy] at m0 m1 m2 hs
  have w1 : IntKind.i64.wrap (t * x) = y := by rw [hy]; exact IntWalk.i64_in _ (by omega)
  obtain ⟨z, hz'⟩ : ∃ z, (if (1048577 : Int) < y then 1048577 else y) = z := ⟨_, rfl⟩
  rw [hz'] at hs
  have hz1 : 1 ≤ z ∧ z ≤ 1048577 := by
   rw [← hz']
   split <;> omega
  have HS := Aside0.mk hs
  have I1 := Aside0.mk i1
  clear hs m0 m1 m2 hy ht i1
  gi_wp2
  exact ⟨KeepsOthers.setCell _ _ _, (Chg.refl _ _).setCell (.inl P1) _, by rw [HS.out]; exact blk_put I1.out 0 _ rfl, by rw [HS.out]; exact hz1, i4.setCell P2 _⟩
 case done =>
  rintro D xs W hD rfl ⟨i1, ⟨i2, i3⟩, i4⟩ hK
  have k1 : W.cell? ⟨p, 0, none⟩ = some (.int .i64 (timC (ups m))) := (blk_cell i1 0).trans rfl
  obtain ⟨t, ht⟩ : ∃ t, t = timC (ups m) := ⟨_, rfl⟩
  have HT := Aside0.mk ht
  rw [← ht] at k1
  have I4 := Aside0.mk i4
  clear i1 i2 i3 i4 ht
  gi_wp2
  refine ⟨by simp, .inl ⟨_, _, rfl, run_takeDeferred hK, ?_⟩⟩
  refine ⟨_, results_tmp rfl _ _ _, by rw [← HT.out]; rfl, ?_⟩
  exact I4.out.trans ⟨rfl, rfl, rfl, by simp [World.putObj], fun k hk => World.putObj_heap_other (by omega)⟩
end Go.Proofs.Ytelabmhhnpfegaa.Hand
end
section
namespace Go.Proofs.Ytelabmhhnpfegaa.Hand
def iP (x : List Nat) : Nat → Option Nat
 | 0 => none
 | i + 1 => if x.getD (i + 1) 0 ≤ x.getD i 0 then iP x i else some i
def kP (x : List Nat) (p : Nat) : Nat → Nat
 | 0 => 0
 | k + 1 => if x.getD (k + 1) 0 ≤ p then kP x p k else k + 1
def swapL (x : List Nat) (i k : Nat) : List Nat := (x.set i (x.getD k 0)).set k (x.getD i 0)
def nextL (x : List Nat) : Option (List Nat) :=
 match iP x (x.length - 1) with
 | none => none
 | some i => some ((swapL x i (kP x (x.getD i 0) (x.length - 1))).take (i + 1) ++ ((swapL x i (kP x (x.getD i 0) (x.length - 1))).drop (i + 1)).reverse)
def visit : Nat → List Nat → List (List Nat)
 | 0, _ => []
 | f + 1, x => x :: (match nextL x with | none => [] | some y => visit f y)
def permsL : Nat → List Nat → List (List Nat)
 | 0, _ => [[]]
 | f + 1, l => l.flatMap fun a => (permsL f (l.erase a)).map (a :: ·)
theorem permsL_mem : ∀ (f : Nat) (l p : List Nat), l.length = f → p.Perm l → p ∈ permsL f l
 | 0, l, p, hl, hp => by
  obtain rfl : l = [] := List.length_eq_zero_iff.1 hl
  rw [List.perm_nil.1 hp, permsL]
  exact List.mem_singleton.2 rfl
 | f + 1, l, [], hl, hp => by
  have := hp.length_eq
  rw [hl] at this
  cases this
 | f + 1, l, a :: t, hl, hp => by
  have ha : a ∈ l := hp.mem_iff.1 List.mem_cons_self
  rw [permsL, List.mem_flatMap]
  refine ⟨a, ha, List.mem_map.2 ⟨t, permsL_mem f (l.erase a) t ?_ ?_, rfl⟩⟩
  ·rw [List.length_erase_of_mem ha, hl]
   rfl
  ·have := (List.perm_cons_erase ha)
   exact List.Perm.cons_inv (hp.trans this)
theorem visit_all : ∀ n : Fin 7, visit 721 (List.range n.val) = permsL n.val (List.range n.val) ∧ (visit 721 (List.range n.val)).length < 721 := by decide +kernel
end Go.Proofs.Ytelabmhhnpfegaa.Hand
end
section
namespace Go.Proofs.Ytelabmhhnpfegaa.Hand
open Go.RowKit Go.Proofs.YtelabmhhnpfegaaW.PrintWords Go.Proofs.YtelabmhhnpfegaaW.PrintLast Go.Proofs.YtelabmhhnpfegaaW.PrintMore
def revF (f : Nat → Int) (o m a : Nat) : Nat → Int := fun k => if (o ≤ k ∧ k < o + a) ∨ (o + m - a ≤ k ∧ k < o + m) then f (o + (o + m - 1 - k)) else f k
def revA (f : Nat → Int) (o m : Nat) : Nat → Int := fun k => if o ≤ k ∧ k < o + m then f (o + (o + m - 1 - k)) else f k
theorem revF_zero (f : Nat → Int) (o m : Nat) : revF f o m 0 = f := by
 funext k
 unfold revF
 rw [if_neg (by omega)]
theorem revF_step (f : Nat → Int) (o m a : Nat) (h : a < m - 1 - a) :
  upd (upd (revF f o m a) (o + a) (revF f o m a (o + (m - 1 - a)))) (o + (m - 1 - a)) (revF f o m a (o + a)) = revF f o m (a + 1) := by
 funext k
 have e1 : revF f o m a (o + a) = f (o + a) := by unfold revF; rw [if_neg (by omega)]
 have e2 : revF f o m a (o + (m - 1 - a)) = f (o + (m - 1 - a)) := by unfold revF; rw [if_neg (by omega)]
 rw [e1, e2]
 by_cases h1 : k = o + (m - 1 - a)
 ·subst h1
  rw [upd_self]
  unfold revF
  rw [if_pos (by omega)]
  exact congrArg f (by omega)
 ·rw [upd_ne _ _ h1]
  by_cases h2 : k = o + a
  ·subst h2
   rw [upd_self]
   unfold revF
   rw [if_pos (by omega)]
   exact congrArg f (by omega)
  ·rw [upd_ne _ _ h2]
   unfold revF
   by_cases h3 : (o ≤ k ∧ k < o + a) ∨ (o + m - a ≤ k ∧ k < o + m)
   ·rw [if_pos h3, if_pos (by omega)]
   ·rw [if_neg h3, if_neg (by omega)]
theorem revF_done (f : Nat → Int) (o m a : Nat) (h : ¬ a < m - 1 - a) (h2 : 2 * a ≤ m) : revF f o m a = revA f o m := by
 funext k
 unfold revF revA
 by_cases h3 : (o ≤ k ∧ k < o + a) ∨ (o + m - a ≤ k ∧ k < o + m)
 ·rw [if_pos h3, if_pos (by omega)]
 ·rw [if_neg h3]
  by_cases h4 : o ≤ k ∧ k < o + m
  ·rw [if_pos h4]
   exact congrArg f (by omega)
  ·rw [if_neg h4]
set_option maxHeartbeats 1000000 in
theorem revO_any (w : World) (g N o m c : Nat) (f : Nat → Int) (h : IB w g 3 N f) (hm : o + m ≤ N) (hN : N ≤ 64) (hc : m ≤ c) :
  Calls Try.prog 90 #[.slice (some ⟨g, o, none⟩) m c] w fun e w' => e = .returned (.tuple #[]) ∧ IB w' g 3 N (revA f o m) ∧ Chg (fun k => k = g) w w' := by
 have HI := Aside0.mk h
 clear h
 go_enter Try.func90, Try.ntmps90
 have w0 : IntKind.i64.wrap ((m : Int) - 1) = (m : Int) - 1 := IntWalk.i64_in _ (by omega)
 go_wp2_with fail
 go_loopw [2, 3] (fun v2 v3 wr => ∃ a : Nat, 2 * a ≤ m ∧ v2 = .int .i64 (a : Int) ∧ v3 = .int .i64 ((m : Int) - 1 - (a : Int)) ∧ Aside0 (IB wr g 3 N (revF f o m a)) ∧ Aside0 (Chg (fun k => k = g) w wr)) (fun v2 _ _ => m - (intOf v2).toNat)
 case atStart => exact ⟨0, by omega, rfl, by simp, ⟨by rw [revF_zero]; exact HI.out⟩, ⟨Chg.refl _ _⟩⟩
 case round =>
  obtain ⟨a, ha, rfl, rfl, IR, CR⟩ := hrel
  clear HI
  by_cases hlt : a < m - 1 - a
  ·obtain ⟨b, hb⟩ : ∃ b, b = m - 1 - a := ⟨_, rfl⟩
   have eb : ((m : Int) - 1 - (a : Int)) = (b : Int) := by omega
   rw [eb]
   have c0 := IR.out.c (i := o + a) (by omega)
   have c1 := IR.out.c (i := o + b) (by omega)
   have z0 := IR.out.z (o + a)
   have z1 := IR.out.z (o + b)
   have hab : a < b := by omega
   have hbm : b < m := by omega
   obtain ⟨v', hy'⟩ := cell?_setCell_some (w := wr) (p := ⟨g, o + a, none⟩) (x := .int .i64 (revF f o m a (o + b))) (q := ⟨g, o + b, none⟩) (v := .int .i64 (revF f o m a (o + b))) c1
   have HB := Aside0.mk hb
   have HE := Aside0.mk eb
   clear hb eb hlt w0
   go_wp2_with fail
   go_region
   go_wp2_with fail
   have eb := HB.out
   have ee := HE.out
   subst eb
   exact ⟨⟨a + 1, by omega, by go_num, by go_num, ⟨by rw [← revF_step f o m a hab]; exact (IR.out.set (o + a) _).set (o + (m - 1 - a)) _⟩, ⟨((CR.out.setCell (.inl rfl) _).setCell (.inl rfl) _).drew⟩⟩, by simp [intOf]; omega⟩
  ·have hge : ¬ ((a : Int) < (m : Int) - 1 - (a : Int)) := by omega
   go_wp2_with fail
   go_end0
   exact ⟨rfl, by rw [← revF_done f o m a hlt ha]; exact IR.out, CR.out⟩
end Go.Proofs.Ytelabmhhnpfegaa.Hand
end
section
namespace Go.Proofs.Ytelabmhhnpfegaa.Hand
open Go.RowKit Go.Proofs.YtelabmhhnpfegaaW.PrintWords Go.Proofs.YtelabmhhnpfegaaW.PrintLast Go.Proofs.YtelabmhhnpfegaaW.PrintMore
def nl (x : List Nat) (k : Nat) : Int := ((x.getD k 0 : Nat) : Int)
theorem nl_swap (x : List Nat) (i k : Nat) (hi : i < x.length) (hk : k < x.length) : upd (upd (nl x) i (nl x k)) k (nl x i) = nl (swapL x i k) := by
 funext j
 unfold swapL nl upd
 simp only [List.getD_eq_getElem?_getD, List.getElem?_set, List.length_set]
 by_cases h1 : j = k
 ·subst h1
  simp [hk]
 ·by_cases h2 : j = i
  ·subst h2
   have e : ¬ k = j := fun e => h1 e.symm
   simp [h1, e, hi]
  ·have e1 : ¬ k = j := fun e => h1 e.symm
   have e2 : ¬ i = j := fun e => h2 e.symm
   simp [h1, h2, e1, e2]
theorem swapL_len (x : List Nat) (i k : Nat) : (swapL x i k).length = x.length := by simp [swapL]
theorem nl_tail (x : List Nat) (i : Nat) (hi : i < x.length) (k : Nat) (hk : k < x.length) : revA (nl x) (i + 1) (x.length - (i + 1)) k = nl (x.take (i + 1) ++ (x.drop (i + 1)).reverse) k := by
 unfold revA nl
 simp only [List.getD_eq_getElem?_getD, List.getElem?_append, List.length_take]
 by_cases h1 : k < i + 1
 ·rw [if_neg (by omega), if_pos (by omega), List.getElem?_take, if_pos h1]
 ·rw [if_pos (by omega), if_neg (by omega), List.getElem?_reverse (by simp; omega), List.getElem?_drop]
  congr 3
  simp only [List.length_drop]
  omega
theorem iP_lt (x : List Nat) : ∀ (j i : Nat), iP x j = some i → i < j ∧ x.getD i 0 < x.getD (i + 1) 0
 | 0, i, h => by cases h
 | j + 1, i, h => by
  unfold iP at h
  split at h
  ·have := iP_lt x j i h
   omega
  ·rename_i hn
   cases h
   exact ⟨by omega, by omega⟩
theorem kP_stop (x : List Nat) (p k : Nat) (h : ¬ x.getD k 0 ≤ p) : kP x p k = k := by
 cases k with
 | zero => rfl
 | succ k => unfold kP; rw [if_neg h]
theorem kP_next (x : List Nat) (p k : Nat) (h0 : 0 < k) (h : x.getD k 0 ≤ p) : kP x p k = kP x p (k - 1) := by
 cases k with
 | zero => omega
 | succ k =>
  show (if x.getD (k + 1) 0 ≤ p then kP x p k else k + 1) = _
  rw [if_pos h]
  rfl
def nxP (w : World) (g n : Nat) (o : Option (List Nat)) (e : Ending) (w' : World) : Prop := Chg (fun k => k = g) w w' ∧ match o with
 | none => e = .returned (.bool false)
 | some y => e = .returned (.bool true) ∧ IB w' g 3 n (nl y)
set_option maxHeartbeats 2000000 in
theorem next_any (w : World) (g c : Nat) (x : List Nat) (h : IB w g 3 x.length (nl x)) (hN : x.length ≤ 64) (h1 : 1 ≤ x.length) (hc : x.length ≤ c) :
  Calls Try.prog 136 #[.slice (some ⟨g, 0, none⟩) x.length c, .int .i64 0] w fun e w' => nxP w g x.length (nextL x) e w' := by
 have HI := Aside0.mk h
 obtain ⟨n, hn⟩ : ∃ n, n = x.length := ⟨_, rfl⟩
 rw [← hn] at HI hN h1 hc ⊢
 have HNX := Aside0.mk hn
 clear h hn
 go_enter Try.func136, Try.ntmps136
 have w0 : IntKind.i64.wrap ((n : Int) - 2) = (n : Int) - 2 := IntWalk.i64_in _ (by omega)
 have w1 : IntKind.i64.wrap ((n : Int) - 1) = (n : Int) - 1 := IntWalk.i64_in _ (by omega)
 go_wp2_with fail
 go_loopw [5] (fun v5 wr => ∃ j : Nat, j ≤ n - 1 ∧ v5 = .int .i64 ((j : Int) - 1) ∧ Aside0 (iP x (n - 1) = iP x j) ∧ Aside0 (Below w.heap.size w wr)) (fun v5 _ => (intOf v5 + 1).toNat)
 case atStart => exact ⟨n - 1, Nat.le_refl _, by congr 1; omega, ⟨rfl⟩, ⟨Below.refl _ _⟩⟩
 case round =>
  obtain ⟨j, hj, rfl, IE, BR⟩ := hrel
  have IW := Aside0.mk (show IB wr g 3 n (nl x) from (BR.out.block g (Array.getElem?_eq_some_iff.1 HI.out).1).trans HI.out)
  by_cases h0 : j = 0
  ·subst h0
   clear w0 w1
   obtain ⟨z, hz⟩ : ∃ z, z = (((0 : Nat) : Int) - 1) := ⟨_, rfl⟩
   have hz' : z = -1 := hz
   rw [← hz]
   have hzn : ¬ (0 : Int) ≤ z := by omega
   have hzl : z < 0 := by omega
   clear hz hz'
   go_upto_region 2 with fail
   go_quiet (fail)
   rename_i nq
   go_wp2_with fail
   go_ret
   have e : nextL x = none := by unfold nextL; rw [← HNX.out, IE.out]; rfl
   rw [e]
   exact ⟨Chg.of_below (BR.out.trans ((pw_below_drewN (Below.refl _ _) nq).mono BR.out.size)), rfl⟩
  ·obtain ⟨i, rfl⟩ : ∃ i, j = i + 1 := ⟨j - 1, by omega⟩
   have ei : (((i + 1 : Nat) : Int) - 1) = (i : Int) := by omega
   rw [ei]
   have c0 := IW.out.c (i := i) (by omega)
   have c1 := IW.out.c (i := i + 1) (by omega)
   have wi : IntKind.i64.wrap ((i : Int) + 1) = ((i + 1 : Nat) : Int) := by rw [IntWalk.i64_in _ (by omega)]; omega
   have wd : IntKind.i64.wrap ((i : Int) - 1) = (i : Int) - 1 := IntWalk.i64_in _ (by omega)
   obtain ⟨p, hp⟩ : ∃ p, p = nl x i := ⟨_, rfl⟩
   obtain ⟨q, hq⟩ : ∃ q, q = nl x (i + 1) := ⟨_, rfl⟩
   rw [← hp] at c0
   rw [← hq] at c1
   have HP := Aside0.mk (And.intro hp hq)
   clear hp hq w0 ei
   by_cases hle : q ≤ p
   ·go_upto_region 2 with fail
    go_quiet (fail)
    rename_i nq
    go_wp2_with fail
    refine ⟨⟨i, by omega, rfl, ⟨?_⟩, ⟨BR.out.trans ((pw_below_drewN (Below.refl _ _) nq).mono BR.out.size)⟩⟩, by simp [intOf]⟩
    have hp := HP.out
    rw [hp.1, hp.2] at hle
    have hle' : x.getD (i + 1) 0 ≤ x.getD i 0 := by unfold nl at hle; omega
    rw [IE.out]
    conv => lhs; unfold iP
    rw [if_pos hle']
   ·go_upto_region 2 with fail
    go_quiet (fail)
    rename_i nq
    have BQ := Aside0.mk (BR.out.trans ((pw_below_drewN (Below.refl wr.heap.size wr) nq).mono BR.out.size))
    have IQ := Aside0.mk (show IB (wr.drewN nq) g 3 n (nl x) from (BQ.out.block g (Array.getElem?_eq_some_iff.1 HI.out).1).trans HI.out)
    generalize wr.drewN nq = wq at *
    have IS : Aside0 (iP x (n - 1) = some i) := ⟨by
     have hp := HP.out
     rw [hp.1, hp.2] at hle
     have hle' : ¬ x.getD (i + 1) 0 ≤ x.getD i 0 := by unfold nl at hle; omega
     rw [IE.out]
     conv => lhs; unfold iP
     rw [if_neg hle']⟩
    have HX : Aside0 (x.getD i 0 < x.getD (i + 1) 0) := ⟨by
     have hp := HP.out
     rw [hp.1, hp.2] at hle
     unfold nl at hle
     omega⟩
    clear IE BR IW c0 c1 hle
    go_wp2_with fail
    go_loopw [6] (fun v6 wr2 => ∃ k : Nat, i + 1 ≤ k ∧ k ≤ n - 1 ∧ v6 = .int .i64 (k : Int) ∧ Aside0 (kP x (x.getD i 0) (n - 1) = kP x (x.getD i 0) k) ∧ Aside0 (Below wq.heap.size wq wr2)) (fun v6 _ => (intOf v6).toNat)
    case atStart => exact ⟨n - 1, hj, Nat.le_refl _, by congr 1; omega, ⟨rfl⟩, ⟨Below.refl _ _⟩⟩
    case round =>
     obtain ⟨k, hk1, hk2, rfl, KE, BK⟩ := hrel
     have IK := Aside0.mk (show IB wr g 3 n (nl x) from (BK.out.block g (Array.getElem?_eq_some_iff.1 IQ.out).1).trans IQ.out)
     have c0 := IK.out.c (i := i) (by omega)
     have c1 := IK.out.c (i := k) (by omega)
     rw [← HP.out.1] at c0
     obtain ⟨r, hr⟩ : ∃ r, r = nl x k := ⟨_, rfl⟩
     rw [← hr] at c1
     have HR := Aside0.mk hr
     clear hr w1
     have hkn : k < n := by omega
     have hin : i < n := by omega
     by_cases hle : r ≤ p
     ·have hki : k ≠ i + 1 := by
       rintro rfl
       have h1 := HX.out
       have h2 := HP.out
       have h3 := HR.out
       rw [h3, h2.1] at hle
       unfold nl at hle
       omega
      have wk : IntKind.i64.wrap ((k : Int) - 1) = ((k - 1 : Nat) : Int) := by rw [IntWalk.i64_in _ (by omega)]; omega
      go_upto_region 7 with fail
      go_quiet (fail)
      rename_i nq
      go_wp2_with fail
      refine ⟨⟨k - 1, by omega, by omega, rfl, ⟨?_⟩, ⟨BK.out.trans ((pw_below_drewN (Below.refl _ _) nq).mono BK.out.size)⟩⟩, by simp [intOf]; omega⟩
      have h2 := HP.out
      have h3 := HR.out
      rw [h3, h2.1] at hle
      rw [KE.out]
      exact kP_next _ _ _ (by omega) (by unfold nl at hle; omega)
     ·go_upto_region 7 with fail
      go_quiet (fail)
      rename_i nq
      have BZ := Aside0.mk (BK.out.trans ((pw_below_drewN (Below.refl wr.heap.size wr) nq).mono BK.out.size))
      have IZ := Aside0.mk (show IB (wr.drewN nq) g 3 n (nl x) from (BZ.out.block g (Array.getElem?_eq_some_iff.1 IQ.out).1).trans IQ.out)
      generalize wr.drewN nq = wz at *
      have KS : Aside0 (kP x (x.getD i 0) (n - 1) = k) := ⟨by
       have h2 := HP.out
       have h3 := HR.out
       rw [h3, h2.1] at hle
       rw [KE.out]
       exact kP_stop _ _ _ (by unfold nl at hle; omega)⟩
      clear BK IK KE c0 c1 hle HR
      have c0 := IZ.out.c (i := i) (by omega)
      have c1 := IZ.out.c (i := k) (by omega)
      have z0 := IZ.out.z i
      have z1 := IZ.out.z k
      obtain ⟨v', hy'⟩ := cell?_setCell_some (w := wz) (p := ⟨g, i, none⟩) (x := .int .i64 (nl x k)) (q := ⟨g, k, none⟩) (v := .int .i64 (nl x k)) c1
      go_wp2_with fail
      go_region
      clear c0 c1 z0 z1 hy'
      obtain ⟨w9, hw9⟩ : ∃ w9, w9 = ((wz.setCell ⟨g, i, none⟩ (.int .i64 (nl x k))).setCell ⟨g, k, none⟩ (.int .i64 (nl x i))).drew := ⟨_, rfl⟩
      rw [← hw9]
      have I9 := Aside0.mk (show IB w9 g 3 n (nl (swapL x i k)) from by rw [hw9, ← nl_swap x i k (by rw [← HNX.out]; omega) (by rw [← HNX.out]; omega)]; exact (IZ.out.set i _).set k _)
      have C9 := Aside0.mk (show Chg (fun k => k = g) w w9 from by rw [hw9]; exact (((Chg.of_below (S := fun k => k = g) (BQ.out.trans (BZ.out.mono BQ.out.size))).setCell (.inl rfl) _).setCell (.inl rfl) _).drew)
      clear hw9
      go_wp2_with fail
      refine (revO_any w9 g n (i + 1) (n - (i + 1)) (c - (i + 1)) _ I9.out (by omega) hN (by omega)).mono ?_
      rintro _ W' ⟨rfl, I10', C10'⟩
      have I10 := Aside0.mk I10'
      have C10 := Aside0.mk C10'
      clear I10' C10'
      go_wp2_with fail
      go_ret
      have hl : (swapL x i k).length = n := (swapL_len x i k).trans HNX.out.symm
      have e : nextL x = some ((swapL x i k).take (i + 1) ++ ((swapL x i k).drop (i + 1)).reverse) := by
       unfold nextL
       rw [← HNX.out, IS.out]
       simp only
       rw [KS.out]
      show nxP w g n (nextL x) _ _
      rw [e]
      refine ⟨C9.out.trans C10.out, rfl, ?_⟩
      have hI := I10.out
      unfold IB at hI ⊢
      have ec : tabI n (revA (nl (swapL x i k)) (i + 1) (n - (i + 1))) = tabI n (nl ((swapL x i k).take (i + 1) ++ ((swapL x i k).drop (i + 1)).reverse)) := tabI_congr fun j hj => by
       have := nl_tail (swapL x i k) i (by rw [hl]; exact hin) j (by rw [hl]; exact hj)
       rwa [hl] at this
      rw [ec] at hI
      exact hI
end Go.Proofs.Ytelabmhhnpfegaa.Hand
end
section
namespace Go.Proofs.Ytelabmhhnpfegaa.Hand
open Go.RowKit Go.Proofs.YtelabmhhnpfegaaW.PrintWords Go.Proofs.YtelabmhhnpfegaaW.PrintLast Go.Proofs.YtelabmhhnpfegaaW.PrintMore
set_option maxHeartbeats 400000 in
set_option maxRecDepth 100000 in
theorem cloneO_any (w : World) (a : Addr) (n c : Nat) (xs : List Int) (hC : (Kd.int .i64).C w (some a) n xs) (hn : n ≤ 4294967296) :
  Calls Try.prog 135 #[.slice (some a) n c] w fun e w' => ∃ g m, e = .returned (.slice (some ⟨g, 0, none⟩) n m) ∧ Aside0 (w'.ownsRow w.heap.size 3 1 (.slice (some ⟨g, 0, none⟩) n m) n (nums .i64 xs) ∧ Below w.heap.size w w' ∧ w.heap.size ≤ g) := by
 have HN : Aside0 (xs.length = n) := ⟨hC.1⟩
 have HC := Aside0.mk hC
 clear hC
 have hu := Try.underlying29
 have hnil : ∀ W, (binOp .eql 29 (.slice (some a) n c) (.slice none 0 0)).run Try.prog W = .ok (.bool false) W := fun W => Lib.run_eql_slice_some_nil W _ _ _ Try.underlying29
 go_enter Try.func135, Try.ntmps135
 go_upto_region 3 with fail
 have O0 : Aside0 ((Kd.int .i64).R 3 (w.alloc (.cells #[] 3)) w.heap.size (fun k => w.heap.size ≤ k) (.slice (some ⟨w.heap.size, 0, none⟩) 0 0) []) := ⟨⟨fun k hk => by
  have : w.heap.size = k := by simpa [Value.ownBlock] using hk
  omega, [], ⟨rfl, .inr ⟨w.heap.size, 0, #[], rfl, Nat.le_refl _, heap_alloc_new w _, Nat.le_refl _, Nat.zero_le _, rfl, rfl⟩⟩, Reps.none _ _⟩⟩
 have HL : Aside0 ((([] : List Int).length + n) * 8 ≤ 140737488355328) := ⟨by simp; omega⟩
 have CC : Aside0 ((∀ k, (w.alloc (.cells #[] 3)).heap.size ≤ k → w.heap.size ≤ k) ∧ (Kd.int .i64).C (w.alloc (.cells #[] 3)) (some a) n xs ∧ Below w.heap.size w (w.alloc (.cells #[] 3)) ∧ w.heap.size ≤ (w.alloc (.cells #[] 3)).heap.size) := ⟨fun k hk => by simp at hk; omega, Kd.C_below HC.out (below_alloc (Below.refl _ _) _), below_alloc (Below.refl _ _) _, by simp⟩
 go_wp2_with (at_builtin; refine Kd.R_append_row (Value.int .i64) (0 : Int) (w0 := w) w.heap.size rfl _ _ 29 3 (.int .i64 0) 8 rfl Try.underlying29 info3 rfl (by decide) (.slice (some ⟨w.heap.size, 0, none⟩) 0 0) [] xs (some a) n c (fun k => w.heap.size ≤ k) rfl rfl CC.out.1 O0.out CC.out.2.1 CC.out.2.2.1 CC.out.2.2.2 HL.out ?_; intro v7 w7 ho7 hb7 hg7 hn7; have N7 := Aside0.mk hn7; have O7 := Aside0.mk ho7; have B7 := Aside0.mk hb7; have G7 := Aside0.mk hg7; clear ho7 hb7 hg7 hn7)
 go_ret
 have h1 := O7.out
 rw [List.nil_append] at h1
 have h2 := Kd.own_of_R h1
 rw [HN.out] at h2
 rcases h2.2 with ⟨e, _⟩ | ⟨g, cap, cur, e, hg, _⟩
 ·rw [e] at N7
  rcases N7.out with h | ⟨b, h, _⟩
  ·simp [Value.ownBlock] at h
  ·simp [Value.ownBlock] at h
 ·rw [e] at h2
  exact ⟨g, cap, by rw [← e]; rfl, ⟨h2, B7.out, hg⟩⟩
end Go.Proofs.Ytelabmhhnpfegaa.Hand
end
section
namespace Go.Proofs.Ytelabmhhnpfegaa.Hand
open Go.RowKit Go.Proofs.YtelabmhhnpfegaaW.PrintWords
theorem roundIn_free {F : Fence} {n n' : Nat} {P : Program} {l : Nat} {f : FuncId} {tmps : Array Value} {assign body : Code} {w : World} {R : Ending → World → Prop} (hd : F.depth = none)
  (h : RoundIn F n P l f tmps assign body w R) : RoundIn F n' P l f tmps assign body w R :=
 ⟨h.1, fun c cs _ => h.2 c cs fun d e => by rw [hd] at e; cases e⟩
theorem yieldAt_free {F : Fence} {m m' : Nat} {P : Program} {l : Nat} {args : Array Value} {W : World} {R : Ending → World → Prop} (hd : F.depth = none)
  (h : YieldAt F m P l args W R) : YieldAt F m' P l args W R := by
 obtain ⟨fn, tmps, assign, body, h1, h2⟩ := h
 exact ⟨fn, tmps, assign, body, h1, roundIn_free hd h2⟩
structure Ord where
 g : Nat
 cap : Nat
 l : List Nat
def Ord.enc (x : Ord) : Value := .slice (some ⟨x.g, 0, none⟩) x.l.length x.cap
def Ord.Rd (x : Ord) (W : World) : Prop := (Kd.int .i64).C W (some ⟨x.g, 0, none⟩) x.l.length (x.l.map fun k : Nat => (k : Int)) ∧ x.l.length ≤ 64
theorem ib_C {w : World} {g N : Nat} {p : List Nat} (h : IB w g 3 N (nl p)) (hl : p.length = N) (hN : N ≤ 64) : (Kd.int .i64).C w (some ⟨g, 0, none⟩) N (p.map fun k : Nat => (k : Int)) :=
 Kd.C_of_reads ⟨by simp [hl], by omega, fun _ => ⟨_, rfl, fun j hj => by
  have h1 := h.c hj
  have e : (p.map fun k : Nat => (k : Int)).getD j 0 = nl p j := by
   unfold nl
   simp only [List.getD_eq_getElem?_getD, List.getElem?_map]
   cases p[j]? <;> rfl
  rw [e]
  have ea : (⟨g, 0, none⟩ : Addr).add j = ⟨g, j, none⟩ := by
   cases j with
   | zero => rfl
   | succ j => simp [Addr.add]
  show w.cell? ((⟨g, 0, none⟩ : Addr).add j) = _
  rw [ea]
  exact h1⟩⟩
end Go.Proofs.Ytelabmhhnpfegaa.Hand
end
section
namespace Go.Proofs.Ytelabmhhnpfegaa.Hand
theorem visit_more : ∀ (f : Nat) (p : List Nat), (visit f p).length < f → visit (f + 1) p = visit f p
 | 0, p, h => by omega
 | f + 1, p, h => by
  cases hn : nextL p with
  | none => simp only [visit, hn]
  | some y =>
   have h' : (visit f y).length < f := by
    simp only [visit, hn, List.length_cons] at h
    omega
   have ih := visit_more f y h'
   show p :: (match nextL p with | none => [] | some y => visit (f + 1) y) = p :: (match nextL p with | none => [] | some y => visit f y)
   rw [hn]
   simp only
   rw [ih]
theorem visit_step (K : Nat) (p q : List Nat) (h : (visit K p).length < K) (hn : nextL p = some q) : visit K p = p :: visit K q ∧ (visit K q).length < K := by
 cases K with
 | zero => omega
 | succ K =>
  have e : visit (K + 1) p = p :: visit K q := by
   show p :: (match nextL p with | none => [] | some y => visit K y) = _
   rw [hn]
  rw [e] at h ⊢
  have h' : (visit K q).length < K := by
   simp only [List.length_cons] at h
   omega
  rw [visit_more K q h']
  exact ⟨rfl, by omega⟩
theorem visit_end (K : Nat) (p : List Nat) (h : (visit K p).length < K) (hn : nextL p = none) : visit K p = [p] := by
 cases K with
 | zero => omega
 | succ K =>
  show p :: (match nextL p with | none => [] | some y => visit K y) = _
  rw [hn]
theorem nextL_len (p q : List Nat) (h : nextL p = some q) : q.length = p.length := by
 unfold nextL at h
 split at h
 ·cases h
 ·cases h
  rename_i i hi
  have hlt := (iP_lt p _ _ hi).1
  simp only [List.length_append, List.length_take, List.length_reverse, List.length_drop, swapL_len]
  omega
end Go.Proofs.Ytelabmhhnpfegaa.Hand
end
section
namespace Go.Proofs.Ytelabmhhnpfegaa.Hand
open Go.RowKit Go.Shelf
open Go.Proofs.YtelabmhhnpfegaaW.PrintWords Go.Proofs.YtelabmhhnpfegaaW.PrintLast Go.Proofs.YtelabmhhnpfegaaW.PrintMore
attribute [local go_sem] Oper.semAt_some
def fil (k : Nat) : Nat → Int := fun j => if j < k then (j : Int) else 0
theorem fil_step (k : Nat) : upd (fil k) k (k : Int) = fil (k + 1) := by
 funext j
 by_cases h : j = k
 ·subst h
  rw [upd_self]
  unfold fil
  rw [if_pos (by omega)]
 ·rw [upd_ne _ _ h]
  unfold fil
  by_cases h2 : j < k
  ·rw [if_pos h2, if_pos (by omega)]
  ·rw [if_neg h2, if_neg (by omega)]
theorem fil_all (N : Nat) : tabI N (fil N) = tabI N (nl (List.range N)) := tabI_congr fun j hj => by
 unfold fil nl
 rw [if_pos hj]
 simp [List.getD_eq_getElem?_getD, hj]
theorem fil_zero : (fun _ : Nat => (0 : Int)) = fil 0 := by
 funext j
 unfold fil
 rw [if_neg (by omega)]
def rdL (w : World) (g N : Nat) : List Nat := (List.range N).map fun j => match w.cell? ⟨g, j, none⟩ with | some (.int _ v) => v.toNat | _ => 0
theorem rdL_of {w : World} {g N : Nat} {p : List Nat} (h : IB w g 3 N (nl p)) (hl : p.length = N) : rdL w g N = p := by
 apply List.ext_getElem (by simp [rdL, hl])
 intro j h1 h2
 simp only [rdL, List.getElem_map, List.getElem_range]
 rw [h.c (by omega)]
 simp [nl, List.getD_eq_getElem?_getD, h2]
def remN (K : Nat) (w : World) (g N : Nat) : Nat := (visit K (rdL w g N)).length
theorem C_own3 {w : World} {base g n m : Nat} {e : TypeId} {xs : List Int} (h : w.ownsRow base e 1 (.slice (some ⟨g, 0, none⟩) n m) n (nums .i64 xs)) : (Kd.int .i64).C w (some ⟨g, 0, none⟩) n xs := by
 obtain ⟨A, c, e, hr⟩ := own_reads h
 injection e with e1
 subst e1
 exact Kd.C_of_reads (readsInt_of.1 hr)
set_option maxHeartbeats 1000000 in
theorem orders_in (n N K l : Nat) (h1 : 1 ≤ N) (hN : N ≤ 64) (hv : (visit K (List.range N)).length < K) (J : List Ord → World → Prop) (W0 W : World) (hle : W0.heap.size ≤ W.heap.size)
  (hJ : ∀ s A B, J s A → Chg (fun k => W0.heap.size ≤ k) A B → J s B)
  (hY : ∀ pre x W1, J pre W1 → x.Rd W1 → pre.length < K → YieldAt Fence.wide (n - 1) Try.prog l #[x.enc] W1 fun e W' => e = .returned (.bool true) ∧ J (pre ++ [x]) W' ∧ Chg (fun k => k < W0.heap.size) W1 W')
  (h0 : J [] W) :
  CallsIn Fence.wide n Try.prog 105 #[.int .i64 (N : Int), .int .i64 0, .func (.yield l) #[] #[]] W fun e W' => (∃ v, e = .returned v) ∧ ∃ xs : List Ord, xs.map Ord.l = visit K (List.range N) ∧ J xs W' := by
 have mk := mk29 N hN W
 refine callsIn_of_wp Try.func105 rfl trivial ?_ rfl
 simp only [Try.ntmps105, List.size_toArray, List.length_cons, List.length_nil, Nat.reduceAdd, Nat.reduceSub, Array.replicate_succ, Array.replicate_zero, List.push_toArray, List.append_toArray, List.nil_append, List.cons_append]
 gi_wp2
 obtain ⟨W1, hW1⟩ : ∃ W1, W1 = W.alloc (.cells (tabI N fun _ => 0) 3) := ⟨_, rfl⟩
 rw [← hW1]
 obtain ⟨g, hg⟩ : ∃ g, g = W.heap.size := ⟨_, rfl⟩
 rw [← hg]
 have I1 := Aside0.mk (show IB W1 g 3 N (fil 0) from by rw [hW1, hg, fil_zero]; exact heap_alloc_new _ _)
 have hc1 : Chg (fun k => W0.heap.size ≤ k) W W1 := by rw [hW1]; exact (Chg.refl _ _).alloc _
 have J1 := Aside0.mk (hJ _ _ _ h0 hc1)
 have hgl : W0.heap.size ≤ g := by omega
 clear mk hW1 hg h0 hc1
 have HJ := Aside0.mk hJ
 have HY := Aside0.mk hY
 have HV := Aside0.mk hv
 clear hJ hY hv
 gi_loopw [7, 12] (fun v7 v12 wr => ∃ k : Nat, k ≤ N ∧ v12 = .int .i64 (k : Int) ∧ Aside0 (IB wr g 3 N (fil k)) ∧ Aside0 (J [] wr)) (fun _ v12 _ => N - (intOf v12).toNat)
 case atStart => exact ⟨0, Nat.zero_le _, rfl, I1, J1⟩
 case round =>
  obtain ⟨k, hk, rfl, IK, JK⟩ := hrel
  clear I1 J1
  by_cases hlt : k < N
  ·have c0 := IK.out.c (i := k) hlt
   have z0 := IK.out.z k
   gi_wp2
   exact ⟨⟨k + 1, by omega, by go_num, ⟨by rw [← fil_step]; exact IK.out.set k _⟩, ⟨HJ.out _ _ _ JK.out ((Chg.refl _ _).setCell (.inl hgl) _)⟩⟩, by simp [intOf]; omega⟩
  ·obtain rfl : k = N := by omega
   gi_wp2
   have I0 := Aside0.mk (show IB wr g 3 k (nl (List.range k)) from by
    have := IK.out
    unfold IB at this ⊢
    rw [this, fil_all])
   clear IK
   gi_loopw [20] (fun v20 wr => ∃ (xs : List Ord) (p : List Nat), p.length = k ∧ Aside0 (xs.map Ord.l ++ visit K p = visit K (List.range k)) ∧ Aside0 ((visit K p).length < K) ∧ Aside0 (IB wr g 3 k (nl p)) ∧ Aside0 (J xs wr)) (fun _ wr => remN K wr g k)
   case atStart => exact ⟨[], List.range k, by simp, ⟨rfl⟩, HV, I0, JK⟩
   case round =>
    clear JK I0
    obtain ⟨xs, p, hp, EQ, LT, IP, JX⟩ := hrel
    have LN : Aside0 (xs.length < K) := ⟨by
     have h1 := congrArg List.length EQ.out
     rw [List.length_append, List.length_map] at h1
     have h2 := HV.out
     omega⟩
    have HG := Aside0.mk hgl
    have CL := Aside0.mk (cloneO_any wr ⟨g, 0, none⟩ k k _ (ib_C IP.out hp hN) (by omega))
    have f1 : Fence.wide.fn 135 := trivial
    have f2 : Fence.wide.fn 136 := trivial
    have f3 : Fence.wide.depth.isSome = true → 1 ≤ n := fun h => by cases h
    gi_wp2
    refine ⟨f3, ?_⟩
    refine (callsIn_wide.2 CL.out).mono ?_
    rintro e W3 ⟨g3, m3, rfl, O3⟩
    have R3 : Ord.Rd ⟨g3, m3, p⟩ W3 := by
     have h1 := C_own3 O3.out.1
     rw [← hp] at h1
     exact ⟨h1, by show p.length ≤ 64; omega⟩
    have J3 : J xs W3 := HJ.out _ _ _ JX.out (Chg.of_below O3.out.2.1)
    obtain ⟨fn, tmps, assign, body, hy, hR⟩ := HY.out xs ⟨g3, m3, p⟩ W3 J3 R3 LN.out
    have e3 : Ord.enc ⟨g3, m3, p⟩ = .slice (some ⟨g3, 0, none⟩) k m3 := by
     unfold Ord.enc
     rw [hp]
    rw [e3] at hy
    have HR := Aside0.mk hR
    clear R3 J3 e3 hR CL
    gi_wp2
    refine ⟨f3, ?_⟩
    refine (roundIn_free rfl HR.out).mono ?_
    rintro e W4 ⟨rfl, j4, c4⟩
    have J4 := Aside0.mk j4
    have I4 := Aside0.mk (show IB W4 g 3 p.length (nl p) from by
     have h1 := IP.out
     have h2 := O3.out.2.1.block g (Array.getElem?_eq_some_iff.1 h1).1
     rw [hp]
     have h3 := c4.block g (by have := O3.out.2.1.size; have := (Array.getElem?_eq_some_iff.1 h1).1; omega) (by have := HG.out; show ¬ g < W0.heap.size; omega)
     exact h3.trans (h2.trans h1))
    clear j4 c4 HR hy
    have NX := Aside0.mk (next_any W4 g k p I4.out (by omega) (by omega) (by omega))
    rw [hp] at NX
    gi_wp2
    refine ⟨f3, ?_⟩
    refine (callsIn_wide.2 NX.out).mono ?_
    intro e W5 N5
    obtain ⟨c5, n5⟩ := N5
    have C5 := Aside0.mk (show Chg (fun k => W0.heap.size ≤ k) W4 W5 from c5.mono fun j _ hj => by have := HG.out; omega)
    have J5 := Aside0.mk (HJ.out _ _ _ J4.out C5.out)
    clear c5
    cases hq : nextL p with
    | none =>
     rw [hq] at n5
     obtain rfl := n5
     have FIN := Aside0.mk (show (xs ++ [(⟨g3, m3, p⟩ : Ord)]).map Ord.l = visit K (List.range k) from by
      have h1 := EQ.out
      rw [visit_end K p LT.out hq] at h1
      rw [List.map_append]
      exact h1)
     clear hq
     gi_wp2
     go_end0
     exact ⟨⟨_, rfl⟩, _, FIN.out, J5.out⟩
    | some q =>
     rw [hq] at n5
     obtain ⟨rfl, i5⟩ := n5
     obtain ⟨v1, v2⟩ := visit_step K p q LT.out hq
     have hql := nextL_len p q hq
     have I5 := Aside0.mk (show IB W5 g 3 k (nl q) from i5)
     have FIN := Aside0.mk (show (xs ++ [(⟨g3, m3, p⟩ : Ord)]).map Ord.l ++ visit K q = visit K (List.range k) from by
      have h1 := EQ.out
      rw [v1] at h1
      rw [List.map_append, List.append_assoc]
      exact h1)
     have MS := Aside0.mk (show remN K W5 g k < remN K wr g k from by
      unfold remN
      rw [rdL_of I5.out (by omega), rdL_of IP.out hp, v1]
      simp)
     have V2 := Aside0.mk v2
     have HQ := Aside0.mk (show q.length = k by omega)
     clear hq v1 v2 hql i5
     gi_wp2
     exact ⟨⟨xs ++ [⟨g3, m3, p⟩], q, HQ.out, FIN, V2, I5, J5⟩, MS.out⟩
end Go.Proofs.Ytelabmhhnpfegaa.Hand
end
section
namespace Go.Proofs.YtelabmhhnpfegaaW.PrintLast
open Go.Proofs.YtelabmhhnpfegaaW.PrintWords (Aside0)
end Go.Proofs.YtelabmhhnpfegaaW.PrintLast
end
section
namespace Go.Proofs.YtelabmhhnpfegaaW.PrintLast
end Go.Proofs.YtelabmhhnpfegaaW.PrintLast
end
section
namespace Go.Proofs.YtelabmhhnpfegaaW.PrintWords
open Go.RowKit
namespace Kd
end Kd
end Go.Proofs.YtelabmhhnpfegaaW.PrintWords
end
section
namespace Go.Proofs.YtelabmhhnpfegaaW.PrintWords
open Go.RowKit
section
variable {w w' u : World} {m B g : Nat} {o : Obj} {row : Option Nat} {S : Nat → Prop} {a : Addr} {v : Value}
theorem blk_at (hq : w.drewN m = w') (h : w.heap[g]? = some o) : w'.heap[g]? = some o := by subst hq; exact h
end
namespace Kd
end Kd
end Go.Proofs.YtelabmhhnpfegaaW.PrintWords
end
section
namespace Go.Proofs.YtelabmhhnpfegaaW.PrintWords
open Go.RowKit
end Go.Proofs.YtelabmhhnpfegaaW.PrintWords
end
section
namespace Go.Proofs.YtelabmhhnpfegaaW.PrintWords
theorem Reps.front {α : Type} {R : α → List Value → Prop} {size : Nat} {ps : List α} {cs c all : List Value} {p : α} (hp : R p c) (hc : c.length = size) (h : Reps R size ps cs) (ha : c ++ cs = all) : Reps R size (p :: ps) all := by
 subst ha
 refine ⟨by rw [List.length_append, hc, h.1, List.length_cons, Nat.succ_mul, Nat.add_comm], fun j q hq => ?_⟩
 cases j with
 | zero =>
  simp only [List.getElem?_cons_zero, Option.some.injEq] at hq
  subst hq
  rw [Nat.zero_mul, List.drop_zero, List.take_append_of_le_length (by omega), List.take_of_length_le (by omega)]
  exact hp
 | succ j =>
  simp only [List.getElem?_cons_succ] at hq
  have h1 := h.2 j q hq
  rw [Nat.succ_mul, List.drop_append, List.drop_of_length_le (by rw [hc]; exact Nat.le_add_left _ _), List.nil_append, hc, Nat.add_sub_cancel]
  exact h1
theorem Reps.c2 {α : Type} {R : α → List Value → Prop} {ps : List α} {cs : List Value} {p : α} {va vb : Value} (hp : R p [va, vb]) (h : Reps R 2 ps cs) : Reps R 2 (p :: ps) (va :: vb :: cs) := Reps.front hp rfl h rfl
theorem Reps.c3 {α : Type} {R : α → List Value → Prop} {ps : List α} {cs : List Value} {p : α} {va vb vc : Value} (hp : R p [va, vb, vc]) (h : Reps R 3 ps cs) : Reps R 3 (p :: ps) (va :: vb :: vc :: cs) := Reps.front hp rfl h rfl
theorem Reps.c4 {α : Type} {R : α → List Value → Prop} {ps : List α} {cs : List Value} {p : α} {va vb vc vd : Value} (hp : R p [va, vb, vc, vd]) (h : Reps R 4 ps cs) : Reps R 4 (p :: ps) (va :: vb :: vc :: vd :: cs) := Reps.front hp rfl h rfl
theorem Reps.c5 {α : Type} {R : α → List Value → Prop} {ps : List α} {cs : List Value} {p : α} {va vb vc vd ve : Value} (hp : R p [va, vb, vc, vd, ve]) (h : Reps R 5 ps cs) : Reps R 5 (p :: ps) (va :: vb :: vc :: vd :: ve :: cs) := Reps.front hp rfl h rfl
theorem Reps.c6 {α : Type} {R : α → List Value → Prop} {ps : List α} {cs : List Value} {p : α} {va vb vc vd ve vf : Value} (hp : R p [va, vb, vc, vd, ve, vf]) (h : Reps R 6 ps cs) : Reps R 6 (p :: ps) (va :: vb :: vc :: vd :: ve :: vf :: cs) := Reps.front hp rfl h rfl
theorem Reps.c7 {α : Type} {R : α → List Value → Prop} {ps : List α} {cs : List Value} {p : α} {va vb vc vd ve vf vg : Value} (hp : R p [va, vb, vc, vd, ve, vf, vg]) (h : Reps R 7 ps cs) : Reps R 7 (p :: ps) (va :: vb :: vc :: vd :: ve :: vf :: vg :: cs) := Reps.front hp rfl h rfl
end Go.Proofs.YtelabmhhnpfegaaW.PrintWords
end
section
namespace Go.Proofs.YtelabmhhnpfegaaW.PrintLast
end Go.Proofs.YtelabmhhnpfegaaW.PrintLast
end
section
namespace Go.Proofs.YtelabmhhnpfegaaW.PrintWords
open Go.RowKit
theorem own_apart {v1 v2 : Value} {n : Nat} (hlt : ∀ k, v1.ownBlock = some k → k < n) (hge : ∀ k, v2.ownBlock = some k → n ≤ k) : v1.ownBlock = none ∨ v1.ownBlock ≠ v2.ownBlock := by
 cases h : v1.ownBlock with
 | none => exact .inl rfl
 | some k => exact .inr (fun e => by have := hlt k h; have := hge k e.symm; omega)
end Go.Proofs.YtelabmhhnpfegaaW.PrintWords
namespace Go.Proofs.YtelabmhhnpfegaaW.PrintLast
end Go.Proofs.YtelabmhhnpfegaaW.PrintLast
end
section
namespace Go.Proofs.YtelabmhhnpfegaaW.PrintWords
open Go.RowKit
end Go.Proofs.YtelabmhhnpfegaaW.PrintWords
end
section
namespace Go.Proofs.Ytelabmhhnpfegaa.PDynCells
open Go.RowKit Go.Proofs.YtelabmhhnpfegaaW.PrintWords Go.Proofs.YtelabmhhnpfegaaW.PrintLast Go.Proofs.YtelabmhhnpfegaaW.PrintMore
attribute [local go_sem] max2_int min2_int max_two min_two max_three min_three max_four min_four   -- for this text's walks alone
theorem info3 : (Try.prog.info? 3).map (fun i => (i.zero, i.size, i.bytes)) = some (some (.int .i64 0), 1, 8) := by kernel_rfl
theorem info145 : (Try.prog.info? 145).map (fun i => (i.zero, i.size, i.bytes)) = some (some (.int .u64 0), 1, 8) := by kernel_rfl
structure S101 where
 f0 : Int
 f1 : Int
def z101 : S101 := ⟨(0 : Int), (0 : Int)⟩
def k101 : Kd S101 := Kd.iso (Kd.pair (Kd.int .i64) (Kd.int .i64)) (fun x : S101 => (x.f0, x.f1))
theorem k101_open {w : World} {x : S101} {cs : List Value} (h : k101.K w x cs) : cs = [.int .i64 x.f0, .int .i64 x.f1] := by
 obtain ⟨_, _, rfl, rfl, rfl⟩ := h
 exact rfl
theorem k101_mk (w : World) (x : S101)  : k101.K w x [.int .i64 x.f0, .int .i64 x.f1] := ⟨[.int .i64 x.f0], [.int .i64 x.f1], rfl, rfl, rfl⟩
theorem k101_mkM (w : World) (base : Nat) (ok : Nat → Prop) (x : S101)  : k101.M w base ok x [.int .i64 x.f0, .int .i64 x.f1] := ⟨[.int .i64 x.f0], [.int .i64 x.f1], rfl, rfl, rfl⟩
def rd_T101 (xs : List S101) (i : Int) : S101 := xs.getD i.toNat z101
theorem at_T101 {w : World} {A : Option Addr} {n : Nat} {xs : List S101} (h : Kd.C k101 w A n xs) (i : Int) (h0 : 0 ≤ i) (h1 : i < n) : ∃ ad , A = some ad ∧ w.cell? (ad.add (i.toNat * 2)) = some (.int .i64 (rd_T101 xs i).f0) ∧ w.cell? ⟨(ad.add (i.toNat * 2)).block, (ad.add (i.toNat * 2)).off + 1, none⟩ = some (.int .i64 (rd_T101 xs i).f1) := by
 obtain ⟨ad, c, e, _, hK, hc0⟩ := Kd.C_get h z101 i h0 h1
 have hc : ∀ j u, c[j]? = some u → w.cell? (ad.add (i.toNat * 2 + j)) = some u := hc0
 obtain rfl := k101_open hK
 exact ⟨ad, e, hc 0 _ rfl, by rw [← add_field _ _ 1 (by omega)]; exact hc 1 _ rfl⟩
def rd_L2 (xs : List (List Int)) (i : Int) : (List Int) := xs.getD i.toNat ([] : List Int)
theorem at_L2 {w : World} {A : Option Addr} {n : Nat} {xs : List (List Int)} (h : Kd.C (Kd.slice 2 (Kd.int .i64)) w A n xs) (i : Int) (h0 : 0 ≤ i) (h1 : i < n) : ∃ ad A0 c0, A = some ad ∧ w.cell? (ad.add i.toNat) = some (.slice A0 (rd_L2 xs i).length c0) ∧ (rd_L2 xs i).length ≤ c0 ∧ (Kd.int .i64).C w A0 (rd_L2 xs i).length (rd_L2 xs i) := by
 obtain ⟨ad, c, e, _, hK, hc0⟩ := Kd.C_get h ([] : List Int) i h0 h1
 have hc : ∀ j u, c[j]? = some u → w.cell? (ad.add (i.toNat * 1 + j)) = some u := hc0
 obtain ⟨A0, c0, rfl, l0, g0⟩ := hK
 exact ⟨ad, A0, c0, e, by have hq := hc 0 _ rfl; rwa [Nat.mul_one, Nat.add_zero] at hq, l0, g0⟩
structure S102 where
 f0 : Int
 f1 : (List Int)
def z102 : S102 := ⟨(0 : Int), ([] : List Int)⟩
def k102 : Kd S102 := Kd.iso (Kd.pair (Kd.int .i64) (Kd.slice 3 (Kd.int .i64))) (fun x : S102 => (x.f0, x.f1))
theorem k102_open {w : World} {x : S102} {cs : List Value} (h : k102.K w x cs) : ∃ A1 c1, cs = [.int .i64 x.f0, .slice A1 x.f1.length c1] ∧ x.f1.length ≤ c1 ∧ (Kd.int .i64).C w A1 x.f1.length x.f1 := by
 obtain ⟨_, _, rfl, rfl, ⟨A1, c1, rfl, l1, g1⟩⟩ := h
 exact ⟨A1, c1, rfl, l1, g1⟩
theorem k102_mk (w : World) (x : S102) {A1 : Option Addr} {c1 : Nat} (l1 : x.f1.length ≤ c1) (g1 : (Kd.int .i64).C w A1 x.f1.length x.f1) : k102.K w x [.int .i64 x.f0, .slice A1 x.f1.length c1] := ⟨[.int .i64 x.f0], [.slice A1 x.f1.length c1], rfl, rfl, ⟨A1, c1, rfl, l1, g1⟩⟩
theorem k102_mkM (w : World) (base : Nat) (ok : Nat → Prop) (x : S102) {v1 : Value} (g1 : (Kd.int .i64).R 3 w base ok v1 x.f1) : k102.M w base ok x [.int .i64 x.f0, v1] := ⟨[.int .i64 x.f0], [v1], rfl, rfl, ⟨v1, rfl, g1⟩⟩
def rd_T102 (xs : List S102) (i : Int) : S102 := xs.getD i.toNat z102
theorem at_T102 {w : World} {A : Option Addr} {n : Nat} {xs : List S102} (h : Kd.C k102 w A n xs) (i : Int) (h0 : 0 ≤ i) (h1 : i < n) : ∃ ad A1 c1, A = some ad ∧ w.cell? (ad.add (i.toNat * 2)) = some (.int .i64 (rd_T102 xs i).f0) ∧ w.cell? ⟨(ad.add (i.toNat * 2)).block, (ad.add (i.toNat * 2)).off + 1, none⟩ = some (.slice A1 (rd_T102 xs i).f1.length c1) ∧ (rd_T102 xs i).f1.length ≤ c1 ∧ (Kd.int .i64).C w A1 (rd_T102 xs i).f1.length (rd_T102 xs i).f1 := by
 obtain ⟨ad, c, e, _, hK, hc0⟩ := Kd.C_get h z102 i h0 h1
 have hc : ∀ j u, c[j]? = some u → w.cell? (ad.add (i.toNat * 2 + j)) = some u := hc0
 obtain ⟨A1, c1, rfl, l1, g1⟩ := k102_open hK
 exact ⟨ad, A1, c1, e, hc 0 _ rfl, by rw [← add_field _ _ 1 (by omega)]; exact hc 1 _ rfl, l1, g1⟩
structure S152 where
 f0 : Int
 f1 : Bool
 f2 : Int
 f3 : Int
def z152 : S152 := ⟨(0 : Int), false, (0 : Int), (0 : Int)⟩
end Go.Proofs.Ytelabmhhnpfegaa.PDynCells
end
section
namespace Go.Proofs.Ytelabmhhnpfegaa.Hand
open Go.RowKit Go.Proofs.YtelabmhhnpfegaaW.PrintWords Go.Proofs.YtelabmhhnpfegaaW.PrintLast Go.Proofs.YtelabmhhnpfegaaW.PrintMore Go.Proofs.Ytelabmhhnpfegaa.PDynCells
structure PI where
 kind : Int
 cap : Int
 items : List S101
 cost : List (List Int)
 size : Int
 sets : List S102
def InstC (w : World) (x : PI) (v : Value) : Prop := ∃ A2 c2 A3 c3 A5 c5, v = .agg #[.int .i64 x.kind, .int .i64 x.cap, .slice A2 x.items.length c2, .slice A3 x.cost.length c3, .int .i64 x.size, .slice A5 x.sets.length c5] ∧
 k101.C w A2 x.items.length x.items ∧ x.items.length ≤ c2 ∧ (Kd.slice 2 (Kd.int .i64)).C w A3 x.cost.length x.cost ∧ x.cost.length ≤ c3 ∧ k102.C w A5 x.sets.length x.sets ∧ x.sets.length ≤ c5
theorem InstC.below {w w1 : World} {x : PI} {v : Value} (h : InstC w x v) (hb : Below w.heap.size w w1) : InstC w1 x v := by
 obtain ⟨A2, c2, A3, c3, A5, c5, e, h1, l1, h2, l2, h3, l3⟩ := h
 exact ⟨A2, c2, A3, c3, A5, c5, e, Kd.C_below h1 hb, l1, Kd.C_below h2 hb, l2, Kd.C_below h3 hb, l3⟩
structure PIok (x : PI) : Prop where
 items : x.items.length ≤ 17592186044416
 cost : x.cost.length ≤ 17592186044416
 sets : x.sets.length ≤ 17592186044416
 rows : ∀ r ∈ x.cost, r.length ≤ 17592186044416
 els : ∀ s ∈ x.sets, s.f1.length ≤ 17592186044416
def cutS (s : S102) : S102 := ⟨s.f0, s.f1.take 40⟩
def cutI (x : PI) : PI := { x with items := x.items.take 40, cost := (x.cost.take 70).map (·.take 70), sets := (x.sets.take 40).map cutS }
def itC (l : List S101) : List Value := l.flatMap fun s => [.int .i64 s.f0, .int .i64 s.f1]
theorem itC_snoc (l : List S101) (s : S101) : itC (l ++ [s]) = itC l ++ [.int .i64 s.f0, .int .i64 s.f1] := by simp [itC]
theorem itC_reps {W : World} : ∀ (l : List S101), Reps (k101.K W) 2 l (itC l) := fun l => by
 have key : ∀ m : List S101, Reps (k101.K W) 2 m (itC m) → ∀ r : List S101, Reps (k101.K W) 2 (m ++ r) (itC (m ++ r)) := by
  intro m hm r
  induction r generalizing m with
  | nil => rwa [List.append_nil]
  | cons s r ih =>
   have h1 : Reps (k101.K W) 2 (m ++ [s]) (itC (m ++ [s])) := by
    rw [itC_snoc]
    exact hm.snoc (k101_mk W s) rfl
   have h2 := ih _ h1
   rwa [List.append_assoc, List.singleton_append] at h2
 exact key [] (Reps.none _ _) l
theorem own_it {W : World} {base n cp : Nat} {e : TypeId} {A : Option Addr} {l : List S101} (h : W.ownsRow base e 2 (.slice A n cp) n (itC l)) (hn : l.length = n) : k101.C W A l.length l := by
 obtain ⟨A', c', e', hr⟩ := own_reads_row h (itC_reps (W := W) l) hn
 injection e' with e1 _ _
 subst e1
 rw [hn]
 exact hr
end Go.Proofs.Ytelabmhhnpfegaa.Hand
end
