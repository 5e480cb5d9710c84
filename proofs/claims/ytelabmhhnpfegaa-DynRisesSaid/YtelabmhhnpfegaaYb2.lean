/- Texts Dq Dr Md Me Ds Ea, cut to what is used. -/
import Derived.StillTailTactics
import Derived.Deep.QuietTactic
import Derived.BigQuiet
import Derived.Lib.BufferMore
import Derived.Test.YtelabmhhnpfegaaYa0
import Derived.Test.YtelabmhhnpfegaaYa9
import Derived.Test.YtelabmhhnpfegaaYb0
import Derived.Test.YtelabmhhnpfegaaYb1
set_option linter.unusedVariables false
set_option linter.unusedSimpArgs false
section
namespace Go.Proofs.Ytelabmhhnpfegaa.Hand
open Go.RowKit Go.Proofs.YtelabmhhnpfegaaW.PrintWords Go.Proofs.YtelabmhhnpfegaaW.PrintLast Go.Proofs.YtelabmhhnpfegaaW.PrintMore Go.Proofs.Ytelabmhhnpfegaa.PDynCells
theorem bval_append : ∀ (a b : List Int), bval (a ++ b) = bval a + 65536 ^ a.length * bval b
 | [], b => by simp [bval]
 | d :: t, b => by
  rw [List.cons_append, bval, bval, bval_append t b, List.length_cons, Int.pow_succ, Int.mul_add, Int.add_assoc]
  congr 2
  rw [← Int.mul_assoc, Int.mul_comm 65536]
theorem bval_bd : ∀ (l : List Int), (∀ d ∈ l, 0 ≤ d ∧ d < 65536) → 0 ≤ bval l ∧ bval l < 65536 ^ l.length
 | [], _ => by simp [bval]
 | d :: t, h => by
  have ih := bval_bd t (fun d hd => h d (List.mem_cons_of_mem _ hd))
  have h0 := h d List.mem_cons_self
  rw [bval, List.length_cons, Int.pow_succ]
  generalize (65536 : Int) ^ t.length = P at ih ⊢
  omega
theorem split_at {l : List Int} {i : Nat} (hi : i < l.length) : bval l = bval (l.take i) + 65536 ^ i * (l.getD i 0 + 65536 * bval (l.drop (i + 1))) := by
 conv => lhs; rw [← List.take_append_drop i l]
 rw [bval_append, List.length_take, Nat.min_eq_left (by omega), drop_cons hi 0, bval]
theorem getD_mem {l : List Int} {i : Nat} (hi : i < l.length) : l.getD i 0 ∈ l := by
 rw [List.getD_eq_getElem?_getD, List.getElem?_eq_getElem hi, Option.getD_some]
 exact List.getElem_mem _
theorem Dg.low {D : List Int} {m : Int} (h : Dg D m) (hn : D.length ≠ 0) : 65536 ^ (D.length - 1) ≤ m := by
 have hi : D.length - 1 < D.length := by omega
 have h1 := split_at hi
 have h2 := bval_bd (D.take (D.length - 1)) (fun d hd => h.dig d (List.mem_of_mem_take hd))
 have h3 := (h.dig _ (getD_mem hi)).1
 have h4 : D.getD (D.length - 1) 0 ≠ 0 := by
  rcases h.top with e | e
  ·exact absurd e hn
  ·exact e
 rw [List.drop_of_length_le (by omega), bval, Int.mul_zero, Int.add_zero, h.val] at h1
 have h5 : (65536 : Int) ^ (D.length - 1) * 1 ≤ 65536 ^ (D.length - 1) * D.getD (D.length - 1) 0 := Int.mul_le_mul_of_nonneg_left (by omega) (Int.le_of_lt (Int.pow_pos (by omega)))
 rw [Int.mul_one] at h5
 omega
end Go.Proofs.Ytelabmhhnpfegaa.Hand
end
section
namespace Go.Proofs.Ytelabmhhnpfegaa.Hand
open Go.RowKit Go.Proofs.YtelabmhhnpfegaaW.PrintWords Go.Proofs.YtelabmhhnpfegaaW.PrintLast Go.Proofs.YtelabmhhnpfegaaW.PrintMore Go.Proofs.Ytelabmhhnpfegaa.PDynCells
end Go.Proofs.Ytelabmhhnpfegaa.Hand
end
section
namespace Go.Proofs.Ytelabmhhnpfegaa.Hand
open Go.RowKit Go.Proofs.YtelabmhhnpfegaaW.PrintWords Go.Proofs.YtelabmhhnpfegaaW.PrintLast Go.Proofs.YtelabmhhnpfegaaW.PrintMore Go.Proofs.Ytelabmhhnpfegaa.PDynCells
end Go.Proofs.Ytelabmhhnpfegaa.Hand
end
section
namespace Go.Proofs.Ytelabmhhnpfegaa.Hand
open Go.RowKit Go.Proofs.YtelabmhhnpfegaaW.PrintWords Go.Proofs.YtelabmhhnpfegaaW.PrintLast Go.Proofs.YtelabmhhnpfegaaW.PrintMore Go.Proofs.Ytelabmhhnpfegaa.PDynCells
def BstP (x : PI) (L : List (List Int)) (f : Bool) (z : Int) : Prop :=
 (f = false → z = 0 ∧ ∀ y ∈ L, (cosP x y).2 ≠ 0) ∧ (f = true → (∃ y ∈ L, cosP x y = (z, 0)) ∧ ∀ y ∈ L, (cosP x y).2 = 0 → z ≤ (cosP x y).1)
theorem BstP.nil (x : PI) : BstP x [] false 0 := ⟨fun _ => ⟨rfl, fun y hy => absurd hy List.not_mem_nil⟩, fun h => by cases h⟩
theorem BstP.skip {x : PI} {L : List (List Int)} {f : Bool} {z : Int} (h : BstP x L f z) {y : List Int} (hy : (cosP x y).2 ≠ 0 ∨ (f = true ∧ z ≤ (cosP x y).1)) : BstP x (L ++ [y]) f z := by
 refine ⟨fun hf => ⟨(h.1 hf).1, fun y' hy' => ?_⟩, fun hf => ⟨?_, fun y' hy' he => ?_⟩⟩
 ·rcases List.mem_append.1 hy' with h1 | h1
  ·exact (h.1 hf).2 y' h1
  ·rw [List.mem_singleton.1 h1]
   rcases hy with h2 | h2
   ·exact h2
   ·rw [hf] at h2
    cases h2.1
 ·obtain ⟨y0, h0, h1⟩ := (h.2 hf).1
  exact ⟨y0, List.mem_append.2 (.inl h0), h1⟩
 ·rcases List.mem_append.1 hy' with h1 | h1
  ·exact (h.2 hf).2 y' h1 he
  ·rw [List.mem_singleton.1 h1] at he ⊢
   rcases hy with h2 | h2
   ·exact absurd he h2
   ·exact h2.2
theorem BstP.take {x : PI} {L : List (List Int)} {f : Bool} {z c : Int} (h : BstP x L f z) {y : List Int} (hy : cosP x y = (c, 0)) (hc : f = false ∨ c < z) : BstP x (L ++ [y]) true c := by
 refine ⟨(fun hf => by cases hf), fun _ => ⟨⟨y, List.mem_append.2 (.inr (List.mem_singleton.2 rfl)), hy⟩, fun y' hy' he => ?_⟩⟩
 rcases List.mem_append.1 hy' with h1 | h1
 ·cases f with
  | false => exact absurd he ((h.1 rfl).2 y' h1)
  | true =>
   have := (h.2 rfl).2 y' h1 he
   rcases hc with h2 | h2
   ·cases h2
   ·omega
 ·rw [List.mem_singleton.1 h1, hy]
  exact Int.le_refl _
end Go.Proofs.Ytelabmhhnpfegaa.Hand
end
section
namespace Go.Proofs.Ytelabmhhnpfegaa.Hand
open Go.RowKit Go.Proofs.YtelabmhhnpfegaaW.PrintWords Go.Proofs.YtelabmhhnpfegaaW.PrintLast Go.Proofs.YtelabmhhnpfegaaW.PrintMore Go.Proofs.Ytelabmhhnpfegaa.PDynCells
attribute [local go_sem] max2_int min2_int
def mx2 (a b : Int) : Int := if a < b then b else a
def nxt (last : List Int) (wt : Nat) (val : Int) (j : Nat) : List Int := (List.range last.length).map fun i => if wt ≤ i ∧ i < j then mx2 (last.getD i 0) (last.getD (i - wt) 0 + val) else last.getD i 0
def stepR (last : List Int) (s : S101) : List Int := (List.range last.length).map fun i => if s.f1.toNat ≤ i then mx2 (last.getD i 0) (last.getD (i - s.f1.toNat) 0 + s.f0) else last.getD i 0
def rowK (m : Nat) (l : List S101) : Nat → List Int
 | 0 => List.replicate m 0
 | k + 1 => stepR (rowK m l k) (l.getD k z101)
def rowsP (m : Nat) (l : List S101) (k : Nat) : List (List Int) := (List.range (k + 1)).map (rowK m l)
theorem nxt_len (last : List Int) (wt : Nat) (val : Int) (j : Nat) : (nxt last wt val j).length = last.length := by simp [nxt]
theorem stepR_len (last : List Int) (s : S101) : (stepR last s).length = last.length := by simp [stepR]
theorem rowK_len (m : Nat) (l : List S101) : ∀ k, (rowK m l k).length = m
 | 0 => by simp [rowK]
 | k + 1 => by rw [rowK, stepR_len, rowK_len m l k]
theorem rowsP_succ (m : Nat) (l : List S101) (k : Nat) : rowsP m l (k + 1) = rowsP m l k ++ [rowK m l (k + 1)] := by
 unfold rowsP
 rw [List.range_succ, List.map_append]
 rfl
theorem rowsP_len (m : Nat) (l : List S101) (k : Nat) : (rowsP m l k).length = k + 1 := by simp [rowsP]
theorem rowsP_get (m : Nat) (l : List S101) {k j : Nat} (h : j ≤ k) : (rowsP m l k).getD j [] = rowK m l j := by
 unfold rowsP
 rw [List.getD_eq_getElem?_getD, List.getElem?_map, List.getElem?_range (by omega)]
 rfl
theorem getD_map_range {n i : Nat} (f : Nat → Int) (h : i < n) : ((List.range n).map f).getD i 0 = f i := by
 rw [List.getD_eq_getElem?_getD, List.getElem?_map, List.getElem?_range h]
 rfl
theorem nxt_get {last : List Int} {wt : Nat} {val : Int} {j i : Nat} (h : i < last.length) : (nxt last wt val j).getD i 0 = if wt ≤ i ∧ i < j then mx2 (last.getD i 0) (last.getD (i - wt) 0 + val) else last.getD i 0 := getD_map_range _ h
theorem stepR_get {last : List Int} {s : S101} {i : Nat} (h : i < last.length) : (stepR last s).getD i 0 = if s.f1.toNat ≤ i then mx2 (last.getD i 0) (last.getD (i - s.f1.toNat) 0 + s.f0) else last.getD i 0 := getD_map_range _ h
theorem ext_getD {a b : List Int} (hl : a.length = b.length) (h : ∀ i, i < a.length → a.getD i 0 = b.getD i 0) : a = b := by
 apply List.ext_getElem? 
 intro i
 by_cases hi : i < a.length
 ·have h1 := h i hi
  rw [List.getD_eq_getElem?_getD, List.getD_eq_getElem?_getD, List.getElem?_eq_getElem hi, List.getElem?_eq_getElem (by omega)] at h1
  rw [List.getElem?_eq_getElem hi, List.getElem?_eq_getElem (by omega)]
  simpa using h1
 ·rw [List.getElem?_eq_none (by omega), List.getElem?_eq_none (by omega)]
theorem nxt_start (last : List Int) (wt : Nat) (val : Int) : nxt last wt val wt = last :=
 ext_getD (nxt_len _ _ _ _) (fun i hi => by rw [nxt_len] at hi; rw [nxt_get hi, if_neg (by omega)])
theorem getD_set {l : List Int} {j i : Nat} {v : Int} (hi : i < l.length) : (l.set j v).getD i 0 = if j = i then v else l.getD i 0 := by
 rw [List.getD_eq_getElem?_getD, List.getElem?_set]
 split
 ·rename_i h
  subst h
  rw [if_pos hi]
  rfl
 ·rw [List.getD_eq_getElem?_getD]
theorem nxt_step {last : List Int} {wt j : Nat} {val : Int} (h : wt ≤ j) : (nxt last wt val j).set j (mx2 (last.getD j 0) (last.getD (j - wt) 0 + val)) = nxt last wt val (j + 1) :=
 ext_getD (by rw [List.length_set, nxt_len, nxt_len]) (fun i hi => by
  rw [List.length_set, nxt_len] at hi
  rw [getD_set (by rw [nxt_len]; exact hi), nxt_get hi, nxt_get hi]
  by_cases e : j = i
  ·subst e
   rw [if_pos rfl, if_pos ⟨h, by omega⟩]
  ·rw [if_neg e]
   by_cases e2 : wt ≤ i ∧ i < j
   ·rw [if_pos e2, if_pos ⟨e2.1, by omega⟩]
   ·rw [if_neg e2, if_neg (by omega)])
theorem nxt_end {last : List Int} {s : S101} {j : Nat} (hj : last.length ≤ j) : nxt last s.f1.toNat s.f0 j = stepR last s :=
 ext_getD (by rw [nxt_len, stepR_len]) (fun i hi => by
  rw [nxt_len] at hi
  rw [nxt_get hi, stepR_get hi]
  by_cases e : s.f1.toNat ≤ i
  ·rw [if_pos ⟨e, by omega⟩, if_pos e]
  ·rw [if_neg (fun h => e h.1), if_neg e])
theorem rowK_bd {m : Nat} {l : List S101} (hb : ∀ s ∈ l, 0 ≤ s.f0 ∧ s.f0 ≤ 2147483648) : ∀ k i, 0 ≤ (rowK m l k).getD i 0 ∧ (rowK m l k).getD i 0 ≤ 2147483648 * k
 | 0, i => by
  rw [rowK, List.getD_eq_getElem?_getD, List.getElem?_replicate]
  split <;> simp
 | k + 1, i => by
  have hv : 0 ≤ (l.getD k z101).f0 ∧ (l.getD k z101).f0 ≤ 2147483648 := by
   by_cases hk : k < l.length
   ·refine hb _ ?_
    rw [List.getD_eq_getElem?_getD, List.getElem?_eq_getElem hk, Option.getD_some]
    exact List.getElem_mem _
   ·rw [List.getD_eq_getElem?_getD, List.getElem?_eq_none (by omega)]
    exact ⟨by decide, by decide⟩
  rw [rowK]
  by_cases hi : i < (rowK m l k).length
  ·have h1 := rowK_bd (m := m) hb k i
   have h2 := rowK_bd (m := m) hb k (i - (l.getD k z101).f1.toNat)
   rw [stepR_get hi]
   unfold mx2
   split
   ·split <;> omega
   ·omega
  ·rw [List.getD_eq_getElem?_getD, List.getElem?_eq_none (by rw [stepR_len]; omega)]
   simp
   omega
theorem dr_heap' {w : World} {g : Nat} {o : Obj} (h : w.heap[g]? = some o) : w.drew.heap[g]? = some o := h
theorem info2' : (Try.prog.info? 2).map (fun i => (i.zero, i.size, i.bytes)) = some (some (.int .i64 0), 1, 8) := by kernel_rfl
theorem R_litw {α : Type} (d : Kd α) (W : World) (base e : Nat) {xs : List α} {inner : List Value} {ok okp : Nat → Prop}
  (hrep : Reps (d.M W base okp) d.sz xs inner) (hok : ∀ k, okp k → ok k) (hfresh : ok W.heap.size) (hbase : base ≤ W.heap.size) (hm : xs.length ≤ 9223372036854775807) :
  d.R e (W.alloc (.cells inner.toArray e)) base ok (.slice (some ⟨W.heap.size, 0, none⟩) xs.length xs.length) xs := by
 refine ⟨fun k hk => ?_, inner, ?_, ?_⟩
 ·have : W.heap.size = k := by simpa [Value.ownBlock] using hk
  subst this
  exact hfresh
 ·have h2 := World.ownsRow_lit (base := base) (e := e) (size := d.sz) W inner.toArray xs.length hbase (by simpa [maxLen] using hm) (by simpa using hrep.1)
  simpa using h2
 ·refine hrep.imp_ (fun p c hp => d.M_mono (fun k hk => ⟨hok k hk.1, fun he => ?_⟩) (Kd.M_below (d.M_bound hp) (below_alloc (Below.refl _ _) _)))
  have h3 : k = W.heap.size := by simpa [Value.ownBlock] using he
  have := hk.2.2.1
  omega
set_option maxHeartbeats 400000 in
set_option maxRecDepth 100000 in
theorem cloneI_any (w : World) (a : Addr) (n c : Nat) (xs : List Int) (hC : (Kd.int .i64).C w (some a) n xs) (hn : n ≤ 4294967296) :
  Calls Try.prog 89 #[.slice (some a) n c] w fun e w' => ∃ v, e = .returned v ∧ Aside0 ((Kd.int .i64).R 2 w' w.heap.size (fun k => w.heap.size ≤ k) v xs ∧ Below w.heap.size w w') := by
 have HC := Aside0.mk hC
 clear hC
 have hu := Try.underlying30
 have hnil : ∀ W, (binOp .eql 30 (.slice (some a) n c) (.slice none 0 0)).run Try.prog W = .ok (.bool false) W := fun W => Lib.run_eql_slice_some_nil W _ _ _ Try.underlying30
 go_enter Try.func89, Try.ntmps89
 go_upto_region 3 with fail
 have O0 : Aside0 ((Kd.int .i64).R 2 (w.alloc (.cells #[] 2)) w.heap.size (fun k => w.heap.size ≤ k) (.slice (some ⟨w.heap.size, 0, none⟩) 0 0) []) := ⟨⟨fun k hk => by
  have : w.heap.size = k := by simpa [Value.ownBlock] using hk
  omega, [], ⟨rfl, .inr ⟨w.heap.size, 0, #[], rfl, Nat.le_refl _, heap_alloc_new w _, Nat.le_refl _, Nat.zero_le _, rfl, rfl⟩⟩, Reps.none _ _⟩⟩
 have HL : Aside0 ((([] : List Int).length + n) * 8 ≤ 140737488355328) := ⟨by simp; omega⟩
 have CC : Aside0 ((∀ k, (w.alloc (.cells #[] 2)).heap.size ≤ k → w.heap.size ≤ k) ∧ (Kd.int .i64).C (w.alloc (.cells #[] 2)) (some a) n xs ∧ Below w.heap.size w (w.alloc (.cells #[] 2)) ∧ w.heap.size ≤ (w.alloc (.cells #[] 2)).heap.size) := ⟨fun k hk => by simp at hk; omega, Kd.C_below HC.out (below_alloc (Below.refl _ _) _), below_alloc (Below.refl _ _) _, by simp⟩
 go_wp2_with (at_builtin; refine Kd.R_append_row (Value.int .i64) (0 : Int) (w0 := w) w.heap.size rfl _ _ 30 2 (.int .i64 0) 8 rfl Try.underlying30 info2' rfl (by decide) (.slice (some ⟨w.heap.size, 0, none⟩) 0 0) [] xs (some a) n c (fun k => w.heap.size ≤ k) rfl rfl CC.out.1 O0.out CC.out.2.1 CC.out.2.2.1 CC.out.2.2.2 HL.out ?_; intro v7 w7 ho7 hb7 _ _; have O7 := Aside0.mk ho7; have B7 := Aside0.mk hb7; clear ho7 hb7)
 go_ret
 exact ⟨_, rfl, ⟨by have := O7.out; rwa [List.nil_append] at this, B7.out⟩⟩
set_option maxHeartbeats 1000000 in
set_option maxRecDepth 100000 in
theorem rows_any (w : World) (x : PI) (v : Value) (h : InstC w x v) (hi : IOk x) (hq : roomP x ≤ 1048576) :
  Calls Try.prog 53 #[v] w fun e w' => ∃ v, e = .returned v ∧ Aside0 ((Kd.slice 2 (Kd.int .i64)).R 30 w' w.heap.size (fun _ => True) v (rowsP (roomP x + 1).toNat x.items x.items.length) ∧ Below w.heap.size w w') := by
 have HI := Aside0.mk h
 have IOa := Aside0.mk hi
 obtain ⟨A2, c2, A3, c3, A5, c5, rfl, h2, l2, h3, l3, h5, l5⟩ := h
 have H2 := Aside0.mk h2
 obtain ⟨n2, hn2⟩ : ∃ n, n = x.items.length := ⟨_, rfl⟩
 have b2 : n2 ≤ 4096 := by rw [hn2]; exact hi.nitems
 rw [← hn2] at HI H2 l2 ⊢
 have HN := Aside0.mk hn2
 obtain ⟨m, hm⟩ : ∃ m, m = (roomP x + 1).toNat := ⟨_, rfl⟩
 rw [← hm]
 have RB := room_bd hi
 have HM : roomP x = (m : Int) - 1 := by omega
 have m1 : 1 ≤ m := by omega
 have m2 : m ≤ 1048577 := by omega
 have HR := Aside0.mk HM
 clear hi h2 h3 h5 l3 l5 hn2 hm HM RB hq
 have hu54 := Try.underlying54
 have hu101 := Try.underlying101
 have hu22 := Try.underlying22
 have hu30 := Try.underlying30
 go_enter Try.func53, Try.ntmps53
 go_wp2_with fail
 obtain ⟨W1, hW1⟩ : ∃ W, W = w.alloc (.cells #[.int .i64 x.kind, .int .i64 x.cap, .slice A2 n2 c2, .slice A3 x.cost.length c3, .int .i64 x.size, .slice A5 x.sets.length c5] 54) := ⟨_, rfl⟩
 rw [← hW1]
 have B1 : Aside0 (Below w.heap.size w W1) := ⟨by rw [hW1]; exact below_alloc (Below.refl _ _) _⟩
 obtain ⟨p1, hp1⟩ : ∃ p, p = w.heap.size := ⟨_, rfl⟩
 have Q1 : Aside0 (W1.heap[p1]? = some (.cells #[.int .i64 x.kind, .int .i64 x.cap, .slice A2 n2 c2, .slice A3 x.cost.length c3, .int .i64 x.size, .slice A5 x.sets.length c5] 54 (0, 0))) := ⟨by rw [hW1, hp1]; exact heap_alloc_new _ _⟩
 rw [← hp1]
 have HP := Aside0.mk hp1
 clear hW1 hp1
 refine (room_any W1 x _ (HI.out.below B1.out) IOa.out).mono ?_
 rintro _ W2 ⟨rfl, B2'⟩
 have B2 := Aside0.mk B2'
 clear B2'
 rw [HR.out]
 have e1 : wrap64 ((m : Int) - 1 + 1) = (m : Int) := by unfold wrap64; omega
 have e2 : (m : Int) - 1 + 1 = (m : Int) := by omega
 have H8 : Aside0 ((m : Int).toNat * 8 ≤ 281474976710656) := ⟨by rw [Int.toNat_natCast]; omega⟩
 have Z1 : Aside0 (W1.heap.size ≤ W2.heap.size) := ⟨B2.out.size⟩
 have Q1' : Aside0 (W2.heap[p1]? = some (.cells #[.int .i64 x.kind, .int .i64 x.cap, .slice A2 n2 c2, .slice A3 x.cost.length c3, .int .i64 x.size, .slice A5 x.sets.length c5] 54 (0, 0))) := ⟨blk_below Q1.out B2.out⟩
 go_upto_region 2 with ((with_reducible refine gate_dst (N := 12) rfl ?_); refine Kd.R_make (Kd.int .i64) (w0 := W1) W1.heap.size 2 rfl (N := 12) rfl 30 _ _ rfl (m : Int) rfl rfl Try.underlying30 (.int .i64 0) 8 info2' rfl (by decide) (by decide) (0 : Int) (ok := fun _ => True) (okp := fun _ => False) rfl (fun _ h => h.elim) trivial (by omega) H8.out B2.out Z1.out ?_; intro v12 w12 ho hb hg _; obtain ⟨A12, n12, c12, rfl, N12⟩ := R_open ho; have O12 := Aside0.mk ho; have B12 := Aside0.mk hb; clear ho hb hg)
 have R0 : Aside0 ((Kd.slice 2 (Kd.int .i64)).R 30 (w12.alloc (.cells #[.slice A12 n12 c12] 30)) W1.heap.size (fun _ => True) (.slice (some ⟨w12.heap.size, 0, none⟩) 1 1) [List.replicate (m : Int).toNat (0 : Int)]) := ⟨R_litw (Kd.slice 2 (Kd.int .i64)) w12 W1.heap.size 30 (xs := [List.replicate (m : Int).toNat (0 : Int)]) (inner := [.slice A12 n12 c12]) (ok := fun _ => True) (okp := fun _ => True) (Reps.one ⟨_, rfl, O12.out⟩ (Reps.none _ _)) (fun _ _ => trivial) trivial B12.out.size (by simp)⟩
 obtain ⟨W3, hW3⟩ : ∃ W, W = w12.alloc (.cells #[.slice A12 n12 c12] 30) := ⟨_, rfl⟩
 rw [← hW3] at R0 ⊢
 obtain ⟨g3, hg3⟩ : ∃ g, g = w12.heap.size := ⟨_, rfl⟩
 rw [← hg3] at R0 ⊢
 have BA : Aside0 (Below W1.heap.size W1 W3) := ⟨by rw [hW3]; exact B12.out.alloc B12.out.size _⟩
 have PP : Aside0 (rowsP m x.items 0 = [List.replicate (m : Int).toNat (0 : Int)]) := ⟨by rw [Int.toNat_natCast]; rfl⟩
 have RR : Aside0 (R1 (Kd.slice 2 (Kd.int .i64)) 30 w W1 p1 54 #[.int .i64 x.kind, .int .i64 x.cap, .slice A2 n2 c2, .slice A3 x.cost.length c3, .int .i64 x.size, .slice A5 x.sets.length c5] W3.heap.size W3 (.slice (some ⟨g3, 0, none⟩) 1 1) (rowsP m x.items 0)) := ⟨by
  refine ⟨?_, Nat.le_refl _, BA.out.size, blk_below Q1.out BA.out, B1.out.trans (BA.out.mono B1.out.size), B1.out.size, Chg.of_below BA.out⟩
  rw [PP.out]
  exact Kd.R_mono (Kd.R_bound R0.out) (fun k hk => hk.2.2.1)⟩
 clear hW3 hg3 R0
 have q2 : W3.cell? ⟨p1, 2, none⟩ = some (.slice A2 n2 c2) := (blk_cell RR.out.hp 2).trans rfl
 go_wp2_with fail
 clear q2
 have K0 : Aside0 (R1 (Kd.slice 2 (Kd.int .i64)) 30 w W1 p1 54 #[.int .i64 x.kind, .int .i64 x.cap, .slice A2 n2 c2, .slice A3 x.cost.length c3, .int .i64 x.size, .slice A5 x.sets.length c5] W3.heap.size W3 (.slice (some ⟨g3, 0, none⟩) (0 + 1) 1) (rowsP m x.items 0)) := RR
 clear RR
 go_loopw [3, 17] (fun v3 v17 wr => ∃ (k : Nat) (A : Option Addr) (c : Nat), k ≤ n2 ∧ v3 = .slice A (k + 1) c ∧ v17 = .int .i64 k ∧ Aside0 (R1 (Kd.slice 2 (Kd.int .i64)) 30 w W1 p1 54 #[.int .i64 x.kind, .int .i64 x.cap, .slice A2 n2 c2, .slice A3 x.cost.length c3, .int .i64 x.size, .slice A5 x.sets.length c5] wr.heap.size wr (.slice A (k + 1) c) (rowsP m x.items k))) (fun _ v17 _ => n2 - (intOf v17).toNat)
 case atStart => exact ⟨0, some ⟨g3, 0, none⟩, 1, Nat.zero_le _, rfl, rfl, K0⟩
 case round =>
  clear K0
  obtain ⟨k, A, c, hk, rfl, rfl, RR⟩ := hrel
  by_cases hlt : k < n2
  ·obtain ⟨ad, rfl, a0', a1'⟩ := at_T101 H2.out (k : Int) (by omega) (by omega)
   have a0 := pw_cell_below RR.out.bw a0'
   have a1 := pw_cell_below RR.out.bw a1'
   rw [Int.toNat_natCast] at a0 a1
   have hlt' : k < x.items.length := by rw [← HN.out]; exact hlt
   obtain ⟨s, hs⟩ : ∃ s, s = x.items.getD k z101 := ⟨_, rfl⟩
   have hs2 : rd_T101 x.items (k : Int) = s := by rw [hs]; unfold rd_T101; rw [Int.toNat_natCast]
   rw [hs2] at a0 a1
   have sm : s ∈ x.items := by
    rw [hs, List.getD_eq_getElem?_getD, List.getElem?_eq_getElem hlt', Option.getD_some]
    exact List.getElem_mem _
   have sb := IOa.out.items s sm
   have HS := Aside0.mk hs
   obtain ⟨wt, hwt⟩ : ∃ n : Nat, (n : Int) = s.f1 := ⟨s.f1.toNat, by omega⟩
   obtain ⟨vl, hvl⟩ : ∃ n : Int, n = s.f0 := ⟨_, rfl⟩
   rw [← hwt] at a1 sb
   rw [← hvl] at a0 sb
   obtain ⟨⟨v0, v1⟩, w0, w1⟩ := sb
   have HV := Aside0.mk (And.intro hwt hvl)
   obtain ⟨ar, AY, cY, e, y0', ly, hy'⟩ := at_L2 (R_C RR.out.r).1 (k : Int) (by omega) (by omega)
   have e := e
   subst e
   have hyE : rd_L2 (rowsP m x.items k) (k : Int) = rowK m x.items k := by unfold rd_L2; rw [Int.toNat_natCast]; exact rowsP_get m x.items (Nat.le_refl _)
   rw [hyE, rowK_len] at y0' ly hy'
   rw [Int.toNat_natCast] at y0'
   have LB := Aside0.mk (fun i => rowK_bd (m := m) (l := x.items) (fun s hs => (IOa.out.items s hs).1) k i)
   obtain ⟨L, hL⟩ : ∃ L, L = rowK m x.items k := ⟨_, rfl⟩
   rw [← hL] at hy'
   have LL : Aside0 (L.length = m) := ⟨by rw [hL, rowK_len]⟩
   have LB2 : Aside0 (∀ i, 0 ≤ L.getD i 0 ∧ L.getD i 0 ≤ 2147483648 * (k : Int)) := ⟨by rw [hL]; exact LB.out⟩
   have LN : Aside0 (rowsP m x.items (k + 1) = rowsP m x.items k ++ [stepR L s]) := ⟨by rw [rowsP_succ, rowK, hL, hs]⟩
   obtain ⟨aY, eY⟩ : ∃ a, AY = some a := by
    obtain ⟨_, _, hc⟩ := hy'
    obtain ⟨a, e, _⟩ := hc (by omega)
    exact ⟨a, e⟩
   subst eY
   have HY := Aside0.mk hy'
   clear a0' a1' hlt' hs hs2 sm hwt hvl hyE hL hy' LB
   have hk1 : wrap64 ((k : Int) + 1 - 1) = (k : Int) := by unfold wrap64; omega
   have hk2 : (k : Int) + 1 - 1 = (k : Int) := by omega
   obtain ⟨wo, hwo⟩ : ∃ wo : World, wo = wr := ⟨_, rfl⟩
   rw [← hwo] at RR HY a0 a1 y0' ⊢
   clear hwo
   have y0 := pw_cell_below (below_alloc (Below.refl wo.heap.size wo) (.cells #[.int .i64 vl, .int .i64 (wt : Int)] 101)) y0'
   go_upto_region 6 with fail
   obtain ⟨W4, hW4⟩ : ∃ W, W = wo.alloc (.cells #[.int .i64 vl, .int .i64 (wt : Int)] 101) := ⟨_, rfl⟩
   rw [← hW4] at y0 ⊢
   have B4 : Aside0 (Below wo.heap.size wo W4) := ⟨by rw [hW4]; exact below_alloc (Below.refl _ _) _⟩
   obtain ⟨p5, hp5⟩ : ∃ p, p = wo.heap.size := ⟨_, rfl⟩
   have Q5 : Aside0 (W4.heap[p5]? = some (.cells #[.int .i64 vl, .int .i64 (wt : Int)] 101 (0, 0))) := ⟨by rw [hW4, hp5]; exact heap_alloc_new _ _⟩
   rw [← hp5]
   have HP5 := Aside0.mk hp5
   clear hW4 hp5 a0 a1 y0'
   go_wp2_with fail
   refine (cloneI_any W4 aY m cY L (Kd.C_below HY.out B4.out) (by omega)).mono ?_
   rintro _ W5 ⟨vn, rfl, HC5⟩
   obtain ⟨gn, cn, rfl⟩ : ∃ gn cn, vn = .slice (some ⟨gn, 0, none⟩) m cn := by
    obtain ⟨g, cap, e, _⟩ := Kd.R_form HC5.out.1 (by rw [LL.out]; omega)
    rw [LL.out] at e
    exact ⟨g, cap, e⟩
   have RR5 : Aside0 (R1 (Kd.slice 2 (Kd.int .i64)) 30 w W1 p1 54 #[.int .i64 x.kind, .int .i64 x.cap, .slice (some ad) n2 c2, .slice A3 x.cost.length c3, .int .i64 x.size, .slice A5 x.sets.length c5] wo.heap.size W5 (.slice (some ar) (k + 1) c) (rowsP m x.items k)) := ⟨(RR.out.new B4.out).new HC5.out.2⟩
   have Q55 : Aside0 (W5.heap[p5]? = some (.cells #[.int .i64 vl, .int .i64 (wt : Int)] 101 (0, 0))) := ⟨blk_below Q5.out HC5.out.2⟩
   have GN : Aside0 (wo.heap.size ≤ gn ∧ W1.heap.size ≤ gn ∧ p1 ≠ gn) := ⟨by
    have h1 := Kd.R_base HC5.out.1 gn (by simp [Value.ownBlock])
    have h2 := B4.out.size
    have h3 := RR.out.b6
    have h4 := (Array.getElem?_eq_some_iff.1 Q1.out).1
    omega⟩
   have NN : Aside0 ((Kd.int .i64).R 2 W5 W1.heap.size (fun k => wo.heap.size ≤ k) (.slice (some ⟨gn, 0, none⟩) m cn) (nxt L wt vl wt)) := ⟨by
    rw [nxt_start]
    exact Kd.R_lower (Kd.R_mono HC5.out.1 (fun k hk => Nat.le_trans B4.out.size hk)) (Nat.le_trans RR.out.b6 B4.out.size)⟩
   have f2 : W5.cell? ⟨p5, 1, none⟩ = some (.int .i64 (wt : Int)) := (blk_cell Q55.out 1).trans rfl
   go_wp2_with fail
   clear f2 y0
   have K0 : Aside0 (R1 (Kd.slice 2 (Kd.int .i64)) 30 w W1 p1 54 #[.int .i64 x.kind, .int .i64 x.cap, .slice (some ad) n2 c2, .slice A3 x.cost.length c3, .int .i64 x.size, .slice A5 x.sets.length c5] wo.heap.size W5 (.slice (some ar) (k + 1) c) (rowsP m x.items k) ∧ (Kd.int .i64).R 2 W5 W1.heap.size (fun k => wo.heap.size ≤ k) (.slice (some ⟨gn, 0, none⟩) m cn) (nxt L wt vl wt) ∧ W5.heap[p5]? = some (.cells #[.int .i64 vl, .int .i64 (wt : Int)] 101 (0, 0)) ∧ (Kd.int .i64).C W5 (some aY) m L) := ⟨RR5.out, NN.out, Q55.out, Kd.C_below (Kd.C_below HY.out B4.out) HC5.out.2⟩
   have FAR : Aside0 (∀ ad, some aY = some ad → 0 < m → ad.block ≠ gn) := ⟨Kd.far_C (0 : Int) HY.out GN.out.1⟩
   clear RR RR5 NN Q55 Q5 HY HC5 B4
   go_loopw [8] (fun v8 wr => ∃ j : Nat, wt ≤ j ∧ (j ≤ m ∨ j = wt) ∧ v8 = .int .i64 (j : Int) ∧ Aside0 (R1 (Kd.slice 2 (Kd.int .i64)) 30 w W1 p1 54 #[.int .i64 x.kind, .int .i64 x.cap, .slice (some ad) n2 c2, .slice A3 x.cost.length c3, .int .i64 x.size, .slice A5 x.sets.length c5] wo.heap.size wr (.slice (some ar) (k + 1) c) (rowsP m x.items k) ∧ (Kd.int .i64).R 2 wr W1.heap.size (fun k => wo.heap.size ≤ k) (.slice (some ⟨gn, 0, none⟩) m cn) (nxt L wt vl j) ∧ wr.heap[p5]? = some (.cells #[.int .i64 vl, .int .i64 (wt : Int)] 101 (0, 0)) ∧ (Kd.int .i64).C wr (some aY) m L)) (fun v8 _ => m - (intOf v8).toNat)
   case atStart => exact ⟨wt, Nat.le_refl _, .inr rfl, rfl, K0⟩
   case round =>
    clear K0
    obtain ⟨j, hwj, hjm, rfl, KK⟩ := hrel
    by_cases hj : j < m
    ·obtain ⟨dd, hdd⟩ : ∃ d, d = j - wt := ⟨_, rfl⟩
     have DD : Aside0 (dd = j - wt) := ⟨hdd⟩
     have d1 : (j : Int) - (wt : Int) = (dd : Int) := by omega
     have d2 : wrap64 ((j : Int) - (wt : Int)) = (dd : Int) := by unfold wrap64; omega
     have d3 : dd < m := by omega
     have d4 : IntKind.i64.wrap (dd : Int) = (dd : Int) := by rw [i64_w]; unfold wrap64; omega
     have d5 : 0 ≤ (dd : Int) ∧ (dd : Int) < (m : Int) := by omega
     obtain ⟨d6, d7⟩ := d5
     obtain ⟨ae, e, f1'⟩ := at_Int KK.out.2.2.2 dd d3
     injection e with e
     subst e
     obtain ⟨ag, e, f0'⟩ := at_Int (R_C KK.out.2.1).1 j hj
     injection e with e
     subst e
     have hadd : (⟨gn, 0, none⟩ : Addr).add j = ⟨gn, j, none⟩ := by unfold Addr.add; split <;> simp_all
     rw [hadd, nxt_get (by rw [LL.out]; exact hj), if_neg (by omega)] at f0'
     have bA := LB2.out j
     have bB := LB2.out dd
     obtain ⟨za, hza⟩ : ∃ z, z = L.getD j 0 := ⟨_, rfl⟩
     obtain ⟨zb, hzb⟩ : ∃ z, z = L.getD dd 0 := ⟨_, rfl⟩
     rw [← hza] at f0' bA
     rw [← hzb] at f1' bB
     have VE : Aside0 (mx2 za (zb + vl) = mx2 (L.getD j 0) (L.getD (j - wt) 0 + vl)) := ⟨by rw [hza, hzb, DD.out]⟩
     obtain ⟨bA0, bA1⟩ := bA
     obtain ⟨bB0, bB1⟩ := bB
     have s1 : IntKind.i64.wrap (zb + vl) = zb + vl := by rw [i64_w]; unfold wrap64; omega
     have sb0 : 0 ≤ zb + vl := by omega
     have sb1 : zb + vl ≤ 9007199254740992 := by omega
     have f0 : wr.drew.cell? ⟨gn, j, none⟩ = some (.int .i64 za) := f0'
     have n0 : wr.cell? ⟨gn, j, none⟩ = some (.int .i64 za) := f0'
     have f1 : wr.drew.cell? (aY.add dd) = some (.int .i64 zb) := f1'
     have f2 : wr.drew.cell? ⟨p5, 1, none⟩ = some (.int .i64 (wt : Int)) := (blk_cell KK.out.2.2.1 1).trans rfl
     have f3 : wr.drew.cell? ⟨p5, 0, none⟩ = some (.int .i64 vl) := (blk_cell KK.out.2.2.1 0).trans rfl
     obtain ⟨cells, hcells⟩ : ∃ cells, wr.heap[gn]? = some (.cells cells 2 (0, 0)) := own_typed (Kd.R_own KK.out.2.1).choose_spec gn (by simp [Value.ownBlock])
     have nz : ∀ j, wr.frozen? ⟨gn, j, none⟩ = false := blk_frozen hcells
     have GC := Aside0.mk hcells
     clear hza hzb hdd hadd f0' f1' hcells
     go_upto_region 10 with fail
     refine start_ (n := 19) (S := fun w' => w'.cell? ⟨gn, j, none⟩ = some (.int .i64 za) ∧ w'.cell? (aY.add dd) = some (.int .i64 zb) ∧ w'.cell? ⟨p5, 1, none⟩ = some (.int .i64 (wt : Int)) ∧ w'.cell? ⟨p5, 0, none⟩ = some (.int .i64 vl)) (ds := [18]) #[false, false, false, false, false, false, false, false, false, false, false, false, false, false, false, false, false, false, false] (by kernel_rfl) rfl rfl ⟨f0, f1, f2, f3⟩ (fun hHeld => ?_)
     clear f0 f1 f2 f3
     refine puU 0 (some 37) ?_ rfl rfl (by kernel_rfl) (fun _ _ _ h => h) (Or.inl ⟨by rfl, ?_⟩) ?_ ?_ ?_
     rotate_left
     ·intro w'
      go_simp
      with_reducible rfl
     rotate_left
     ·simp only [Act.put, lsA, lsB, lsC]
      rfl
     refine puU 1 (some 38) ?_ rfl rfl (by kernel_rfl) (fun _ _ _ h => h) (Or.inl ⟨by rfl, ?_⟩) ?_ ?_ ?_
     rotate_left
     ·intro w'
      go_simp
      with_reducible rfl
     rotate_left
     ·simp only [Act.put, lsA, lsB, lsC]
      rfl
     refine puU 2 (some 39) ?_ rfl rfl (by kernel_rfl) (fun _ _ _ h => h) (Or.inl ⟨by rfl, ?_⟩) ?_ ?_ ?_
     rotate_left
     ·intro w'
      go_simp
      with_reducible rfl
     rotate_left
     ·simp only [Act.put, lsA, lsB, lsC]
      rfl
     refine puU 3 (some 40) ?_ rfl rfl (by kernel_rfl) (fun _ _ _ h => h) (Or.inl ⟨by rfl, ?_⟩) ?_ ?_ ?_
     rotate_left
     ·intro w'
      go_simp
      with_reducible rfl
     rotate_left
     ·simp only [Act.put, lsA, lsB, lsC]
      rfl
     refine puU 4 (some 41) ?_ rfl rfl (by kernel_rfl) (fun _ _ _ h => h) (Or.inl ⟨by rfl, ?_⟩) ?_ ?_ ?_
     rotate_left
     ·intro w'
      go_simp
      with_reducible rfl
     rotate_left
     ·simp only [Act.put, lsA, lsB, lsC]
      rfl
     refine taU 5 (some 42) ?_ rfl rfl (by kernel_rfl) (fun _ _ _ h => h) (Or.inl ⟨by rfl, ?_⟩) hHeld ?_ ?_ ?_
     rotate_left
     ·rintro w' ⟨s0, s1, s2, s3⟩
      go_simp
      with_reducible rfl
     rotate_left
     ·simp only [Act.put, lsA, lsB, lsC]
      rfl
     refine puU 6 (some 43) ?_ rfl rfl (by kernel_rfl) (fun _ _ _ h => h) (Or.inl ⟨by rfl, ?_⟩) ?_ ?_ ?_
     rotate_left
     ·intro w'
      go_simp
      with_reducible rfl
     rotate_left
     ·simp only [Act.put, lsA, lsB, lsC]
      rfl
     refine puU 7 (some 44) ?_ rfl rfl (by kernel_rfl) (fun _ _ _ h => h) (Or.inl ⟨by rfl, ?_⟩) ?_ ?_ ?_
     rotate_left
     ·intro w'
      go_simp
      with_reducible rfl
     rotate_left
     ·simp only [Act.put, lsA, lsB, lsC]
      rfl
     refine puU 8 (some 45) ?_ rfl rfl (by kernel_rfl) (fun _ _ _ h => h) (Or.inl ⟨by rfl, ?_⟩) ?_ ?_ ?_
     rotate_left
     ·intro w'
      go_simp
      with_reducible rfl
     rotate_left
     ·simp only [Act.put, lsA, lsB, lsC]
      rfl
     refine taU 9 (some 46) ?_ rfl rfl (by kernel_rfl) (fun _ _ _ h => h) (Or.inl ⟨by rfl, ?_⟩) hHeld ?_ ?_ ?_
     rotate_left
     ·rintro w' ⟨s0, s1, s2, s3⟩
      go_simp
      with_reducible rfl
     rotate_left
     ·simp only [Act.put, lsA, lsB, lsC]
      rfl
     refine puU 10 (some 47) ?_ rfl rfl (by kernel_rfl) (fun _ _ _ h => h) (Or.inl ⟨by rfl, ?_⟩) ?_ ?_ ?_
     rotate_left
     ·intro w'
      go_simp
      with_reducible rfl
     rotate_left
     ·simp only [Act.put, lsA, lsB, lsC]
      rfl
     refine puU 11 (some 48) ?_ rfl rfl (by kernel_rfl) (fun _ _ _ h => h) (Or.inl ⟨by rfl, ?_⟩) ?_ ?_ ?_
     rotate_left
     ·intro w'
      go_simp
      with_reducible rfl
     rotate_left
     ·simp only [Act.put, lsA, lsB, lsC]
      rfl
     refine taU 12 (some 49) ?_ rfl rfl (by kernel_rfl) (fun _ _ _ h => h) (Or.inl ⟨by rfl, ?_⟩) hHeld ?_ ?_ ?_
     rotate_left
     ·rintro w' ⟨s0, s1, s2, s3⟩
      go_simp
      with_reducible rfl
     rotate_left
     ·simp only [Act.put, lsA, lsB, lsC]
      rfl
     refine puU 13 (some 50) ?_ rfl rfl (by kernel_rfl) (fun _ _ _ h => h) (Or.inl ⟨by rfl, ?_⟩) ?_ ?_ ?_
     rotate_left
     ·intro w'
      go_simp
      with_reducible rfl
     rotate_left
     ·simp only [Act.put, lsA, lsB, lsC]
      rfl
     refine taU 14 (some 51) ?_ rfl rfl (by kernel_rfl) (fun _ _ _ h => h) (Or.inl ⟨by rfl, ?_⟩) hHeld ?_ ?_ ?_
     rotate_left
     ·rintro w' ⟨s0, s1, s2, s3⟩
      go_simp
      with_reducible rfl
     rotate_left
     ·simp only [Act.put, lsA, lsB, lsC]
      rfl
     refine puU 15 (some 52) ?_ rfl rfl (by kernel_rfl) (fun _ _ _ h => h) (Or.inl ⟨by rfl, ?_⟩) ?_ ?_ ?_
     rotate_left
     ·intro w'
      go_simp
      with_reducible rfl
     rotate_left
     ·simp only [Act.put, lsA, lsB, lsC]
      rfl
     refine puU 16 (some 53) ?_ rfl rfl (by kernel_rfl) (fun _ _ _ h => h) (Or.inl ⟨by rfl, ?_⟩) ?_ ?_ ?_
     rotate_left
     ·intro w'
      go_simp
      with_reducible rfl
     rotate_left
     ·simp only [Act.put, lsA, lsB, lsC]
      rfl
     refine puU 17 (some 54) ?_ rfl rfl (by kernel_rfl) (fun _ _ _ h => h) (Or.inl ⟨by rfl, ?_⟩) ?_ ?_ ?_
     rotate_left
     ·intro w'
      go_simp
      with_reducible rfl
     rotate_left
     ·simp only [Act.put, lsA, lsB, lsC]
      rfl
     refine last_ (i := 18) (N := none) #[true, true, true, true, true, true, true, true, true, true, true, true, true, true, true, true, true, true, true] rfl rfl (by kernel_rfl) (by decide) (fun K hK => ?_)
     have h0 := n0
     have h1 := nz
     refine skip_ (w1 := ?_) (by rfl) rfl ?_ ?_
     rotate_left
     ·go_simp
      rfl
     refine hK.out _ _ ?_
     clear hK K h0 h1
     refine done_ (by kernel_rfl) ?_
     clear hHeld n0 nz
     have RN := Kd.R_putn KK.out.2.1 (j : Int) (mx2 za (zb + vl))
     rw [Int.toNat_natCast] at RN
     have N1 : Aside0 ((R1 (Kd.slice 2 (Kd.int .i64)) 30 w W1 p1 54 #[.int .i64 x.kind, .int .i64 x.cap, .slice (some ad) n2 c2, .slice A3 x.cost.length c3, .int .i64 x.size, .slice A5 x.sets.length c5] wo.heap.size (wr.setCell ⟨gn, j, none⟩ (.int .i64 (mx2 za (zb + vl)))) (.slice (some ar) (k + 1) c) (rowsP m x.items k) ∧ (Kd.int .i64).R 2 (wr.setCell ⟨gn, j, none⟩ (.int .i64 (mx2 za (zb + vl)))) W1.heap.size (fun k => wo.heap.size ≤ k) (.slice (some ⟨gn, 0, none⟩) m cn) (nxt L wt vl (j + 1)) ∧ (wr.setCell ⟨gn, j, none⟩ (.int .i64 (mx2 za (zb + vl)))).heap[p5]? = some (.cells #[.int .i64 vl, .int .i64 (wt : Int)] 101 (0, 0)) ∧ (Kd.int .i64).C (wr.setCell ⟨gn, j, none⟩ (.int .i64 (mx2 za (zb + vl)))) (some aY) m L)) := ⟨
      KK.out.1.far (a := ⟨gn, j, none⟩) GN.out.2.2 GN.out.1 _, by rw [← nxt_step hwj, ← VE.out]; exact RN, blk_far KK.out.2.2.1 (ty_ne KK.out.2.2.1 GC.out (by decide)) _, Kd.C_keep (0 : Int) KK.out.2.2.2 ((KeepBut.refl _ _ _).set_ j _) FAR.out⟩
     have N2 := Aside0.mk (And.intro N1.out.1.drew (And.intro (Kd.R_drew N1.out.2.1) (And.intro (dr_heap' N1.out.2.2.1) (Kd.C_drew N1.out.2.2.2))))
     clear RN VE KK GC N1 d1 d2 d4 d6 d7 s1 sb0 sb1
     have hj1 : 0 ≤ (j : Int) + 1 := by omega
     go_wp2_with fail
     exact ⟨⟨j + 1, by omega, by omega, by go_num, N2⟩, by simp [intOf]; omega⟩
    ·have SE : Aside0 (nxt L wt vl j = stepR L s) := ⟨by
      have h1 : wt = s.f1.toNat := by have := HV.out.1; omega
      rw [h1, HV.out.2]
      exact nxt_end (by rw [LL.out]; omega)⟩
     have hjb : (j : Int) ≤ 2147483648 := by omega
     have hj1 : decide (j < m) = false := decide_eq_false hj
     have hj2 : decide ((j : Int) < (m : Int)) = false := decide_eq_false (by omega)
     have HL9 : Aside0 (((rowsP m x.items k).length + 1) * 24 ≤ 140737488355328) := ⟨by rw [rowsP_len]; omega⟩
     have MM : Aside0 ((Kd.slice 2 (Kd.int .i64)).M wr W1.heap.size (fun k => wo.heap.size ≤ k) (stepR L s) [.slice (some ⟨gn, 0, none⟩) m cn]) := ⟨⟨_, rfl, by rw [← SE.out]; exact KK.out.2.1⟩⟩
     have K1 := Aside0.mk KK.out.1
     clear KK
     go_wp2_with (at_builtin; refine R1.appL K1.out (by decide) rfl _ _ 22 (.slice none 0 0) 24 rfl Try.underlying22 infoR30 rfl (by decide) (by decide) (stepR L s) [.slice (some ⟨gn, 0, none⟩) m cn] rfl rfl MM.out HL9.out ?_; rintro v9 w9 hr9 ⟨A9, c9, e9⟩ _; rw [rowsP_len] at e9; obtain rfl := e9; have R9 := Aside0.mk hr9; clear hr9)
     have N9 : Aside0 (R1 (Kd.slice 2 (Kd.int .i64)) 30 w W1 p1 54 #[.int .i64 x.kind, .int .i64 x.cap, .slice (some ad) n2 c2, .slice A3 x.cost.length c3, .int .i64 x.size, .slice A5 x.sets.length c5] w9.heap.size w9 (.slice A9 (k + 1 + 1) c9) (rowsP m x.items (k + 1))) := ⟨by rw [LN.out]; exact R9.out⟩
     exact ⟨⟨k + 1, A9, c9, by omega, by go_num, by go_num, N9⟩, by simp [intOf]; omega⟩
  ·obtain rfl : n2 = k := by omega
   go_wp2_with fail
   go_ret
   exact ⟨_, rfl, ⟨by
    have h1 := RR.out.r
    exact Kd.R_mono (Kd.R_lower h1 RR.out.ww) (fun _ _ => trivial), RR.out.bw⟩⟩
end Go.Proofs.Ytelabmhhnpfegaa.Hand
end
section
namespace Go.Proofs.Ytelabmhhnpfegaa.Hand
open Go.RowKit Go.Proofs.YtelabmhhnpfegaaW.PrintWords Go.Proofs.YtelabmhhnpfegaaW.PrintLast Go.Proofs.YtelabmhhnpfegaaW.PrintMore Go.Proofs.Ytelabmhhnpfegaa.PDynCells
def mv : List S101 → Nat → Int
 | [], _ => 0
 | s :: t, m => (if m % 2 = 1 then s.f0 else 0) + mv t (m / 2)
def mw : List S101 → Nat → Int
 | [], _ => 0
 | s :: t, m => (if m % 2 = 1 then s.f1 else 0) + mw t (m / 2)
theorem mv_snoc : ∀ (l : List S101) (s : S101) (m : Nat), mv (l ++ [s]) m = mv l m + if m / 2 ^ l.length % 2 = 1 then s.f0 else 0
 | [], s, m => by simp [mv]
 | a :: t, s, m => by
  rw [List.cons_append, mv, mv, mv_snoc t s (m / 2), List.length_cons, Nat.pow_succ, Nat.div_div_eq_div_mul, Nat.mul_comm 2, Int.add_assoc]
theorem mw_snoc : ∀ (l : List S101) (s : S101) (m : Nat), mw (l ++ [s]) m = mw l m + if m / 2 ^ l.length % 2 = 1 then s.f1 else 0
 | [], s, m => by simp [mw]
 | a :: t, s, m => by
  rw [List.cons_append, mw, mw, mw_snoc t s (m / 2), List.length_cons, Nat.pow_succ, Nat.div_div_eq_div_mul, Nat.mul_comm 2, Int.add_assoc]
theorem mv_low : ∀ (l : List S101) (m q : Nat), mv l (m + 2 ^ l.length * q) = mv l m
 | [], _, _ => rfl
 | a :: t, m, q => by
  have h1 : m + 2 ^ (a :: t).length * q = m + 2 * (2 ^ t.length * q) := by rw [List.length_cons, Nat.pow_succ, Nat.mul_comm (2 ^ t.length) 2, Nat.mul_assoc]
  have h2 : (m + 2 * (2 ^ t.length * q)) % 2 = m % 2 := by omega
  have h3 : (m + 2 * (2 ^ t.length * q)) / 2 = m / 2 + 2 ^ t.length * q := by omega
  rw [h1, mv, mv, h2, h3, mv_low t]
theorem mw_low : ∀ (l : List S101) (m q : Nat), mw l (m + 2 ^ l.length * q) = mw l m
 | [], _, _ => rfl
 | a :: t, m, q => by
  have h1 : m + 2 ^ (a :: t).length * q = m + 2 * (2 ^ t.length * q) := by rw [List.length_cons, Nat.pow_succ, Nat.mul_comm (2 ^ t.length) 2, Nat.mul_assoc]
  have h2 : (m + 2 * (2 ^ t.length * q)) % 2 = m % 2 := by omega
  have h3 : (m + 2 * (2 ^ t.length * q)) / 2 = m / 2 + 2 ^ t.length * q := by omega
  rw [h1, mw, mw, h2, h3, mw_low t]
theorem mw_bd : ∀ (l : List S101) (m : Nat), (∀ s ∈ l, 0 ≤ s.f1 ∧ s.f1 ≤ 2147483648) → 0 ≤ mw l m ∧ mw l m ≤ 2147483648 * l.length
 | [], _, _ => by simp [mw]
 | s :: t, m, h => by
  have ih := mw_bd t (m / 2) (fun s hs => h s (List.mem_cons_of_mem _ hs))
  have h0 := h s List.mem_cons_self
  rw [mw, List.length_cons]
  split <;> omega
theorem mx2_l (a b : Int) : a ≤ mx2 a b := by unfold mx2; split <;> omega
theorem mx2_r (a b : Int) : b ≤ mx2 a b := by unfold mx2; split <;> omega
theorem mx2_or (a b : Int) : mx2 a b = a ∨ mx2 a b = b := by unfold mx2; split <;> simp
theorem row_ge {m : Nat} {l : List S101} (hb : ∀ s ∈ l, 0 ≤ s.f1 ∧ s.f1 ≤ 2147483648) : ∀ k, k ≤ l.length → ∀ (w mask : Nat), w < m → mw (l.take k) mask ≤ w → mv (l.take k) mask ≤ (rowK m l k).getD w 0
 | 0, _, w, mask, hw, _ => by
  rw [List.take_zero, mv, rowK, List.getD_eq_getElem?_getD, List.getElem?_replicate, if_pos hw]
  exact Int.le_refl _
 | k + 1, hk, w, mask, hw, h => by
  have hkl : k < l.length := by omega
  have hs := hb _ (by rw [List.getD_eq_getElem?_getD, List.getElem?_eq_getElem hkl, Option.getD_some]; exact List.getElem_mem _ : l.getD k z101 ∈ l)
  have hlen : (l.take k).length = k := by rw [List.length_take]; omega
  rw [take_snoc hkl z101, mw_snoc, hlen] at h
  rw [take_snoc hkl z101, mv_snoc, hlen, rowK, stepR_get (by rw [rowK_len]; exact hw)]
  have h0 := (mw_bd (l.take k) mask (fun s hs => hb s (List.mem_of_mem_take hs))).1
  by_cases hbit : mask / 2 ^ k % 2 = 1
  ·rw [if_pos hbit] at h ⊢
   have h1 : (l.getD k z101).f1.toNat ≤ w := by omega
   have ih := row_ge (m := m) hb k (by omega) (w - (l.getD k z101).f1.toNat) mask (by omega) (by omega)
   rw [if_pos h1]
   have := mx2_r ((rowK m l k).getD w 0) ((rowK m l k).getD (w - (l.getD k z101).f1.toNat) 0 + (l.getD k z101).f0)
   omega
  ·rw [if_neg hbit] at h ⊢
   have ih := row_ge (m := m) hb k (by omega) w mask hw (by omega)
   split
   ·have := mx2_l ((rowK m l k).getD w 0) ((rowK m l k).getD (w - (l.getD k z101).f1.toNat) 0 + (l.getD k z101).f0)
    omega
   ·omega
theorem row_is {m : Nat} {l : List S101} (hb : ∀ s ∈ l, 0 ≤ s.f1 ∧ s.f1 ≤ 2147483648) : ∀ k, k ≤ l.length → ∀ (w : Nat), w < m → ∃ mask, mask < 2 ^ k ∧ mw (l.take k) mask ≤ w ∧ mv (l.take k) mask = (rowK m l k).getD w 0
 | 0, _, w, hw => by
  refine ⟨0, by decide, by rw [List.take_zero, mw]; omega, ?_⟩
  rw [List.take_zero, mv, rowK, List.getD_eq_getElem?_getD, List.getElem?_replicate, if_pos hw]
  rfl
 | k + 1, hk, w, hw => by
  have hkl : k < l.length := by omega
  have hs := hb _ (by rw [List.getD_eq_getElem?_getD, List.getElem?_eq_getElem hkl, Option.getD_some]; exact List.getElem_mem _ : l.getD k z101 ∈ l)
  have hlen : (l.take k).length = k := by rw [List.length_take]; omega
  have hp : 2 ^ (k + 1) = 2 ^ k * 2 := Nat.pow_succ ..
  have hp0 : 0 < 2 ^ k := Nat.pow_pos (by omega)
  have low : ∃ mask, mask < 2 ^ (k + 1) ∧ mw (l.take (k + 1)) mask ≤ w ∧ mv (l.take (k + 1)) mask = (rowK m l k).getD w 0 := by
   obtain ⟨mask, h1, h2, h3⟩ := row_is (m := m) hb k (by omega) w hw
   have hz : mask / 2 ^ k = 0 := Nat.div_eq_of_lt h1
   refine ⟨mask, by omega, ?_, ?_⟩
   ·rw [take_snoc hkl z101, mw_snoc, hlen, hz, if_neg (by decide)]
    omega
   ·rw [take_snoc hkl z101, mv_snoc, hlen, hz, if_neg (by decide)]
    omega
  rw [rowK, stepR_get (by rw [rowK_len]; exact hw)]
  by_cases h1 : (l.getD k z101).f1.toNat ≤ w
  ·rw [if_pos h1]
   rcases mx2_or ((rowK m l k).getD w 0) ((rowK m l k).getD (w - (l.getD k z101).f1.toNat) 0 + (l.getD k z101).f0) with e | e
   ·rw [e]
    exact low
   ·obtain ⟨mask, g1, g2, g3⟩ := row_is (m := m) hb k (by omega) (w - (l.getD k z101).f1.toNat) (by omega)
    have hbit : (mask + 2 ^ k * 1) / 2 ^ k % 2 = 1 := by
     rw [Nat.add_mul_div_left _ _ hp0, Nat.div_eq_of_lt g1]
    have lw := mw_low (l.take k) mask 1
    have lv := mv_low (l.take k) mask 1
    rw [hlen] at lw lv
    refine ⟨mask + 2 ^ k * 1, by omega, ?_, ?_⟩
    ·rw [take_snoc hkl z101, mw_snoc, hlen, if_pos hbit, lw]
     omega
    ·rw [take_snoc hkl z101, mv_snoc, hlen, if_pos hbit, lv, e, g3]
  ·rw [if_neg h1]
   exact low
def outF (l : List S101) : Nat → Nat → Int
 | 0, _ => 0
 | M + 1, k => if mw l M ≤ k ∧ outF l M k < mv l M then mv l M else outF l M k
theorem outF_ge {l : List S101} {k mask : Nat} (h : mw l mask ≤ k) : ∀ M, mask < M → mv l mask ≤ outF l M k
 | 0, hm => absurd hm (Nat.not_lt_zero _)
 | M + 1, hm => by
  rw [outF]
  by_cases e : mask = M
  ·subst e
   split
   ·exact Int.le_refl _
   ·rename_i h2
    have : ¬ outF l mask k < mv l mask := fun h3 => h2 ⟨h, h3⟩
    omega
  ·have ih := outF_ge h M (by omega)
   split <;> omega
theorem outF_is {l : List S101} {k : Nat} : ∀ M, outF l M k = 0 ∨ ∃ mask, mask < M ∧ mw l mask ≤ k ∧ outF l M k = mv l mask
 | 0 => .inl rfl
 | M + 1 => by
  rw [outF]
  split
  ·rename_i h
   exact .inr ⟨M, by omega, h.1, rfl⟩
  ·rcases outF_is (l := l) (k := k) M with h | ⟨mask, h1, h2, h3⟩
   ·exact .inl h
   ·exact .inr ⟨mask, by omega, h2, h3⟩
theorem front_eq {m : Nat} {l : List S101} (hb : ∀ s ∈ l, 0 ≤ s.f1 ∧ s.f1 ≤ 2147483648) (hv : ∀ s ∈ l, 0 ≤ s.f0 ∧ s.f0 ≤ 2147483648) {w : Nat} (hw : w < m) : outF l (2 ^ l.length) w = (rowK m l l.length).getD w 0 := by
 obtain ⟨mask, g1, g2, g3⟩ := row_is (m := m) hb l.length (Nat.le_refl _) w hw
 rw [List.take_length] at g2 g3
 have h1 := outF_ge g2 _ g1
 have h2 : outF l (2 ^ l.length) w ≤ (rowK m l l.length).getD w 0 := by
  rcases outF_is (l := l) (k := w) (2 ^ l.length) with h | ⟨mask', _, a2, a3⟩
  ·rw [h]
   exact (rowK_bd hv l.length w).1
  ·rw [a3]
   have := row_ge (m := m) hb l.length (Nat.le_refl _) w mask' hw (by rw [List.take_length]; exact a2)
   rwa [List.take_length] at this
 omega
end Go.Proofs.Ytelabmhhnpfegaa.Hand
end
