/- The knapsack's table, in plain Lean; Clone and rows: walked. -/
import Derived.Test.YtelabmhhnpfegaaDr
import Derived.Lib.BufferMore
namespace Go.Proofs.Ytelabmhhnpfegaa.Hand
open Go.RowKit Go.Proofs.YtelabmhhnpfegaaW.PrintWords Go.Proofs.YtelabmhhnpfegaaW.PrintLast Go.Proofs.YtelabmhhnpfegaaW.PrintMore Go.Proofs.Ytelabmhhnpfegaa.PDynCells
attribute [local go_sem] max2_int min2_int
def mx2 (a b : Int) : Int := if a < b then b else a
/-- A row behind the one ahead, its numbers below j told. -/
def nxt (last : List Int) (wt : Nat) (val : Int) (j : Nat) : List Int := (List.range last.length).map fun i => if wt ≤ i ∧ i < j then mx2 (last.getD i 0) (last.getD (i - wt) 0 + val) else last.getD i 0
def stepR (last : List Int) (s : S101) : List Int := (List.range last.length).map fun i => if s.f1.toNat ≤ i then mx2 (last.getD i 0) (last.getD (i - s.f1.toNat) 0 + s.f0) else last.getD i 0
def rowK (m : Nat) (l : List S101) : Nat → List Int
  | 0 => List.replicate m 0
  | k + 1 => stepR (rowK m l k) (l.getD k z101)
def rowsP (m : Nat) (l : List S101) (k : Nat) : List (List Int) := (List.range (k + 1)).map (rowK m l)
theorem nxt_len (last : List Int) (wt : Nat) (val : Int) (j : Nat) : (nxt last wt val j).length = last.length := by simp [nxt]
theorem stepR_len (last : List Int) (s : S101) : (stepR last s).length = last.length := by simp [stepR]
theorem rowK_len (m : Nat) (l : List S101) : ∀ k, (rowK m l k).length = m
  | 0 => by simp [rowK]
  | k + 1 => by rw [rowK, stepR_len, rowK_len m l k]
theorem rowsP_succ (m : Nat) (l : List S101) (k : Nat) : rowsP m l (k + 1) = rowsP m l k ++ [rowK m l (k + 1)] := by
  unfold rowsP
  rw [List.range_succ, List.map_append]
  rfl
theorem rowsP_len (m : Nat) (l : List S101) (k : Nat) : (rowsP m l k).length = k + 1 := by simp [rowsP]
theorem rowsP_get (m : Nat) (l : List S101) {k j : Nat} (h : j ≤ k) : (rowsP m l k).getD j [] = rowK m l j := by
  unfold rowsP
  rw [List.getD_eq_getElem?_getD, List.getElem?_map, List.getElem?_range (by omega)]
  rfl
theorem getD_map_range {n i : Nat} (f : Nat → Int) (h : i < n) : ((List.range n).map f).getD i 0 = f i := by
  rw [List.getD_eq_getElem?_getD, List.getElem?_map, List.getElem?_range h]
  rfl
theorem nxt_get {last : List Int} {wt : Nat} {val : Int} {j i : Nat} (h : i < last.length) : (nxt last wt val j).getD i 0 = if wt ≤ i ∧ i < j then mx2 (last.getD i 0) (last.getD (i - wt) 0 + val) else last.getD i 0 := getD_map_range _ h
theorem stepR_get {last : List Int} {s : S101} {i : Nat} (h : i < last.length) : (stepR last s).getD i 0 = if s.f1.toNat ≤ i then mx2 (last.getD i 0) (last.getD (i - s.f1.toNat) 0 + s.f0) else last.getD i 0 := getD_map_range _ h
theorem ext_getD {a b : List Int} (hl : a.length = b.length) (h : ∀ i, i < a.length → a.getD i 0 = b.getD i 0) : a = b := by
  apply List.ext_getElem? 
  intro i
  by_cases hi : i < a.length
  · have h1 := h i hi
    rw [List.getD_eq_getElem?_getD, List.getD_eq_getElem?_getD, List.getElem?_eq_getElem hi, List.getElem?_eq_getElem (by omega)] at h1
    rw [List.getElem?_eq_getElem hi, List.getElem?_eq_getElem (by omega)]
    simpa using h1
  · rw [List.getElem?_eq_none (by omega), List.getElem?_eq_none (by omega)]
theorem nxt_start (last : List Int) (wt : Nat) (val : Int) : nxt last wt val wt = last :=
  ext_getD (nxt_len _ _ _ _) (fun i hi => by rw [nxt_len] at hi; rw [nxt_get hi, if_neg (by omega)])
theorem getD_set {l : List Int} {j i : Nat} {v : Int} (hi : i < l.length) : (l.set j v).getD i 0 = if j = i then v else l.getD i 0 := by
  rw [List.getD_eq_getElem?_getD, List.getElem?_set]
  split
  · rename_i h
    subst h
    rw [if_pos hi]
    rfl
  · rw [List.getD_eq_getElem?_getD]
theorem nxt_step {last : List Int} {wt j : Nat} {val : Int} (h : wt ≤ j) : (nxt last wt val j).set j (mx2 (last.getD j 0) (last.getD (j - wt) 0 + val)) = nxt last wt val (j + 1) :=
  ext_getD (by rw [List.length_set, nxt_len, nxt_len]) (fun i hi => by
    rw [List.length_set, nxt_len] at hi
    rw [getD_set (by rw [nxt_len]; exact hi), nxt_get hi, nxt_get hi]
    by_cases e : j = i
    · subst e
      rw [if_pos rfl, if_pos ⟨h, by omega⟩]
    · rw [if_neg e]
      by_cases e2 : wt ≤ i ∧ i < j
      · rw [if_pos e2, if_pos ⟨e2.1, by omega⟩]
      · rw [if_neg e2, if_neg (by omega)])
theorem nxt_end {last : List Int} {s : S101} {j : Nat} (hj : last.length ≤ j) : nxt last s.f1.toNat s.f0 j = stepR last s :=
  ext_getD (by rw [nxt_len, stepR_len]) (fun i hi => by
    rw [nxt_len] at hi
    rw [nxt_get hi, stepR_get hi]
    by_cases e : s.f1.toNat ≤ i
    · rw [if_pos ⟨e, by omega⟩, if_pos e]
    · rw [if_neg (fun h => e h.1), if_neg e])
theorem getD_lt {l : List Int} {i : Nat} (h : i < l.length) : l.getD i 0 ∈ l := getD_mem h
/-- No number grows too great. -/
theorem rowK_bd {m : Nat} {l : List S101} (hb : ∀ s ∈ l, 0 ≤ s.f0 ∧ s.f0 ≤ 2147483648) : ∀ k i, 0 ≤ (rowK m l k).getD i 0 ∧ (rowK m l k).getD i 0 ≤ 2147483648 * k
  | 0, i => by
    rw [rowK, List.getD_eq_getElem?_getD, List.getElem?_replicate]
    split <;> simp
  | k + 1, i => by
    have hv : 0 ≤ (l.getD k z101).f0 ∧ (l.getD k z101).f0 ≤ 2147483648 := by
      by_cases hk : k < l.length
      · refine hb _ ?_
        rw [List.getD_eq_getElem?_getD, List.getElem?_eq_getElem hk, Option.getD_some]
        exact List.getElem_mem _
      · rw [List.getD_eq_getElem?_getD, List.getElem?_eq_none (by omega)]
        exact ⟨by decide, by decide⟩
    rw [rowK]
    by_cases hi : i < (rowK m l k).length
    · have h1 := rowK_bd (m := m) hb k i
      have h2 := rowK_bd (m := m) hb k (i - (l.getD k z101).f1.toNat)
      rw [stepR_get hi]
      unfold mx2
      split
      · split <;> omega
      · omega
    · rw [List.getD_eq_getElem?_getD, List.getElem?_eq_none (by rw [stepR_len]; omega)]
      simp
      omega

theorem dr_heap' {w : World} {g : Nat} {o : Obj} (h : w.heap[g]? = some o) : w.drew.heap[g]? = some o := h
theorem info2' : (Try.prog.info? 2).map (fun i => (i.zero, i.size, i.bytes)) = some (some (.int .i64 0), 1, 8) := by kernel_rfl
theorem R_litw {α : Type} (d : Kd α) (W : World) (base e : Nat) {xs : List α} {inner : List Value} {ok okp : Nat → Prop}
    (hrep : Reps (d.M W base okp) d.sz xs inner) (hok : ∀ k, okp k → ok k) (hfresh : ok W.heap.size) (hbase : base ≤ W.heap.size) (hm : xs.length ≤ 9223372036854775807) :
    d.R e (W.alloc (.cells inner.toArray e)) base ok (.slice (some ⟨W.heap.size, 0, none⟩) xs.length xs.length) xs := by
  refine ⟨fun k hk => ?_, inner, ?_, ?_⟩
  · have : W.heap.size = k := by simpa [Value.ownBlock] using hk
    subst this
    exact hfresh
  · have h2 := World.ownsRow_lit (base := base) (e := e) (size := d.sz) W inner.toArray xs.length hbase (by simpa [maxLen] using hm) (by simpa using hrep.1)
    simpa using h2
  · refine hrep.imp_ (fun p c hp => d.M_mono (fun k hk => ⟨hok k hk.1, fun he => ?_⟩) (Kd.M_below (d.M_bound hp) (below_alloc (Below.refl _ _) _)))
    have h3 : k = W.heap.size := by simpa [Value.ownBlock] using he
    have := hk.2.2.1
    omega
set_option maxHeartbeats 400000 in
set_option maxRecDepth 100000 in
/-- slices.Clone of numbers. -/
theorem cloneI_any (w : World) (a : Addr) (n c : Nat) (xs : List Int) (hC : (Kd.int .i64).C w (some a) n xs) (hn : n ≤ 4294967296) :
    Calls Try.prog 89 #[.slice (some a) n c] w fun e w' => ∃ v, e = .returned v ∧ Aside0 ((Kd.int .i64).R 2 w' w.heap.size (fun k => w.heap.size ≤ k) v xs ∧ Below w.heap.size w w') := by
  have HC := Aside0.mk hC
  clear hC
  have hu := Try.underlying30
  have hnil : ∀ W, (binOp .eql 30 (.slice (some a) n c) (.slice none 0 0)).run Try.prog W = .ok (.bool false) W := fun W => Lib.run_eql_slice_some_nil W _ _ _ Try.underlying30
  go_enter Try.func89, Try.ntmps89
  go_upto_region 3 with fail
  have O0 : Aside0 ((Kd.int .i64).R 2 (w.alloc (.cells #[] 2)) w.heap.size (fun k => w.heap.size ≤ k) (.slice (some ⟨w.heap.size, 0, none⟩) 0 0) []) := ⟨⟨fun k hk => by
    have : w.heap.size = k := by simpa [Value.ownBlock] using hk
    omega, [], ⟨rfl, .inr ⟨w.heap.size, 0, #[], rfl, Nat.le_refl _, heap_alloc_new w _, Nat.le_refl _, Nat.zero_le _, rfl, rfl⟩⟩, Reps.none _ _⟩⟩
  have HL : Aside0 ((([] : List Int).length + n) * 8 ≤ 140737488355328) := ⟨by simp; omega⟩
  have CC : Aside0 ((∀ k, (w.alloc (.cells #[] 2)).heap.size ≤ k → w.heap.size ≤ k) ∧ (Kd.int .i64).C (w.alloc (.cells #[] 2)) (some a) n xs ∧ Below w.heap.size w (w.alloc (.cells #[] 2)) ∧ w.heap.size ≤ (w.alloc (.cells #[] 2)).heap.size) := ⟨fun k hk => by simp at hk; omega, Kd.C_below HC.out (below_alloc (Below.refl _ _) _), below_alloc (Below.refl _ _) _, by simp⟩
  go_wp2_with (at_builtin; refine Kd.R_append_row (Value.int .i64) (0 : Int) (w0 := w) w.heap.size rfl _ _ 30 2 (.int .i64 0) 8 rfl Try.underlying30 info2' rfl (by decide) (.slice (some ⟨w.heap.size, 0, none⟩) 0 0) [] xs (some a) n c (fun k => w.heap.size ≤ k) rfl rfl CC.out.1 O0.out CC.out.2.1 CC.out.2.2.1 CC.out.2.2.2 HL.out ?_; intro v7 w7 ho7 hb7 _ _; have O7 := Aside0.mk ho7; have B7 := Aside0.mk hb7; clear ho7 hb7)
  go_ret
  exact ⟨_, rfl, ⟨by have := O7.out; rwa [List.nil_append] at this, B7.out⟩⟩
set_option maxHeartbeats 1000000 in
set_option maxRecDepth 100000 in
theorem rows_any (w : World) (x : PI) (v : Value) (h : InstC w x v) (hi : IOk x) (hq : roomP x ≤ 1048576) :
    Calls Try.prog 53 #[v] w fun e w' => ∃ v, e = .returned v ∧ Aside0 ((Kd.slice 2 (Kd.int .i64)).R 30 w' w.heap.size (fun _ => True) v (rowsP (roomP x + 1).toNat x.items x.items.length) ∧ Below w.heap.size w w') := by
  have HI := Aside0.mk h
  have IOa := Aside0.mk hi
  obtain ⟨A2, c2, A3, c3, A5, c5, rfl, h2, l2, h3, l3, h5, l5⟩ := h
  have H2 := Aside0.mk h2
  obtain ⟨n2, hn2⟩ : ∃ n, n = x.items.length := ⟨_, rfl⟩
  have b2 : n2 ≤ 4096 := by rw [hn2]; exact hi.nitems
  rw [← hn2] at HI H2 l2 ⊢
  have HN := Aside0.mk hn2
  obtain ⟨m, hm⟩ : ∃ m, m = (roomP x + 1).toNat := ⟨_, rfl⟩
  rw [← hm]
  have RB := room_bd hi
  have HM : roomP x = (m : Int) - 1 := by omega
  have m1 : 1 ≤ m := by omega
  have m2 : m ≤ 1048577 := by omega
  have HR := Aside0.mk HM
  clear hi h2 h3 h5 l3 l5 hn2 hm HM RB hq
  have hu54 := Try.underlying54
  have hu101 := Try.underlying101
  have hu22 := Try.underlying22
  have hu30 := Try.underlying30
  go_enter Try.func53, Try.ntmps53
  go_wp2_with fail
  obtain ⟨W1, hW1⟩ : ∃ W, W = w.alloc (.cells #[.int .i64 x.kind, .int .i64 x.cap, .slice A2 n2 c2, .slice A3 x.cost.length c3, .int .i64 x.size, .slice A5 x.sets.length c5] 54) := ⟨_, rfl⟩
  rw [← hW1]
  have B1 : Aside0 (Below w.heap.size w W1) := ⟨by rw [hW1]; exact below_alloc (Below.refl _ _) _⟩
  obtain ⟨p1, hp1⟩ : ∃ p, p = w.heap.size := ⟨_, rfl⟩
  have Q1 : Aside0 (W1.heap[p1]? = some (.cells #[.int .i64 x.kind, .int .i64 x.cap, .slice A2 n2 c2, .slice A3 x.cost.length c3, .int .i64 x.size, .slice A5 x.sets.length c5] 54 (0, 0))) := ⟨by rw [hW1, hp1]; exact heap_alloc_new _ _⟩
  rw [← hp1]
  have HP := Aside0.mk hp1
  clear hW1 hp1
  refine (room_any W1 x _ (HI.out.below B1.out) IOa.out).mono ?_
  rintro _ W2 ⟨rfl, B2'⟩
  have B2 := Aside0.mk B2'
  clear B2'
  rw [HR.out]
  have e1 : wrap64 ((m : Int) - 1 + 1) = (m : Int) := by unfold wrap64; omega
  have e2 : (m : Int) - 1 + 1 = (m : Int) := by omega
  have H8 : Aside0 ((m : Int).toNat * 8 ≤ 281474976710656) := ⟨by rw [Int.toNat_natCast]; omega⟩
  have Z1 : Aside0 (W1.heap.size ≤ W2.heap.size) := ⟨B2.out.size⟩
  have Q1' : Aside0 (W2.heap[p1]? = some (.cells #[.int .i64 x.kind, .int .i64 x.cap, .slice A2 n2 c2, .slice A3 x.cost.length c3, .int .i64 x.size, .slice A5 x.sets.length c5] 54 (0, 0))) := ⟨blk_below Q1.out B2.out⟩
  go_upto_region 2 with ((with_reducible refine gate_dst (N := 12) rfl ?_); refine Kd.R_make (Kd.int .i64) (w0 := W1) W1.heap.size 2 rfl (N := 12) rfl 30 _ _ rfl (m : Int) rfl rfl Try.underlying30 (.int .i64 0) 8 info2' rfl (by decide) (by decide) (0 : Int) (ok := fun _ => True) (okp := fun _ => False) rfl (fun _ h => h.elim) trivial (by omega) H8.out B2.out Z1.out ?_; intro v12 w12 ho hb hg _; obtain ⟨A12, n12, c12, rfl, N12⟩ := R_open ho; have O12 := Aside0.mk ho; have B12 := Aside0.mk hb; clear ho hb hg)
  have R0 : Aside0 ((Kd.slice 2 (Kd.int .i64)).R 30 (w12.alloc (.cells #[.slice A12 n12 c12] 30)) W1.heap.size (fun _ => True) (.slice (some ⟨w12.heap.size, 0, none⟩) 1 1) [List.replicate (m : Int).toNat (0 : Int)]) := ⟨R_litw (Kd.slice 2 (Kd.int .i64)) w12 W1.heap.size 30 (xs := [List.replicate (m : Int).toNat (0 : Int)]) (inner := [.slice A12 n12 c12]) (ok := fun _ => True) (okp := fun _ => True) (Reps.one ⟨_, rfl, O12.out⟩ (Reps.none _ _)) (fun _ _ => trivial) trivial B12.out.size (by simp)⟩
  obtain ⟨W3, hW3⟩ : ∃ W, W = w12.alloc (.cells #[.slice A12 n12 c12] 30) := ⟨_, rfl⟩
  rw [← hW3] at R0 ⊢
  obtain ⟨g3, hg3⟩ : ∃ g, g = w12.heap.size := ⟨_, rfl⟩
  rw [← hg3] at R0 ⊢
  have BA : Aside0 (Below W1.heap.size W1 W3) := ⟨by rw [hW3]; exact B12.out.alloc B12.out.size _⟩
  have PP : Aside0 (rowsP m x.items 0 = [List.replicate (m : Int).toNat (0 : Int)]) := ⟨by rw [Int.toNat_natCast]; rfl⟩
  have RR : Aside0 (R1 (Kd.slice 2 (Kd.int .i64)) 30 w W1 p1 54 #[.int .i64 x.kind, .int .i64 x.cap, .slice A2 n2 c2, .slice A3 x.cost.length c3, .int .i64 x.size, .slice A5 x.sets.length c5] W3.heap.size W3 (.slice (some ⟨g3, 0, none⟩) 1 1) (rowsP m x.items 0)) := ⟨by
    refine ⟨?_, Nat.le_refl _, BA.out.size, blk_below Q1.out BA.out, B1.out.trans (BA.out.mono B1.out.size), B1.out.size, Chg.of_below BA.out⟩
    rw [PP.out]
    exact Kd.R_mono (Kd.R_bound R0.out) (fun k hk => hk.2.2.1)⟩
  clear hW3 hg3 R0
  have q2 : W3.cell? ⟨p1, 2, none⟩ = some (.slice A2 n2 c2) := (blk_cell RR.out.hp 2).trans rfl
  go_wp2_with fail
  clear q2
  have K0 : Aside0 (R1 (Kd.slice 2 (Kd.int .i64)) 30 w W1 p1 54 #[.int .i64 x.kind, .int .i64 x.cap, .slice A2 n2 c2, .slice A3 x.cost.length c3, .int .i64 x.size, .slice A5 x.sets.length c5] W3.heap.size W3 (.slice (some ⟨g3, 0, none⟩) (0 + 1) 1) (rowsP m x.items 0)) := RR
  clear RR
  go_loopw [3, 17] (fun v3 v17 wr => ∃ (k : Nat) (A : Option Addr) (c : Nat), k ≤ n2 ∧ v3 = .slice A (k + 1) c ∧ v17 = .int .i64 k ∧ Aside0 (R1 (Kd.slice 2 (Kd.int .i64)) 30 w W1 p1 54 #[.int .i64 x.kind, .int .i64 x.cap, .slice A2 n2 c2, .slice A3 x.cost.length c3, .int .i64 x.size, .slice A5 x.sets.length c5] wr.heap.size wr (.slice A (k + 1) c) (rowsP m x.items k))) (fun _ v17 _ => n2 - (intOf v17).toNat)
  case atStart => exact ⟨0, some ⟨g3, 0, none⟩, 1, Nat.zero_le _, rfl, rfl, K0⟩
  case round =>
    clear K0
    obtain ⟨k, A, c, hk, rfl, rfl, RR⟩ := hrel
    by_cases hlt : k < n2
    · obtain ⟨ad, rfl, a0', a1'⟩ := at_T101 H2.out (k : Int) (by omega) (by omega)
      have a0 := pw_cell_below RR.out.bw a0'
      have a1 := pw_cell_below RR.out.bw a1'
      rw [Int.toNat_natCast] at a0 a1
      have hlt' : k < x.items.length := by rw [← HN.out]; exact hlt
      obtain ⟨s, hs⟩ : ∃ s, s = x.items.getD k z101 := ⟨_, rfl⟩
      have hs2 : rd_T101 x.items (k : Int) = s := by rw [hs]; unfold rd_T101; rw [Int.toNat_natCast]
      rw [hs2] at a0 a1
      have sm : s ∈ x.items := by
        rw [hs, List.getD_eq_getElem?_getD, List.getElem?_eq_getElem hlt', Option.getD_some]
        exact List.getElem_mem _
      have sb := IOa.out.items s sm
      have HS := Aside0.mk hs
      obtain ⟨wt, hwt⟩ : ∃ n : Nat, (n : Int) = s.f1 := ⟨s.f1.toNat, by omega⟩
      obtain ⟨vl, hvl⟩ : ∃ n : Int, n = s.f0 := ⟨_, rfl⟩
      rw [← hwt] at a1 sb
      rw [← hvl] at a0 sb
      obtain ⟨⟨v0, v1⟩, w0, w1⟩ := sb
      have HV := Aside0.mk (And.intro hwt hvl)
      obtain ⟨ar, AY, cY, e, y0', ly, hy'⟩ := at_L2 (R_C RR.out.r).1 (k : Int) (by omega) (by omega)
      have e := e
      subst e
      have hyE : rd_L2 (rowsP m x.items k) (k : Int) = rowK m x.items k := by unfold rd_L2; rw [Int.toNat_natCast]; exact rowsP_get m x.items (Nat.le_refl _)
      rw [hyE, rowK_len] at y0' ly hy'
      rw [Int.toNat_natCast] at y0'
      have LB := Aside0.mk (fun i => rowK_bd (m := m) (l := x.items) (fun s hs => (IOa.out.items s hs).1) k i)
      obtain ⟨L, hL⟩ : ∃ L, L = rowK m x.items k := ⟨_, rfl⟩
      rw [← hL] at hy'
      have LL : Aside0 (L.length = m) := ⟨by rw [hL, rowK_len]⟩
      have LB2 : Aside0 (∀ i, 0 ≤ L.getD i 0 ∧ L.getD i 0 ≤ 2147483648 * (k : Int)) := ⟨by rw [hL]; exact LB.out⟩
      have LN : Aside0 (rowsP m x.items (k + 1) = rowsP m x.items k ++ [stepR L s]) := ⟨by rw [rowsP_succ, rowK, hL, hs]⟩
      obtain ⟨aY, eY⟩ : ∃ a, AY = some a := by
        obtain ⟨_, _, hc⟩ := hy'
        obtain ⟨a, e, _⟩ := hc (by omega)
        exact ⟨a, e⟩
      subst eY
      have HY := Aside0.mk hy'
      clear a0' a1' hlt' hs hs2 sm hwt hvl hyE hL hy' LB
      have hk1 : wrap64 ((k : Int) + 1 - 1) = (k : Int) := by unfold wrap64; omega
      have hk2 : (k : Int) + 1 - 1 = (k : Int) := by omega
      obtain ⟨wo, hwo⟩ : ∃ wo : World, wo = wr := ⟨_, rfl⟩
      rw [← hwo] at RR HY a0 a1 y0' ⊢
      clear hwo
      have y0 := pw_cell_below (below_alloc (Below.refl wo.heap.size wo) (.cells #[.int .i64 vl, .int .i64 (wt : Int)] 101)) y0'
      go_upto_region 6 with fail
      obtain ⟨W4, hW4⟩ : ∃ W, W = wo.alloc (.cells #[.int .i64 vl, .int .i64 (wt : Int)] 101) := ⟨_, rfl⟩
      rw [← hW4] at y0 ⊢
      have B4 : Aside0 (Below wo.heap.size wo W4) := ⟨by rw [hW4]; exact below_alloc (Below.refl _ _) _⟩
      obtain ⟨p5, hp5⟩ : ∃ p, p = wo.heap.size := ⟨_, rfl⟩
      have Q5 : Aside0 (W4.heap[p5]? = some (.cells #[.int .i64 vl, .int .i64 (wt : Int)] 101 (0, 0))) := ⟨by rw [hW4, hp5]; exact heap_alloc_new _ _⟩
      rw [← hp5]
      have HP5 := Aside0.mk hp5
      clear hW4 hp5 a0 a1 y0'
      go_wp2_with fail
      refine (cloneI_any W4 aY m cY L (Kd.C_below HY.out B4.out) (by omega)).mono ?_
      rintro _ W5 ⟨vn, rfl, HC5⟩
      obtain ⟨gn, cn, rfl⟩ : ∃ gn cn, vn = .slice (some ⟨gn, 0, none⟩) m cn := by
        obtain ⟨g, cap, e, _⟩ := Kd.R_form HC5.out.1 (by rw [LL.out]; omega)
        rw [LL.out] at e
        exact ⟨g, cap, e⟩
      have RR5 : Aside0 (R1 (Kd.slice 2 (Kd.int .i64)) 30 w W1 p1 54 #[.int .i64 x.kind, .int .i64 x.cap, .slice (some ad) n2 c2, .slice A3 x.cost.length c3, .int .i64 x.size, .slice A5 x.sets.length c5] wo.heap.size W5 (.slice (some ar) (k + 1) c) (rowsP m x.items k)) := ⟨(RR.out.new B4.out).new HC5.out.2⟩
      have Q55 : Aside0 (W5.heap[p5]? = some (.cells #[.int .i64 vl, .int .i64 (wt : Int)] 101 (0, 0))) := ⟨blk_below Q5.out HC5.out.2⟩
      have GN : Aside0 (wo.heap.size ≤ gn ∧ W1.heap.size ≤ gn ∧ p1 ≠ gn) := ⟨by
        have h1 := Kd.R_base HC5.out.1 gn (by simp [Value.ownBlock])
        have h2 := B4.out.size
        have h3 := RR.out.b6
        have h4 := (Array.getElem?_eq_some_iff.1 Q1.out).1
        omega⟩
      have NN : Aside0 ((Kd.int .i64).R 2 W5 W1.heap.size (fun k => wo.heap.size ≤ k) (.slice (some ⟨gn, 0, none⟩) m cn) (nxt L wt vl wt)) := ⟨by
        rw [nxt_start]
        exact Kd.R_lower (Kd.R_mono HC5.out.1 (fun k hk => Nat.le_trans B4.out.size hk)) (Nat.le_trans RR.out.b6 B4.out.size)⟩
      have f2 : W5.cell? ⟨p5, 1, none⟩ = some (.int .i64 (wt : Int)) := (blk_cell Q55.out 1).trans rfl
      go_wp2_with fail
      clear f2 y0
      have K0 : Aside0 (R1 (Kd.slice 2 (Kd.int .i64)) 30 w W1 p1 54 #[.int .i64 x.kind, .int .i64 x.cap, .slice (some ad) n2 c2, .slice A3 x.cost.length c3, .int .i64 x.size, .slice A5 x.sets.length c5] wo.heap.size W5 (.slice (some ar) (k + 1) c) (rowsP m x.items k) ∧ (Kd.int .i64).R 2 W5 W1.heap.size (fun k => wo.heap.size ≤ k) (.slice (some ⟨gn, 0, none⟩) m cn) (nxt L wt vl wt) ∧ W5.heap[p5]? = some (.cells #[.int .i64 vl, .int .i64 (wt : Int)] 101 (0, 0)) ∧ (Kd.int .i64).C W5 (some aY) m L) := ⟨RR5.out, NN.out, Q55.out, Kd.C_below (Kd.C_below HY.out B4.out) HC5.out.2⟩
      have FAR : Aside0 (∀ ad, some aY = some ad → 0 < m → ad.block ≠ gn) := ⟨Kd.far_C (0 : Int) HY.out GN.out.1⟩
      clear RR RR5 NN Q55 Q5 HY HC5 B4
      go_loopw [8] (fun v8 wr => ∃ j : Nat, wt ≤ j ∧ (j ≤ m ∨ j = wt) ∧ v8 = .int .i64 (j : Int) ∧ Aside0 (R1 (Kd.slice 2 (Kd.int .i64)) 30 w W1 p1 54 #[.int .i64 x.kind, .int .i64 x.cap, .slice (some ad) n2 c2, .slice A3 x.cost.length c3, .int .i64 x.size, .slice A5 x.sets.length c5] wo.heap.size wr (.slice (some ar) (k + 1) c) (rowsP m x.items k) ∧ (Kd.int .i64).R 2 wr W1.heap.size (fun k => wo.heap.size ≤ k) (.slice (some ⟨gn, 0, none⟩) m cn) (nxt L wt vl j) ∧ wr.heap[p5]? = some (.cells #[.int .i64 vl, .int .i64 (wt : Int)] 101 (0, 0)) ∧ (Kd.int .i64).C wr (some aY) m L)) (fun v8 _ => m - (intOf v8).toNat)
      case atStart => exact ⟨wt, Nat.le_refl _, .inr rfl, rfl, K0⟩
      case round =>
        clear K0
        obtain ⟨j, hwj, hjm, rfl, KK⟩ := hrel
        by_cases hj : j < m
        · obtain ⟨dd, hdd⟩ : ∃ d, d = j - wt := ⟨_, rfl⟩
          have DD : Aside0 (dd = j - wt) := ⟨hdd⟩
          have d1 : (j : Int) - (wt : Int) = (dd : Int) := by omega
          have d2 : wrap64 ((j : Int) - (wt : Int)) = (dd : Int) := by unfold wrap64; omega
          have d3 : dd < m := by omega
          have d4 : IntKind.i64.wrap (dd : Int) = (dd : Int) := by rw [i64_w]; unfold wrap64; omega
          have d5 : 0 ≤ (dd : Int) ∧ (dd : Int) < (m : Int) := by omega
          obtain ⟨d6, d7⟩ := d5
          obtain ⟨ae, e, f1'⟩ := at_Int KK.out.2.2.2 dd d3
          injection e with e
          subst e
          obtain ⟨ag, e, f0'⟩ := at_Int (R_C KK.out.2.1).1 j hj
          injection e with e
          subst e
          have hadd : (⟨gn, 0, none⟩ : Addr).add j = ⟨gn, j, none⟩ := by unfold Addr.add; split <;> simp_all
          rw [hadd, nxt_get (by rw [LL.out]; exact hj), if_neg (by omega)] at f0'
          have bA := LB2.out j
          have bB := LB2.out dd
          obtain ⟨za, hza⟩ : ∃ z, z = L.getD j 0 := ⟨_, rfl⟩
          obtain ⟨zb, hzb⟩ : ∃ z, z = L.getD dd 0 := ⟨_, rfl⟩
          rw [← hza] at f0' bA
          rw [← hzb] at f1' bB
          have VE : Aside0 (mx2 za (zb + vl) = mx2 (L.getD j 0) (L.getD (j - wt) 0 + vl)) := ⟨by rw [hza, hzb, DD.out]⟩
          obtain ⟨bA0, bA1⟩ := bA
          obtain ⟨bB0, bB1⟩ := bB
          have s1 : IntKind.i64.wrap (zb + vl) = zb + vl := by rw [i64_w]; unfold wrap64; omega
          have sb0 : 0 ≤ zb + vl := by omega
          have sb1 : zb + vl ≤ 9007199254740992 := by omega
          have f0 : wr.drew.cell? ⟨gn, j, none⟩ = some (.int .i64 za) := f0'
          have n0 : wr.cell? ⟨gn, j, none⟩ = some (.int .i64 za) := f0'
          have f1 : wr.drew.cell? (aY.add dd) = some (.int .i64 zb) := f1'
          have f2 : wr.drew.cell? ⟨p5, 1, none⟩ = some (.int .i64 (wt : Int)) := (blk_cell KK.out.2.2.1 1).trans rfl
          have f3 : wr.drew.cell? ⟨p5, 0, none⟩ = some (.int .i64 vl) := (blk_cell KK.out.2.2.1 0).trans rfl
          obtain ⟨cells, hcells⟩ : ∃ cells, wr.heap[gn]? = some (.cells cells 2 (0, 0)) := own_typed (Kd.R_own KK.out.2.1).choose_spec gn (by simp [Value.ownBlock])
          have nz : ∀ j, wr.frozen? ⟨gn, j, none⟩ = false := blk_frozen hcells
          have GC := Aside0.mk hcells
          clear hza hzb hdd hadd f0' f1' hcells
          go_upto_region 10 with fail
          refine start_ (n := 19) (S := fun w' => w'.cell? ⟨gn, j, none⟩ = some (.int .i64 za) ∧ w'.cell? (aY.add dd) = some (.int .i64 zb) ∧ w'.cell? ⟨p5, 1, none⟩ = some (.int .i64 (wt : Int)) ∧ w'.cell? ⟨p5, 0, none⟩ = some (.int .i64 vl)) (ds := [18]) #[false, false, false, false, false, false, false, false, false, false, false, false, false, false, false, false, false, false, false] (by kernel_rfl) rfl rfl ⟨f0, f1, f2, f3⟩ (fun hHeld => ?_)
          clear f0 f1 f2 f3
          refine pure_ (i := 0) (N := some 37) (v := ?_) (a' := ?_) #[true, false, false, false, false, false, false, false, false, false, false, false, false, false, false, false, false, false, false] rfl rfl (by kernel_rfl) (fun _ _ _ h => h) (Or.inl ⟨by rfl, ?_⟩) ?_ ?_
          rotate_left
          · intro w'
            go_simp
            with_reducible rfl
          rotate_left
          · simp only [Act.put, List.setIfInBounds_toArray, List.set_cons_zero, List.set_cons_succ]
            rfl
          refine pure_ (i := 1) (N := some 38) (v := ?_) (a' := ?_) #[true, true, false, false, false, false, false, false, false, false, false, false, false, false, false, false, false, false, false] rfl rfl (by kernel_rfl) (fun _ _ _ h => h) (Or.inl ⟨by rfl, ?_⟩) ?_ ?_
          rotate_left
          · intro w'
            go_simp
            with_reducible rfl
          rotate_left
          · simp only [Act.put, List.setIfInBounds_toArray, List.set_cons_zero, List.set_cons_succ]
            rfl
          refine pure_ (i := 2) (N := some 39) (v := ?_) (a' := ?_) #[true, true, true, false, false, false, false, false, false, false, false, false, false, false, false, false, false, false, false] rfl rfl (by kernel_rfl) (fun _ _ _ h => h) (Or.inl ⟨by rfl, ?_⟩) ?_ ?_
          rotate_left
          · intro w'
            go_simp
            with_reducible rfl
          rotate_left
          · simp only [Act.put, List.setIfInBounds_toArray, List.set_cons_zero, List.set_cons_succ]
            rfl
          refine pure_ (i := 3) (N := some 40) (v := ?_) (a' := ?_) #[true, true, true, true, false, false, false, false, false, false, false, false, false, false, false, false, false, false, false] rfl rfl (by kernel_rfl) (fun _ _ _ h => h) (Or.inl ⟨by rfl, ?_⟩) ?_ ?_
          rotate_left
          · intro w'
            go_simp
            with_reducible rfl
          rotate_left
          · simp only [Act.put, List.setIfInBounds_toArray, List.set_cons_zero, List.set_cons_succ]
            rfl
          refine pure_ (i := 4) (N := some 41) (v := ?_) (a' := ?_) #[true, true, true, true, true, false, false, false, false, false, false, false, false, false, false, false, false, false, false] rfl rfl (by kernel_rfl) (fun _ _ _ h => h) (Or.inl ⟨by rfl, ?_⟩) ?_ ?_
          rotate_left
          · intro w'
            go_simp
            with_reducible rfl
          rotate_left
          · simp only [Act.put, List.setIfInBounds_toArray, List.set_cons_zero, List.set_cons_succ]
            rfl
          refine take_ (i := 5) (N := some 42) (v := ?_) (a' := ?_) #[true, true, true, true, true, true, false, false, false, false, false, false, false, false, false, false, false, false, false] rfl rfl (by kernel_rfl) (fun _ _ _ h => h) (Or.inl ⟨by rfl, ?_⟩) hHeld ?_ ?_
          rotate_left
          · rintro w' ⟨s0, s1, s2, s3⟩
            go_simp
            with_reducible rfl
          rotate_left
          · simp only [Act.put, List.setIfInBounds_toArray, List.set_cons_zero, List.set_cons_succ]
            rfl
          refine pure_ (i := 6) (N := some 43) (v := ?_) (a' := ?_) #[true, true, true, true, true, true, true, false, false, false, false, false, false, false, false, false, false, false, false] rfl rfl (by kernel_rfl) (fun _ _ _ h => h) (Or.inl ⟨by rfl, ?_⟩) ?_ ?_
          rotate_left
          · intro w'
            go_simp
            with_reducible rfl
          rotate_left
          · simp only [Act.put, List.setIfInBounds_toArray, List.set_cons_zero, List.set_cons_succ]
            rfl
          refine pure_ (i := 7) (N := some 44) (v := ?_) (a' := ?_) #[true, true, true, true, true, true, true, true, false, false, false, false, false, false, false, false, false, false, false] rfl rfl (by kernel_rfl) (fun _ _ _ h => h) (Or.inl ⟨by rfl, ?_⟩) ?_ ?_
          rotate_left
          · intro w'
            go_simp
            with_reducible rfl
          rotate_left
          · simp only [Act.put, List.setIfInBounds_toArray, List.set_cons_zero, List.set_cons_succ]
            rfl
          refine pure_ (i := 8) (N := some 45) (v := ?_) (a' := ?_) #[true, true, true, true, true, true, true, true, true, false, false, false, false, false, false, false, false, false, false] rfl rfl (by kernel_rfl) (fun _ _ _ h => h) (Or.inl ⟨by rfl, ?_⟩) ?_ ?_
          rotate_left
          · intro w'
            go_simp
            with_reducible rfl
          rotate_left
          · simp only [Act.put, List.setIfInBounds_toArray, List.set_cons_zero, List.set_cons_succ]
            rfl
          refine take_ (i := 9) (N := some 46) (v := ?_) (a' := ?_) #[true, true, true, true, true, true, true, true, true, true, false, false, false, false, false, false, false, false, false] rfl rfl (by kernel_rfl) (fun _ _ _ h => h) (Or.inl ⟨by rfl, ?_⟩) hHeld ?_ ?_
          rotate_left
          · rintro w' ⟨s0, s1, s2, s3⟩
            go_simp
            with_reducible rfl
          rotate_left
          · simp only [Act.put, List.setIfInBounds_toArray, List.set_cons_zero, List.set_cons_succ]
            rfl
          refine pure_ (i := 10) (N := some 47) (v := ?_) (a' := ?_) #[true, true, true, true, true, true, true, true, true, true, true, false, false, false, false, false, false, false, false] rfl rfl (by kernel_rfl) (fun _ _ _ h => h) (Or.inl ⟨by rfl, ?_⟩) ?_ ?_
          rotate_left
          · intro w'
            go_simp
            with_reducible rfl
          rotate_left
          · simp only [Act.put, List.setIfInBounds_toArray, List.set_cons_zero, List.set_cons_succ]
            rfl
          refine pure_ (i := 11) (N := some 48) (v := ?_) (a' := ?_) #[true, true, true, true, true, true, true, true, true, true, true, true, false, false, false, false, false, false, false] rfl rfl (by kernel_rfl) (fun _ _ _ h => h) (Or.inl ⟨by rfl, ?_⟩) ?_ ?_
          rotate_left
          · intro w'
            go_simp
            with_reducible rfl
          rotate_left
          · simp only [Act.put, List.setIfInBounds_toArray, List.set_cons_zero, List.set_cons_succ]
            rfl
          refine take_ (i := 12) (N := some 49) (v := ?_) (a' := ?_) #[true, true, true, true, true, true, true, true, true, true, true, true, true, false, false, false, false, false, false] rfl rfl (by kernel_rfl) (fun _ _ _ h => h) (Or.inl ⟨by rfl, ?_⟩) hHeld ?_ ?_
          rotate_left
          · rintro w' ⟨s0, s1, s2, s3⟩
            go_simp
            with_reducible rfl
          rotate_left
          · simp only [Act.put, List.setIfInBounds_toArray, List.set_cons_zero, List.set_cons_succ]
            rfl
          refine pure_ (i := 13) (N := some 50) (v := ?_) (a' := ?_) #[true, true, true, true, true, true, true, true, true, true, true, true, true, true, false, false, false, false, false] rfl rfl (by kernel_rfl) (fun _ _ _ h => h) (Or.inl ⟨by rfl, ?_⟩) ?_ ?_
          rotate_left
          · intro w'
            go_simp
            with_reducible rfl
          rotate_left
          · simp only [Act.put, List.setIfInBounds_toArray, List.set_cons_zero, List.set_cons_succ]
            rfl
          refine take_ (i := 14) (N := some 51) (v := ?_) (a' := ?_) #[true, true, true, true, true, true, true, true, true, true, true, true, true, true, true, false, false, false, false] rfl rfl (by kernel_rfl) (fun _ _ _ h => h) (Or.inl ⟨by rfl, ?_⟩) hHeld ?_ ?_
          rotate_left
          · rintro w' ⟨s0, s1, s2, s3⟩
            go_simp
            with_reducible rfl
          rotate_left
          · simp only [Act.put, List.setIfInBounds_toArray, List.set_cons_zero, List.set_cons_succ]
            rfl
          refine pure_ (i := 15) (N := some 52) (v := ?_) (a' := ?_) #[true, true, true, true, true, true, true, true, true, true, true, true, true, true, true, true, false, false, false] rfl rfl (by kernel_rfl) (fun _ _ _ h => h) (Or.inl ⟨by rfl, ?_⟩) ?_ ?_
          rotate_left
          · intro w'
            go_simp
            with_reducible rfl
          rotate_left
          · simp only [Act.put, List.setIfInBounds_toArray, List.set_cons_zero, List.set_cons_succ]
            rfl
          refine pure_ (i := 16) (N := some 53) (v := ?_) (a' := ?_) #[true, true, true, true, true, true, true, true, true, true, true, true, true, true, true, true, true, false, false] rfl rfl (by kernel_rfl) (fun _ _ _ h => h) (Or.inl ⟨by rfl, ?_⟩) ?_ ?_
          rotate_left
          · intro w'
            go_simp
            with_reducible rfl
          rotate_left
          · simp only [Act.put, List.setIfInBounds_toArray, List.set_cons_zero, List.set_cons_succ]
            rfl
          refine pure_ (i := 17) (N := some 54) (v := ?_) (a' := ?_) #[true, true, true, true, true, true, true, true, true, true, true, true, true, true, true, true, true, true, false] rfl rfl (by kernel_rfl) (fun _ _ _ h => h) (Or.inl ⟨by rfl, ?_⟩) ?_ ?_
          rotate_left
          · intro w'
            go_simp
            with_reducible rfl
          rotate_left
          · simp only [Act.put, List.setIfInBounds_toArray, List.set_cons_zero, List.set_cons_succ]
            rfl
          refine last_ (i := 18) (N := none) #[true, true, true, true, true, true, true, true, true, true, true, true, true, true, true, true, true, true, true] rfl rfl (by kernel_rfl) (by decide) (fun K hK => ?_)
          have h0 := n0
          have h1 := nz
          refine skip_ (w1 := ?_) (by rfl) rfl ?_ ?_
          rotate_left
          · go_simp
            rfl
          refine hK.out _ _ ?_
          clear hK K h0 h1
          refine done_ (by kernel_rfl) ?_
          clear hHeld n0 nz
          have RN := Kd.R_putn KK.out.2.1 (j : Int) (mx2 za (zb + vl))
          rw [Int.toNat_natCast] at RN
          have N1 : Aside0 ((R1 (Kd.slice 2 (Kd.int .i64)) 30 w W1 p1 54 #[.int .i64 x.kind, .int .i64 x.cap, .slice (some ad) n2 c2, .slice A3 x.cost.length c3, .int .i64 x.size, .slice A5 x.sets.length c5] wo.heap.size (wr.setCell ⟨gn, j, none⟩ (.int .i64 (mx2 za (zb + vl)))) (.slice (some ar) (k + 1) c) (rowsP m x.items k) ∧ (Kd.int .i64).R 2 (wr.setCell ⟨gn, j, none⟩ (.int .i64 (mx2 za (zb + vl)))) W1.heap.size (fun k => wo.heap.size ≤ k) (.slice (some ⟨gn, 0, none⟩) m cn) (nxt L wt vl (j + 1)) ∧ (wr.setCell ⟨gn, j, none⟩ (.int .i64 (mx2 za (zb + vl)))).heap[p5]? = some (.cells #[.int .i64 vl, .int .i64 (wt : Int)] 101 (0, 0)) ∧ (Kd.int .i64).C (wr.setCell ⟨gn, j, none⟩ (.int .i64 (mx2 za (zb + vl)))) (some aY) m L)) := ⟨
            KK.out.1.far (a := ⟨gn, j, none⟩) GN.out.2.2 GN.out.1 _, by rw [← nxt_step hwj, ← VE.out]; exact RN, blk_far KK.out.2.2.1 (ty_ne KK.out.2.2.1 GC.out (by decide)) _, Kd.C_keep (0 : Int) KK.out.2.2.2 ((KeepBut.refl _ _ _).set_ j _) FAR.out⟩
          have N2 := Aside0.mk (And.intro N1.out.1.drew (And.intro (Kd.R_drew N1.out.2.1) (And.intro (dr_heap' N1.out.2.2.1) (Kd.C_drew N1.out.2.2.2))))
          clear RN VE KK GC N1 d1 d2 d4 d6 d7 s1 sb0 sb1
          have hj1 : 0 ≤ (j : Int) + 1 := by omega
          go_wp2_with fail
          exact ⟨⟨j + 1, by omega, by omega, by go_num, N2⟩, by simp [intOf]; omega⟩
        · have SE : Aside0 (nxt L wt vl j = stepR L s) := ⟨by
            have h1 : wt = s.f1.toNat := by have := HV.out.1; omega
            rw [h1, HV.out.2]
            exact nxt_end (by rw [LL.out]; omega)⟩
          have hjb : (j : Int) ≤ 2147483648 := by omega
          have hj1 : decide (j < m) = false := decide_eq_false hj
          have hj2 : decide ((j : Int) < (m : Int)) = false := decide_eq_false (by omega)
          have HL9 : Aside0 (((rowsP m x.items k).length + 1) * 24 ≤ 140737488355328) := ⟨by rw [rowsP_len]; omega⟩
          have MM : Aside0 ((Kd.slice 2 (Kd.int .i64)).M wr W1.heap.size (fun k => wo.heap.size ≤ k) (stepR L s) [.slice (some ⟨gn, 0, none⟩) m cn]) := ⟨⟨_, rfl, by rw [← SE.out]; exact KK.out.2.1⟩⟩
          have K1 := Aside0.mk KK.out.1
          clear KK
          go_wp2_with (at_builtin; refine R1.appL K1.out (by decide) rfl _ _ 22 (.slice none 0 0) 24 rfl Try.underlying22 infoR30 rfl (by decide) (by decide) (stepR L s) [.slice (some ⟨gn, 0, none⟩) m cn] rfl rfl MM.out HL9.out ?_; rintro v9 w9 hr9 ⟨A9, c9, e9⟩ _; rw [rowsP_len] at e9; obtain rfl := e9; have R9 := Aside0.mk hr9; clear hr9)
          have N9 : Aside0 (R1 (Kd.slice 2 (Kd.int .i64)) 30 w W1 p1 54 #[.int .i64 x.kind, .int .i64 x.cap, .slice (some ad) n2 c2, .slice A3 x.cost.length c3, .int .i64 x.size, .slice A5 x.sets.length c5] w9.heap.size w9 (.slice A9 (k + 1 + 1) c9) (rowsP m x.items (k + 1))) := ⟨by rw [LN.out]; exact R9.out⟩
          exact ⟨⟨k + 1, A9, c9, by omega, by go_num, by go_num, N9⟩, by simp [intOf]; omega⟩
    · obtain rfl : n2 = k := by omega
      go_wp2_with fail
      go_ret
      exact ⟨_, rfl, ⟨by
        have h1 := RR.out.r
        exact Kd.R_mono (Kd.R_lower h1 RR.out.ww) (fun _ _ => trivial), RR.out.bw⟩⟩
end Go.Proofs.Ytelabmhhnpfegaa.Hand
