/- Texts Mh Du, cut to what is used. -/
import Derived.Laws.EntriesVeiled
import Derived.Test.YtelabmhhnpfegaaZa0
import Derived.Test.YtelabmhhnpfegaaZc3
import Derived.Test.YtelabmhhnpfegaaZc4
import Derived.Test.YtelabmhhnpfegaaZc7
set_option linter.unusedVariables false
set_option linter.unusedSimpArgs false
section
namespace Go.Proofs.Ytelabmhhnpfegaa.Hand
open Go.RowKit Go.Proofs.Ytelabmhhnpfegaa.PDynCells
theorem ord_nodup {xs : List Int} {n : Nat} (h : ordB xs n = true) : xs.Nodup := by
 obtain ⟨h1, h2⟩ := (each_ord xs n).2 h
 obtain ⟨_, _, h3⟩ := ord_in h
 rw [List.nodup_iff_count]
 intro a
 have hc : List.count a xs = cntE xs a := rfl
 rw [hc]
 by_cases ha : a ∈ xs
 ·have hb := h3 a ha
  obtain ⟨k, rfl⟩ := Int.eq_ofNat_of_zero_le hb.1
  rw [h1 k (by omega)]
  exact Nat.le_refl _
 ·have : ¬ 0 < cntE xs a := fun h => ha (mem_cnt.1 h)
  omega
theorem getD_inj {xs : List Int} (h : xs.Nodup) {i j : Nat} (hi : i < xs.length) (hj : j < xs.length) (e : xs.getD i 0 = xs.getD j 0) : i = j := by
 rw [List.getD_eq_getElem?_getD, List.getElem?_eq_getElem hi, List.getD_eq_getElem?_getD, List.getElem?_eq_getElem hj, Option.getD_some, Option.getD_some] at e
 have hp := List.pairwise_iff_getElem.1 h
 rcases Nat.lt_trichotomy i j with hl | hl | hl
 ·exact absurd e (hp i j hi hj hl)
 ·exact hl
 ·exact absurd e.symm (hp j i hj hi hl)
def mapP (n : Nat) (τ : Nat → Nat) : List Int := (List.range n).map fun r => ((τ r : Nat) : Int)
theorem mapP_len (n : Nat) (τ : Nat → Nat) : (mapP n τ).length = n := by simp [mapP]
theorem mapP_get {n : Nat} {τ : Nat → Nat} {i : Nat} (h : i < n) : (mapP n τ).getD i 0 = ((τ i : Nat) : Int) := by
 simp [mapP, List.getD_eq_getElem?_getD, h]
theorem ord_map {n : Nat} {τ : Nat → Nat} (h1 : ∀ r, r < n → τ r < n) (h2 : ∀ r s, r < n → s < n → τ r = τ s → r = s) : ordB (mapP n τ) n = true := by
 unfold ordB
 rw [Bool.and_eq_true, decide_eq_true_eq, List.all_eq_true]
 refine ⟨mapP_len n τ, fun k hk => decide_eq_true ?_⟩
 have hk' := List.mem_range.1 hk
 obtain ⟨r, hr, he⟩ := (show Inj n τ from ⟨h1, h2⟩).onto hk'
 exact List.mem_map.2 ⟨r, List.mem_range.2 hr, by rw [he]⟩
def funP (y : List Int) (r : Nat) : Nat := (y.getD r 0).toNat
theorem funP_inj {y : List Int} {n : Nat} (h : ordB y n = true) : Inj n (funP y) := by
 obtain ⟨h1, h2, h3⟩ := ord_in h
 have hnd := ord_nodup h
 refine ⟨fun r hr => ?_, fun r s hr hs e => ?_⟩
 ·have := h3 _ (getD_mem' (l := y) (i := r) (by omega))
  unfold funP
  omega
 ·have g1 := h3 _ (getD_mem' (l := y) (i := r) (by omega))
  have g2 := h3 _ (getD_mem' (l := y) (i := s) (by omega))
  unfold funP at e
  exact getD_inj hnd (by omega) (by omega) (by omega)
theorem may_1 {x : PI} (hk : x.kind = 1) {y : List Int} : mayP x y = ordB y x.cost.length := by
 unfold mayP
 rw [if_neg (by omega), if_pos hk]
theorem cos_1 {x : PI} (hc : chk x = 0) (hk : x.kind = 1) {y : List Int} (h : mayP x y = true) {τ : Nat → Nat} (ht : ∀ r, r < x.cost.length → funP y r = τ r) : cosP x y = (cost x.cost.length (costA x) τ, 0) := by
 unfold cosP valP
 rw [if_pos hc, if_pos h, if_neg (by omega)]
 rw [may_1 hk] at h
 have : sumTo y.length (partC x y) = cost x.cost.length (costA x) τ := by
  unfold cost
  rw [(ord_in h).1]
  refine sumTo_congr (fun i hi => ?_)
  unfold partC
  rw [if_neg (by omega), if_pos hk, ← ht i hi]
  rfl
 rw [this]
theorem answ_1 {x : PI} (hc : chk x = 0) (hk : x.kind = 1) {z : Int} (hz : IsLeast x.cost.length (costA x) (fun _ _ => false) (some z)) {σ : Nat → Nat} (hσ : PM x.cost.length (fun _ _ => false) σ) (hcz : cost x.cost.length (costA x) σ = z) : Answ x true z (mapP x.cost.length σ) := by
 have hm : mayP x (mapP x.cost.length σ) = true := by
  rw [may_1 hk]
  exact ord_map hσ.inj.lt hσ.inj.inj
 refine ⟨fun _ => ⟨hm, ?_, fun y hy => ?_⟩, fun h => by cases h⟩
 ·rw [cos_1 hc hk hm (τ := σ) (fun r hr => by unfold funP; rw [mapP_get hr]; rfl), hcz]
 ·rw [cos_1 hc hk hy (τ := funP y) (fun _ _ => rfl)]
  rw [may_1 hk] at hy
  exact hz.2 _ ⟨funP_inj hy, fun _ _ => rfl⟩
theorem all_1 {x : PI} (hk : x.kind = 1) {y : List Int} (h : mayP x y = true) : y ∈ allP x := by
 rw [may_1 hk] at h
 obtain ⟨h1, h2, h3⟩ := ord_in h
 unfold allP
 rw [if_pos hk]
 exact mem_ords _ _ [] y (by simp [h1]) (by simp) (ord_nodup h) h3
theorem may_2 {x : PI} (hk : x.kind = 2) {y : List Int} : mayP x y = true ↔ ordB y x.cost.length = true ∧ y.getD 0 0 = 0 := by
 unfold mayP
 rw [if_neg (by omega), if_neg (by omega), if_pos hk, Bool.and_eq_true, decide_eq_true_eq]
def tauP (σ : Nat → Nat) : Nat → Nat
 | 0 => 0
 | r + 1 => σ r + 1
theorem tau_mapP (n : Nat) (σ : Nat → Nat) : (0 : Int) :: (List.range n).map (fun r => ((σ r + 1 : Nat) : Int)) = mapP (n + 1) (tauP σ) := by
 unfold mapP
 rw [List.range_succ_eq_map, List.map_cons, List.map_map]
 rfl
theorem tau_inj {n : Nat} {σ : Nat → Nat} (h : IsPm n σ) : Inj (n + 1) (tauP σ) := by
 refine ⟨fun r hr => ?_, fun r s hr hs e => ?_⟩
 ·cases r with
  | zero => exact Nat.succ_pos n
  | succ r =>
   have := h.1 r (by omega)
   show σ r + 1 < n + 1
   omega
 ·cases r with
  | zero =>
   cases s with
   | zero => rfl
   | succ s =>
    have e' : (0 : Nat) = σ s + 1 := e
    omega
  | succ r =>
   cases s with
   | zero =>
    have e' : σ r + 1 = 0 := e
    omega
   | succ s =>
    have e' : σ r + 1 = σ s + 1 := e
    have := h.2 r s (by omega) (by omega) (by omega)
    omega
theorem way_sum (c : Nat → Nat → Int) (n : Nat) (σ : Nat → Nat) : ∀ i, i < n → sumTo (i + 1) (fun j => c (tauP σ j) (tauP σ ((j + 1) % (n + 1)))) = wayC c σ i
 | 0, h => by
  rw [sumTo_succ]
  show sumTo 0 _ + c 0 (tauP σ ((0 + 1) % (n + 1))) = wayC c σ 0
  rw [Nat.mod_eq_of_lt (by omega)]
  show (0 : Int) + c 0 (σ 0 + 1) = c 0 (σ 0 + 1)
  omega
 | i + 1, h => by
  rw [sumTo_succ, way_sum c n σ i (by omega), wayC, Nat.mod_eq_of_lt (by omega)]
  rfl
theorem rnd_sum {c : Nat → Nat → Int} (h0 : c 0 0 = 0) (n : Nat) (σ : Nat → Nat) : sumTo (n + 1) (fun j => c (tauP σ j) (tauP σ ((j + 1) % (n + 1)))) = rndC c n σ := by
 unfold rndC
 cases n with
 | zero =>
  rw [if_pos rfl, sumTo_succ]
  show sumTo 0 _ + c 0 (tauP σ ((0 + 1) % (0 + 1))) = 0
  show (0 : Int) + c 0 0 = 0
  omega
 | succ n =>
  rw [if_neg (by omega), sumTo_succ, way_sum c (n + 1) σ n (by omega), Nat.mod_self]
  rfl
theorem cos_2 {x : PI} (hc : chk x = 0) (hk : x.kind = 2) {n : Nat} (hn : x.cost.length = n + 1) {y : List Int} (h : mayP x y = true) {σ : Nat → Nat} (ht : ∀ r, r < n + 1 → funP y r = tauP σ r) : cosP x y = (rndC (costA x) n σ, 0) := by
 have hi := iok.1 hc
 have h0 : costA x 0 0 = 0 := hi.diag hk 0 (by omega)
 unfold cosP valP
 rw [if_pos hc, if_pos h, if_neg (by omega)]
 obtain ⟨h1, h2⟩ := (may_2 hk).1 h
 have hl := (ord_in h1).1
 have : sumTo y.length (partC x y) = rndC (costA x) n σ := by
  rw [← rnd_sum h0, hl, hn]
  refine sumTo_congr (fun i hi' => ?_)
  unfold partC
  rw [if_neg (by omega), if_neg (by omega), if_pos hk, hl, hn, ← ht i hi', ← ht _ (Nat.mod_lt _ (by omega))]
  rfl
 rw [this]
theorem answ_2 {x : PI} (hc : chk x = 0) (hk : x.kind = 2) {n : Nat} (hn : x.cost.length = n + 1) {z : Int} {σ : Nat → Nat} (hσ : IsPm n σ) (hz : z = rndC (costA x) n σ) (hl : ∀ τ, IsPm n τ → z ≤ rndC (costA x) n τ) : Answ x true z (0 :: (List.range n).map fun r => ((σ r + 1 : Nat) : Int)) := by
 rw [tau_mapP]
 have hin := tau_inj hσ
 have hm : mayP x (mapP (n + 1) (tauP σ)) = true := by
  rw [may_2 hk, hn]
  exact ⟨ord_map hin.lt hin.inj, by rw [mapP_get (by omega)]; rfl⟩
 refine ⟨fun _ => ⟨hm, ?_, fun y hy => ?_⟩, fun h => by cases h⟩
 ·rw [cos_2 hc hk hn hm (σ := σ) (fun r hr => by unfold funP; rw [mapP_get hr]; rfl), hz]
 ·obtain ⟨h1, h2⟩ := (may_2 hk).1 hy
  rw [hn] at h1
  have hy1 := funP_inj h1
  have h00 : funP y 0 = 0 := by
   unfold funP
   rw [h2]
   rfl
  have hpos : ∀ r, r < n → 0 < funP y (r + 1) := fun r hr => by
   apply Nat.pos_of_ne_zero
   intro e
   have := hy1.inj (r + 1) 0 (by omega) (by omega) (by rw [e, h00])
   omega
  obtain ⟨τ, hτ⟩ : ∃ τ : Nat → Nat, τ = fun r => funP y (r + 1) - 1 := ⟨_, rfl⟩
  have hp : IsPm n τ := by
   rw [hτ]
   refine ⟨fun r hr => ?_, fun r s hr hs e => ?_⟩
   ·have g1 := hy1.lt (r + 1) (by omega)
    have g2 := hpos r hr
    show funP y (r + 1) - 1 < n
    omega
   ·have g1 := hpos r hr
    have g2 := hpos s hs
    have e' : funP y (r + 1) - 1 = funP y (s + 1) - 1 := e
    have := hy1.inj (r + 1) (s + 1) (by omega) (by omega) (by omega)
    omega
  rw [cos_2 hc hk hn hy (σ := τ) (fun r hr => by
   cases r with
   | zero => exact h00
   | succ r =>
    have := hpos r (by omega)
    rw [hτ]
    show funP y (r + 1) = funP y (r + 1) - 1 + 1
    omega)]
  exact hl τ hp
theorem all_2 {x : PI} (hc : chk x = 0) (hk : x.kind = 2) {y : List Int} (h : mayP x y = true) : y ∈ allP x := by
 have hs := ((iok.1 hc).side (.inr hk)).1
 obtain ⟨h1, h0⟩ := (may_2 hk).1 h
 obtain ⟨g1, g2, g3⟩ := ord_in h1
 unfold allP
 rw [if_neg (by omega), if_pos hk]
 refine mem_ords _ _ [0] y (by rw [g1]; simp; omega) ?_ (ord_nodup h1) g3
 cases y with
 | nil => rw [List.length_nil] at g1; omega
 | cons a t =>
  have : a = 0 := h0
  rw [this]
  rfl
end Go.Proofs.Ytelabmhhnpfegaa.Hand
end
section
namespace Go.Proofs.Ytelabmhhnpfegaa.Hand
open Go.RowKit Go.Proofs.YtelabmhhnpfegaaW.PrintWords Go.Proofs.YtelabmhhnpfegaaW.PrintLast Go.Proofs.YtelabmhhnpfegaaW.PrintMore Go.Proofs.Ytelabmhhnpfegaa.PDynCells
theorem cells_ok {x : PI} (h : (cellsP x).2 = 0) : IOk x ∧ qP x ≤ 1048576 := by
 unfold cellsP at h
 split at h
 ·rename_i h0
  split at h
  ·cases h
  ·exact ⟨iok.1 h0, by omega⟩
 ·rename_i h0
  exact absurd h h0
theorem room_small {x : PI} (h : (cellsP x).2 = 0) (hk : x.kind = 0) : roomP x ≤ 1048576 := by
 obtain ⟨hi, hq⟩ := cells_ok h
 have hb := room_bd hi
 unfold qP aP tP at hq
 rw [if_pos hk, if_pos hk, Int.pow_zero, Int.mul_one] at hq
 have h1 : (1 : Int) * (roomP x + 1) ≤ ((x.items.length : Int) + 1) * (roomP x + 1) := Int.mul_le_mul_of_nonneg_right (by omega) (by omega)
 omega
set_option maxHeartbeats 400000 in
set_option maxRecDepth 100000 in
theorem front_ok (w : World) (x : PI) (v : Value) (h : InstC w x v) (hx : PIok x) (he : (cellsP x).2 = 0) (hk : x.kind = 0) :
  Calls Try.prog 25 #[v] w fun e w' => ∃ (a : Addr) (c : Nat), e = .returned (.tuple #[.slice (some a) (roomP x + 1).toNat c, .int .i64 0]) ∧ Aside0 ((Kd.int .i64).C w' (some a) (roomP x + 1).toNat (rowK (roomP x + 1).toNat x.items x.items.length) ∧ Below w.heap.size w w') := by
 have HI := Aside0.mk h
 have IOa := Aside0.mk (cells_ok he).1
 have RS := Aside0.mk (room_small he hk)
 obtain ⟨A2, c2, A3, c3, A5, c5, rfl, h2, l2, h3, l3, h5, l5⟩ := h
 clear h2 h3 h5
 obtain ⟨y, hy⟩ : ∃ z, z = (cellsP x).1 := ⟨_, rfl⟩
 have HZ := Aside0.mk (And.intro he hy)
 have g : (x.kind != 0) = false := by rw [hk]; rfl
 obtain ⟨n2, hn2⟩ : ∃ n, n = x.items.length := ⟨_, rfl⟩
 have b2 : n2 ≤ 4096 := by rw [hn2]; exact IOa.out.nitems
 rw [← hn2] at HI l2 ⊢
 have HN := Aside0.mk hn2
 obtain ⟨m, hm⟩ : ∃ m, m = (roomP x + 1).toNat := ⟨_, rfl⟩
 rw [← hm]
 have m0 : 0 < m := by have := room_bd IOa.out; omega
 have HM := Aside0.mk hm
 clear he hy hk hn2 hm
 have hu54 := Try.underlying54
 go_enter Try.func25, Try.ntmps25
 go_wp2_with fail
 obtain ⟨W1, hW1⟩ : ∃ W, W = w.alloc (.cells #[.int .i64 x.kind, .int .i64 x.cap, .slice A2 n2 c2, .slice A3 x.cost.length c3, .int .i64 x.size, .slice A5 x.sets.length c5] 54) := ⟨_, rfl⟩
 rw [← hW1]
 have B1 : Aside0 (Below w.heap.size w W1) := ⟨by rw [hW1]; exact below_alloc (Below.refl _ _) _⟩
 obtain ⟨p1, hp1⟩ : ∃ p, p = w.heap.size := ⟨_, rfl⟩
 have Q1 : Aside0 (W1.heap[p1]? = some (.cells #[.int .i64 x.kind, .int .i64 x.cap, .slice A2 n2 c2, .slice A3 x.cost.length c3, .int .i64 x.size, .slice A5 x.sets.length c5] 54 (0, 0))) := ⟨by rw [hW1, hp1]; exact heap_alloc_new _ _⟩
 rw [← hp1]
 clear hW1 hp1
 refine (cells_any W1 x _ (HI.out.below B1.out) hx).mono ?_
 rintro _ W2 ⟨rfl, B2'⟩
 have B2 := Aside0.mk (B1.out.trans (B2'.mono B1.out.size))
 have Q2 : Aside0 (W2.heap[p1]? = some (.cells #[.int .i64 x.kind, .int .i64 x.cap, .slice A2 n2 c2, .slice A3 x.cost.length c3, .int .i64 x.size, .slice A5 x.sets.length c5] 54 (0, 0))) := ⟨blk_below Q1.out B2'⟩
 clear B2'
 rw [HZ.out.1, ← HZ.out.2]
 have q0 : W2.cell? ⟨p1, 0, none⟩ = some (.int .i64 x.kind) := (blk_cell Q2.out 0).trans rfl
 have q1 : W2.cell? ⟨p1, 1, none⟩ = some (.int .i64 x.cap) := (blk_cell Q2.out 1).trans rfl
 have q2 : W2.cell? ⟨p1, 2, none⟩ = some (.slice A2 n2 c2) := (blk_cell Q2.out 2).trans rfl
 have q3 : W2.cell? ⟨p1, 3, none⟩ = some (.slice A3 x.cost.length c3) := (blk_cell Q2.out 3).trans rfl
 have q4 : W2.cell? ⟨p1, 4, none⟩ = some (.int .i64 x.size) := (blk_cell Q2.out 4).trans rfl
 have q5 : W2.cell? ⟨p1, 5, none⟩ = some (.slice A5 x.sets.length c5) := (blk_cell Q2.out 5).trans rfl
 go_wp2_with fail
 clear q0 q1 q2 q3 q4 q5
 refine (rows_any W2 x _ (HI.out.below B2.out) IOa.out RS.out).mono ?_
 rintro _ W3 ⟨vt, rfl, HT⟩
 rw [← HM.out, ← HN.out] at HT
 obtain ⟨gt, ct, rfl⟩ : ∃ g c, vt = .slice (some ⟨g, 0, none⟩) (n2 + 1) c := by
  obtain ⟨g, cap, e, _⟩ := Kd.R_form HT.out.1 (by rw [rowsP_len]; omega)
  rw [rowsP_len] at e
  exact ⟨_, cap, e⟩
 obtain ⟨ar, AY, cY, e, y0, ly, hy⟩ := at_L2 (R_C HT.out.1).1 (n2 : Int) (by omega) (by omega)
 injection e with e
 subst e
 have hyE : rd_L2 (rowsP m x.items n2) (n2 : Int) = rowK m x.items n2 := by unfold rd_L2; rw [Int.toNat_natCast]; exact rowsP_get m x.items (Nat.le_refl _)
 rw [hyE, rowK_len] at y0 hy
 rw [Int.toNat_natCast, show (⟨gt, 0, none⟩ : Addr).add n2 = ⟨gt, n2, none⟩ by unfold Addr.add; split <;> simp_all] at y0
 obtain ⟨aY, e⟩ : ∃ a, AY = some a := by
  obtain ⟨_, _, hc⟩ := hy
  obtain ⟨a, e, _⟩ := hc (by omega)
  exact ⟨a, e⟩
 subst e
 have HY := Aside0.mk hy
 clear hyE hy
 have hk1 : wrap64 ((n2 : Int) + 1 - 1) = (n2 : Int) := by unfold wrap64; omega
 have hk2 : (n2 : Int) + 1 - 1 = (n2 : Int) := by omega
 go_wp2_with fail
 go_ret2
 exact ⟨_, _, rfl, ⟨HY.out, B2.out.trans (HT.out.2.mono B2.out.size)⟩⟩
set_option maxHeartbeats 1000000 in
set_option maxRecDepth 100000 in
theorem best_call0 (w : World) (x : PI) (v : Value) (h : InstC w x v) (hx : PIok x) (he : (cellsP x).2 = 0) (hk : x.kind = 0) (z : Int) (b : Bool) (Q : Value → World → World → Prop)
  (hc : ∀ W, Below w.heap.size w W → Calls Try.prog 54 #[v] W fun e w' => ∃ vr, e = .returned (.tuple #[vr, .int .i64 z, .bool b]) ∧ Aside0 (Q vr W w' ∧ Below W.heap.size W w')) :
  Calls Try.prog 27 #[v] w fun e w' => ∃ vr, e = .returned (.tuple #[vr, .int .i64 z, .bool b, .int .i64 0]) ∧ Aside0 (∃ W wz, Below w.heap.size w W ∧ Q vr W wz ∧ Below w.heap.size w wz ∧ wz.heap = w'.heap ∧ Below w.heap.size w w') := by
 have HI := Aside0.mk h
 have HC := Aside0.mk hc
 obtain ⟨A2, c2, A3, c3, A5, c5, rfl, h2, l2, h3, l3, h5, l5⟩ := h
 clear h2 h3 h5 hc
 obtain ⟨y, hy⟩ : ∃ z, z = (cellsP x).1 := ⟨_, rfl⟩
 have HZ := Aside0.mk (And.intro he hy)
 rw [hk] at HI HC ⊢
 have HK := Aside0.mk hk
 clear he hy hk
 have hu54 := Try.underlying54
 have hu116 := Try.underlying116
 go_enter Try.func27, Try.ntmps27
 go_wp2_with fail
 obtain ⟨W1, hW1⟩ : ∃ W, W = w.alloc (.cells #[.int .i64 0, .int .i64 x.cap, .slice A2 x.items.length c2, .slice A3 x.cost.length c3, .int .i64 x.size, .slice A5 x.sets.length c5] 54) := ⟨_, rfl⟩
 rw [← hW1]
 have B1 : Aside0 (Below w.heap.size w W1) := ⟨by rw [hW1]; exact below_alloc (Below.refl _ _) _⟩
 obtain ⟨p1, hp1⟩ : ∃ p, p = w.heap.size := ⟨_, rfl⟩
 have Q1 : Aside0 (W1.heap[p1]? = some (.cells #[.int .i64 0, .int .i64 x.cap, .slice A2 x.items.length c2, .slice A3 x.cost.length c3, .int .i64 x.size, .slice A5 x.sets.length c5] 54 (0, 0))) := ⟨by rw [hW1, hp1]; exact heap_alloc_new _ _⟩
 rw [← hp1]
 clear hW1 hp1
 refine (cells_any W1 x _ (HI.out.below B1.out) hx).mono ?_
 rintro _ W2 ⟨rfl, B2'⟩
 have B2 := Aside0.mk (B1.out.trans (B2'.mono B1.out.size))
 have Q2 : Aside0 (W2.heap[p1]? = some (.cells #[.int .i64 0, .int .i64 x.cap, .slice A2 x.items.length c2, .slice A3 x.cost.length c3, .int .i64 x.size, .slice A5 x.sets.length c5] 54 (0, 0))) := ⟨blk_below Q1.out B2'⟩
 clear B2'
 rw [HZ.out.1, ← HZ.out.2]
 go_upto_region 5 with fail
 obtain ⟨W3, hW3⟩ : ∃ W, W = W2.alloc (.cells #[.func (.func 54) #[] #[], .func (.func 55) #[] #[], .func (.func 56) #[] #[], .func (.func 57) #[] #[]] 116) := ⟨_, rfl⟩
 rw [← hW3]
 have B3 : Aside0 (Below W2.heap.size W2 W3) := ⟨by rw [hW3]; exact below_alloc (Below.refl _ _) _⟩
 obtain ⟨g3, hg3⟩ : ∃ p, p = W2.heap.size := ⟨_, rfl⟩
 have Q3 : Aside0 (W3.heap[g3]? = some (.cells #[.func (.func 54) #[] #[], .func (.func 55) #[] #[], .func (.func 56) #[] #[], .func (.func 57) #[] #[]] 116 (0, 0))) := ⟨by rw [hW3, hg3]; exact heap_alloc_new _ _⟩
 rw [← hg3]
 clear hW3 hg3
 have R3 : Aside0 (W3.heap[p1]? = some (.cells #[.int .i64 0, .int .i64 x.cap, .slice A2 x.items.length c2, .slice A3 x.cost.length c3, .int .i64 x.size, .slice A5 x.sets.length c5] 54 (0, 0))) := ⟨blk_below Q2.out B3.out⟩
 have B4' : Aside0 (Below w.heap.size w W3.drew) := ⟨below_drew (B2.out.trans (B3.out.mono B2.out.size))⟩
 have q0 : W3.drew.cell? ⟨p1, 0, none⟩ = some (.int .i64 0) := (blk_cell R3.out 0).trans rfl
 have q1 : W3.drew.cell? ⟨p1, 1, none⟩ = some (.int .i64 x.cap) := (blk_cell R3.out 1).trans rfl
 have q2 : W3.drew.cell? ⟨p1, 2, none⟩ = some (.slice A2 x.items.length c2) := (blk_cell R3.out 2).trans rfl
 have q3 : W3.drew.cell? ⟨p1, 3, none⟩ = some (.slice A3 x.cost.length c3) := (blk_cell R3.out 3).trans rfl
 have q4 : W3.drew.cell? ⟨p1, 4, none⟩ = some (.int .i64 x.size) := (blk_cell R3.out 4).trans rfl
 have q5 : W3.drew.cell? ⟨p1, 5, none⟩ = some (.slice A5 x.sets.length c5) := (blk_cell R3.out 5).trans rfl
 have q6 : W3.drew.cell? ⟨g3, 0, none⟩ = some (.func (.func 54) #[] #[]) := (blk_cell Q3.out 0).trans rfl
 refine start_ (n := 13) (S := fun w' => w'.cell? ⟨p1, 0, none⟩ = some (.int .i64 0) ∧ w'.cell? ⟨p1, 1, none⟩ = some (.int .i64 x.cap) ∧ w'.cell? ⟨p1, 2, none⟩ = some (.slice A2 x.items.length c2) ∧ w'.cell? ⟨p1, 3, none⟩ = some (.slice A3 x.cost.length c3) ∧ w'.cell? ⟨p1, 4, none⟩ = some (.int .i64 x.size) ∧ w'.cell? ⟨p1, 5, none⟩ = some (.slice A5 x.sets.length c5) ∧ w'.cell? ⟨g3, 0, none⟩ = some (.func (.func 54) #[] #[])) (ds := [5]) #[false, false, false, false, false, false, false, false, false, false, false, false, false] (by kernel_rfl) rfl rfl ⟨q0, q1, q2, q3, q4, q5, q6⟩ (fun hHeld => ?_)
 clear q0 q1 q2 q3 q4 q5 q6
 refine puU 0 (some 22) ?_ rfl rfl (by kernel_rfl) (fun _ _ _ h => h) (Or.inl ⟨by rfl, ?_⟩) ?_ ?_ ?_
 rotate_left
 ·intro w'
  go_simp
  with_reducible rfl
 rotate_left
 ·simp only [Act.put, lsA, lsB, lsC]
  rfl
 refine taU 1 (some 23) ?_ rfl rfl (by kernel_rfl) (fun _ _ _ h => h) (Or.inl ⟨by rfl, ?_⟩) hHeld ?_ ?_ ?_
 rotate_left
 ·rintro w' ⟨s0, s1, s2, s3, s4, s5, s6⟩
  go_simp
  with_reducible rfl
 rotate_left
 ·simp only [Act.put, lsA, lsB, lsC]
  rfl
 refine puU 2 (some 24) ?_ rfl rfl (by kernel_rfl) (fun _ _ _ h => h) (Or.inl ⟨by rfl, ?_⟩) ?_ ?_ ?_
 rotate_left
 ·intro w'
  go_simp
  with_reducible rfl
 rotate_left
 ·simp only [Act.put, lsA, lsB, lsC]
  rfl
 refine taU 3 (some 25) ?_ rfl rfl (by kernel_rfl) (fun _ _ _ h => h) (Or.inl ⟨by rfl, ?_⟩) hHeld ?_ ?_ ?_
 rotate_left
 ·rintro w' ⟨s0, s1, s2, s3, s4, s5, s6⟩
  go_simp
  with_reducible rfl
 rotate_left
 ·simp only [Act.put, lsA, lsB, lsC]
  rfl
 refine taU 4 (some 26) ?_ rfl rfl (by kernel_rfl) (fun _ _ _ h => h) (Or.inl ⟨by rfl, ?_⟩) hHeld ?_ ?_ ?_
 rotate_left
 ·rintro w' ⟨s0, s1, s2, s3, s4, s5, s6⟩
  go_simp
  with_reducible rfl
 rotate_left
 ·simp only [Act.put, lsA, lsB, lsC]
  rfl
 refine last_ (i := 5) (N := some 27) #[true, true, true, true, true, true, false, false, false, false, false, false, false] rfl rfl (by kernel_rfl) (by decide) (fun K hK => ?_)
 have he := enters_ Try.func54 (by kernel_rfl) rfl #[.agg #[.int .i64 0, .int .i64 x.cap, .slice A2 x.items.length c2, .slice A3 x.cost.length c3, .int .i64 x.size, .slice A5 x.sets.length c5]] W3.drew
 refine call_ 54 #[.agg #[.int .i64 0, .int .i64 x.cap, .slice A2 x.items.length c2, .slice A3 x.cost.length c3, .int .i64 x.size, .slice A5 x.sets.length c5]] (by rfl) rfl (by unfold execOp; simp [resolve, Deferred.ofValue, invoke, Act.eval, he]) ?_
 refine (HC.out W3.drew B4'.out).mono ?_
 rintro _ w9 ⟨vr, rfl, H9⟩
 refine ⟨_, rfl, ?_⟩
 refine hK.out _ _ ?_
 clear hK K he
 refine norm_ (a' := ?_) ?_ ?_
 rotate_left
 ·show Act.put _ (some 27) _ = _
  simp only [Act.put, lsA, lsB, lsC]
  rfl
 refine puU 6 (some 21) ?_ rfl rfl (by kernel_rfl) (fun _ _ _ h => h) (Or.inl ⟨by rfl, ?_⟩) ?_ ?_ ?_
 rotate_left
 ·intro w'
  go_simp
  with_reducible rfl
 rotate_left
 ·simp only [Act.put, lsA, lsB, lsC]
  rfl
 refine puU 7 (some 28) ?_ rfl rfl (by kernel_rfl) (fun _ _ _ h => h) (Or.inl ⟨by rfl, ?_⟩) ?_ ?_ ?_
 rotate_left
 ·intro w'
  go_simp
  with_reducible rfl
 rotate_left
 ·simp only [Act.put, lsA, lsB, lsC]
  rfl
 refine puU 8 (some 29) ?_ rfl rfl (by kernel_rfl) (fun _ _ _ h => h) (Or.inl ⟨by rfl, ?_⟩) ?_ ?_ ?_
 rotate_left
 ·intro w'
  go_simp
  with_reducible rfl
 rotate_left
 ·simp only [Act.put, lsA, lsB, lsC]
  rfl
 refine puU 9 (some 30) ?_ rfl rfl (by kernel_rfl) (fun _ _ _ h => h) (Or.inl ⟨by rfl, ?_⟩) ?_ ?_ ?_
 rotate_left
 ·intro w'
  go_simp
  with_reducible rfl
 rotate_left
 ·simp only [Act.put, lsA, lsB, lsC]
  rfl
 refine puU 10 (some 9) ?_ rfl rfl (by kernel_rfl) (fun _ _ _ h => h) (Or.inl ⟨by rfl, ?_⟩) ?_ ?_ ?_
 rotate_left
 ·intro w'
  go_simp
  with_reducible rfl
 rotate_left
 ·simp only [Act.put, lsA, lsB, lsC]
  rfl
 refine puU 11 (some 10) ?_ rfl rfl (by kernel_rfl) (fun _ _ _ h => h) (Or.inl ⟨by rfl, ?_⟩) ?_ ?_ ?_
 rotate_left
 ·intro w'
  go_simp
  with_reducible rfl
 rotate_left
 ·simp only [Act.put, lsA, lsB, lsC]
  rfl
 refine puU 12 (some 11) ?_ rfl rfl (by kernel_rfl) (fun _ _ _ h => h) (Or.inl ⟨by rfl, ?_⟩) ?_ ?_ ?_
 rotate_left
 ·intro w'
  go_simp
  with_reducible rfl
 rotate_left
 ·simp only [Act.put, lsA, lsB, lsC]
  rfl
 refine done_ (by kernel_rfl) ?_
 have BZ : Aside0 (Below w.heap.size w w9) := ⟨B4'.out.trans (H9.out.2.mono B4'.out.size)⟩
 go_wp2_with fail
 refine bodyPost_ret (v := .tuple #[vr, .int .i64 z, .bool b, .int .i64 0]) (by simp [results, Try.results27, go_sem]) rfl ?_
 exact ⟨_, rfl, ⟨_, _, B4'.out, H9.out.1, BZ.out, rfl, BZ.out⟩⟩
set_option maxHeartbeats 1000000 in
set_option maxRecDepth 100000 in
theorem best_call1 (w : World) (x : PI) (v : Value) (h : InstC w x v) (hx : PIok x) (he : (cellsP x).2 = 0) (hk : x.kind = 1) (z : Int) (b : Bool) (Q : Value → World → World → Prop)
  (hc : ∀ W, Below w.heap.size w W → Calls Try.prog 55 #[v] W fun e w' => ∃ vr, e = .returned (.tuple #[vr, .int .i64 z, .bool b]) ∧ Aside0 (Q vr W w' ∧ Below W.heap.size W w')) :
  Calls Try.prog 27 #[v] w fun e w' => ∃ vr, e = .returned (.tuple #[vr, .int .i64 z, .bool b, .int .i64 0]) ∧ Aside0 (∃ W wz, Below w.heap.size w W ∧ Q vr W wz ∧ Below w.heap.size w wz ∧ wz.heap = w'.heap ∧ Below w.heap.size w w') := by
 have HI := Aside0.mk h
 have HC := Aside0.mk hc
 obtain ⟨A2, c2, A3, c3, A5, c5, rfl, h2, l2, h3, l3, h5, l5⟩ := h
 clear h2 h3 h5 hc
 obtain ⟨y, hy⟩ : ∃ z, z = (cellsP x).1 := ⟨_, rfl⟩
 have HZ := Aside0.mk (And.intro he hy)
 rw [hk] at HI HC ⊢
 have HK := Aside0.mk hk
 clear he hy hk
 have hu54 := Try.underlying54
 have hu116 := Try.underlying116
 go_enter Try.func27, Try.ntmps27
 go_wp2_with fail
 obtain ⟨W1, hW1⟩ : ∃ W, W = w.alloc (.cells #[.int .i64 1, .int .i64 x.cap, .slice A2 x.items.length c2, .slice A3 x.cost.length c3, .int .i64 x.size, .slice A5 x.sets.length c5] 54) := ⟨_, rfl⟩
 rw [← hW1]
 have B1 : Aside0 (Below w.heap.size w W1) := ⟨by rw [hW1]; exact below_alloc (Below.refl _ _) _⟩
 obtain ⟨p1, hp1⟩ : ∃ p, p = w.heap.size := ⟨_, rfl⟩
 have Q1 : Aside0 (W1.heap[p1]? = some (.cells #[.int .i64 1, .int .i64 x.cap, .slice A2 x.items.length c2, .slice A3 x.cost.length c3, .int .i64 x.size, .slice A5 x.sets.length c5] 54 (0, 0))) := ⟨by rw [hW1, hp1]; exact heap_alloc_new _ _⟩
 rw [← hp1]
 clear hW1 hp1
 refine (cells_any W1 x _ (HI.out.below B1.out) hx).mono ?_
 rintro _ W2 ⟨rfl, B2'⟩
 have B2 := Aside0.mk (B1.out.trans (B2'.mono B1.out.size))
 have Q2 : Aside0 (W2.heap[p1]? = some (.cells #[.int .i64 1, .int .i64 x.cap, .slice A2 x.items.length c2, .slice A3 x.cost.length c3, .int .i64 x.size, .slice A5 x.sets.length c5] 54 (0, 0))) := ⟨blk_below Q1.out B2'⟩
 clear B2'
 rw [HZ.out.1, ← HZ.out.2]
 go_upto_region 5 with fail
 obtain ⟨W3, hW3⟩ : ∃ W, W = W2.alloc (.cells #[.func (.func 54) #[] #[], .func (.func 55) #[] #[], .func (.func 56) #[] #[], .func (.func 57) #[] #[]] 116) := ⟨_, rfl⟩
 rw [← hW3]
 have B3 : Aside0 (Below W2.heap.size W2 W3) := ⟨by rw [hW3]; exact below_alloc (Below.refl _ _) _⟩
 obtain ⟨g3, hg3⟩ : ∃ p, p = W2.heap.size := ⟨_, rfl⟩
 have Q3 : Aside0 (W3.heap[g3]? = some (.cells #[.func (.func 54) #[] #[], .func (.func 55) #[] #[], .func (.func 56) #[] #[], .func (.func 57) #[] #[]] 116 (0, 0))) := ⟨by rw [hW3, hg3]; exact heap_alloc_new _ _⟩
 rw [← hg3]
 clear hW3 hg3
 have R3 : Aside0 (W3.heap[p1]? = some (.cells #[.int .i64 1, .int .i64 x.cap, .slice A2 x.items.length c2, .slice A3 x.cost.length c3, .int .i64 x.size, .slice A5 x.sets.length c5] 54 (0, 0))) := ⟨blk_below Q2.out B3.out⟩
 have B4' : Aside0 (Below w.heap.size w W3.drew) := ⟨below_drew (B2.out.trans (B3.out.mono B2.out.size))⟩
 have q0 : W3.drew.cell? ⟨p1, 0, none⟩ = some (.int .i64 1) := (blk_cell R3.out 0).trans rfl
 have q1 : W3.drew.cell? ⟨p1, 1, none⟩ = some (.int .i64 x.cap) := (blk_cell R3.out 1).trans rfl
 have q2 : W3.drew.cell? ⟨p1, 2, none⟩ = some (.slice A2 x.items.length c2) := (blk_cell R3.out 2).trans rfl
 have q3 : W3.drew.cell? ⟨p1, 3, none⟩ = some (.slice A3 x.cost.length c3) := (blk_cell R3.out 3).trans rfl
 have q4 : W3.drew.cell? ⟨p1, 4, none⟩ = some (.int .i64 x.size) := (blk_cell R3.out 4).trans rfl
 have q5 : W3.drew.cell? ⟨p1, 5, none⟩ = some (.slice A5 x.sets.length c5) := (blk_cell R3.out 5).trans rfl
 have q6 : W3.drew.cell? ⟨g3, 1, none⟩ = some (.func (.func 55) #[] #[]) := (blk_cell Q3.out 1).trans rfl
 refine start_ (n := 13) (S := fun w' => w'.cell? ⟨p1, 0, none⟩ = some (.int .i64 1) ∧ w'.cell? ⟨p1, 1, none⟩ = some (.int .i64 x.cap) ∧ w'.cell? ⟨p1, 2, none⟩ = some (.slice A2 x.items.length c2) ∧ w'.cell? ⟨p1, 3, none⟩ = some (.slice A3 x.cost.length c3) ∧ w'.cell? ⟨p1, 4, none⟩ = some (.int .i64 x.size) ∧ w'.cell? ⟨p1, 5, none⟩ = some (.slice A5 x.sets.length c5) ∧ w'.cell? ⟨g3, 1, none⟩ = some (.func (.func 55) #[] #[])) (ds := [5]) #[false, false, false, false, false, false, false, false, false, false, false, false, false] (by kernel_rfl) rfl rfl ⟨q0, q1, q2, q3, q4, q5, q6⟩ (fun hHeld => ?_)
 clear q0 q1 q2 q3 q4 q5 q6
 refine puU 0 (some 22) ?_ rfl rfl (by kernel_rfl) (fun _ _ _ h => h) (Or.inl ⟨by rfl, ?_⟩) ?_ ?_ ?_
 rotate_left
 ·intro w'
  go_simp
  with_reducible rfl
 rotate_left
 ·simp only [Act.put, lsA, lsB, lsC]
  rfl
 refine taU 1 (some 23) ?_ rfl rfl (by kernel_rfl) (fun _ _ _ h => h) (Or.inl ⟨by rfl, ?_⟩) hHeld ?_ ?_ ?_
 rotate_left
 ·rintro w' ⟨s0, s1, s2, s3, s4, s5, s6⟩
  go_simp
  with_reducible rfl
 rotate_left
 ·simp only [Act.put, lsA, lsB, lsC]
  rfl
 refine puU 2 (some 24) ?_ rfl rfl (by kernel_rfl) (fun _ _ _ h => h) (Or.inl ⟨by rfl, ?_⟩) ?_ ?_ ?_
 rotate_left
 ·intro w'
  go_simp
  with_reducible rfl
 rotate_left
 ·simp only [Act.put, lsA, lsB, lsC]
  rfl
 refine taU 3 (some 25) ?_ rfl rfl (by kernel_rfl) (fun _ _ _ h => h) (Or.inl ⟨by rfl, ?_⟩) hHeld ?_ ?_ ?_
 rotate_left
 ·rintro w' ⟨s0, s1, s2, s3, s4, s5, s6⟩
  go_simp
  with_reducible rfl
 rotate_left
 ·simp only [Act.put, lsA, lsB, lsC]
  rfl
 refine taU 4 (some 26) ?_ rfl rfl (by kernel_rfl) (fun _ _ _ h => h) (Or.inl ⟨by rfl, ?_⟩) hHeld ?_ ?_ ?_
 rotate_left
 ·rintro w' ⟨s0, s1, s2, s3, s4, s5, s6⟩
  go_simp
  with_reducible rfl
 rotate_left
 ·simp only [Act.put, lsA, lsB, lsC]
  rfl
 refine last_ (i := 5) (N := some 27) #[true, true, true, true, true, true, false, false, false, false, false, false, false] rfl rfl (by kernel_rfl) (by decide) (fun K hK => ?_)
 have he := enters_ Try.func55 (by kernel_rfl) rfl #[.agg #[.int .i64 1, .int .i64 x.cap, .slice A2 x.items.length c2, .slice A3 x.cost.length c3, .int .i64 x.size, .slice A5 x.sets.length c5]] W3.drew
 refine call_ 55 #[.agg #[.int .i64 1, .int .i64 x.cap, .slice A2 x.items.length c2, .slice A3 x.cost.length c3, .int .i64 x.size, .slice A5 x.sets.length c5]] (by rfl) rfl (by unfold execOp; simp [resolve, Deferred.ofValue, invoke, Act.eval, he]) ?_
 refine (HC.out W3.drew B4'.out).mono ?_
 rintro _ w9 ⟨vr, rfl, H9⟩
 refine ⟨_, rfl, ?_⟩
 refine hK.out _ _ ?_
 clear hK K he
 refine norm_ (a' := ?_) ?_ ?_
 rotate_left
 ·show Act.put _ (some 27) _ = _
  simp only [Act.put, lsA, lsB, lsC]
  rfl
 refine puU 6 (some 21) ?_ rfl rfl (by kernel_rfl) (fun _ _ _ h => h) (Or.inl ⟨by rfl, ?_⟩) ?_ ?_ ?_
 rotate_left
 ·intro w'
  go_simp
  with_reducible rfl
 rotate_left
 ·simp only [Act.put, lsA, lsB, lsC]
  rfl
 refine puU 7 (some 28) ?_ rfl rfl (by kernel_rfl) (fun _ _ _ h => h) (Or.inl ⟨by rfl, ?_⟩) ?_ ?_ ?_
 rotate_left
 ·intro w'
  go_simp
  with_reducible rfl
 rotate_left
 ·simp only [Act.put, lsA, lsB, lsC]
  rfl
 refine puU 8 (some 29) ?_ rfl rfl (by kernel_rfl) (fun _ _ _ h => h) (Or.inl ⟨by rfl, ?_⟩) ?_ ?_ ?_
 rotate_left
 ·intro w'
  go_simp
  with_reducible rfl
 rotate_left
 ·simp only [Act.put, lsA, lsB, lsC]
  rfl
 refine puU 9 (some 30) ?_ rfl rfl (by kernel_rfl) (fun _ _ _ h => h) (Or.inl ⟨by rfl, ?_⟩) ?_ ?_ ?_
 rotate_left
 ·intro w'
  go_simp
  with_reducible rfl
 rotate_left
 ·simp only [Act.put, lsA, lsB, lsC]
  rfl
 refine puU 10 (some 9) ?_ rfl rfl (by kernel_rfl) (fun _ _ _ h => h) (Or.inl ⟨by rfl, ?_⟩) ?_ ?_ ?_
 rotate_left
 ·intro w'
  go_simp
  with_reducible rfl
 rotate_left
 ·simp only [Act.put, lsA, lsB, lsC]
  rfl
 refine puU 11 (some 10) ?_ rfl rfl (by kernel_rfl) (fun _ _ _ h => h) (Or.inl ⟨by rfl, ?_⟩) ?_ ?_ ?_
 rotate_left
 ·intro w'
  go_simp
  with_reducible rfl
 rotate_left
 ·simp only [Act.put, lsA, lsB, lsC]
  rfl
 refine puU 12 (some 11) ?_ rfl rfl (by kernel_rfl) (fun _ _ _ h => h) (Or.inl ⟨by rfl, ?_⟩) ?_ ?_ ?_
 rotate_left
 ·intro w'
  go_simp
  with_reducible rfl
 rotate_left
 ·simp only [Act.put, lsA, lsB, lsC]
  rfl
 refine done_ (by kernel_rfl) ?_
 have BZ : Aside0 (Below w.heap.size w w9) := ⟨B4'.out.trans (H9.out.2.mono B4'.out.size)⟩
 go_wp2_with fail
 refine bodyPost_ret (v := .tuple #[vr, .int .i64 z, .bool b, .int .i64 0]) (by simp [results, Try.results27, go_sem]) rfl ?_
 exact ⟨_, rfl, ⟨_, _, B4'.out, H9.out.1, BZ.out, rfl, BZ.out⟩⟩
set_option maxHeartbeats 1000000 in
set_option maxRecDepth 100000 in
theorem best_call2 (w : World) (x : PI) (v : Value) (h : InstC w x v) (hx : PIok x) (he : (cellsP x).2 = 0) (hk : x.kind = 2) (z : Int) (b : Bool) (Q : Value → World → World → Prop)
  (hc : ∀ W, Below w.heap.size w W → Calls Try.prog 56 #[v] W fun e w' => ∃ vr, e = .returned (.tuple #[vr, .int .i64 z, .bool b]) ∧ Aside0 (Q vr W w' ∧ Below W.heap.size W w')) :
  Calls Try.prog 27 #[v] w fun e w' => ∃ vr, e = .returned (.tuple #[vr, .int .i64 z, .bool b, .int .i64 0]) ∧ Aside0 (∃ W wz, Below w.heap.size w W ∧ Q vr W wz ∧ Below w.heap.size w wz ∧ wz.heap = w'.heap ∧ Below w.heap.size w w') := by
 have HI := Aside0.mk h
 have HC := Aside0.mk hc
 obtain ⟨A2, c2, A3, c3, A5, c5, rfl, h2, l2, h3, l3, h5, l5⟩ := h
 clear h2 h3 h5 hc
 obtain ⟨y, hy⟩ : ∃ z, z = (cellsP x).1 := ⟨_, rfl⟩
 have HZ := Aside0.mk (And.intro he hy)
 rw [hk] at HI HC ⊢
 have HK := Aside0.mk hk
 clear he hy hk
 have hu54 := Try.underlying54
 have hu116 := Try.underlying116
 go_enter Try.func27, Try.ntmps27
 go_wp2_with fail
 obtain ⟨W1, hW1⟩ : ∃ W, W = w.alloc (.cells #[.int .i64 2, .int .i64 x.cap, .slice A2 x.items.length c2, .slice A3 x.cost.length c3, .int .i64 x.size, .slice A5 x.sets.length c5] 54) := ⟨_, rfl⟩
 rw [← hW1]
 have B1 : Aside0 (Below w.heap.size w W1) := ⟨by rw [hW1]; exact below_alloc (Below.refl _ _) _⟩
 obtain ⟨p1, hp1⟩ : ∃ p, p = w.heap.size := ⟨_, rfl⟩
 have Q1 : Aside0 (W1.heap[p1]? = some (.cells #[.int .i64 2, .int .i64 x.cap, .slice A2 x.items.length c2, .slice A3 x.cost.length c3, .int .i64 x.size, .slice A5 x.sets.length c5] 54 (0, 0))) := ⟨by rw [hW1, hp1]; exact heap_alloc_new _ _⟩
 rw [← hp1]
 clear hW1 hp1
 refine (cells_any W1 x _ (HI.out.below B1.out) hx).mono ?_
 rintro _ W2 ⟨rfl, B2'⟩
 have B2 := Aside0.mk (B1.out.trans (B2'.mono B1.out.size))
 have Q2 : Aside0 (W2.heap[p1]? = some (.cells #[.int .i64 2, .int .i64 x.cap, .slice A2 x.items.length c2, .slice A3 x.cost.length c3, .int .i64 x.size, .slice A5 x.sets.length c5] 54 (0, 0))) := ⟨blk_below Q1.out B2'⟩
 clear B2'
 rw [HZ.out.1, ← HZ.out.2]
 go_upto_region 5 with fail
 obtain ⟨W3, hW3⟩ : ∃ W, W = W2.alloc (.cells #[.func (.func 54) #[] #[], .func (.func 55) #[] #[], .func (.func 56) #[] #[], .func (.func 57) #[] #[]] 116) := ⟨_, rfl⟩
 rw [← hW3]
 have B3 : Aside0 (Below W2.heap.size W2 W3) := ⟨by rw [hW3]; exact below_alloc (Below.refl _ _) _⟩
 obtain ⟨g3, hg3⟩ : ∃ p, p = W2.heap.size := ⟨_, rfl⟩
 have Q3 : Aside0 (W3.heap[g3]? = some (.cells #[.func (.func 54) #[] #[], .func (.func 55) #[] #[], .func (.func 56) #[] #[], .func (.func 57) #[] #[]] 116 (0, 0))) := ⟨by rw [hW3, hg3]; exact heap_alloc_new _ _⟩
 rw [← hg3]
 clear hW3 hg3
 have R3 : Aside0 (W3.heap[p1]? = some (.cells #[.int .i64 2, .int .i64 x.cap, .slice A2 x.items.length c2, .slice A3 x.cost.length c3, .int .i64 x.size, .slice A5 x.sets.length c5] 54 (0, 0))) := ⟨blk_below Q2.out B3.out⟩
 have B4' : Aside0 (Below w.heap.size w W3.drew) := ⟨below_drew (B2.out.trans (B3.out.mono B2.out.size))⟩
 have q0 : W3.drew.cell? ⟨p1, 0, none⟩ = some (.int .i64 2) := (blk_cell R3.out 0).trans rfl
 have q1 : W3.drew.cell? ⟨p1, 1, none⟩ = some (.int .i64 x.cap) := (blk_cell R3.out 1).trans rfl
 have q2 : W3.drew.cell? ⟨p1, 2, none⟩ = some (.slice A2 x.items.length c2) := (blk_cell R3.out 2).trans rfl
 have q3 : W3.drew.cell? ⟨p1, 3, none⟩ = some (.slice A3 x.cost.length c3) := (blk_cell R3.out 3).trans rfl
 have q4 : W3.drew.cell? ⟨p1, 4, none⟩ = some (.int .i64 x.size) := (blk_cell R3.out 4).trans rfl
 have q5 : W3.drew.cell? ⟨p1, 5, none⟩ = some (.slice A5 x.sets.length c5) := (blk_cell R3.out 5).trans rfl
 have q6 : W3.drew.cell? ⟨g3, 2, none⟩ = some (.func (.func 56) #[] #[]) := (blk_cell Q3.out 2).trans rfl
 refine start_ (n := 13) (S := fun w' => w'.cell? ⟨p1, 0, none⟩ = some (.int .i64 2) ∧ w'.cell? ⟨p1, 1, none⟩ = some (.int .i64 x.cap) ∧ w'.cell? ⟨p1, 2, none⟩ = some (.slice A2 x.items.length c2) ∧ w'.cell? ⟨p1, 3, none⟩ = some (.slice A3 x.cost.length c3) ∧ w'.cell? ⟨p1, 4, none⟩ = some (.int .i64 x.size) ∧ w'.cell? ⟨p1, 5, none⟩ = some (.slice A5 x.sets.length c5) ∧ w'.cell? ⟨g3, 2, none⟩ = some (.func (.func 56) #[] #[])) (ds := [5]) #[false, false, false, false, false, false, false, false, false, false, false, false, false] (by kernel_rfl) rfl rfl ⟨q0, q1, q2, q3, q4, q5, q6⟩ (fun hHeld => ?_)
 clear q0 q1 q2 q3 q4 q5 q6
 refine puU 0 (some 22) ?_ rfl rfl (by kernel_rfl) (fun _ _ _ h => h) (Or.inl ⟨by rfl, ?_⟩) ?_ ?_ ?_
 rotate_left
 ·intro w'
  go_simp
  with_reducible rfl
 rotate_left
 ·simp only [Act.put, lsA, lsB, lsC]
  rfl
 refine taU 1 (some 23) ?_ rfl rfl (by kernel_rfl) (fun _ _ _ h => h) (Or.inl ⟨by rfl, ?_⟩) hHeld ?_ ?_ ?_
 rotate_left
 ·rintro w' ⟨s0, s1, s2, s3, s4, s5, s6⟩
  go_simp
  with_reducible rfl
 rotate_left
 ·simp only [Act.put, lsA, lsB, lsC]
  rfl
 refine puU 2 (some 24) ?_ rfl rfl (by kernel_rfl) (fun _ _ _ h => h) (Or.inl ⟨by rfl, ?_⟩) ?_ ?_ ?_
 rotate_left
 ·intro w'
  go_simp
  with_reducible rfl
 rotate_left
 ·simp only [Act.put, lsA, lsB, lsC]
  rfl
 refine taU 3 (some 25) ?_ rfl rfl (by kernel_rfl) (fun _ _ _ h => h) (Or.inl ⟨by rfl, ?_⟩) hHeld ?_ ?_ ?_
 rotate_left
 ·rintro w' ⟨s0, s1, s2, s3, s4, s5, s6⟩
  go_simp
  with_reducible rfl
 rotate_left
 ·simp only [Act.put, lsA, lsB, lsC]
  rfl
 refine taU 4 (some 26) ?_ rfl rfl (by kernel_rfl) (fun _ _ _ h => h) (Or.inl ⟨by rfl, ?_⟩) hHeld ?_ ?_ ?_
 rotate_left
 ·rintro w' ⟨s0, s1, s2, s3, s4, s5, s6⟩
  go_simp
  with_reducible rfl
 rotate_left
 ·simp only [Act.put, lsA, lsB, lsC]
  rfl
 refine last_ (i := 5) (N := some 27) #[true, true, true, true, true, true, false, false, false, false, false, false, false] rfl rfl (by kernel_rfl) (by decide) (fun K hK => ?_)
 have he := enters_ Try.func56 (by kernel_rfl) rfl #[.agg #[.int .i64 2, .int .i64 x.cap, .slice A2 x.items.length c2, .slice A3 x.cost.length c3, .int .i64 x.size, .slice A5 x.sets.length c5]] W3.drew
 refine call_ 56 #[.agg #[.int .i64 2, .int .i64 x.cap, .slice A2 x.items.length c2, .slice A3 x.cost.length c3, .int .i64 x.size, .slice A5 x.sets.length c5]] (by rfl) rfl (by unfold execOp; simp [resolve, Deferred.ofValue, invoke, Act.eval, he]) ?_
 refine (HC.out W3.drew B4'.out).mono ?_
 rintro _ w9 ⟨vr, rfl, H9⟩
 refine ⟨_, rfl, ?_⟩
 refine hK.out _ _ ?_
 clear hK K he
 refine norm_ (a' := ?_) ?_ ?_
 rotate_left
 ·show Act.put _ (some 27) _ = _
  simp only [Act.put, lsA, lsB, lsC]
  rfl
 refine puU 6 (some 21) ?_ rfl rfl (by kernel_rfl) (fun _ _ _ h => h) (Or.inl ⟨by rfl, ?_⟩) ?_ ?_ ?_
 rotate_left
 ·intro w'
  go_simp
  with_reducible rfl
 rotate_left
 ·simp only [Act.put, lsA, lsB, lsC]
  rfl
 refine puU 7 (some 28) ?_ rfl rfl (by kernel_rfl) (fun _ _ _ h => h) (Or.inl ⟨by rfl, ?_⟩) ?_ ?_ ?_
 rotate_left
 ·intro w'
  go_simp
  with_reducible rfl
 rotate_left
 ·simp only [Act.put, lsA, lsB, lsC]
  rfl
 refine puU 8 (some 29) ?_ rfl rfl (by kernel_rfl) (fun _ _ _ h => h) (Or.inl ⟨by rfl, ?_⟩) ?_ ?_ ?_
 rotate_left
 ·intro w'
  go_simp
  with_reducible rfl
 rotate_left
 ·simp only [Act.put, lsA, lsB, lsC]
  rfl
 refine puU 9 (some 30) ?_ rfl rfl (by kernel_rfl) (fun _ _ _ h => h) (Or.inl ⟨by rfl, ?_⟩) ?_ ?_ ?_
 rotate_left
 ·intro w'
  go_simp
  with_reducible rfl
 rotate_left
 ·simp only [Act.put, lsA, lsB, lsC]
  rfl
 refine puU 10 (some 9) ?_ rfl rfl (by kernel_rfl) (fun _ _ _ h => h) (Or.inl ⟨by rfl, ?_⟩) ?_ ?_ ?_
 rotate_left
 ·intro w'
  go_simp
  with_reducible rfl
 rotate_left
 ·simp only [Act.put, lsA, lsB, lsC]
  rfl
 refine puU 11 (some 10) ?_ rfl rfl (by kernel_rfl) (fun _ _ _ h => h) (Or.inl ⟨by rfl, ?_⟩) ?_ ?_ ?_
 rotate_left
 ·intro w'
  go_simp
  with_reducible rfl
 rotate_left
 ·simp only [Act.put, lsA, lsB, lsC]
  rfl
 refine puU 12 (some 11) ?_ rfl rfl (by kernel_rfl) (fun _ _ _ h => h) (Or.inl ⟨by rfl, ?_⟩) ?_ ?_ ?_
 rotate_left
 ·intro w'
  go_simp
  with_reducible rfl
 rotate_left
 ·simp only [Act.put, lsA, lsB, lsC]
  rfl
 refine done_ (by kernel_rfl) ?_
 have BZ : Aside0 (Below w.heap.size w w9) := ⟨B4'.out.trans (H9.out.2.mono B4'.out.size)⟩
 go_wp2_with fail
 refine bodyPost_ret (v := .tuple #[vr, .int .i64 z, .bool b, .int .i64 0]) (by simp [results, Try.results27, go_sem]) rfl ?_
 exact ⟨_, rfl, ⟨_, _, B4'.out, H9.out.1, BZ.out, rfl, BZ.out⟩⟩
set_option maxHeartbeats 1000000 in
set_option maxRecDepth 100000 in
theorem best_call3 (w : World) (x : PI) (v : Value) (h : InstC w x v) (hx : PIok x) (he : (cellsP x).2 = 0) (hk : x.kind = 3) (z : Int) (b : Bool) (Q : Value → World → World → Prop)
  (hc : ∀ W, Below w.heap.size w W → Calls Try.prog 57 #[v] W fun e w' => ∃ vr, e = .returned (.tuple #[vr, .int .i64 z, .bool b]) ∧ Aside0 (Q vr W w' ∧ Below W.heap.size W w')) :
  Calls Try.prog 27 #[v] w fun e w' => ∃ vr, e = .returned (.tuple #[vr, .int .i64 z, .bool b, .int .i64 0]) ∧ Aside0 (∃ W wz, Below w.heap.size w W ∧ Q vr W wz ∧ Below w.heap.size w wz ∧ wz.heap = w'.heap ∧ Below w.heap.size w w') := by
 have HI := Aside0.mk h
 have HC := Aside0.mk hc
 obtain ⟨A2, c2, A3, c3, A5, c5, rfl, h2, l2, h3, l3, h5, l5⟩ := h
 clear h2 h3 h5 hc
 obtain ⟨y, hy⟩ : ∃ z, z = (cellsP x).1 := ⟨_, rfl⟩
 have HZ := Aside0.mk (And.intro he hy)
 rw [hk] at HI HC ⊢
 have HK := Aside0.mk hk
 clear he hy hk
 have hu54 := Try.underlying54
 have hu116 := Try.underlying116
 go_enter Try.func27, Try.ntmps27
 go_wp2_with fail
 obtain ⟨W1, hW1⟩ : ∃ W, W = w.alloc (.cells #[.int .i64 3, .int .i64 x.cap, .slice A2 x.items.length c2, .slice A3 x.cost.length c3, .int .i64 x.size, .slice A5 x.sets.length c5] 54) := ⟨_, rfl⟩
 rw [← hW1]
 have B1 : Aside0 (Below w.heap.size w W1) := ⟨by rw [hW1]; exact below_alloc (Below.refl _ _) _⟩
 obtain ⟨p1, hp1⟩ : ∃ p, p = w.heap.size := ⟨_, rfl⟩
 have Q1 : Aside0 (W1.heap[p1]? = some (.cells #[.int .i64 3, .int .i64 x.cap, .slice A2 x.items.length c2, .slice A3 x.cost.length c3, .int .i64 x.size, .slice A5 x.sets.length c5] 54 (0, 0))) := ⟨by rw [hW1, hp1]; exact heap_alloc_new _ _⟩
 rw [← hp1]
 clear hW1 hp1
 refine (cells_any W1 x _ (HI.out.below B1.out) hx).mono ?_
 rintro _ W2 ⟨rfl, B2'⟩
 have B2 := Aside0.mk (B1.out.trans (B2'.mono B1.out.size))
 have Q2 : Aside0 (W2.heap[p1]? = some (.cells #[.int .i64 3, .int .i64 x.cap, .slice A2 x.items.length c2, .slice A3 x.cost.length c3, .int .i64 x.size, .slice A5 x.sets.length c5] 54 (0, 0))) := ⟨blk_below Q1.out B2'⟩
 clear B2'
 rw [HZ.out.1, ← HZ.out.2]
 go_upto_region 5 with fail
 obtain ⟨W3, hW3⟩ : ∃ W, W = W2.alloc (.cells #[.func (.func 54) #[] #[], .func (.func 55) #[] #[], .func (.func 56) #[] #[], .func (.func 57) #[] #[]] 116) := ⟨_, rfl⟩
 rw [← hW3]
 have B3 : Aside0 (Below W2.heap.size W2 W3) := ⟨by rw [hW3]; exact below_alloc (Below.refl _ _) _⟩
 obtain ⟨g3, hg3⟩ : ∃ p, p = W2.heap.size := ⟨_, rfl⟩
 have Q3 : Aside0 (W3.heap[g3]? = some (.cells #[.func (.func 54) #[] #[], .func (.func 55) #[] #[], .func (.func 56) #[] #[], .func (.func 57) #[] #[]] 116 (0, 0))) := ⟨by rw [hW3, hg3]; exact heap_alloc_new _ _⟩
 rw [← hg3]
 clear hW3 hg3
 have R3 : Aside0 (W3.heap[p1]? = some (.cells #[.int .i64 3, .int .i64 x.cap, .slice A2 x.items.length c2, .slice A3 x.cost.length c3, .int .i64 x.size, .slice A5 x.sets.length c5] 54 (0, 0))) := ⟨blk_below Q2.out B3.out⟩
 have B4' : Aside0 (Below w.heap.size w W3.drew) := ⟨below_drew (B2.out.trans (B3.out.mono B2.out.size))⟩
 have q0 : W3.drew.cell? ⟨p1, 0, none⟩ = some (.int .i64 3) := (blk_cell R3.out 0).trans rfl
 have q1 : W3.drew.cell? ⟨p1, 1, none⟩ = some (.int .i64 x.cap) := (blk_cell R3.out 1).trans rfl
 have q2 : W3.drew.cell? ⟨p1, 2, none⟩ = some (.slice A2 x.items.length c2) := (blk_cell R3.out 2).trans rfl
 have q3 : W3.drew.cell? ⟨p1, 3, none⟩ = some (.slice A3 x.cost.length c3) := (blk_cell R3.out 3).trans rfl
 have q4 : W3.drew.cell? ⟨p1, 4, none⟩ = some (.int .i64 x.size) := (blk_cell R3.out 4).trans rfl
 have q5 : W3.drew.cell? ⟨p1, 5, none⟩ = some (.slice A5 x.sets.length c5) := (blk_cell R3.out 5).trans rfl
 have q6 : W3.drew.cell? ⟨g3, 3, none⟩ = some (.func (.func 57) #[] #[]) := (blk_cell Q3.out 3).trans rfl
 refine start_ (n := 13) (S := fun w' => w'.cell? ⟨p1, 0, none⟩ = some (.int .i64 3) ∧ w'.cell? ⟨p1, 1, none⟩ = some (.int .i64 x.cap) ∧ w'.cell? ⟨p1, 2, none⟩ = some (.slice A2 x.items.length c2) ∧ w'.cell? ⟨p1, 3, none⟩ = some (.slice A3 x.cost.length c3) ∧ w'.cell? ⟨p1, 4, none⟩ = some (.int .i64 x.size) ∧ w'.cell? ⟨p1, 5, none⟩ = some (.slice A5 x.sets.length c5) ∧ w'.cell? ⟨g3, 3, none⟩ = some (.func (.func 57) #[] #[])) (ds := [5]) #[false, false, false, false, false, false, false, false, false, false, false, false, false] (by kernel_rfl) rfl rfl ⟨q0, q1, q2, q3, q4, q5, q6⟩ (fun hHeld => ?_)
 clear q0 q1 q2 q3 q4 q5 q6
 refine puU 0 (some 22) ?_ rfl rfl (by kernel_rfl) (fun _ _ _ h => h) (Or.inl ⟨by rfl, ?_⟩) ?_ ?_ ?_
 rotate_left
 ·intro w'
  go_simp
  with_reducible rfl
 rotate_left
 ·simp only [Act.put, lsA, lsB, lsC]
  rfl
 refine taU 1 (some 23) ?_ rfl rfl (by kernel_rfl) (fun _ _ _ h => h) (Or.inl ⟨by rfl, ?_⟩) hHeld ?_ ?_ ?_
 rotate_left
 ·rintro w' ⟨s0, s1, s2, s3, s4, s5, s6⟩
  go_simp
  with_reducible rfl
 rotate_left
 ·simp only [Act.put, lsA, lsB, lsC]
  rfl
 refine puU 2 (some 24) ?_ rfl rfl (by kernel_rfl) (fun _ _ _ h => h) (Or.inl ⟨by rfl, ?_⟩) ?_ ?_ ?_
 rotate_left
 ·intro w'
  go_simp
  with_reducible rfl
 rotate_left
 ·simp only [Act.put, lsA, lsB, lsC]
  rfl
 refine taU 3 (some 25) ?_ rfl rfl (by kernel_rfl) (fun _ _ _ h => h) (Or.inl ⟨by rfl, ?_⟩) hHeld ?_ ?_ ?_
 rotate_left
 ·rintro w' ⟨s0, s1, s2, s3, s4, s5, s6⟩
  go_simp
  with_reducible rfl
 rotate_left
 ·simp only [Act.put, lsA, lsB, lsC]
  rfl
 refine taU 4 (some 26) ?_ rfl rfl (by kernel_rfl) (fun _ _ _ h => h) (Or.inl ⟨by rfl, ?_⟩) hHeld ?_ ?_ ?_
 rotate_left
 ·rintro w' ⟨s0, s1, s2, s3, s4, s5, s6⟩
  go_simp
  with_reducible rfl
 rotate_left
 ·simp only [Act.put, lsA, lsB, lsC]
  rfl
 refine last_ (i := 5) (N := some 27) #[true, true, true, true, true, true, false, false, false, false, false, false, false] rfl rfl (by kernel_rfl) (by decide) (fun K hK => ?_)
 have he := enters_ Try.func57 (by kernel_rfl) rfl #[.agg #[.int .i64 3, .int .i64 x.cap, .slice A2 x.items.length c2, .slice A3 x.cost.length c3, .int .i64 x.size, .slice A5 x.sets.length c5]] W3.drew
 refine call_ 57 #[.agg #[.int .i64 3, .int .i64 x.cap, .slice A2 x.items.length c2, .slice A3 x.cost.length c3, .int .i64 x.size, .slice A5 x.sets.length c5]] (by rfl) rfl (by unfold execOp; simp [resolve, Deferred.ofValue, invoke, Act.eval, he]) ?_
 refine (HC.out W3.drew B4'.out).mono ?_
 rintro _ w9 ⟨vr, rfl, H9⟩
 refine ⟨_, rfl, ?_⟩
 refine hK.out _ _ ?_
 clear hK K he
 refine norm_ (a' := ?_) ?_ ?_
 rotate_left
 ·show Act.put _ (some 27) _ = _
  simp only [Act.put, lsA, lsB, lsC]
  rfl
 refine puU 6 (some 21) ?_ rfl rfl (by kernel_rfl) (fun _ _ _ h => h) (Or.inl ⟨by rfl, ?_⟩) ?_ ?_ ?_
 rotate_left
 ·intro w'
  go_simp
  with_reducible rfl
 rotate_left
 ·simp only [Act.put, lsA, lsB, lsC]
  rfl
 refine puU 7 (some 28) ?_ rfl rfl (by kernel_rfl) (fun _ _ _ h => h) (Or.inl ⟨by rfl, ?_⟩) ?_ ?_ ?_
 rotate_left
 ·intro w'
  go_simp
  with_reducible rfl
 rotate_left
 ·simp only [Act.put, lsA, lsB, lsC]
  rfl
 refine puU 8 (some 29) ?_ rfl rfl (by kernel_rfl) (fun _ _ _ h => h) (Or.inl ⟨by rfl, ?_⟩) ?_ ?_ ?_
 rotate_left
 ·intro w'
  go_simp
  with_reducible rfl
 rotate_left
 ·simp only [Act.put, lsA, lsB, lsC]
  rfl
 refine puU 9 (some 30) ?_ rfl rfl (by kernel_rfl) (fun _ _ _ h => h) (Or.inl ⟨by rfl, ?_⟩) ?_ ?_ ?_
 rotate_left
 ·intro w'
  go_simp
  with_reducible rfl
 rotate_left
 ·simp only [Act.put, lsA, lsB, lsC]
  rfl
 refine puU 10 (some 9) ?_ rfl rfl (by kernel_rfl) (fun _ _ _ h => h) (Or.inl ⟨by rfl, ?_⟩) ?_ ?_ ?_
 rotate_left
 ·intro w'
  go_simp
  with_reducible rfl
 rotate_left
 ·simp only [Act.put, lsA, lsB, lsC]
  rfl
 refine puU 11 (some 10) ?_ rfl rfl (by kernel_rfl) (fun _ _ _ h => h) (Or.inl ⟨by rfl, ?_⟩) ?_ ?_ ?_
 rotate_left
 ·intro w'
  go_simp
  with_reducible rfl
 rotate_left
 ·simp only [Act.put, lsA, lsB, lsC]
  rfl
 refine puU 12 (some 11) ?_ rfl rfl (by kernel_rfl) (fun _ _ _ h => h) (Or.inl ⟨by rfl, ?_⟩) ?_ ?_ ?_
 rotate_left
 ·intro w'
  go_simp
  with_reducible rfl
 rotate_left
 ·simp only [Act.put, lsA, lsB, lsC]
  rfl
 refine done_ (by kernel_rfl) ?_
 have BZ : Aside0 (Below w.heap.size w w9) := ⟨B4'.out.trans (H9.out.2.mono B4'.out.size)⟩
 go_wp2_with fail
 refine bodyPost_ret (v := .tuple #[vr, .int .i64 z, .bool b, .int .i64 0]) (by simp [results, Try.results27, go_sem]) rfl ?_
 exact ⟨_, rfl, ⟨_, _, B4'.out, H9.out.1, BZ.out, rfl, BZ.out⟩⟩
theorem best_0 (w : World) (x : PI) (v : Value) (h : InstC w x v) (hx : PIok x) (he : (cellsP x).2 = 0) (hk : x.kind = 0) :
  Calls Try.prog 27 #[v] w fun e w' => ∃ v, e = .returned (.tuple #[v, .int .i64 (-(rowK (roomP x + 1).toNat x.items x.items.length).getD (roomP x).toNat 0), .bool true, .int .i64 0]) ∧ Aside0 ((∃ A n c, v = .slice A n c ∧ (Kd.int .i64).C w' A n (tbk (roomP x + 1).toNat x.items x.items.length (roomP x).toNat).reverse) ∧ Below w.heap.size w w') := by
 refine (best_call0 w x v h hx he hk _ _ (fun vr W w' => (Kd.int .i64).R 3 w' W.heap.size (fun _ => True) vr (tbk (roomP x + 1).toNat x.items x.items.length (roomP x).toNat).reverse) (fun W hb => (knapsack_any W x v (h.below hb) (cells_ok he).1 (room_small he hk)).mono (fun _ _ ⟨vr, e, H⟩ => ⟨vr, e, H⟩))).mono ?_
 rintro _ w' ⟨vr, rfl, ⟨W, wz, b1, hr, b2, e, b3⟩⟩
 refine ⟨vr, rfl, ⟨?_, b3⟩⟩
 obtain ⟨A, c, rfl⟩ := Kd.R_slice hr
 refine ⟨A, _, c, rfl, ?_⟩
 refine (R_C (Kd.R_step hr (fun k _ _ => by rw [e]))).1
end Go.Proofs.Ytelabmhhnpfegaa.Hand
end
