/- Texts Df, cut to what is used. -/
import Derived.Test.YtlilfgfkedlbcaaDoorYa0
import Derived.Test.YtlilfgfkedlbcaaDoorYa2
import Derived.Test.YtlilfgfkedlbcaaDoorYa3
set_option linter.unusedVariables false
set_option linter.unusedSimpArgs false
section
namespace Go.Proofs.YtlilfgfkedlbcaaDoor.Hand
open Go.RowKit Go.Proofs.YtlilfgfkedlbcaaDoorW.PrintWords Go.Proofs.YtlilfgfkedlbcaaDoorW.PrintLast Go.Proofs.YtlilfgfkedlbcaaDoorW.PrintMore Go.Proofs.YtlilfgfkedlbcaaDoor.PEvalBetter
attribute [local go_sem] max2_int min2_int
def InstO (base : Nat) (w : World) (x : PI) (v : Value) : Prop := ∃ A2 n2 c2 A3 n3 c3 A5 n5 c5, v = .agg #[.int .i64 x.kind, .int .i64 x.cap, .slice A2 n2 c2, .slice A3 n3 c3, .int .i64 x.size, .slice A5 n5 c5] ∧
 k55.R 53 w base (fun _ => True) (.slice A2 n2 c2) x.items ∧ (Kd.slice 2 (Kd.int .i64)).R 56 w base (fun _ => True) (.slice A3 n3 c3) x.cost ∧ k59.R 58 w base (fun _ => True) (.slice A5 n5 c5) x.sets
theorem InstO.c {base : Nat} {w : World} {x : PI} {v : Value} (h : InstO base w x v) : InstC w x v := by
 obtain ⟨A2, n2, c2, A3, n3, c3, A5, n5, c5, e, h1, h2, h3⟩ := h
 obtain ⟨r1, e1, l1⟩ := R_C h1
 obtain ⟨r2, e2, l2⟩ := R_C h2
 obtain ⟨r3, e3, l3⟩ := R_C h3
 subst e1
 subst e2
 subst e3
 exact ⟨A2, c2, A3, c3, A5, c5, e, r1, l1, r2, l2, r3, l3⟩
def pos (x : Int) : Int := if 0 < x then x else 0
def kindT (k : Int) : Int := ((k.tmod 4) + 4).tmod 4
structure TameP (most : Nat) (k : Int) (x : PI) : Prop where
 kind : x.kind = kindT k
 cap : 0 ≤ x.cap ∧ x.cap ≤ 2147483648
 items : x.items.length ≤ most ∧ ∀ s ∈ x.items, (0 ≤ s.f0 ∧ s.f0 ≤ 2147483648) ∧ 0 ≤ s.f1 ∧ s.f1 ≤ 2147483648
 size : 0 ≤ x.size ∧ x.size ≤ 8
 sets : x.sets.length ≤ most ∧ ∀ s ∈ x.sets, (0 ≤ s.f0 ∧ s.f0 ≤ 2147483648) ∧ s.f1.Pairwise (· < ·) ∧ ∀ e ∈ s.f1, 0 ≤ e ∧ e < x.size
 cost : x.cost.length ≤ max 1 (most - 1) ∧ ∀ r ∈ x.cost, r.length = x.cost.length ∧ ∀ y ∈ r, -2147483648 ≤ y ∧ y ≤ 2147483648
 diag : x.kind = 2 → ∀ i, i < x.cost.length → (x.cost.getD i []).getD i 0 = 0
 k0 : x.kind = 0 → x.cost = [] ∧ x.sets = [] ∧ x.size = 0
 k3 : x.kind = 3 → x.cost = [] ∧ x.items = [] ∧ x.cap = 0
 k1 : x.kind ≠ 0 → x.kind ≠ 3 → 1 ≤ x.cost.length ∧ x.items = [] ∧ x.sets = [] ∧ x.cap = 0 ∧ x.size = 0
theorem pos_mag (x : Int) : 0 ≤ pos (mag x) ∧ pos (mag x) ≤ 2147483648 := by
 have := mag_bd x
 unfold pos
 split <;> omega
theorem fin_R {α : Type} {d : Kd α} {e base base' N q : Nat} {wr : World} {v : Value} {xs : List α} {cs : Array Value} (h : d.R e wr base (fun k => k < N) v xs) (hb : base' ≤ base) (h2 : wr.heap[q]? = some (.cells cs 26 (0, 0))) (ht : 26 ∉ e :: d.E) (v0 v1 v2 v3 v4 v5 : Value) :
  d.R e ((((((wr.setCell ⟨q, 0, none⟩ v0).setCell ⟨q, 1, none⟩ v1).setCell ⟨q, 2, none⟩ v2).setCell ⟨q, 3, none⟩ v3).setCell ⟨q, 4, none⟩ v4).setCell ⟨q, 5, none⟩ v5) base' (fun _ => True) v xs :=
 Kd.R_mono (Kd.R_lower (base' := base') (R_final h (fun k t cells hq hc => far6 hc (ty_ne hc h2 (fun e' => ht (by rw [← e']; exact hq))) v0 v1 v2 v3 v4 v5)) hb) (fun _ _ => trivial)
theorem fin_B {w wr : World} {q : Nat} (h : Below w.heap.size w wr) (hq : w.heap.size ≤ q) (v0 v1 v2 v3 v4 v5 : Value) :
  Below w.heap.size w ((((((wr.setCell ⟨q, 0, none⟩ v0).setCell ⟨q, 1, none⟩ v1).setCell ⟨q, 2, none⟩ v2).setCell ⟨q, 3, none⟩ v3).setCell ⟨q, 4, none⟩ v4).setCell ⟨q, 5, none⟩ v5) :=
 (((((h.setCell hq _).setCell hq _).setCell hq _).setCell hq _).setCell hq _).setCell hq _
theorem R_IB {W : World} {B n base : Nat} {f : Nat → Int} {ok : Nat → Prop} (h : IB W B 2 n f) (hb : base ≤ B) (hok : ok B) (hn : n ≤ 1000) : (Kd.int .i64).R 2 W base ok (.slice (some ⟨B, 0, none⟩) n n) ((List.range n).map f) := by
 have e : ((List.range n).map f).length = n := by simp
 refine Kd.R_of_own (enc := Value.int .i64) ?_ (fun k hk => ?_)
 ·rw [e]
  refine ⟨by simp [encs], .inr ⟨B, n, tabI n f, rfl, hb, h, Nat.le_refl _, by unfold maxLen; omega, by simp [tabI], ?_⟩⟩
  simp only [tabI, encs, List.map_map]
  rw [List.take_of_length_le (by simp)]
  rfl
 ·have : B = k := by simpa [Value.ownBlock] using hk
  rw [← this]
  exact hok
theorem upd_bd {f : Nat → Int} {n k : Nat} {z : Int} (h : ∀ j, j < n → -2147483648 ≤ f j ∧ f j ≤ 2147483648) (hz : -2147483648 ≤ z ∧ z ≤ 2147483648) : ∀ j, j < n → -2147483648 ≤ upd f k z j ∧ upd f k z j ≤ 2147483648 := fun j hj => by
 unfold upd
 split
 ·exact hz
 ·exact h j hj
theorem at_Int {w : World} {A : Option Addr} {n : Nat} {xs : List Int} (h : (Kd.int .i64).C w A n xs) (k : Nat) (hk : k < n) : ∃ ad, A = some ad ∧ w.cell? (ad.add k) = some (.int .i64 (xs.getD k 0)) := by
 obtain ⟨ad, e, hc⟩ := (Kd.reads_of_C (enc := Value.int .i64) (d := (0 : Int)) h).at_ (k : Int) (by omega) (by omega)
 rw [Int.toNat_natCast] at hc
 exact ⟨ad, e, by rw [hc]; unfold rdOf; rw [Int.toNat_natCast]⟩
theorem getD_snoc {α : Type} {l : List α} {q z : α} {j i : Nat} (hl : l.length = i) (hj : j < i + 1) : (l ++ [q]).getD j z = if j < i then l.getD j z else q := by
 split
 ·rename_i h
  rw [List.getD_eq_getElem?_getD, List.getD_eq_getElem?_getD, List.getElem?_append_left (by omega)]
 ·have e : j = l.length := by omega
  subst e
  simp
theorem getD_map {n : Nat} {f : Nat → Int} {i : Nat} (h : i < n) : ((List.range n).map f).getD i 0 = f i := by
 simp [List.getD_eq_getElem?_getD, h]
theorem mem_rng {n : Nat} {f : Nat → Int} {P : Int → Prop} (h : ∀ j, j < n → P (f j)) : ∀ y ∈ (List.range n).map f, P y := fun y hy => by
 obtain ⟨j, hj, rfl⟩ := List.mem_map.1 hy
 exact h j (List.mem_range.1 hj)
theorem posmod (z : Int) : 0 ≤ (pos z).tmod 9 ∧ (pos z).tmod 9 ≤ 8 := by
 have h0 : 0 ≤ pos z := by unfold pos; split <;> omega
 have h1 := Int.tmod_nonneg 9 h0
 have h2 := Int.tmod_lt_of_pos (pos z) (b := 9) (by omega)
 omega
theorem pw_snoc {xs : List Int} {e : Int} (h : xs.Pairwise (· < ·)) (hb : ∀ y ∈ xs, 0 ≤ y ∧ y < e) (h0 : 0 ≤ e) : (xs ++ [e]).Pairwise (· < ·) ∧ ∀ y ∈ xs ++ [e], 0 ≤ y ∧ y < e + 1 :=
 ⟨List.pairwise_append.2 ⟨h, List.pairwise_singleton _ _, fun a ha b hb' => by
  have e' : b = e := by simpa using hb'
  have := hb a ha
  omega⟩, fun y hy => (List.mem_append.1 hy).elim (fun h => by have := hb y h; omega) (fun h => by
  have e' : y = e := by simpa using h
  omega)⟩
theorem infoR99 : (Tryd.prog.info? 58).map (fun i => (i.zero, i.size, i.bytes)) = some (some (.agg #[.int .i64 0, .slice none 0 0]), 2, 32) := by kernel_rfl
set_option maxHeartbeats 4000000 in
set_option maxRecDepth 100000 in
theorem tame_any (w : World) (x : PI) (v : Value) (most : Nat) (h : InstC w x v) (hx : PIok x) (hm : 1 ≤ most) (hm2 : most ≤ 64) : Calls Tryd.prog 6 #[v, .int .i64 most] w fun e w' => ∃ va, e = .returned va ∧ Aside0 (∃ x', InstO w.heap.size w' x' va ∧ TameP most x.kind x' ∧ Below w.heap.size w w') := by
 obtain ⟨A2, c2, A3, c3, A5, c5, rfl, h2, l2, h3, l3, h5, l5⟩ := h
 obtain ⟨n2, hn2⟩ : ∃ n, n = x.items.length := ⟨_, rfl⟩
 obtain ⟨n3, hn3⟩ : ∃ n, n = x.cost.length := ⟨_, rfl⟩
 obtain ⟨n5, hn5⟩ : ∃ n, n = x.sets.length := ⟨_, rfl⟩
 obtain ⟨kd, hkd⟩ : ∃ n, n = x.kind := ⟨_, rfl⟩
 obtain ⟨cap, hcap⟩ : ∃ n, n = x.cap := ⟨_, rfl⟩
 obtain ⟨sz, hsz⟩ : ∃ n, n = x.size := ⟨_, rfl⟩
 have b2 := hx.items
 have b3 := hx.cost
 have b5 := hx.sets
 rw [← hn2] at h2 l2 b2 ⊢
 rw [← hn3] at h3 l3 b3 ⊢
 rw [← hn5] at h5 l5 b5 ⊢
 rw [← hkd, ← hcap, ← hsz]
 have HF := Aside0.mk (And.intro hkd (And.intro hcap hsz))
 have HN2 := Aside0.mk hn2
 have HN3 := Aside0.mk hn3
 have HN5 := Aside0.mk hn5
 have H2 := Aside0.mk h2
 have H3 := Aside0.mk h3
 have H5 := Aside0.mk h5
 have HX := Aside0.mk hx
 clear hkd hcap hsz hn2 hn3 hn5 h2 h3 h5 hx
 have hu22 := Tryd.underlying23
 have hu29 := Tryd.underlying27
 have hu30 := Tryd.underlying56
 have hu44 := Tryd.underlying22
 have hu45 := Tryd.underlying24
 have hu47 := Tryd.underlying26
 have hu68 := Tryd.underlying53
 have hu99 := Tryd.underlying58
 have HK : (kd.tmod 4 + 4).tmod 4 = kindT kd := rfl
 have hwr : wrap64 (kd.tmod 4 + 4) = kd.tmod 4 + 4 := by
  have h1 := Int.tmod_lt_of_pos kd (b := 4) (by omega)
  have h2 := Int.lt_tmod_of_pos kd (b := 4) (by omega)
  unfold wrap64
  omega
 have hKb : 0 ≤ kindT kd ∧ kindT kd ≤ 3 := by
  unfold kindT
  have h1 := Int.lt_tmod_of_pos kd (b := 4) (by omega)
  have h2 := Int.tmod_lt_of_pos (kd.tmod 4 + 4) (b := 4) (by omega)
  have h3 := Int.tmod_nonneg (a := kd.tmod 4 + 4) 4 (by omega)
  omega
 obtain ⟨K, hK⟩ : ∃ K, K = kindT kd := ⟨_, rfl⟩
 rw [← hK] at HK hKb
 have HKK := Aside0.mk hK
 clear hK
 obtain ⟨m2, hm2'⟩ : ∃ m, m = min n2 most := ⟨_, rfl⟩
 obtain ⟨m5, hm5'⟩ : ∃ m, m = min n5 most := ⟨_, rfl⟩
 have e2 : (if most < n2 then (most : Int) else (n2 : Int)) = (m2 : Int) := by split <;> omega
 have e5 : (if most < n5 then (most : Int) else (n5 : Int)) = (m5 : Int) := by split <;> omega
 have k2 : m2 ≤ c2 := by omega
 have k5 : m5 ≤ c5 := by omega
 have HM2 := Aside0.mk hm2'
 have HM5 := Aside0.mk hm5'
 clear hm2' hm5'
 by_cases hK0 : K = 0
 ·have hb0 : (K == 0) = true := by simpa using hK0
  go_enter Tryd.func6, Tryd.ntmps6
  go_wp2_with fail
  refine (mag_any cap _).mono ?_
  rintro _ _ ⟨rfl, rfl⟩
  have eC : (if 0 < mag cap then mag cap else 0) = pos (mag cap) := rfl
  go_wp2_with fail
  clear eC e5 k5
  obtain ⟨M, hM⟩ : ∃ M, M = pos (mag cap) := ⟨_, rfl⟩
  rw [← hM]
  have MB : Aside0 (0 ≤ M ∧ M ≤ 2147483648) := ⟨by rw [hM]; exact pos_mag cap⟩
  clear hM
  obtain ⟨W6, hW6⟩ : ∃ W, W = ((w.alloc (.cells #[.int .i64 kd, .int .i64 cap, .slice A2 n2 c2, .slice A3 n3 c3, .int .i64 sz, .slice A5 n5 c5] 26)).alloc (.cells #[.int .i64 0, .int .i64 0, .slice none 0 0, .slice none 0 0, .int .i64 0, .slice none 0 0] 26)).alloc (.cells #[.int .i64 0, .int .i64 M, .slice none 0 0, .slice none 0 0, .int .i64 0, .slice none 0 0] 26) := ⟨_, rfl⟩
  rw [← hW6]
  obtain ⟨p1, hp1⟩ : ∃ p, p = w.heap.size := ⟨_, rfl⟩
  rw [← hp1]
  have B6 : Aside0 (Below w.heap.size w W6) := ⟨by rw [hW6]; exact below_alloc (below_alloc (below_alloc (Below.refl _ _) _) _) _⟩
  have Q1 : Aside0 (W6.heap[p1]? = some (.cells #[.int .i64 kd, .int .i64 cap, .slice A2 n2 c2, .slice A3 n3 c3, .int .i64 sz, .slice A5 n5 c5] 26 (0, 0))) := ⟨by rw [hW6, hp1]; simp only [al_get, al_size]; repeat (first | rw [if_pos trivial] | rw [if_neg (by omega)])⟩
  have Q2 : Aside0 (W6.heap[p1 + 1]? = some (.cells #[.int .i64 0, .int .i64 0, .slice none 0 0, .slice none 0 0, .int .i64 0, .slice none 0 0] 26 (0, 0))) := ⟨by rw [hW6, hp1]; simp only [al_get, al_size]; repeat (first | rw [if_pos trivial] | rw [if_neg (by omega)])⟩
  have Q3 : Aside0 (W6.heap[p1 + 1 + 1]? = some (.cells #[.int .i64 0, .int .i64 M, .slice none 0 0, .slice none 0 0, .int .i64 0, .slice none 0 0] 26 (0, 0))) := ⟨by rw [hW6, hp1]; simp only [al_get, al_size]; repeat (first | rw [if_pos trivial] | rw [if_neg (by omega)])⟩
  have Z6 : Aside0 (W6.heap.size = p1 + 3) := ⟨by rw [hW6, hp1]; simp only [al_size]⟩
  obtain ⟨p6, hp6⟩ : ∃ p, p = p1 + 1 + 1 := ⟨_, rfl⟩
  rw [← hp6] at Q3 ⊢
  have HP := Aside0.mk (And.intro hp1 hp6)
  clear hW6 hp1 hp6
  have K0 : Aside0 (∃ A c l, R1 k55 53 w W6 p6 26 #[.int .i64 0, .int .i64 M, .slice A 0 c, .slice none 0 0, .int .i64 0, .slice none 0 0] W6.heap.size W6 (.slice A 0 c) l ∧ l.length = 0 ∧ ∀ s ∈ l, (0 ≤ s.f0 ∧ s.f0 ≤ 2147483648) ∧ 0 ≤ s.f1 ∧ s.f1 ≤ 2147483648) := ⟨none, 0, [], R1.start _ _ Q3.out B6.out, rfl, by simp⟩
  go_loopw [108] (fun v wr => ∃ i : Nat, i ≤ m2 ∧ v = .int .i64 i ∧ Aside0 (∃ A c l, R1 k55 53 w W6 p6 26 #[.int .i64 0, .int .i64 M, .slice A i c, .slice none 0 0, .int .i64 0, .slice none 0 0] wr.heap.size wr (.slice A i c) l ∧ l.length = i ∧ ∀ s ∈ l, (0 ≤ s.f0 ∧ s.f0 ≤ 2147483648) ∧ 0 ≤ s.f1 ∧ s.f1 ≤ 2147483648)) (fun v _ => m2 - (intOf v).toNat)
  case atStart => exact ⟨0, Nat.zero_le _, rfl, K0⟩
  case round =>
   clear K0
   obtain ⟨i, hi, rfl, ⟨A, c, l, K1, K2, K3⟩⟩ := hrel
   have KK := Aside0.mk K1
   have KB := Aside0.mk (And.intro K2 K3)
   clear K1 K2 K3
   by_cases hlt : i < m2
   ·obtain ⟨ad, rfl, a0, a1⟩ := at_T55 (Kd.C_below H2.out KK.out.bw) (i : Int) (by omega) (by have := HN2.out; have := HM2.out; omega)
    rw [Int.toNat_natCast] at a0 a1
    obtain ⟨s, hs⟩ : ∃ s, s = rd_T55 x.items (i : Int) := ⟨_, rfl⟩
    rw [← hs] at a0 a1
    clear hs
    go_upto_region 22 with fail
    obtain ⟨V, hV⟩ : ∃ V, V = wr.alloc (.cells #[.int .i64 s.f0, .int .i64 s.f1] 53) := ⟨_, rfl⟩
    rw [← hV]
    have K1 : Aside0 (R1 k55 53 w W6 p6 26 #[.int .i64 0, .int .i64 M, .slice A i c, .slice none 0 0, .int .i64 0, .slice none 0 0] wr.heap.size V (.slice A i c) l) := ⟨by rw [hV]; exact KK.out.new (below_alloc (Below.refl _ _) _)⟩
    have X7 : Aside0 (V.heap[wr.heap.size]? = some (.cells #[.int .i64 s.f0, .int .i64 s.f1] 53 (0, 0))) := ⟨by rw [hV]; exact heap_alloc_new _ _⟩
    clear hV a0 a1
    have q0 : V.drew.cell? ⟨p6, 2, none⟩ = some (.slice A i c) := (blk_cell K1.out.hp 2).trans rfl
    have q1 : V.drew.cell? ⟨wr.heap.size, 0, none⟩ = some (.int .i64 s.f0) := (blk_cell X7.out 0).trans rfl
    have q2 : V.drew.cell? ⟨wr.heap.size, 1, none⟩ = some (.int .i64 s.f1) := (blk_cell X7.out 1).trans rfl
    obtain ⟨u0, hu0⟩ : ∃ z, z = pos (mag s.f0) := ⟨_, rfl⟩
    obtain ⟨u1, hu1⟩ : ∃ z, z = pos (mag s.f1) := ⟨_, rfl⟩
    have U0 : Aside0 ((0 ≤ u0 ∧ u0 ≤ 2147483648) ∧ 0 ≤ u1 ∧ u1 ≤ 2147483648) := ⟨by rw [hu0, hu1]; exact ⟨pos_mag _, pos_mag _⟩⟩
    have v0 : (if 0 < mag s.f0 then mag s.f0 else 0) = u0 := by rw [hu0]; rfl
    have v1 : (if 0 < mag s.f1 then mag s.f1 else 0) = u1 := by rw [hu1]; rfl
    clear hu0 hu1
    refine start_ (n := 17) (S := fun w' => w'.cell? ⟨p6, 2, none⟩ = some (.slice A i c) ∧ w'.cell? ⟨wr.heap.size, 0, none⟩ = some (.int .i64 s.f0) ∧ w'.cell? ⟨wr.heap.size, 1, none⟩ = some (.int .i64 s.f1)) (ds := [16]) #[false, false, false, false, false, false, false, false, false, false, false, false, false, false, false, false, false] (by kernel_rfl) rfl rfl ⟨q0, q1, q2⟩ (fun hHeld => ?_)
    clear q0 q1 q2
    refine puU 0 (some 112) ?_ rfl rfl (by kernel_rfl) (fun _ _ _ h => h) (Or.inl ⟨by rfl, ?_⟩) ?_ ?_ ?_
    rotate_left
    ·intro w'
     go_simp
     with_reducible rfl
    rotate_left
    ·simp only [Act.put, lsA, lsB, lsC]
     rfl
    refine taU 1 (some 113) ?_ rfl rfl (by kernel_rfl) (fun _ _ _ h => h) (Or.inl ⟨by rfl, ?_⟩) hHeld ?_ ?_ ?_
    rotate_left
    ·rintro w' ⟨s0, s1, s2⟩
     go_simp
     with_reducible rfl
    rotate_left
    ·simp only [Act.put, lsA, lsB, lsC]
     rfl
    refine puU 2 (some 114) ?_ rfl rfl (by kernel_rfl) (fun _ _ _ h => h) (Or.inl ⟨by rfl, ?_⟩) ?_ ?_ ?_
    rotate_left
    ·intro w'
     go_simp
     with_reducible rfl
    rotate_left
    ·simp only [Act.put, lsA, lsB, lsC]
     rfl
    refine puU 3 (some 115) ?_ rfl rfl (by kernel_rfl) (fun _ _ _ h => h) (Or.inl ⟨by rfl, ?_⟩) ?_ ?_ ?_
    rotate_left
    ·intro w'
     go_simp
     with_reducible rfl
    rotate_left
    ·simp only [Act.put, lsA, lsB, lsC]
     rfl
    refine taU 4 (some 116) ?_ rfl rfl (by kernel_rfl) (fun _ _ _ h => h) (Or.inl ⟨by rfl, ?_⟩) hHeld ?_ ?_ ?_
    rotate_left
    ·rintro w' ⟨s0, s1, s2⟩
     go_simp
     with_reducible rfl
    rotate_left
    ·simp only [Act.put, lsA, lsB, lsC]
     rfl
    refine puU 7 (some 119) ?_ rfl rfl (by kernel_rfl) (fun _ _ _ h => h) (Or.inl ⟨by rfl, ?_⟩) ?_ ?_ ?_
    rotate_left
    ·intro w'
     go_simp
     with_reducible rfl
    rotate_left
    ·simp only [Act.put, lsA, lsB, lsC]
     rfl
    refine puU 8 (some 120) ?_ rfl rfl (by kernel_rfl) (fun _ _ _ h => h) (Or.inl ⟨by rfl, ?_⟩) ?_ ?_ ?_
    rotate_left
    ·intro w'
     go_simp
     with_reducible rfl
    rotate_left
    ·simp only [Act.put, lsA, lsB, lsC]
     rfl
    refine taU 9 (some 121) ?_ rfl rfl (by kernel_rfl) (fun _ _ _ h => h) (Or.inl ⟨by rfl, ?_⟩) hHeld ?_ ?_ ?_
    rotate_left
    ·rintro w' ⟨s0, s1, s2⟩
     go_simp
     with_reducible rfl
    rotate_left
    ·simp only [Act.put, lsA, lsB, lsC]
     rfl
    refine one_ (i := 5) (N := some 117) #[true, true, true, true, true, true, false, true, true, true, false, false, false, false, false, false, false] rfl rfl (by kernel_rfl) (by decide) (fun K hK => ?_)
    refine call_ 16 #[.int .i64 (s.f0)] (by rfl) rfl ?_ ?_
    ·go_simp
    refine (mag_any (s.f0) _).mono ?_
    rintro _ _ ⟨rfl, rfl⟩
    refine ⟨_, rfl, ?_⟩
    refine hK.out _ _ ⟨(blk_cell K1.out.hp 2).trans rfl, (blk_cell X7.out 0).trans rfl, (blk_cell X7.out 1).trans rfl⟩ (fun hHeld => ?_)
    clear hK hHeld K
    refine norm_ (a' := ?_) ?_ ?_
    rotate_left
    ·show Act.put _ (some 117) _ = _
     simp only [Act.put, lsA, lsB, lsC]
     rfl
    refine puU 6 (some 118) ?_ rfl rfl (by kernel_rfl) (fun _ _ _ h => h) (Or.inl ⟨by rfl, ?_⟩) ?_ ?_ ?_
    rotate_left
    ·intro w'
     go_simp
     with_reducible rfl
    rotate_left
    ·simp only [Act.put, lsA, lsB, lsC]
     rfl
    refine one_ (i := 10) (N := some 122) #[true, true, true, true, true, true, true, true, true, true, true, false, false, false, false, false, false] rfl rfl (by kernel_rfl) (by decide) (fun K hK => ?_)
    refine call_ 16 #[.int .i64 (s.f1)] (by rfl) rfl ?_ ?_
    ·go_simp
    refine (mag_any (s.f1) _).mono ?_
    rintro _ _ ⟨rfl, rfl⟩
    refine ⟨_, rfl, ?_⟩
    refine hK.out _ _ ⟨(blk_cell K1.out.hp 2).trans rfl, (blk_cell X7.out 0).trans rfl, (blk_cell X7.out 1).trans rfl⟩ (fun hHeld => ?_)
    clear hK hHeld K
    refine norm_ (a' := ?_) ?_ ?_
    rotate_left
    ·show Act.put _ (some 122) _ = _
     simp only [Act.put, lsA, lsB, lsC]
     rfl
    refine puU 11 (some 123) ?_ rfl rfl (by kernel_rfl) (fun _ _ _ h => h) (Or.inl ⟨by rfl, ?_⟩) ?_ ?_ ?_
    rotate_left
    ·intro w'
     go_simp
     with_reducible rfl
    rotate_left
    ·simp only [Act.put, lsA, lsB, lsC]
     rfl
    refine puU 12 (some 124) ?_ rfl rfl (by kernel_rfl) (fun _ _ _ h => h) (Or.inl ⟨by rfl, ?_⟩) ?_ ?_ ?_
    rotate_left
    ·intro w'
     go_simp
     with_reducible rfl
    rotate_left
    ·simp only [Act.put, lsA, lsB, lsC]
     rfl
    refine one_ (i := 13) (N := some 125) #[true, true, true, true, true, true, true, true, true, true, true, true, true, true, false, false, false] rfl rfl (by kernel_rfl) (by decide) (fun K hK => ?_)
    refine value_ (v := .slice (some ⟨V.heap.size, 0, none⟩) 1 1) (w1 := V.drew.alloc (.cells #[.int .i64 u0, .int .i64 u1] 53)) (by rfl) rfl ?_ ?_
    ·go_simp
    refine hK.out _ _ ⟨(blk_cell (blk_alloc K1.out.drew.hp _) 2).trans rfl, (blk_cell (blk_alloc (w := V.drew) X7.out _) 0).trans rfl, (blk_cell (blk_alloc (w := V.drew) X7.out _) 1).trans rfl⟩ (fun hHeld => ?_)
    clear hK hHeld K
    refine norm_ (a' := ?_) ?_ ?_
    rotate_left
    ·show Act.put _ (some 125) _ = _
     simp only [Act.put, lsA, lsB, lsC]
     rfl
    refine one_ (i := 14) (N := some 126) #[true, true, true, true, true, true, true, true, true, true, true, true, true, true, true, false, false] rfl rfl (by kernel_rfl) (by decide) (fun K hK => ?_)
    refine R1.app K1.out.drew (by decide) (by rfl) _ _ 22 (.agg #[.int .i64 0, .int .i64 0]) 16 (by rfl) Tryd.underlying22 info53 (by rfl) (by decide) (by omega) ⟨u0, u1⟩ [.int .i64 u0, .int .i64 u1] (by rfl) (by rfl) (k55_mkM _ _ _ ⟨u0, u1⟩) (by have := KB.out.1; have := HM2.out; omega) ?_
    rintro _ w5 K5 ⟨A7, c7, rfl⟩ hk
    have K5 := Aside0.mk K5
    have X8 : Aside0 (w5.heap[wr.heap.size]? = some (.cells #[.int .i64 s.f0, .int .i64 s.f1] 53 (0, 0))) := ⟨(hk _ (Nat.le_refl _) (blk_lt X7.out)).trans X7.out⟩
    clear hk
    refine hK.out _ _ ⟨(blk_cell K5.out.hp 2).trans rfl, (blk_cell X8.out 0).trans rfl, (blk_cell X8.out 1).trans rfl⟩ (fun hHeld => ?_)
    clear hK hHeld K
    refine norm_ (a' := ?_) ?_ ?_
    rotate_left
    ·show Act.put _ (some 126) _ = _
     simp only [Act.put, lsA, lsB, lsC]
     rfl
    clear X7 X8
    refine puU 15 (some 127) ?_ rfl rfl (by kernel_rfl) (fun _ _ _ h => h) (Or.inl ⟨by rfl, ?_⟩) ?_ ?_ ?_
    rotate_left
    ·intro w'
     go_simp
     with_reducible rfl
    rotate_left
    ·simp only [Act.put, lsA, lsB, lsC]
     rfl
    refine last_ (i := 16) (N := none) #[true, true, true, true, true, true, true, true, true, true, true, true, true, true, true, true, true] rfl rfl (by kernel_rfl) (by decide) (fun K hK => ?_)
    have h0 := (blk_cell K5.out.hp 2).trans rfl
    have h1 := blk_frozen K5.out.hp 2
    refine skip_ (w1 := ?_) (by rfl) rfl ?_ ?_
    rotate_left
    ·go_simp
     rfl
    refine hK.out _ _ ?_
    clear hK K h0 h1
    refine done_ (by kernel_rfl) ?_
    clear hHeld v0 v1
    have K9 := Aside0.mk (K5.out.put (by have := HP.out; omega) (by decide) 2 _ (cs' := #[.int .i64 0, .int .i64 M, .slice A7 (l.length + 1) c7, .slice none 0 0, .int .i64 0, .slice none 0 0]) rfl).le
    have hll := KB.out.1
    rw [hll] at K9 ⊢
    have NB : Aside0 ((l ++ [(⟨u0, u1⟩ : S55)]).length = i + 1 ∧ ∀ s ∈ l ++ [(⟨u0, u1⟩ : S55)], (0 ≤ s.f0 ∧ s.f0 ≤ 2147483648) ∧ 0 ≤ s.f1 ∧ s.f1 ≤ 2147483648) := ⟨by rw [List.length_append, hll]; rfl, fun s hs => (List.mem_append.1 hs).elim (KB.out.2 s) (fun h => by
     have e : s = ⟨u0, u1⟩ := by simpa using h
     rw [e]
     exact U0.out)⟩
    clear hll
    go_wp2_with fail
    go_roundw
    case measure => simp [intOf]; omega
    case rel => exact ⟨i + 1, by omega, by go_num, ⟨_, _, _, K9.out, NB.out⟩⟩
   ·obtain rfl : m2 = i := by omega
    clear hlt hi
    have E6 := Aside0.mk KK.out.hp
    have E2 : Aside0 (wr.heap[p1 + 1]? = some (.cells #[.int .i64 0, .int .i64 0, .slice none 0 0, .slice none 0 0, .int .i64 0, .slice none 0 0] 26 (0, 0))) := ⟨KK.out.c.blk Q2.out (by have := HP.out; omega)⟩
    have r0 : wr.cell? ⟨p6, 0, none⟩ = some (.int .i64 0) := (blk_cell E6.out 0).trans rfl
    have r1 : wr.cell? ⟨p6, 1, none⟩ = some (.int .i64 M) := (blk_cell E6.out 1).trans rfl
    have r2 : wr.cell? ⟨p6, 2, none⟩ = some (.slice A m2 c) := (blk_cell E6.out 2).trans rfl
    have r3 : wr.cell? ⟨p6, 3, none⟩ = some (.slice none 0 0) := (blk_cell E6.out 3).trans rfl
    have r4 : wr.cell? ⟨p6, 4, none⟩ = some (.int .i64 0) := (blk_cell E6.out 4).trans rfl
    have r5 : wr.cell? ⟨p6, 5, none⟩ = some (.slice none 0 0) := (blk_cell E6.out 5).trans rfl
    have h0 : wr.cell? ⟨p1 + 1, 0, none⟩ = some (.int .i64 0) := (blk_cell E2.out 0).trans rfl
    have h1 : wr.cell? ⟨p1 + 1, 1, none⟩ = some (.int .i64 0) := (blk_cell E2.out 1).trans rfl
    have h2 : wr.cell? ⟨p1 + 1, 2, none⟩ = some (.slice none 0 0) := (blk_cell E2.out 2).trans rfl
    have h3 : wr.cell? ⟨p1 + 1, 3, none⟩ = some (.slice none 0 0) := (blk_cell E2.out 3).trans rfl
    have h4 : wr.cell? ⟨p1 + 1, 4, none⟩ = some (.int .i64 0) := (blk_cell E2.out 4).trans rfl
    have h5 : wr.cell? ⟨p1 + 1, 5, none⟩ = some (.slice none 0 0) := (blk_cell E2.out 5).trans rfl
    have hz : ∀ j, wr.frozen? ⟨p1 + 1, j, none⟩ = false := blk_frozen E2.out
    go_upto_region 42 with fail
    go_wp2_with fail
    clear r0 r1 r2 r3 r4 r5 h0 h1 h2 h3 h4 h5 hz
    obtain ⟨Wz, hWz⟩ : ∃ W, W = ((((((wr).setCell ⟨p1 + 1, 0, none⟩ (.int .i64 0)).setCell ⟨p1 + 1, 1, none⟩ (.int .i64 M)).setCell ⟨p1 + 1, 2, none⟩ (.slice A m2 c)).setCell ⟨p1 + 1, 3, none⟩ (.slice none 0 0)).setCell ⟨p1 + 1, 4, none⟩ (.int .i64 0)).setCell ⟨p1 + 1, 5, none⟩ (.slice none 0 0) := ⟨_, rfl⟩
    rw [← hWz]
    have HWz := Aside0.mk hWz
    clear hWz
    have EZ : Aside0 (Wz.heap[p1 + 1]? = some (.cells #[.int .i64 0, .int .i64 M, .slice A m2 c, .slice none 0 0, .int .i64 0, .slice none 0 0] 26 (0, 0))) := ⟨by rw [HWz.out]; exact put6 E2.out (.int .i64 0) (.int .i64 M) (.slice A m2 c) (.slice none 0 0) (.int .i64 0) (.slice none 0 0)⟩
    have r0 : Wz.cell? ⟨p1 + 1, 0, none⟩ = some (.int .i64 0) := (blk_cell EZ.out 0).trans rfl
    have r1 : Wz.cell? ⟨p1 + 1, 1, none⟩ = some (.int .i64 M) := (blk_cell EZ.out 1).trans rfl
    have r2 : Wz.cell? ⟨p1 + 1, 2, none⟩ = some (.slice A m2 c) := (blk_cell EZ.out 2).trans rfl
    have r3 : Wz.cell? ⟨p1 + 1, 3, none⟩ = some (.slice none 0 0) := (blk_cell EZ.out 3).trans rfl
    have r4 : Wz.cell? ⟨p1 + 1, 4, none⟩ = some (.int .i64 0) := (blk_cell EZ.out 4).trans rfl
    have r5 : Wz.cell? ⟨p1 + 1, 5, none⟩ = some (.slice none 0 0) := (blk_cell EZ.out 5).trans rfl
    refine bodyPost_ret (v := .agg #[.int .i64 0, .int .i64 M, .slice A m2 c, .slice none 0 0, .int .i64 0, .slice none 0 0]) (by simp [results, Tryd.results6, go_sem, r0, r1, r2, r3, r4, r5]) rfl ?_
    clear r0 r1 r2 r3 r4 r5
    rw [HWz.out]
    have hb : w.heap.size ≤ W6.heap.size := KK.out.ww
    refine ⟨_, rfl, ⟨(⟨0, M, l, [], 0, []⟩ : PI), ⟨_, _, _, _, _, _, _, _, _, rfl, fin_R KK.out.r hb E2.out (by decide) (.int .i64 0) (.int .i64 M) (.slice A m2 c) (.slice none 0 0) (.int .i64 0) (.slice none 0 0), Kd.R_nil _ _ _ _ _, Kd.R_nil _ _ _ _ _⟩, ?_, fin_B KK.out.bw (by have := HP.out; omega) (.int .i64 0) (.int .i64 M) (.slice A m2 c) (.slice none 0 0) (.int .i64 0) (.slice none 0 0)⟩⟩
    exact ⟨hK0.symm.trans HKK.out, MB.out, ⟨by have h1 := KB.out.1; have h2 := HM2.out; show l.length ≤ most; omega, KB.out.2⟩, by show (0:Int) ≤ 0 ∧ (0:Int) ≤ 8; omega, ⟨Nat.zero_le _, fun _ h => absurd h List.not_mem_nil⟩, ⟨Nat.zero_le _, fun _ h => absurd h List.not_mem_nil⟩, fun h => absurd h (by show (0:Int) ≠ 2; omega), fun _ => ⟨rfl, rfl, rfl⟩, fun h => absurd h (by show (0:Int) ≠ 3; omega), fun h => absurd rfl h⟩
 ·have hb0 : (K == 0) = false := by simpa using hK0
  by_cases hK3 : K = 3
  ·have hb3 : (K == 3) = true := by simpa using hK3
   clear e2 k2
   obtain ⟨S, hS⟩ : ∃ S, S = (pos sz).tmod 9 := ⟨_, rfl⟩
   have eS : (if 0 < sz then sz else 0) = pos sz := rfl
   have eT : (pos sz).tmod 9 = S := hS.symm
   have SB : 0 ≤ S ∧ S ≤ 8 := by rw [hS]; exact posmod sz
   obtain ⟨sN, hsN⟩ : ∃ n : Nat, S = n := ⟨S.toNat, by omega⟩
   have SN : sN ≤ 8 := by omega
   have hm64 : m5 ≤ 64 := by have := HM5.out; omega
   clear hS
   subst hsN
   go_enter Tryd.func6, Tryd.ntmps6
   go_wp2_with fail
   clear eS eT e5 hwr
   obtain ⟨W6, hW6⟩ : ∃ W, W = ((w.alloc (.cells #[.int .i64 kd, .int .i64 cap, .slice A2 n2 c2, .slice A3 n3 c3, .int .i64 sz, .slice A5 n5 c5] 26)).alloc (.cells #[.int .i64 0, .int .i64 0, .slice none 0 0, .slice none 0 0, .int .i64 0, .slice none 0 0] 26)).alloc (.cells #[.int .i64 3, .int .i64 0, .slice none 0 0, .slice none 0 0, .int .i64 (sN : Int), .slice none 0 0] 26) := ⟨_, rfl⟩
   rw [← hW6]
   obtain ⟨p1, hp1⟩ : ∃ p, p = w.heap.size := ⟨_, rfl⟩
   rw [← hp1]
   have B6 : Aside0 (Below w.heap.size w W6) := ⟨by rw [hW6]; exact below_alloc (below_alloc (below_alloc (Below.refl _ _) _) _) _⟩
   have Q1 : Aside0 (W6.heap[p1]? = some (.cells #[.int .i64 kd, .int .i64 cap, .slice A2 n2 c2, .slice A3 n3 c3, .int .i64 sz, .slice A5 n5 c5] 26 (0, 0))) := ⟨by rw [hW6, hp1]; simp only [al_get, al_size]; repeat (first | rw [if_pos trivial] | rw [if_neg (by omega)])⟩
   have Q2 : Aside0 (W6.heap[p1 + 1]? = some (.cells #[.int .i64 0, .int .i64 0, .slice none 0 0, .slice none 0 0, .int .i64 0, .slice none 0 0] 26 (0, 0))) := ⟨by rw [hW6, hp1]; simp only [al_get, al_size]; repeat (first | rw [if_pos trivial] | rw [if_neg (by omega)])⟩
   have Q3 : Aside0 (W6.heap[p1 + 1 + 1]? = some (.cells #[.int .i64 3, .int .i64 0, .slice none 0 0, .slice none 0 0, .int .i64 (sN : Int), .slice none 0 0] 26 (0, 0))) := ⟨by rw [hW6, hp1]; simp only [al_get, al_size]; repeat (first | rw [if_pos trivial] | rw [if_neg (by omega)])⟩
   have Z6 : Aside0 (W6.heap.size = p1 + 3) := ⟨by rw [hW6, hp1]; simp only [al_size]⟩
   obtain ⟨p6, hp6⟩ : ∃ p, p = p1 + 1 + 1 := ⟨_, rfl⟩
   rw [← hp6] at Q3 ⊢
   have HP := Aside0.mk (And.intro hp1 hp6)
   clear hW6 hp1 hp6
   have K0 : Aside0 (∃ A c l, R1 k59 58 w W6 p6 26 #[.int .i64 3, .int .i64 0, .slice none 0 0, .slice none 0 0, .int .i64 (sN : Int), .slice A 0 c] W6.heap.size W6 (.slice A 0 c) l ∧ l.length = 0 ∧ ∀ s ∈ l, (0 ≤ s.f0 ∧ s.f0 ≤ 2147483648) ∧ s.f1.Pairwise (· < ·) ∧ ∀ e ∈ s.f1, 0 ≤ e ∧ e < (sN : Int)) := ⟨none, 0, [], R1.start _ _ Q3.out B6.out, rfl, by simp⟩
   go_loopw [145] (fun v wr => ∃ i : Nat, i ≤ m5 ∧ v = .int .i64 i ∧ Aside0 (∃ A c l, R1 k59 58 w W6 p6 26 #[.int .i64 3, .int .i64 0, .slice none 0 0, .slice none 0 0, .int .i64 (sN : Int), .slice A i c] wr.heap.size wr (.slice A i c) l ∧ l.length = i ∧ ∀ s ∈ l, (0 ≤ s.f0 ∧ s.f0 ≤ 2147483648) ∧ s.f1.Pairwise (· < ·) ∧ ∀ e ∈ s.f1, 0 ≤ e ∧ e < (sN : Int))) (fun v _ => m5 - (intOf v).toNat)
   case atStart => exact ⟨0, Nat.zero_le _, rfl, K0⟩
   case round =>
    clear K0
    obtain ⟨i, hi, rfl, ⟨A, c, l, K1, K2, K3⟩⟩ := hrel
    have KK := Aside0.mk K1
    have KB := Aside0.mk (And.intro K2 K3)
    clear K1 K2 K3
    by_cases hlt : i < m5
    ·obtain ⟨wo, hwo⟩ : ∃ wo : World, wo = wr := ⟨_, rfl⟩
     rw [← hwo] at KK ⊢
     clear hwo
     obtain ⟨ad, AE, cE, rfl, a0', a1', lE', hE'⟩ := at_T59 H5.out (i : Int) (by omega) (by have := HN5.out; have := HM5.out; omega)
     have a0 := pw_cell_below KK.out.bw a0'
     have a1 := pw_cell_below KK.out.bw a1'
     have hel : (rd_T59 x.sets (i : Int)).f1.length ≤ 17592186044416 := HX.out.els _ (by
      unfold rd_T59
      rw [Int.toNat_natCast, List.getD_eq_getElem?_getD, List.getElem?_eq_getElem (by rw [← HN5.out]; have := HM5.out; omega)]
      exact List.getElem_mem _)
     rw [Int.toNat_natCast] at a0 a1
     obtain ⟨f0, hf0⟩ : ∃ z, z = (rd_T59 x.sets (i : Int)).f0 := ⟨_, rfl⟩
     obtain ⟨el, hl0⟩ : ∃ z, z = (rd_T59 x.sets (i : Int)).f1 := ⟨_, rfl⟩
     rw [← hf0] at a0
     rw [← hl0] at a1 hel hE' lE'
     obtain ⟨nE, hnE⟩ : ∃ n, n = el.length := ⟨_, rfl⟩
     rw [← hnE] at a1 hel hE' lE'
     have HE := Aside0.mk hE'
     have lE := lE'
     clear a0' a1' hf0 hl0 hnE hE' lE'
     obtain ⟨q, hq⟩ : ∃ q, q = min nE 40 := ⟨_, rfl⟩
     have eq1 : (if 40 < (nE : Int) then 40 else (nE : Int)) = (q : Int) := by split <;> omega
     have kq : q ≤ cE := by omega
     have QN : Aside0 (q ≤ nE) := ⟨by omega⟩
     clear hq
     go_wp2_with fail
     refine (mag_any f0 _).mono ?_
     rintro _ _ ⟨rfl, rfl⟩
     obtain ⟨u, hu⟩ : ∃ z, z = pos (mag f0) := ⟨_, rfl⟩
     have UB : Aside0 (0 ≤ u ∧ u ≤ 2147483648) := ⟨by rw [hu]; exact pos_mag _⟩
     have eu : (if 0 < mag f0 then mag f0 else 0) = u := by rw [hu]; rfl
     clear hu
     have b4 : wo.cell? ⟨p6, 4, none⟩ = some (.int .i64 (sN : Int)) := (blk_cell KK.out.hp 4).trans rfl
     go_upto_region 30 with fail
     clear eu b4 a0 a1
     obtain ⟨X, hX⟩ : ∃ X, X = (wo.alloc (.cells #[.int .i64 f0, .slice AE nE cE] 58)).alloc (.cells #[.int .i64 u, .slice none 0 0] 58) := ⟨_, rfl⟩
     rw [← hX]
     obtain ⟨g10, hg10⟩ : ∃ g, g = wo.heap.size := ⟨_, rfl⟩
     rw [← hg10]
     obtain ⟨g11, hg11⟩ : ∃ g, g = g10 + 1 := ⟨_, rfl⟩
     rw [← hg11]
     have X10 : Aside0 (X.heap[g10]? = some (.cells #[.int .i64 f0, .slice AE nE cE] 58 (0, 0))) := ⟨by rw [hX, hg10]; simp only [al_get, al_size]; repeat (first | rw [if_pos trivial] | rw [if_neg (by omega)])⟩
     have X11 : Aside0 (X.heap[g11]? = some (.cells #[.int .i64 u, .slice none 0 0] 58 (0, 0))) := ⟨by rw [hX, hg11, hg10]; simp only [al_get, al_size]; repeat (first | rw [if_pos trivial] | rw [if_neg (by omega)])⟩
     have XB : Aside0 (Below wo.heap.size wo X) := ⟨by rw [hX]; exact below_alloc (below_alloc (Below.refl _ _) _) _⟩
     have XS : Aside0 (X.heap.size = g10 + 2) := ⟨by rw [hX, hg10]; simp only [al_size]⟩
     have HG := Aside0.mk (And.intro hg10 hg11)
     clear hX hg10 hg11
     have X6 : Aside0 (X.heap[p6]? = some (.cells #[.int .i64 3, .int .i64 0, .slice none 0 0, .slice none 0 0, .int .i64 (sN : Int), .slice A i c] 26 (0, 0))) := ⟨blk_below KK.out.hp XB.out⟩
     have b4 : X.cell? ⟨p6, 4, none⟩ = some (.int .i64 (sN : Int)) := (blk_cell X6.out 4).trans rfl
     go_wp2_with fail
     clear b4
     have WX : Aside0 (Below w.heap.size w X) := ⟨KK.out.bw.trans (XB.out.mono KK.out.bw.size)⟩
     have J0 : Aside0 (∃ (A : Option Addr) (n c : Nat) (xs : List Int), R1 (Kd.int .i64) 3 w X g11 58 #[.int .i64 u, .slice A n c] X.heap.size X (.slice A n c) xs ∧ xs.Pairwise (· < ·) ∧ (∀ y ∈ xs, 0 ≤ y ∧ y < (0 : Int)) ∧ xs.length ≤ 0) := ⟨none, 0, 0, [], R1.start _ _ X11.out WX.out, List.Pairwise.nil, by simp, Nat.le_refl _⟩
     go_loopw [157] (fun v wr => ∃ e : Nat, e ≤ sN ∧ v = .int .i64 e ∧ Aside0 (∃ (A : Option Addr) (n c : Nat) (xs : List Int), R1 (Kd.int .i64) 3 w X g11 58 #[.int .i64 u, .slice A n c] wr.heap.size wr (.slice A n c) xs ∧ xs.Pairwise (· < ·) ∧ (∀ y ∈ xs, 0 ≤ y ∧ y < (e : Int)) ∧ xs.length ≤ e)) (fun v _ => sN - (intOf v).toNat)
     case atStart => exact ⟨0, Nat.zero_le _, rfl, J0⟩
     case round =>
      clear J0
      obtain ⟨e, he, rfl, ⟨A1, n1, c1, xs, J1, J2, J3, J4⟩⟩ := hrel
      have JJ := Aside0.mk J1
      have JB := Aside0.mk (And.intro J2 (And.intro J3 J4))
      clear J1 J2 J3 J4
      by_cases hlt2 : e < sN
      ·have Y10 : Aside0 (wr.heap[g10]? = some (.cells #[.int .i64 f0, .slice AE nE cE] 58 (0, 0))) := ⟨JJ.out.c.blk X10.out (by have := HG.out; omega)⟩
       have b1 : wr.cell? ⟨g10, 1, none⟩ = some (.slice AE nE cE) := (blk_cell Y10.out 1).trans rfl
       go_wp2_with fail
       clear b1
       go_loopw [168] (fun v w' => ∃ j : Nat, j ≤ q ∧ v = .int .i64 j ∧ w' = wr) (fun v _ => q - (intOf v).toNat)
       case atStart => exact ⟨0, Nat.zero_le _, rfl, rfl⟩
       case round =>
        obtain ⟨j, hj, rfl, rfl⟩ := hrel
        by_cases hlt3 : j < q
        ·obtain ⟨ae, rfl, hx'⟩ := at_Int HE.out j (by have := QN.out; omega)
         have hx := pw_cell_below JJ.out.bw hx'
         clear hx'
         obtain ⟨z, hz⟩ : ∃ z, z = el.getD j 0 := ⟨_, rfl⟩
         rw [← hz] at hx
         clear hz
         obtain ⟨Z, hZ⟩ : ∃ Z, Z = (pos z).tmod 9 := ⟨_, rfl⟩
         have ez : (if 0 < z then z else 0) = pos z := rfl
         have eZ : (pos z).tmod 9 = Z := hZ.symm
         clear hZ
         by_cases hZe : Z = (e : Int)
         ·have hbz : (Z == (e : Int)) = true := by simpa using hZe
          clear hZe
          have b2 : wr.cell? ⟨g11, 1, none⟩ = some (.slice A1 n1 c1) := (blk_cell JJ.out.hp 1).trans rfl
          have LL : Aside0 ((xs.length + 1) * 8 ≤ 140737488355328) := ⟨by have := JB.out.2.2; omega⟩
          go_wp2_with (at_builtin; refine R1.appL JJ.out (by decide) rfl _ _ 27 (.int .i64 0) 8 rfl Tryd.underlying27 infoR3 rfl (by decide) (by omega) (e : Int) [.int .i64 e] rfl rfl rfl LL.out ?_; rintro _ w5 K5' ⟨A7, c7, rfl⟩ _; have K5 := Aside0.mk K5'; clear K5'; have h3 := (blk_cell K5.out.hp 1).trans rfl; have h4 := blk_frozen K5.out.hp 1)
          have K9 := Aside0.mk (K5.out.put (by have := HG.out; have := KK.out.bw.size; omega) (by decide) 1 _ (cs' := #[.int .i64 u, .slice A7 (xs.length + 1) c7]) rfl).le
          have NB := Aside0.mk (pw_snoc JB.out.1 JB.out.2.1 (by omega))
          go_roundw
          case measure => simp [intOf]; omega
          case rel => exact ⟨e + 1, by omega, by go_num, ⟨_, _, _, _, K9.out, NB.out.1, by have := NB.out.2; simpa using this, by rw [List.length_append]; have := JB.out.2.2; show xs.length + 1 ≤ e + 1; omega⟩⟩
         ·have hbz : (Z == (e : Int)) = false := by simpa using hZe
          clear hZe
          go_wp2_with fail
          go_roundw
          case measure => simp [intOf]; omega
          case rel => exact ⟨j + 1, by omega, by go_num, trivial⟩
        ·obtain rfl : q = j := by omega
         go_wp2_with fail
         go_roundw
         case measure => simp [intOf]; omega
         case rel => exact ⟨e + 1, by omega, by go_num, ⟨_, _, _, _, JJ.out, JB.out.1, fun y hy => by have := JB.out.2.1 y hy; omega, by have := JB.out.2.2; omega⟩⟩
      ·obtain rfl : sN = e := by omega
       clear hlt2 he
       have C1 := Aside0.mk (JJ.out.c)
       have BX : Aside0 (Below wo.heap.size wo wr) := ⟨XB.out.trans ⟨C1.out.os, C1.out.tape, C1.out.output, C1.out.size, fun k hk => C1.out.block k (Nat.lt_of_lt_of_le hk XB.out.size) (by have := HG.out; omega)⟩⟩
       have K1 : Aside0 (R1 k59 58 w W6 p6 26 #[.int .i64 3, .int .i64 0, .slice none 0 0, .slice none 0 0, .int .i64 (sN : Int), .slice A i c] wo.heap.size wr (.slice A i c) l) := ⟨KK.out.new BX.out⟩
       obtain ⟨hn1, _, _⟩ := R_C JJ.out.r
       have RR : Aside0 (k59.M wr W6.heap.size (fun k => wo.heap.size ≤ k) (⟨u, xs⟩ : S59) [.int .i64 u, .slice A1 n1 c1]) := ⟨k59_mkM _ _ _ ⟨u, xs⟩ (Kd.R_mono (Kd.R_bound (Kd.R_lower (base' := wo.heap.size) JJ.out.r XB.out.size) |> fun h => Kd.R_lower (base' := W6.heap.size) h KK.out.c.size) (fun k hk => hk.2.1))⟩
       have q0 : wr.cell? ⟨p6, 5, none⟩ = some (.slice A i c) := (blk_cell K1.out.hp 5).trans rfl
       have q1 : wr.cell? ⟨g11, 0, none⟩ = some (.int .i64 u) := (blk_cell JJ.out.hp 0).trans rfl
       have q2 : wr.cell? ⟨g11, 1, none⟩ = some (.slice A1 n1 c1) := (blk_cell JJ.out.hp 1).trans rfl
       have LL : Aside0 ((l.length + 1) * 32 ≤ 140737488355328) := ⟨by have := KB.out.1; have := HM5.out; omega⟩
       go_upto_region 40 with fail
       clear hn1
       go_wp2_with (at_builtin; refine R1.appL K1.out (by decide) rfl _ _ 24 (.agg #[.int .i64 0, .slice none 0 0]) 32 rfl Tryd.underlying24 infoR99 rfl (by decide) (by omega) (⟨u, xs⟩ : S59) [.int .i64 u, .slice A1 n1 c1] rfl rfl RR.out LL.out ?_; rintro _ w5 K5' ⟨A7, c7, rfl⟩ _; have K5 := Aside0.mk K5'; clear K5'; have h3 := (blk_cell K5.out.hp 5).trans rfl; have h4 := blk_frozen K5.out.hp 5)
       have K9 := Aside0.mk (K5.out.put (by have := HP.out; omega) (by decide) 5 _ (cs' := #[.int .i64 3, .int .i64 0, .slice none 0 0, .slice none 0 0, .int .i64 (sN : Int), .slice A7 (l.length + 1) c7]) rfl).le
       have hll := KB.out.1
       rw [hll] at K9
       have NB : Aside0 ((l ++ [(⟨u, xs⟩ : S59)]).length = i + 1 ∧ ∀ s ∈ l ++ [(⟨u, xs⟩ : S59)], (0 ≤ s.f0 ∧ s.f0 ≤ 2147483648) ∧ s.f1.Pairwise (· < ·) ∧ ∀ e ∈ s.f1, 0 ≤ e ∧ e < (sN : Int)) := ⟨by rw [List.length_append, hll]; rfl, fun s hs => (List.mem_append.1 hs).elim (KB.out.2 s) (fun h => by
         have e : s = ⟨u, xs⟩ := by simpa using h
         rw [e]
         exact ⟨UB.out, JB.out.1, JB.out.2.1⟩)⟩
       rw [hll]
       clear hll q0 q1 q2 h3 h4
       go_roundw
       case measure => simp [intOf]; omega
       case rel => exact ⟨i + 1, by omega, by go_num, ⟨_, _, _, K9.out, NB.out⟩⟩
    ·obtain rfl : m5 = i := by omega
     clear hlt hi
     have E6 := Aside0.mk KK.out.hp
     have E2 : Aside0 (wr.heap[p1 + 1]? = some (.cells #[.int .i64 0, .int .i64 0, .slice none 0 0, .slice none 0 0, .int .i64 0, .slice none 0 0] 26 (0, 0))) := ⟨KK.out.c.blk Q2.out (by have := HP.out; omega)⟩
     have r0 : wr.cell? ⟨p6, 0, none⟩ = some (.int .i64 3) := (blk_cell E6.out 0).trans rfl
     have r1 : wr.cell? ⟨p6, 1, none⟩ = some (.int .i64 0) := (blk_cell E6.out 1).trans rfl
     have r2 : wr.cell? ⟨p6, 2, none⟩ = some (.slice none 0 0) := (blk_cell E6.out 2).trans rfl
     have r3 : wr.cell? ⟨p6, 3, none⟩ = some (.slice none 0 0) := (blk_cell E6.out 3).trans rfl
     have r4 : wr.cell? ⟨p6, 4, none⟩ = some (.int .i64 (sN : Int)) := (blk_cell E6.out 4).trans rfl
     have r5 : wr.cell? ⟨p6, 5, none⟩ = some (.slice A m5 c) := (blk_cell E6.out 5).trans rfl
     have h0 : wr.cell? ⟨p1 + 1, 0, none⟩ = some (.int .i64 0) := (blk_cell E2.out 0).trans rfl
     have h1 : wr.cell? ⟨p1 + 1, 1, none⟩ = some (.int .i64 0) := (blk_cell E2.out 1).trans rfl
     have h2 : wr.cell? ⟨p1 + 1, 2, none⟩ = some (.slice none 0 0) := (blk_cell E2.out 2).trans rfl
     have h3 : wr.cell? ⟨p1 + 1, 3, none⟩ = some (.slice none 0 0) := (blk_cell E2.out 3).trans rfl
     have h4 : wr.cell? ⟨p1 + 1, 4, none⟩ = some (.int .i64 0) := (blk_cell E2.out 4).trans rfl
     have h5 : wr.cell? ⟨p1 + 1, 5, none⟩ = some (.slice none 0 0) := (blk_cell E2.out 5).trans rfl
     have hz : ∀ j, wr.frozen? ⟨p1 + 1, j, none⟩ = false := blk_frozen E2.out
     go_upto_region 42 with fail
     go_wp2_with fail
     clear r0 r1 r2 r3 r4 r5 h0 h1 h2 h3 h4 h5 hz
     obtain ⟨Wz, hWz⟩ : ∃ W, W = ((((((wr).setCell ⟨p1 + 1, 0, none⟩ (.int .i64 3)).setCell ⟨p1 + 1, 1, none⟩ (.int .i64 0)).setCell ⟨p1 + 1, 2, none⟩ (.slice none 0 0)).setCell ⟨p1 + 1, 3, none⟩ (.slice none 0 0)).setCell ⟨p1 + 1, 4, none⟩ (.int .i64 (sN : Int))).setCell ⟨p1 + 1, 5, none⟩ (.slice A m5 c) := ⟨_, rfl⟩
     rw [← hWz]
     have HWz := Aside0.mk hWz
     clear hWz
     have EZ : Aside0 (Wz.heap[p1 + 1]? = some (.cells #[.int .i64 3, .int .i64 0, .slice none 0 0, .slice none 0 0, .int .i64 (sN : Int), .slice A m5 c] 26 (0, 0))) := ⟨by rw [HWz.out]; exact put6 E2.out (.int .i64 3) (.int .i64 0) (.slice none 0 0) (.slice none 0 0) (.int .i64 (sN : Int)) (.slice A m5 c)⟩
     have r0 : Wz.cell? ⟨p1 + 1, 0, none⟩ = some (.int .i64 3) := (blk_cell EZ.out 0).trans rfl
     have r1 : Wz.cell? ⟨p1 + 1, 1, none⟩ = some (.int .i64 0) := (blk_cell EZ.out 1).trans rfl
     have r2 : Wz.cell? ⟨p1 + 1, 2, none⟩ = some (.slice none 0 0) := (blk_cell EZ.out 2).trans rfl
     have r3 : Wz.cell? ⟨p1 + 1, 3, none⟩ = some (.slice none 0 0) := (blk_cell EZ.out 3).trans rfl
     have r4 : Wz.cell? ⟨p1 + 1, 4, none⟩ = some (.int .i64 (sN : Int)) := (blk_cell EZ.out 4).trans rfl
     have r5 : Wz.cell? ⟨p1 + 1, 5, none⟩ = some (.slice A m5 c) := (blk_cell EZ.out 5).trans rfl
     refine bodyPost_ret (v := .agg #[.int .i64 3, .int .i64 0, .slice none 0 0, .slice none 0 0, .int .i64 (sN : Int), .slice A m5 c]) (by simp [results, Tryd.results6, go_sem, r0, r1, r2, r3, r4, r5]) rfl ?_
     clear r0 r1 r2 r3 r4 r5
     rw [HWz.out]
     have hb : w.heap.size ≤ W6.heap.size := KK.out.ww
     refine ⟨_, rfl, ⟨(⟨3, 0, [], [], sN, l⟩ : PI), ⟨_, _, _, _, _, _, _, _, _, rfl, Kd.R_nil _ _ _ _ _, Kd.R_nil _ _ _ _ _, fin_R KK.out.r hb E2.out (by decide) (.int .i64 3) (.int .i64 0) (.slice none 0 0) (.slice none 0 0) (.int .i64 (sN : Int)) (.slice A m5 c)⟩, ?_, fin_B KK.out.bw (by have := HP.out; omega) (.int .i64 3) (.int .i64 0) (.slice none 0 0) (.slice none 0 0) (.int .i64 (sN : Int)) (.slice A m5 c)⟩⟩
     have hll := KB.out.1
     exact ⟨hK3.symm.trans HKK.out, by show (0:Int) ≤ 0 ∧ (0:Int) ≤ 2147483648; omega, ⟨Nat.zero_le _, fun _ h => absurd h List.not_mem_nil⟩, by show (0:Int) ≤ (sN : Int) ∧ (sN : Int) ≤ 8; omega, ⟨by show l.length ≤ most; rw [hll]; have := HM5.out; omega, KB.out.2⟩, ⟨Nat.zero_le _, fun _ h => absurd h List.not_mem_nil⟩, fun h => absurd h (by show (3:Int) ≠ 2; omega), fun h => absurd h (by show (3:Int) ≠ 0; omega), fun _ => ⟨rfl, rfl, rfl⟩, fun _ h => absurd rfl h⟩
  ·have hb3 : (K == 3) = false := by simpa using hK3
   clear e2 e5 k2 k5
   obtain ⟨mm, hmm⟩ : ∃ mm, mm = most - 1 := ⟨_, rfl⟩
   obtain ⟨q, hq⟩ : ∃ q, q = min n3 mm := ⟨_, rfl⟩
   obtain ⟨n, hn⟩ : ∃ n, n = max 1 q := ⟨_, rfl⟩
   have e1 : (most : Int) - 1 = (mm : Int) := by omega
   have e3 : (if mm < n3 then (mm : Int) else (n3 : Int)) = (q : Int) := by split <;> omega
   have e4 : (if 1 < (q : Int) then (q : Int) else 1) = (n : Int) := by split <;> omega
   have hn1 : 1 ≤ n := by omega
   have hn2 : n ≤ 64 := by omega
   have m1 := mk30 n hn2
   have NM : Aside0 (n ≤ max 1 (most - 1)) := ⟨by omega⟩
   clear hn hq hmm
   go_enter Tryd.func6, Tryd.ntmps6
   go_wp2_with fail
   clear e1 e3 e4 hwr
   obtain ⟨W6, hW6⟩ : ∃ W, W = ((w.alloc (.cells #[.int .i64 kd, .int .i64 cap, .slice A2 n2 c2, .slice A3 n3 c3, .int .i64 sz, .slice A5 n5 c5] 26)).alloc (.cells #[.int .i64 0, .int .i64 0, .slice none 0 0, .slice none 0 0, .int .i64 0, .slice none 0 0] 26)).alloc (.cells #[.int .i64 K, .int .i64 0, .slice none 0 0, .slice none 0 0, .int .i64 0, .slice none 0 0] 26) := ⟨_, rfl⟩
   rw [← hW6]
   obtain ⟨p1, hp1⟩ : ∃ p, p = w.heap.size := ⟨_, rfl⟩
   rw [← hp1]
   have B6 : Aside0 (Below w.heap.size w W6) := ⟨by rw [hW6]; exact below_alloc (below_alloc (below_alloc (Below.refl _ _) _) _) _⟩
   have Q1 : Aside0 (W6.heap[p1]? = some (.cells #[.int .i64 kd, .int .i64 cap, .slice A2 n2 c2, .slice A3 n3 c3, .int .i64 sz, .slice A5 n5 c5] 26 (0, 0))) := ⟨by rw [hW6, hp1]; simp only [al_get, al_size]; repeat (first | rw [if_pos trivial] | rw [if_neg (by omega)])⟩
   have Q2 : Aside0 (W6.heap[p1 + 1]? = some (.cells #[.int .i64 0, .int .i64 0, .slice none 0 0, .slice none 0 0, .int .i64 0, .slice none 0 0] 26 (0, 0))) := ⟨by rw [hW6, hp1]; simp only [al_get, al_size]; repeat (first | rw [if_pos trivial] | rw [if_neg (by omega)])⟩
   have Q3 : Aside0 (W6.heap[p1 + 1 + 1]? = some (.cells #[.int .i64 K, .int .i64 0, .slice none 0 0, .slice none 0 0, .int .i64 0, .slice none 0 0] 26 (0, 0))) := ⟨by rw [hW6, hp1]; simp only [al_get, al_size]; repeat (first | rw [if_pos trivial] | rw [if_neg (by omega)])⟩
   have Z6 : Aside0 (W6.heap.size = p1 + 3) := ⟨by rw [hW6, hp1]; simp only [al_size]⟩
   obtain ⟨p6, hp6⟩ : ∃ p, p = p1 + 1 + 1 := ⟨_, rfl⟩
   rw [← hp6] at Q3 ⊢
   have HP := Aside0.mk (And.intro hp1 hp6)
   clear hW6 hp1 hp6
   have K0 : Aside0 (∃ A c l, R1 (Kd.slice 2 (Kd.int .i64)) 56 w W6 p6 26 #[.int .i64 K, .int .i64 0, .slice none 0 0, .slice A 0 c, .int .i64 0, .slice none 0 0] W6.heap.size W6 (.slice A 0 c) l ∧ l.length = 0 ∧ (∀ r ∈ l, r.length = n ∧ ∀ y ∈ r, -2147483648 ≤ y ∧ y ≤ 2147483648) ∧ (K = 2 → ∀ j, j < 0 → (l.getD j []).getD j 0 = 0)) := ⟨none, 0, [], R1.start _ _ Q3.out B6.out, rfl, by simp, fun _ j hj => absurd hj (Nat.not_lt_zero _)⟩
   go_loopw [35] (fun v wr => ∃ i : Nat, i ≤ n ∧ v = .int .i64 i ∧ Aside0 (∃ A c l, R1 (Kd.slice 2 (Kd.int .i64)) 56 w W6 p6 26 #[.int .i64 K, .int .i64 0, .slice none 0 0, .slice A i c, .int .i64 0, .slice none 0 0] wr.heap.size wr (.slice A i c) l ∧ l.length = i ∧ (∀ r ∈ l, r.length = n ∧ ∀ y ∈ r, -2147483648 ≤ y ∧ y ≤ 2147483648) ∧ (K = 2 → ∀ j, j < i → (l.getD j []).getD j 0 = 0))) (fun v _ => n - (intOf v).toNat)
   case atStart => exact ⟨0, Nat.zero_le _, rfl, K0⟩
   case round =>
    clear K0
    obtain ⟨i, hi, rfl, ⟨A, c, l, K1, K2, K3, K4⟩⟩ := hrel
    have KK := Aside0.mk K1
    have KB := Aside0.mk (And.intro K2 (And.intro K3 K4))
    clear K1 K2 K3 K4
    by_cases hlt : i < n
    ·obtain ⟨wo, hwo⟩ : ∃ wo : World, wo = wr := ⟨_, rfl⟩
     rw [← hwo] at KK ⊢
     clear hwo
     go_upto_region 9 with fail
     obtain ⟨B, hB⟩ : ∃ B, B = wo.heap.size := ⟨_, rfl⟩
     have J0 : Aside0 (∃ f, IB (wo.alloc (.cells (tabI n fun _ => 0) 2)) B 2 n f ∧ (∀ j, j < n → -2147483648 ≤ f j ∧ f j ≤ 2147483648) ∧ (K = 2 → f i = 0) ∧ Below wo.heap.size wo (wo.alloc (.cells (tabI n fun _ => 0) 2))) := ⟨fun _ => 0, by rw [hB]; exact heap_alloc_new _ _, fun _ _ => by show -2147483648 ≤ (0:Int) ∧ (0:Int) ≤ 2147483648; omega, fun _ => rfl, below_alloc (Below.refl _ _) _⟩
     have HB := Aside0.mk hB
     rw [← hB]
     clear hB
     have QB : Aside0 (wo.heap[p1]? = some (.cells #[.int .i64 kd, .int .i64 cap, .slice A2 n2 c2, .slice A3 n3 c3, .int .i64 sz, .slice A5 n5 c5] 26 (0, 0))) := ⟨KK.out.c.blk Q1.out (by have := HP.out; omega)⟩
     go_wp2_with fail
     clear m1
     go_loopw [41] (fun v wr => ∃ k : Nat, k ≤ n ∧ v = .int .i64 k ∧ Aside0 (∃ f, IB wr B 2 n f ∧ (∀ j, j < n → -2147483648 ≤ f j ∧ f j ≤ 2147483648) ∧ (K = 2 → f i = 0) ∧ Below wo.heap.size wo wr)) (fun v _ => n - (intOf v).toNat)
     case atStart => exact ⟨0, Nat.zero_le _, rfl, J0⟩
     case round =>
      clear J0
      obtain ⟨k, hk, rfl, ⟨f, f1, f2, f3, f4⟩⟩ := hrel
      have FF := Aside0.mk (And.intro f1 (And.intro f2 (And.intro f3 f4)))
      clear f1 f2 f3 f4
      by_cases hlt2 : k < n
      ·have b3 : wr.cell? ⟨p1, 3, none⟩ = some (.slice A3 n3 c3) := (blk_cell (blk_below QB.out FF.out.2.2.2) 3).trans rfl
       have KP : Aside0 (wr.heap[p6]? = some (.cells #[.int .i64 K, .int .i64 0, .slice none 0 0, .slice A i c, .int .i64 0, .slice none 0 0] 26 (0, 0))) := ⟨blk_below KK.out.hp FF.out.2.2.2⟩
       have b6 : wr.cell? ⟨p6, 0, none⟩ = some (.int .i64 K) := (blk_cell KP.out 0).trans rfl
       by_cases h1 : i < n3
       ·obtain ⟨ad, AY, cY, rfl, a0', ly, hy⟩ := at_L2 H3.out (i : Int) (by omega) (by have := HN3.out; omega)
        have BW : Aside0 (Below w.heap.size w wr) := ⟨KK.out.bw.trans (FF.out.2.2.2.mono KK.out.bw.size)⟩
        have a0 := pw_cell_below BW.out a0'
        rw [Int.toNat_natCast] at a0
        have hyl : (rd_L2 x.cost (i : Int)).length ≤ 17592186044416 := HX.out.rows _ (by
         unfold rd_L2
         rw [Int.toNat_natCast, List.getD_eq_getElem?_getD, List.getElem?_eq_getElem (by rw [← HN3.out]; exact h1)]
         exact List.getElem_mem _)
        obtain ⟨y, hy1⟩ : ∃ y, y = rd_L2 x.cost (i : Int) := ⟨_, rfl⟩
        rw [← hy1] at a0 ly hy hyl
        obtain ⟨nY, hnY⟩ : ∃ m, m = y.length := ⟨_, rfl⟩
        rw [← hnY] at a0 ly hyl hy
        clear hy1 a0' hnY
        have HY := Aside0.mk hy
        clear hy
        by_cases h2 : k < nY
        ·by_cases h3 : K = 2 ∧ i = k
         ·obtain ⟨hK2, rfl⟩ := h3
          have hb2 : (K == 2) = true := by simpa using hK2
          clear hK2
          go_wp2_with fail
          exact ⟨⟨i + 1, by omega, by simp, ⟨f, FF.out.1, FF.out.2.1, FF.out.2.2.1, FF.out.2.2.2⟩⟩, by simp [intOf]; omega⟩
         ·obtain ⟨ar, rfl, hx'⟩ := at_Int HY.out k h2
          have hx := pw_cell_below BW.out hx'
          clear hx'
          obtain ⟨z, hz⟩ : ∃ z, z = y.getD k 0 := ⟨_, rfl⟩
          rw [← hz] at hx
          clear hz
          have er := FF.out.1.c hlt2
          have zr := FF.out.1.z k
          have DD : Aside0 (∃ f', IB (wr.setCell ⟨B, k, none⟩ (.int .i64 (mag z))) B 2 n f' ∧ (∀ j, j < n → -2147483648 ≤ f' j ∧ f' j ≤ 2147483648) ∧ (K = 2 → f' i = 0) ∧ Below wo.heap.size wo (wr.setCell ⟨B, k, none⟩ (.int .i64 (mag z)))) := ⟨upd f k (mag z), FF.out.1.set k _, upd_bd FF.out.2.1 (mag_bd z), fun e => by
           unfold upd
           rw [if_neg (fun e' => h3 ⟨e, e'⟩)]
           exact FF.out.2.2.1 e, FF.out.2.2.2.setCell (by have := HB.out; show wo.heap.size ≤ B; omega) _⟩
          by_cases hK2 : K = 2
          ·have hik : ((i : Int) == (k : Int)) = false := by
            rw [beq_eq_false_iff_ne]
            exact fun e => h3 ⟨hK2, by omega⟩
           have hb2 : (K == 2) = true := by simpa using hK2
           clear hK2 h3
           go_wp2_with fail
           refine (mag_any z _).mono ?_
           rintro _ _ ⟨rfl, rfl⟩
           go_wp2_with fail
           exact ⟨⟨k + 1, by omega, by simp, DD⟩, by simp [intOf]; omega⟩
          ·have hb2 : (K == 2) = false := by simpa using hK2
           clear hK2 h3
           go_wp2_with fail
           refine (mag_any z _).mono ?_
           rintro _ _ ⟨rfl, rfl⟩
           go_wp2_with fail
           exact ⟨⟨k + 1, by omega, by simp, DD⟩, by simp [intOf]; omega⟩
        ·go_wp2_with fail
         exact ⟨⟨k + 1, by omega, by simp, ⟨f, FF.out.1, FF.out.2.1, FF.out.2.2.1, FF.out.2.2.2⟩⟩, by simp [intOf]; omega⟩
       ·go_wp2_with fail
        exact ⟨⟨k + 1, by omega, by simp, ⟨f, FF.out.1, FF.out.2.1, FF.out.2.2.1, FF.out.2.2.2⟩⟩, by simp [intOf]; omega⟩
      ·obtain rfl : n = k := by omega
       clear hlt2 hk
       have K1 : Aside0 (R1 (Kd.slice 2 (Kd.int .i64)) 56 w W6 p6 26 #[.int .i64 K, .int .i64 0, .slice none 0 0, .slice A i c, .int .i64 0, .slice none 0 0] wo.heap.size wr (.slice A i c) l) := ⟨KK.out.new FF.out.2.2.2⟩
       have RR : Aside0 ((Kd.slice 2 (Kd.int .i64)).M wr W6.heap.size (fun k => wo.heap.size ≤ k) ((List.range n).map f) [.slice (some ⟨B, 0, none⟩) n n]) := ⟨⟨_, rfl, R_IB FF.out.1 (by have := HB.out; have := KK.out.c.size; omega) (by have := HB.out; omega) (by omega)⟩⟩
       have q0 : wr.cell? ⟨p6, 3, none⟩ = some (.slice A i c) := (blk_cell K1.out.hp 3).trans rfl
       have LL : Aside0 ((l.length + 1) * 24 ≤ 140737488355328) := ⟨by have := KB.out.1; omega⟩
       go_upto_region 15 with fail
       go_wp2_with (at_builtin; refine R1.appL K1.out (by decide) rfl _ _ 23 (.slice none 0 0) 24 rfl Tryd.underlying23 infoR30 rfl (by decide) (by omega) ((List.range n).map f) [.slice (some ⟨B, 0, none⟩) n n] rfl rfl RR.out LL.out ?_; rintro _ w5 K5' ⟨A7, c7, rfl⟩ _; have K5 := Aside0.mk K5'; clear K5'; have h3 := (blk_cell K5.out.hp 3).trans rfl; have h4 := blk_frozen K5.out.hp 3)
       have K9 := Aside0.mk (K5.out.put (by have := HP.out; omega) (by decide) 3 _ (cs' := #[.int .i64 K, .int .i64 0, .slice none 0 0, .slice A7 (l.length + 1) c7, .int .i64 0, .slice none 0 0]) rfl).le
       have hll := KB.out.1
       rw [hll] at K9
       have NB : Aside0 ((l ++ [(List.range n).map f]).length = i + 1 ∧ (∀ r ∈ l ++ [(List.range n).map f], r.length = n ∧ ∀ y ∈ r, -2147483648 ≤ y ∧ y ≤ 2147483648) ∧ (K = 2 → ∀ j, j < i + 1 → ((l ++ [(List.range n).map f]).getD j []).getD j 0 = 0)) := ⟨by rw [List.length_append, hll]; rfl, fun r hr => (List.mem_append.1 hr).elim (KB.out.2.1 r) (fun h => by
         have e : r = (List.range n).map f := by simpa using h
         rw [e]
         exact ⟨by simp, mem_rng FF.out.2.1⟩), fun hK2 j hj => by
         rw [getD_snoc hll hj]
         split
         ·rename_i hji
          exact KB.out.2.2 hK2 j hji
         ·have e : j = i := by omega
          subst e
          rw [getD_map hlt]
          exact FF.out.2.2.1 hK2⟩
       rw [hll]
       clear hll q0 h3 h4
       go_roundw
       case measure => simp [intOf]; omega
       case rel => exact ⟨i + 1, by omega, by go_num, ⟨_, _, _, K9.out, NB.out⟩⟩
    ·obtain rfl : n = i := by omega
     clear hlt hi
     have E6 := Aside0.mk KK.out.hp
     have E2 : Aside0 (wr.heap[p1 + 1]? = some (.cells #[.int .i64 0, .int .i64 0, .slice none 0 0, .slice none 0 0, .int .i64 0, .slice none 0 0] 26 (0, 0))) := ⟨KK.out.c.blk Q2.out (by have := HP.out; omega)⟩
     have r0 : wr.cell? ⟨p6, 0, none⟩ = some (.int .i64 K) := (blk_cell E6.out 0).trans rfl
     have r1 : wr.cell? ⟨p6, 1, none⟩ = some (.int .i64 0) := (blk_cell E6.out 1).trans rfl
     have r2 : wr.cell? ⟨p6, 2, none⟩ = some (.slice none 0 0) := (blk_cell E6.out 2).trans rfl
     have r3 : wr.cell? ⟨p6, 3, none⟩ = some (.slice A n c) := (blk_cell E6.out 3).trans rfl
     have r4 : wr.cell? ⟨p6, 4, none⟩ = some (.int .i64 0) := (blk_cell E6.out 4).trans rfl
     have r5 : wr.cell? ⟨p6, 5, none⟩ = some (.slice none 0 0) := (blk_cell E6.out 5).trans rfl
     have h0 : wr.cell? ⟨p1 + 1, 0, none⟩ = some (.int .i64 0) := (blk_cell E2.out 0).trans rfl
     have h1 : wr.cell? ⟨p1 + 1, 1, none⟩ = some (.int .i64 0) := (blk_cell E2.out 1).trans rfl
     have h2 : wr.cell? ⟨p1 + 1, 2, none⟩ = some (.slice none 0 0) := (blk_cell E2.out 2).trans rfl
     have h3 : wr.cell? ⟨p1 + 1, 3, none⟩ = some (.slice none 0 0) := (blk_cell E2.out 3).trans rfl
     have h4 : wr.cell? ⟨p1 + 1, 4, none⟩ = some (.int .i64 0) := (blk_cell E2.out 4).trans rfl
     have h5 : wr.cell? ⟨p1 + 1, 5, none⟩ = some (.slice none 0 0) := (blk_cell E2.out 5).trans rfl
     have hz : ∀ j, wr.frozen? ⟨p1 + 1, j, none⟩ = false := blk_frozen E2.out
     go_upto_region 42 with fail
     go_wp2_with fail
     clear r0 r1 r2 r3 r4 r5 h0 h1 h2 h3 h4 h5 hz
     obtain ⟨Wz, hWz⟩ : ∃ W, W = ((((((wr).setCell ⟨p1 + 1, 0, none⟩ (.int .i64 K)).setCell ⟨p1 + 1, 1, none⟩ (.int .i64 0)).setCell ⟨p1 + 1, 2, none⟩ (.slice none 0 0)).setCell ⟨p1 + 1, 3, none⟩ (.slice A n c)).setCell ⟨p1 + 1, 4, none⟩ (.int .i64 0)).setCell ⟨p1 + 1, 5, none⟩ (.slice none 0 0) := ⟨_, rfl⟩
     rw [← hWz]
     have HWz := Aside0.mk hWz
     clear hWz
     have EZ : Aside0 (Wz.heap[p1 + 1]? = some (.cells #[.int .i64 K, .int .i64 0, .slice none 0 0, .slice A n c, .int .i64 0, .slice none 0 0] 26 (0, 0))) := ⟨by rw [HWz.out]; exact put6 E2.out (.int .i64 K) (.int .i64 0) (.slice none 0 0) (.slice A n c) (.int .i64 0) (.slice none 0 0)⟩
     have r0 : Wz.cell? ⟨p1 + 1, 0, none⟩ = some (.int .i64 K) := (blk_cell EZ.out 0).trans rfl
     have r1 : Wz.cell? ⟨p1 + 1, 1, none⟩ = some (.int .i64 0) := (blk_cell EZ.out 1).trans rfl
     have r2 : Wz.cell? ⟨p1 + 1, 2, none⟩ = some (.slice none 0 0) := (blk_cell EZ.out 2).trans rfl
     have r3 : Wz.cell? ⟨p1 + 1, 3, none⟩ = some (.slice A n c) := (blk_cell EZ.out 3).trans rfl
     have r4 : Wz.cell? ⟨p1 + 1, 4, none⟩ = some (.int .i64 0) := (blk_cell EZ.out 4).trans rfl
     have r5 : Wz.cell? ⟨p1 + 1, 5, none⟩ = some (.slice none 0 0) := (blk_cell EZ.out 5).trans rfl
     refine bodyPost_ret (v := .agg #[.int .i64 K, .int .i64 0, .slice none 0 0, .slice A n c, .int .i64 0, .slice none 0 0]) (by simp [results, Tryd.results6, go_sem, r0, r1, r2, r3, r4, r5]) rfl ?_
     clear r0 r1 r2 r3 r4 r5
     rw [HWz.out]
     have hb : w.heap.size ≤ W6.heap.size := KK.out.ww
     refine ⟨_, rfl, ⟨(⟨K, 0, [], l, 0, []⟩ : PI), ⟨_, _, _, _, _, _, _, _, _, rfl, Kd.R_nil _ _ _ _ _, fin_R KK.out.r hb E2.out (by decide) (.int .i64 K) (.int .i64 0) (.slice none 0 0) (.slice A n c) (.int .i64 0) (.slice none 0 0), Kd.R_nil _ _ _ _ _⟩, ?_, fin_B KK.out.bw (by have := HP.out; omega) (.int .i64 K) (.int .i64 0) (.slice none 0 0) (.slice A n c) (.int .i64 0) (.slice none 0 0)⟩⟩
     have hll := KB.out.1
     exact ⟨HKK.out, by show (0:Int) ≤ 0 ∧ (0:Int) ≤ 2147483648; omega, ⟨Nat.zero_le _, fun _ h => absurd h List.not_mem_nil⟩, by show (0:Int) ≤ 0 ∧ (0:Int) ≤ 8; omega, ⟨Nat.zero_le _, fun _ h => absurd h List.not_mem_nil⟩, ⟨by show l.length ≤ _; rw [hll]; exact NM.out, fun r hr => by show r.length = l.length ∧ _; rw [hll]; exact KB.out.2.1 r hr⟩, fun h j hj => KB.out.2.2 h j (by rw [← hll]; exact hj), fun h => absurd h hK0, fun h => absurd h hK3, fun _ _ => ⟨by show 1 ≤ l.length; omega, rfl, rfl, rfl, rfl⟩⟩
end Go.Proofs.YtlilfgfkedlbcaaDoor.Hand
end
