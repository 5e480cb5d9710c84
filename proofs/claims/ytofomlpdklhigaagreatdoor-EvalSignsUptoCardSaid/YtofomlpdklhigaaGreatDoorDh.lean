/- inst.Check, in plain Lean and walked. -/
import Derived.Test.YtofomlpdklhigaaGreatDoorDy
namespace Go.Proofs.YtofomlpdklhigaaGreatDoor.Hand
open Go.RowKit Go.Proofs.YtofomlpdklhigaaGreatDoorW.PrintWords Go.Proofs.YtofomlpdklhigaaGreatDoorW.PrintLast Go.Proofs.YtofomlpdklhigaaGreatDoorW.PrintMore Go.Proofs.YtofomlpdklhigaaGreatDoor.PSigns
def ascB (size : Int) : Int → List Int → Bool
  | _, [] => true
  | last, e :: t => if e ≤ last then false else if e ≥ size then false else ascB size e t
def rowsB (x : PI) : Bool := x.cost.all fun r => r.length == x.cost.length
def setsB (x : PI) : Bool := x.sets.all fun s => ascB x.size (-1) s.f1
def inB (z low : Int) : Bool := decide (z ≥ low) && decide (z ≤ 2147483648)
def itB (s : S159) : Bool := inB s.f0 0 && inB s.f1 0
def rowB (r : List Int) : Bool := r.all fun z => inB z (-2147483648)
def smallB (x : PI) : Bool := inB x.cap 0 && x.items.all itB && x.cost.all rowB && x.sets.all fun s => inB s.f0 0
def diagB (x : PI) (i : Nat) : Bool := !(decide (x.kind = 2)) || (x.cost.getD i []).getD i 0 == 0
def bareB (x : PI) : Bool := (List.range x.cost.length).all (diagB x)
def leanB (x : PI) : Bool := (decide (x.kind = 0) || (decide (x.cap = 0) && decide (x.items.length = 0))) && (decide (x.kind = 1 ∨ x.kind = 2) || decide (x.cost.length = 0)) && (decide (x.kind = 3) || (decide (x.size = 0) && decide (x.sets.length = 0)))
def fewB (x : PI) : Bool := (!(decide (x.kind = 1 ∨ x.kind = 2)) || (decide (1 ≤ x.cost.length) && decide (x.cost.length ≤ 64))) && decide (x.items.length ≤ 4096) && decide (x.sets.length ≤ 4096) && decide (0 ≤ x.size ∧ x.size ≤ 4096)
/-- What Check says. -/
def chk (x : PI) : Int :=
  if (decide (0 ≤ x.kind ∧ x.kind < 4)) = true then (if leanB x = true then (if fewB x = true then (if (rowsB x && setsB x) = true then (if smallB x = true then (if bareB x = true then 0 else 4) else 22) else 4) else 22) else 4) else 25
theorem wrap_succ {i n : Nat} (h : i < n) (hn : n ≤ 17592186044416) : wrap64 ((i : Int) + 1) = ((i + 1 : Nat) : Int) := by
  unfold wrap64
  omega
theorem drop_cons {α : Type} {l : List α} {i : Nat} (h : i < l.length) (z : α) : l.drop i = l.getD i z :: l.drop (i + 1) := by
  rw [List.getD_eq_getElem?_getD, List.getElem?_eq_getElem h, Option.getD_some]
  exact List.drop_eq_getElem_cons h
theorem all_take {α : Type} {l : List α} {i : Nat} (h : i < l.length) (z : α) (p : α → Bool) : (l.take (i + 1)).all p = ((l.take i).all p && p (l.getD i z)) := by
  rw [take_snoc h z, List.all_append]
  simp
theorem asc_take (size : Int) : ∀ (l : List Int) (k : Nat) (last : Int), k < l.length → ascB size last (l.take (k + 1)) = (ascB size last (l.take k) && !(decide ((if k = 0 then last else l.getD (k - 1) 0) ≥ l.getD k 0) || decide (l.getD k 0 ≥ size)))
  | [], k, last, h => absurd h (Nat.not_lt_zero _)
  | e :: t, 0, last, h => by
    by_cases h1 : e ≤ last
    · simp [ascB, h1]
    · by_cases h2 : e ≥ size
      · simp [ascB, h1, h2]
      · simp [ascB, h1, h2]
  | e :: t, k + 1, last, h => by
    have ht : k < t.length := by simpa using h
    have ih := asc_take size t k e ht
    rw [List.take_succ_cons, List.take_succ_cons]
    unfold ascB
    by_cases h1 : e ≤ last
    · rw [if_pos h1, if_pos h1, Bool.false_and]
    · rw [if_neg h1, if_neg h1]
      by_cases h2 : e ≥ size
      · rw [if_pos h2, if_pos h2, Bool.false_and]
      · rw [if_neg h2, if_neg h2, ih]
        cases k with
        | zero => rfl
        | succ k => rfl
theorem asc_low (size : Int) : ∀ (l : List Int) (last : Int), ascB size last l = true → ∀ y ∈ l, last < y
  | [], _, _ => fun y hy => absurd hy List.not_mem_nil
  | e :: t, last, h => by
    unfold ascB at h
    split at h
    · cases h
    · split at h
      · cases h
      · intro y hy
        rcases List.mem_cons.1 hy with rfl | hy
        · omega
        · have := asc_low size t e h y hy
          omega
theorem asc_short (size : Int) : ∀ (l : List Int) (last : Int) (k : Nat), ascB size last l = true → ascB size last (l.take k) = true
  | [], _, _, h => by simpa using h
  | e :: t, last, 0, h => rfl
  | e :: t, last, k + 1, h => by
    rw [List.take_succ_cons]
    unfold ascB at h ⊢
    split at h
    · cases h
    · split at h
      · cases h
      · rename_i h1 h2
        rw [if_neg h1, if_neg h2]
        exact asc_short size t e k h
theorem all_not {α : Type} {l : List α} {i : Nat} (h : i < l.length) (z : α) {p : α → Bool} (hp : p (l.getD i z) = false) : l.all p = false := by
  rw [Bool.eq_false_iff]
  intro ha
  have := List.all_eq_true.1 ha (l.getD i z) (by
    rw [List.getD_eq_getElem?_getD, List.getElem?_eq_getElem h, Option.getD_some]
    exact List.getElem_mem h)
  rw [hp] at this
  cases this
theorem six {W w' : World} {p : Nat} {v0 v1 v2 v3 v4 v5 : Value} {t : TypeId} (h : W.heap[p]? = some (.cells #[v0, v1, v2, v3, v4, v5] t (0, 0))) (hb : Below W.heap.size W w') :
    w'.cell? ⟨p, 0, none⟩ = some v0 ∧ w'.cell? ⟨p, 1, none⟩ = some v1 ∧ w'.cell? ⟨p, 2, none⟩ = some v2 ∧ w'.cell? ⟨p, 3, none⟩ = some v3 ∧ w'.cell? ⟨p, 4, none⟩ = some v4 ∧ w'.cell? ⟨p, 5, none⟩ = some v5 ∧ Aside0 (Below W.heap.size W w') :=
  ⟨(blk_cell (blk_below h hb) 0).trans rfl, (blk_cell (blk_below h hb) 1).trans rfl, (blk_cell (blk_below h hb) 2).trans rfl, (blk_cell (blk_below h hb) 3).trans rfl, (blk_cell (blk_below h hb) 4).trans rfl, (blk_cell (blk_below h hb) 5).trans rfl, ⟨hb⟩⟩
theorem from_any (z lo : Int) (w : World) : Calls Tryz.prog 126 #[.int .i64 z, .int .i64 lo] w fun e w' => e = .returned (.bool (inB z lo)) ∧ w = w' := by
  unfold inB
  cases h1 : decide (z ≥ lo) <;> cases h2 : decide (z ≤ 2147483648)
  all_goals
    have h3 : decide (lo ≤ z) = _ := h1
    go_enter Tryz.func126, Tryz.ntmps126
    go_wp2
    go_ret
    exact ⟨rfl, rfl⟩
theorem is_any (z : Int) (w : World) : Calls Tryz.prog 86 #[.int .i64 z] w fun e w' => e = .returned (.bool (decide (0 ≤ z) && decide (z < 4))) ∧ w = w' := by
  cases h1 : decide (0 ≤ z) <;> cases h2 : decide (z < 4)
  all_goals
    have h3 : decide (z ≥ 0) = _ := h1
    go_enter Tryz.func86, Tryz.ntmps86
    go_wp2
    go_ret
    exact ⟨rfl, rfl⟩
theorem square_any (z : Int) (w : World) : Calls Tryz.prog 125 #[.int .i64 z] w fun e w' => e = .returned (.bool (z == 1 || z == 2)) ∧ w = w' := by
  cases h1 : (z == 1) <;> cases h2 : (z == 2)
  all_goals
    go_enter Tryz.func125, Tryz.ntmps125
    go_wp2
    go_ret
    exact ⟨rfl, rfl⟩
set_option maxHeartbeats 1000000 in
set_option maxRecDepth 100000 in
theorem lean_any (w : World) (x : PI) (v : Value) (h : InstC w x v) (hx : PIok x) (r : Bool) (RR : r = leanB x) : Calls Tryz.prog 87 #[v] w fun e w' => e = .returned (.bool r) ∧ Below w.heap.size w w' := by
  have HI := Aside0.mk h
  obtain ⟨A2, c2, A3, c3, A5, c5, rfl, h2, l2, h3, l3, h5, l5⟩ := h
  have H2 := Aside0.mk h2
  have H3 := Aside0.mk h3
  have H5 := Aside0.mk h5
  have HX := Aside0.mk hx
  have b2 := hx.items
  have b3 := hx.cost
  have b5 := hx.sets
  obtain ⟨n2, hn2⟩ : ∃ n, n = x.items.length := ⟨_, rfl⟩
  obtain ⟨n3, hn3⟩ : ∃ n, n = x.cost.length := ⟨_, rfl⟩
  obtain ⟨n5, hn5⟩ : ∃ n, n = x.sets.length := ⟨_, rfl⟩
  obtain ⟨kd, hkd⟩ : ∃ n, n = x.kind := ⟨_, rfl⟩
  obtain ⟨cap, hcap⟩ : ∃ n, n = x.cap := ⟨_, rfl⟩
  obtain ⟨sz, hsz⟩ : ∃ n, n = x.size := ⟨_, rfl⟩
  rw [← hn2] at HI H2 l2 b2 ⊢
  rw [← hn3] at HI H3 l3 b3 ⊢
  rw [← hn5] at HI H5 l5 b5 ⊢
  rw [← hkd, ← hcap, ← hsz] at HI ⊢
  have HF := Aside0.mk (And.intro hkd (And.intro hcap hsz))
  have HN := Aside0.mk (And.intro hn2 (And.intro hn3 hn5))
  clear hkd hcap hsz hn2 hn3 hn5 h2 h3 h5 hx
  clear HX H2 H3 H5
  obtain ⟨z0, hz0⟩ : ∃ s, (kd == 0) = s := ⟨_, rfl⟩
  obtain ⟨z3, hz3⟩ : ∃ s, (kd == 3) = s := ⟨_, rfl⟩
  obtain ⟨sq, hsq⟩ : ∃ s, (kd == 1 || kd == 2) = s := ⟨_, rfl⟩
  obtain ⟨bc, hbc⟩ : ∃ s, (cap == 0) = s := ⟨_, rfl⟩
  obtain ⟨bs, hbs⟩ : ∃ s, (sz == 0) = s := ⟨_, rfl⟩
  obtain ⟨d2, hd2⟩ : ∃ s, ((n2 : Int) == 0) = s := ⟨_, rfl⟩
  obtain ⟨d3, hd3⟩ : ∃ s, ((n3 : Int) == 0) = s := ⟨_, rfl⟩
  obtain ⟨d5, hd5⟩ : ∃ s, ((n5 : Int) == 0) = s := ⟨_, rfl⟩
  have hd2' : decide (n2 = 0) = d2 := by rw [← hd2]; by_cases h : n2 = 0 <;> simp [h]
  have hd3' : decide (n3 = 0) = d3 := by rw [← hd3]; by_cases h : n3 = 0 <;> simp [h]
  have hd5' : decide (n5 = 0) = d5 := by rw [← hd5]; by_cases h : n5 = 0 <;> simp [h]
  have LB : Aside0 (leanB x = ((z0 || (bc && d2)) && (sq || d3) && (z3 || (bs && d5)))) := ⟨by
    have f0 : z0 = decide (x.kind = 0) := by rw [← hz0, ← HF.out.1]; by_cases h : kd = 0 <;> simp [h]
    have f3 : z3 = decide (x.kind = 3) := by rw [← hz3, ← HF.out.1]; by_cases h : kd = 3 <;> simp [h]
    have fs : sq = decide (x.kind = 1 ∨ x.kind = 2) := by rw [← hsq, ← HF.out.1]; by_cases h1 : kd = 1 <;> by_cases h2 : kd = 2 <;> simp [h1, h2]
    have fc : bc = decide (x.cap = 0) := by rw [← hbc, ← HF.out.2.1]; by_cases h : cap = 0 <;> simp [h]
    have fz : bs = decide (x.size = 0) := by rw [← hbs, ← HF.out.2.2]; by_cases h : sz = 0 <;> simp [h]
    unfold leanB
    rw [← HN.out.1, ← HN.out.2.1, ← HN.out.2.2, hd2', hd3', hd5', f0, f3, fs, fc, fz]⟩
  have SQ := Aside0.mk hsq
  clear hsq
  have hu54 := Tryz.underlying76
  have hu101 := Tryz.underlying159
  have hu102 := Tryz.underlying161
  go_enter Tryz.func87, Tryz.ntmps87
  go_upto_region 1 with fail
  obtain ⟨W1, hW1⟩ : ∃ W, W = w.alloc (.cells #[.int .i64 kd, .int .i64 cap, .slice A2 n2 c2, .slice A3 n3 c3, .int .i64 sz, .slice A5 n5 c5] 76) := ⟨_, rfl⟩
  rw [← hW1]
  have B1 : Aside0 (Below w.heap.size w W1) := ⟨by rw [hW1]; exact below_alloc (Below.refl _ _) _⟩
  obtain ⟨p1, hp1⟩ : ∃ p, p = w.heap.size := ⟨_, rfl⟩
  have Q1 : Aside0 (W1.heap[p1]? = some (.cells #[.int .i64 kd, .int .i64 cap, .slice A2 n2 c2, .slice A3 n3 c3, .int .i64 sz, .slice A5 n5 c5] 76 (0, 0))) := ⟨by rw [hW1, hp1]; exact heap_alloc_new _ _⟩
  rw [← hp1]
  clear hW1 hp1
  obtain ⟨q0, q1, q2, q3, q4, q5, _⟩ := six Q1.out (Below.refl _ _)
  rw [LB.out] at RR
  go_wp2_with ((go_at_call 125; refine (square_any kd _).mono ?_; rintro _ _ ⟨rfl, rfl⟩; rw [SQ.out]))
  all_goals
    go_ret
    refine ⟨?_, B1.out⟩
    clear hz0 hz3 hbc hbs hd2 hd3 hd5 hd2' hd3' hd5' LB
    rw [RR]
    cases z0 <;> cases bc <;> cases d2 <;> cases sq <;> cases d3 <;> cases z3 <;> cases bs <;> cases d5 <;> first | rfl | contradiction
set_option maxHeartbeats 1000000 in
set_option maxRecDepth 100000 in
theorem few_any (w : World) (x : PI) (v : Value) (h : InstC w x v) (hx : PIok x) (r : Bool) (RR : r = fewB x) : Calls Tryz.prog 88 #[v] w fun e w' => e = .returned (.bool r) ∧ Below w.heap.size w w' := by
  have HI := Aside0.mk h
  obtain ⟨A2, c2, A3, c3, A5, c5, rfl, h2, l2, h3, l3, h5, l5⟩ := h
  have H2 := Aside0.mk h2
  have H3 := Aside0.mk h3
  have H5 := Aside0.mk h5
  have HX := Aside0.mk hx
  have b2 := hx.items
  have b3 := hx.cost
  have b5 := hx.sets
  obtain ⟨n2, hn2⟩ : ∃ n, n = x.items.length := ⟨_, rfl⟩
  obtain ⟨n3, hn3⟩ : ∃ n, n = x.cost.length := ⟨_, rfl⟩
  obtain ⟨n5, hn5⟩ : ∃ n, n = x.sets.length := ⟨_, rfl⟩
  obtain ⟨kd, hkd⟩ : ∃ n, n = x.kind := ⟨_, rfl⟩
  obtain ⟨cap, hcap⟩ : ∃ n, n = x.cap := ⟨_, rfl⟩
  obtain ⟨sz, hsz⟩ : ∃ n, n = x.size := ⟨_, rfl⟩
  rw [← hn2] at HI H2 l2 b2 ⊢
  rw [← hn3] at HI H3 l3 b3 ⊢
  rw [← hn5] at HI H5 l5 b5 ⊢
  rw [← hkd, ← hcap, ← hsz] at HI ⊢
  have HF := Aside0.mk (And.intro hkd (And.intro hcap hsz))
  have HN := Aside0.mk (And.intro hn2 (And.intro hn3 hn5))
  clear hkd hcap hsz hn2 hn3 hn5 h2 h3 h5 hx
  clear HX H2 H3 H5
  obtain ⟨sq, hsq⟩ : ∃ s, (kd == 1 || kd == 2) = s := ⟨_, rfl⟩
  obtain ⟨t1, ht1⟩ : ∃ s, decide ((n3 : Int) < 1) = s := ⟨_, rfl⟩
  obtain ⟨t3, ht3⟩ : ∃ s, decide (64 < (n3 : Int)) = s := ⟨_, rfl⟩
  obtain ⟨t2, ht2⟩ : ∃ s, decide ((n2 : Int) ≤ 4096) = s := ⟨_, rfl⟩
  obtain ⟨t5, ht5⟩ : ∃ s, decide ((n5 : Int) ≤ 4096) = s := ⟨_, rfl⟩
  obtain ⟨m1, hm1⟩ : ∃ s, decide (0 ≤ sz) = s := ⟨_, rfl⟩
  obtain ⟨m2, hm2⟩ : ∃ s, decide (sz ≤ 4096) = s := ⟨_, rfl⟩
  have hn1 : decide (n3 = 0) = t1 := by rw [← ht1, Bool.eq_iff_iff, decide_eq_true_eq, decide_eq_true_eq]; omega
  have hn64 : decide (64 < n3) = t3 := by rw [← ht3, Bool.eq_iff_iff, decide_eq_true_eq, decide_eq_true_eq]; omega
  have hn2' : decide (n2 ≤ 4096) = t2 := by rw [← ht2, Bool.eq_iff_iff, decide_eq_true_eq, decide_eq_true_eq]; omega
  have hn5' : decide (n5 ≤ 4096) = t5 := by rw [← ht5, Bool.eq_iff_iff, decide_eq_true_eq, decide_eq_true_eq]; omega
  have FB : Aside0 (fewB x = ((!sq || (!t1 && !t3)) && t2 && t5 && (m1 && m2))) := ⟨by
    have fs : sq = decide (x.kind = 1 ∨ x.kind = 2) := by rw [← hsq, ← HF.out.1]; by_cases h1 : kd = 1 <;> by_cases h2 : kd = 2 <;> simp [h1, h2]
    have g1 : decide (1 ≤ x.cost.length) = !t1 := by rw [← ht1, ← HN.out.2.1, Bool.eq_iff_iff]; simp only [Bool.not_eq_true', decide_eq_true_eq, decide_eq_false_iff_not]; omega
    have g3 : decide (x.cost.length ≤ 64) = !t3 := by rw [← ht3, ← HN.out.2.1, Bool.eq_iff_iff]; simp only [Bool.not_eq_true', decide_eq_true_eq, decide_eq_false_iff_not]; omega
    have gz : decide (0 ≤ x.size ∧ x.size ≤ 4096) = (m1 && m2) := by rw [← hm1, ← hm2, ← HF.out.2.2, Bool.eq_iff_iff]; simp
    unfold fewB
    rw [← fs, g1, g3, gz, ← HN.out.1, ← HN.out.2.2, hn2', hn5']⟩
  have SQ := Aside0.mk hsq
  clear hsq
  have hu54 := Tryz.underlying76
  have hu101 := Tryz.underlying159
  have hu102 := Tryz.underlying161
  go_enter Tryz.func88, Tryz.ntmps88
  go_upto_region 1 with fail
  obtain ⟨W1, hW1⟩ : ∃ W, W = w.alloc (.cells #[.int .i64 kd, .int .i64 cap, .slice A2 n2 c2, .slice A3 n3 c3, .int .i64 sz, .slice A5 n5 c5] 76) := ⟨_, rfl⟩
  rw [← hW1]
  have B1 : Aside0 (Below w.heap.size w W1) := ⟨by rw [hW1]; exact below_alloc (Below.refl _ _) _⟩
  obtain ⟨p1, hp1⟩ : ∃ p, p = w.heap.size := ⟨_, rfl⟩
  have Q1 : Aside0 (W1.heap[p1]? = some (.cells #[.int .i64 kd, .int .i64 cap, .slice A2 n2 c2, .slice A3 n3 c3, .int .i64 sz, .slice A5 n5 c5] 76 (0, 0))) := ⟨by rw [hW1, hp1]; exact heap_alloc_new _ _⟩
  rw [← hp1]
  clear hW1 hp1
  obtain ⟨q0, q1, q2, q3, q4, q5, _⟩ := six Q1.out (Below.refl _ _)
  rw [FB.out] at RR
  go_wp2_with ((go_at_call 125; refine (square_any kd _).mono ?_; rintro _ _ ⟨rfl, rfl⟩; rw [SQ.out]))
  all_goals
    go_ret
    refine ⟨?_, B1.out⟩
    clear ht1 ht3 ht2 ht5 hm1 hm2 hn1 hn64 hn2' hn5' FB
    rw [RR]
    cases sq <;> cases t1 <;> cases t3 <;> cases t2 <;> cases t5 <;> cases m1 <;> cases m2 <;> first | rfl | contradiction
set_option maxHeartbeats 1000000 in
set_option maxRecDepth 100000 in
theorem shaped_any (w : World) (x : PI) (v : Value) (h : InstC w x v) (hx : PIok x) (r : Bool) (RR : r = (rowsB x && setsB x)) : Calls Tryz.prog 89 #[v] w fun e w' => e = .returned (.bool r) ∧ Below w.heap.size w w' := by
  have HI := Aside0.mk h
  obtain ⟨A2, c2, A3, c3, A5, c5, rfl, h2, l2, h3, l3, h5, l5⟩ := h
  have H2 := Aside0.mk h2
  have H3 := Aside0.mk h3
  have H5 := Aside0.mk h5
  have HX := Aside0.mk hx
  have b2 := hx.items
  have b3 := hx.cost
  have b5 := hx.sets
  obtain ⟨n2, hn2⟩ : ∃ n, n = x.items.length := ⟨_, rfl⟩
  obtain ⟨n3, hn3⟩ : ∃ n, n = x.cost.length := ⟨_, rfl⟩
  obtain ⟨n5, hn5⟩ : ∃ n, n = x.sets.length := ⟨_, rfl⟩
  obtain ⟨kd, hkd⟩ : ∃ n, n = x.kind := ⟨_, rfl⟩
  obtain ⟨cap, hcap⟩ : ∃ n, n = x.cap := ⟨_, rfl⟩
  obtain ⟨sz, hsz⟩ : ∃ n, n = x.size := ⟨_, rfl⟩
  rw [← hn2] at HI H2 l2 b2 ⊢
  rw [← hn3] at HI H3 l3 b3 ⊢
  rw [← hn5] at HI H5 l5 b5 ⊢
  rw [← hkd, ← hcap, ← hsz] at HI ⊢
  have HF := Aside0.mk (And.intro hkd (And.intro hcap hsz))
  have HN := Aside0.mk (And.intro hn2 (And.intro hn3 hn5))
  clear hkd hcap hsz hn2 hn3 hn5 h2 h3 h5 hx
  have hu54 := Tryz.underlying76
  have hu101 := Tryz.underlying159
  have hu102 := Tryz.underlying161
  go_enter Tryz.func89, Tryz.ntmps89
  go_upto_region 1 with fail
  obtain ⟨W1, hW1⟩ : ∃ W, W = w.alloc (.cells #[.int .i64 kd, .int .i64 cap, .slice A2 n2 c2, .slice A3 n3 c3, .int .i64 sz, .slice A5 n5 c5] 76) := ⟨_, rfl⟩
  rw [← hW1]
  have B1 : Aside0 (Below w.heap.size w W1) := ⟨by rw [hW1]; exact below_alloc (Below.refl _ _) _⟩
  obtain ⟨p1, hp1⟩ : ∃ p, p = w.heap.size := ⟨_, rfl⟩
  have Q1 : Aside0 (W1.heap[p1]? = some (.cells #[.int .i64 kd, .int .i64 cap, .slice A2 n2 c2, .slice A3 n3 c3, .int .i64 sz, .slice A5 n5 c5] 76 (0, 0))) := ⟨by rw [hW1, hp1]; exact heap_alloc_new _ _⟩
  rw [← hp1]
  clear hW1 hp1
  obtain ⟨q0, q1, q2, q3, q4, q5, _⟩ := six Q1.out (Below.refl _ _)
  clear q0 q1 q2 q4 q5
  have HR := Aside0.mk RR
  clear RR
  go_wp2_with fail
  clear q3
  have K0 : Aside0 ((x.cost.take 0).all (fun r => r.length == x.cost.length) = true) := ⟨rfl⟩
  go_loop [13] (fun v => ∃ i : Nat, i ≤ n3 ∧ v = .int .i64 i ∧ Aside0 ((x.cost.take i).all (fun r => r.length == x.cost.length) = true)) (fun v => n3 - (intOf v).toNat)
  case atStart => exact ⟨0, Nat.zero_le _, rfl, K0⟩
  case round =>
    clear K0
    obtain ⟨i, hi, rfl, KR⟩ := hrel
    have q3 : W1.cell? ⟨p1, 3, none⟩ = some (.slice A3 n3 c3) := (blk_cell Q1.out 3).trans rfl
    by_cases hlt : i < n3
    · obtain ⟨ad, AY, cY, rfl, a0', ly, hy⟩ := at_L2 H3.out (i : Int) (by omega) (by omega)
      have a0 := pw_cell_below B1.out a0'
      rw [Int.toNat_natCast] at a0
      have NX := Aside0.mk (all_take (l := x.cost) (i := i) (by rw [← HN.out.2.1]; exact hlt) [] (fun r => r.length == x.cost.length))
      obtain ⟨y, hy1⟩ : ∃ y, y = rd_L2 x.cost (i : Int) := ⟨_, rfl⟩
      have HS : Aside0 (y = x.cost.getD i []) := ⟨by rw [hy1]; unfold rd_L2; rw [Int.toNat_natCast]⟩
      rw [← hy1] at a0 ly
      obtain ⟨nY, hnY⟩ : ∃ n, n = y.length := ⟨_, rfl⟩
      rw [← hnY] at a0 ly
      have HNY := Aside0.mk hnY
      clear hnY hy1 a0' hy
      by_cases e : nY = n3
      · have N1 : Aside0 ((x.cost.take (i + 1)).all (fun r => r.length == x.cost.length) = true) := ⟨by rw [NX.out, KR.out, ← HS.out, ← HNY.out, e, HN.out.2.1]; simp⟩
        have ge : ((nY : Int) != (n3 : Int)) = false := by rw [e]; simp
        clear e
        go_wp2_with fail
        exact ⟨⟨i + 1, by omega, by go_num, N1⟩, by simp [intOf]; omega⟩
      · have N1 : Aside0 (r = false) := ⟨by
          have : rowsB x = false := all_not (i := i) (by rw [← HN.out.2.1]; exact hlt) [] (by rw [← HS.out]; exact beq_eq_false_iff_ne.2 (by rw [← HNY.out, ← HN.out.2.1]; exact e))
          rw [HR.out, this]; rfl⟩
        have ge : ((nY : Int) != (n3 : Int)) = true := by simp; omega
        clear e
        go_wp2_with fail
        go_ret
        exact ⟨by rw [N1.out]; rfl, B1.out⟩
    · obtain rfl : n3 = i := by omega
      have RB : Aside0 (rowsB x = true) := ⟨by
        have h1 := KR.out
        rw [List.take_of_length_le (by rw [HN.out.2.1]; exact Nat.le_refl _)] at h1
        exact h1⟩
      have q5 : W1.cell? ⟨p1, 5, none⟩ = some (.slice A5 n5 c5) := (blk_cell Q1.out 5).trans rfl
      clear KR hlt hi
      go_wp2_with fail
      clear q3 q5
      have K0 : Aside0 ((x.sets.take 0).all (fun s => ascB x.size (-1) s.f1) = true ∧ Below W1.heap.size W1 W1) := ⟨rfl, Below.refl _ _⟩
      go_loopw [27] (fun v wr => ∃ i : Nat, i ≤ n5 ∧ v = .int .i64 i ∧ Aside0 ((x.sets.take i).all (fun s => ascB x.size (-1) s.f1) = true ∧ Below W1.heap.size W1 wr)) (fun v _ => n5 - (intOf v).toNat)
      case atStart => exact ⟨0, Nat.zero_le _, rfl, K0⟩
      case round =>
        clear K0
        obtain ⟨i, hi, rfl, KR⟩ := hrel
        by_cases hlt : i < n5
        · obtain ⟨ad, AE, cE, rfl, a0', a1', lE, hE⟩ := at_T161 H5.out (i : Int) (by omega) (by omega)
          have a0 := pw_cell_below (B1.out.trans (KR.out.2.mono B1.out.size)) a0'
          have a1 := pw_cell_below (B1.out.trans (KR.out.2.mono B1.out.size)) a1'
          rw [Int.toNat_natCast] at a0 a1
          have hm : rd_T161 x.sets (i : Int) ∈ x.sets := by
            unfold rd_T161
            rw [Int.toNat_natCast, List.getD_eq_getElem?_getD, List.getElem?_eq_getElem (by rw [← HN.out.2.2]; exact hlt)]
            exact List.getElem_mem _
          have hel := HX.out.els _ hm
          have NX := Aside0.mk (all_take (l := x.sets) (i := i) (by rw [← HN.out.2.2]; exact hlt) z161 (fun s => ascB x.size (-1) s.f1))
          obtain ⟨el, hl0⟩ : ∃ z, z = (rd_T161 x.sets (i : Int)).f1 := ⟨_, rfl⟩
          obtain ⟨u, hu⟩ : ∃ z, z = (rd_T161 x.sets (i : Int)).f0 := ⟨_, rfl⟩
          have HS : Aside0 (el = (x.sets.getD i z161).f1) := ⟨by rw [hl0]; unfold rd_T161; rw [Int.toNat_natCast]⟩
          rw [← hl0] at a1 hel hE lE
          rw [← hu] at a0
          obtain ⟨nE, hnE⟩ : ∃ n, n = el.length := ⟨_, rfl⟩
          rw [← hnE] at a1 hel hE lE
          have HE := Aside0.mk hE
          have HNE := Aside0.mk hnE
          clear a0' a1' hl0 hu hE hnE hm
          obtain ⟨wo, hwo⟩ : ∃ wo : World, wo = wr := ⟨_, rfl⟩
          rw [← hwo] at KR a0 a1 ⊢
          clear hwo
          go_upto_region 10 with fail
          obtain ⟨W4, hW4⟩ : ∃ W, W = wo.alloc (.cells #[.int .i64 u, .slice AE nE cE] 161) := ⟨_, rfl⟩
          rw [← hW4]
          have B4 : Aside0 (Below W1.heap.size W1 W4) := ⟨by rw [hW4]; exact KR.out.2.alloc KR.out.2.size _⟩
          obtain ⟨p4, hp4⟩ : ∃ p, p = wo.heap.size := ⟨_, rfl⟩
          have Q4 : Aside0 (W4.heap[p4]? = some (.cells #[.int .i64 u, .slice AE nE cE] 161 (0, 0))) := ⟨by rw [hW4, hp4]; exact heap_alloc_new _ _⟩
          rw [← hp4]
          clear hW4 hp4 a0 a1
          have a1 : W4.cell? ⟨p4, 1, none⟩ = some (.slice AE nE cE) := (blk_cell Q4.out 1).trans rfl
          go_wp2_with fail
          clear a1
          have K1 := Aside0.mk KR.out.1
          clear KR
          have J0 : Aside0 (ascB x.size (-1) (el.take 0) = true) := ⟨rfl⟩
          have LW0 : (-1 : Int) = if (0 : Nat) = 0 then -1 else el.getD (0 - 1) 0 := rfl
          go_loop [7, 34] (fun v7 v => ∃ (j : Nat) (last : Int), j ≤ nE ∧ v7 = .int .i64 last ∧ v = .int .i64 j ∧ Aside0 (ascB x.size (-1) (el.take j) = true ∧ last = if j = 0 then -1 else el.getD (j - 1) 0)) (fun _ v => nE - (intOf v).toNat)
          case atStart => exact ⟨0, -1, Nat.zero_le _, rfl, rfl, ⟨J0.out, rfl⟩⟩
          case round =>
            clear J0 LW0
            obtain ⟨j, last, hj, rfl, rfl, KJ⟩ := hrel
            by_cases hlt2 : j < nE
            · obtain ⟨ae, rfl, hx'⟩ := at_Int HE.out j hlt2
              have hx := pw_cell_below (B1.out.trans (B4.out.mono B1.out.size)) hx'
              have NZ := Aside0.mk (asc_take x.size el j (-1) (by rw [← HNE.out]; exact hlt2))
              obtain ⟨z, hz⟩ : ∃ z, z = el.getD j 0 := ⟨_, rfl⟩
              rw [← hz] at hx
              have HZ := Aside0.mk hz
              clear hx' hz
              have q4 : W4.cell? ⟨p1, 4, none⟩ = some (.int .i64 sz) := (blk_cell (blk_below Q1.out B4.out) 4).trans rfl
              have NN : Aside0 (ascB x.size (-1) (el.take (j + 1)) = !(decide (z ≤ last) || decide (z ≥ sz))) := ⟨by
                rw [NZ.out, KJ.out.1, Bool.true_and, ← HZ.out, ← KJ.out.2, ← HF.out.2.2]⟩
              have BAD : Aside0 (ascB x.size (-1) (el.take (j + 1)) = false → r = false) := ⟨fun hb => by
                have h2 : setsB x = false := all_not (i := i) (by rw [← HN.out.2.2]; exact hlt) z161 (by
                  rw [← HS.out, Bool.eq_false_iff]
                  intro ha
                  have := asc_short x.size el (-1) (j + 1) ha
                  rw [hb] at this
                  cases this)
                rw [HR.out, h2, Bool.and_false]⟩
              cases g1 : decide (z ≤ last) with
              | true =>
                have N1 : Aside0 (r = false) := ⟨BAD.out (by rw [NN.out, g1]; rfl)⟩
                go_wp2_with fail
                go_ret
                exact ⟨by rw [N1.out]; rfl, B1.out.trans (B4.out.mono B1.out.size)⟩
              | false =>
                cases g2 : decide (z ≥ sz) with
                | true =>
                  have g3 : decide (sz ≤ z) = true := g2
                  have N1 : Aside0 (r = false) := ⟨BAD.out (by rw [NN.out, g1, g2]; rfl)⟩
                  go_wp2_with fail
                  go_ret
                  exact ⟨by rw [N1.out]; rfl, B1.out.trans (B4.out.mono B1.out.size)⟩
                | false =>
                  have g3 : decide (sz ≤ z) = false := g2
                  have N1 : Aside0 (ascB x.size (-1) (el.take (j + 1)) = true ∧ z = if j + 1 = 0 then -1 else el.getD (j + 1 - 1) 0) := ⟨by rw [NN.out, g1, g2]; rfl, by rw [if_neg (by omega), Nat.add_sub_cancel]; exact HZ.out⟩
                  go_wp2_with fail
                  exact ⟨⟨j + 1, z, by omega, rfl, by go_num, N1⟩, by simp [intOf]; omega⟩
            · obtain rfl : nE = j := by omega
              have N1 : Aside0 ((x.sets.take (i + 1)).all (fun s => ascB x.size (-1) s.f1) = true ∧ Below W1.heap.size W1 W4) := ⟨by
                have h1 := KJ.out.1
                rw [List.take_of_length_le (by rw [HNE.out]; exact Nat.le_refl _)] at h1
                rw [NX.out, K1.out, Bool.true_and, ← HS.out]
                exact h1, B4.out⟩
              go_wp2_with fail
              exact ⟨⟨i + 1, by omega, by go_num, N1⟩, by simp [intOf]; omega⟩
        · obtain rfl : n5 = i := by omega
          have N1 : Aside0 (r = true) := ⟨by
            have h1 := KR.out.1
            rw [List.take_of_length_le (by rw [HN.out.2.2]; exact Nat.le_refl _)] at h1
            rw [HR.out, RB.out, Bool.true_and]
            exact h1⟩
          go_wp2_with fail
          go_ret
          exact ⟨by rw [N1.out]; rfl, B1.out.trans (KR.out.2.mono B1.out.size)⟩
set_option maxHeartbeats 1000000 in
set_option maxRecDepth 100000 in
theorem bare_any (w : World) (x : PI) (v : Value) (h : InstC w x v) (hx : PIok x) (hrw : rowsB x = true) (r : Bool) (RR : r = bareB x) : Calls Tryz.prog 91 #[v] w fun e w' => e = .returned (.bool r) ∧ Below w.heap.size w w' := by
  have HI := Aside0.mk h
  obtain ⟨A2, c2, A3, c3, A5, c5, rfl, h2, l2, h3, l3, h5, l5⟩ := h
  have H2 := Aside0.mk h2
  have H3 := Aside0.mk h3
  have H5 := Aside0.mk h5
  have HX := Aside0.mk hx
  have b2 := hx.items
  have b3 := hx.cost
  have b5 := hx.sets
  obtain ⟨n2, hn2⟩ : ∃ n, n = x.items.length := ⟨_, rfl⟩
  obtain ⟨n3, hn3⟩ : ∃ n, n = x.cost.length := ⟨_, rfl⟩
  obtain ⟨n5, hn5⟩ : ∃ n, n = x.sets.length := ⟨_, rfl⟩
  obtain ⟨kd, hkd⟩ : ∃ n, n = x.kind := ⟨_, rfl⟩
  obtain ⟨cap, hcap⟩ : ∃ n, n = x.cap := ⟨_, rfl⟩
  obtain ⟨sz, hsz⟩ : ∃ n, n = x.size := ⟨_, rfl⟩
  rw [← hn2] at HI H2 l2 b2 ⊢
  rw [← hn3] at HI H3 l3 b3 ⊢
  rw [← hn5] at HI H5 l5 b5 ⊢
  rw [← hkd, ← hcap, ← hsz] at HI ⊢
  have HF := Aside0.mk (And.intro hkd (And.intro hcap hsz))
  have HN := Aside0.mk (And.intro hn2 (And.intro hn3 hn5))
  clear hkd hcap hsz hn2 hn3 hn5 h2 h3 h5 hx
  have hu54 := Tryz.underlying76
  have hu101 := Tryz.underlying159
  have hu102 := Tryz.underlying161
  go_enter Tryz.func91, Tryz.ntmps91
  go_upto_region 1 with fail
  obtain ⟨W1, hW1⟩ : ∃ W, W = w.alloc (.cells #[.int .i64 kd, .int .i64 cap, .slice A2 n2 c2, .slice A3 n3 c3, .int .i64 sz, .slice A5 n5 c5] 76) := ⟨_, rfl⟩
  rw [← hW1]
  have B1 : Aside0 (Below w.heap.size w W1) := ⟨by rw [hW1]; exact below_alloc (Below.refl _ _) _⟩
  obtain ⟨p1, hp1⟩ : ∃ p, p = w.heap.size := ⟨_, rfl⟩
  have Q1 : Aside0 (W1.heap[p1]? = some (.cells #[.int .i64 kd, .int .i64 cap, .slice A2 n2 c2, .slice A3 n3 c3, .int .i64 sz, .slice A5 n5 c5] 76 (0, 0))) := ⟨by rw [hW1, hp1]; exact heap_alloc_new _ _⟩
  rw [← hp1]
  clear hW1 hp1
  obtain ⟨q0, q1, q2, q3, q4, q5, _⟩ := six Q1.out (Below.refl _ _)
  clear q0 q1 q2 q4 q5
  have HR := Aside0.mk RR
  have RW := Aside0.mk hrw
  clear RR hrw
  go_wp2_with fail
  clear q3
  have K0 : Aside0 ((List.range 0).all (diagB x) = true) := ⟨rfl⟩
  go_loop [8] (fun v => ∃ i : Nat, i ≤ n3 ∧ v = .int .i64 i ∧ Aside0 ((List.range i).all (diagB x) = true)) (fun v => n3 - (intOf v).toNat)
  case atStart => exact ⟨0, Nat.zero_le _, rfl, K0⟩
  case round =>
    clear K0
    obtain ⟨i, hi, rfl, KR⟩ := hrel
    have q0 : W1.cell? ⟨p1, 0, none⟩ = some (.int .i64 kd) := (blk_cell Q1.out 0).trans rfl
    by_cases hlt : i < n3
    · obtain ⟨ad, AY, cY, rfl, a0', ly, hy⟩ := at_L2 H3.out (i : Int) (by omega) (by omega)
      have a0 := pw_cell_below B1.out a0'
      rw [Int.toNat_natCast] at a0
      obtain ⟨y, hy1⟩ : ∃ y, y = rd_L2 x.cost (i : Int) := ⟨_, rfl⟩
      have HS : Aside0 (y = x.cost.getD i []) := ⟨by rw [hy1]; unfold rd_L2; rw [Int.toNat_natCast]⟩
      have hnY : y.length = n3 := by
        have h2 := List.all_eq_true.1 RW.out y (by
          rw [HS.out, List.getD_eq_getElem?_getD, List.getElem?_eq_getElem (by rw [← HN.out.2.1]; exact hlt), Option.getD_some]
          exact List.getElem_mem _)
        rw [beq_iff_eq] at h2
        rw [h2, HN.out.2.1]
      rw [← hy1, hnY] at a0 ly hy
      obtain ⟨ae, rfl, hx'⟩ := at_Int hy i hlt
      have hx := pw_cell_below B1.out hx'
      obtain ⟨z, hz⟩ : ∃ z, z = y.getD i 0 := ⟨_, rfl⟩
      rw [← hz] at hx
      have DZ : Aside0 (diagB x i = (!(kd == 2) || (z == 0))) := ⟨by
        unfold diagB
        rw [← HS.out, ← hz, ← HF.out.1]
        by_cases e : kd = 2 <;> simp [e]⟩
      clear a0' hx' hz hy1 hnY hy
      cases g2 : (kd == 2) with
      | false =>
        have N1 : Aside0 ((List.range (i + 1)).all (diagB x) = true) := ⟨by
          rw [List.range_succ, List.all_append, KR.out]
          simp [DZ.out, g2]⟩
        go_wp2_with fail
        exact ⟨⟨i + 1, by omega, by go_num, N1⟩, by simp [intOf]; omega⟩
      | true =>
        cases gz : (z == 0) with
        | true =>
          have gz2 : (z != 0) = false := by rw [bne, gz]; rfl
          have N1 : Aside0 ((List.range (i + 1)).all (diagB x) = true) := ⟨by
            rw [List.range_succ, List.all_append, KR.out]
            simp [DZ.out, gz]⟩
          go_wp2_with fail
          exact ⟨⟨i + 1, by omega, by go_num, N1⟩, by simp [intOf]; omega⟩
        | false =>
          have gz2 : (z != 0) = true := by rw [bne, gz]; rfl
          have N1 : Aside0 (r = false) := ⟨by
            rw [HR.out, Bool.eq_false_iff]
            intro h
            have := List.all_eq_true.1 h i (by rw [List.mem_range, ← HN.out.2.1]; exact hlt)
            rw [DZ.out, gz, g2] at this
            cases this⟩
          go_wp2_with fail
          go_ret
          exact ⟨by rw [N1.out]; rfl, B1.out⟩
    · obtain rfl : n3 = i := by omega
      have N1 : Aside0 (r = true) := ⟨by
        have h1 := KR.out
        rw [HN.out.2.1] at h1
        rw [HR.out]
        exact h1⟩
      go_wp2_with fail
      go_ret
      exact ⟨by rw [N1.out]; rfl, B1.out⟩
set_option maxHeartbeats 1000000 in
set_option maxRecDepth 100000 in
theorem small_any (w : World) (x : PI) (v : Value) (h : InstC w x v) (hx : PIok x) (r : Bool) (RR : r = smallB x) : Calls Tryz.prog 90 #[v] w fun e w' => e = .returned (.bool r) ∧ Below w.heap.size w w' := by
  have HI := Aside0.mk h
  obtain ⟨A2, c2, A3, c3, A5, c5, rfl, h2, l2, h3, l3, h5, l5⟩ := h
  have H2 := Aside0.mk h2
  have H3 := Aside0.mk h3
  have H5 := Aside0.mk h5
  have HX := Aside0.mk hx
  have b2 := hx.items
  have b3 := hx.cost
  have b5 := hx.sets
  obtain ⟨n2, hn2⟩ : ∃ n, n = x.items.length := ⟨_, rfl⟩
  obtain ⟨n3, hn3⟩ : ∃ n, n = x.cost.length := ⟨_, rfl⟩
  obtain ⟨n5, hn5⟩ : ∃ n, n = x.sets.length := ⟨_, rfl⟩
  obtain ⟨kd, hkd⟩ : ∃ n, n = x.kind := ⟨_, rfl⟩
  obtain ⟨cap, hcap⟩ : ∃ n, n = x.cap := ⟨_, rfl⟩
  obtain ⟨sz, hsz⟩ : ∃ n, n = x.size := ⟨_, rfl⟩
  rw [← hn2] at HI H2 l2 b2 ⊢
  rw [← hn3] at HI H3 l3 b3 ⊢
  rw [← hn5] at HI H5 l5 b5 ⊢
  rw [← hkd, ← hcap, ← hsz] at HI ⊢
  have HF := Aside0.mk (And.intro hkd (And.intro hcap hsz))
  have HN := Aside0.mk (And.intro hn2 (And.intro hn3 hn5))
  clear hkd hcap hsz hn2 hn3 hn5 h2 h3 h5 hx
  have hu54 := Tryz.underlying76
  have hu101 := Tryz.underlying159
  have hu102 := Tryz.underlying161
  go_enter Tryz.func90, Tryz.ntmps90
  go_upto_region 1 with fail
  obtain ⟨W1, hW1⟩ : ∃ W, W = w.alloc (.cells #[.int .i64 kd, .int .i64 cap, .slice A2 n2 c2, .slice A3 n3 c3, .int .i64 sz, .slice A5 n5 c5] 76) := ⟨_, rfl⟩
  rw [← hW1]
  have B1 : Aside0 (Below w.heap.size w W1) := ⟨by rw [hW1]; exact below_alloc (Below.refl _ _) _⟩
  obtain ⟨p1, hp1⟩ : ∃ p, p = w.heap.size := ⟨_, rfl⟩
  have Q1 : Aside0 (W1.heap[p1]? = some (.cells #[.int .i64 kd, .int .i64 cap, .slice A2 n2 c2, .slice A3 n3 c3, .int .i64 sz, .slice A5 n5 c5] 76 (0, 0))) := ⟨by rw [hW1, hp1]; exact heap_alloc_new _ _⟩
  rw [← hp1]
  clear hW1 hp1
  obtain ⟨q0, q1, q2, q3, q4, q5, _⟩ := six Q1.out (Below.refl _ _)
  have HR := Aside0.mk RR
  clear RR q0 q2 q3 q4 q5
  go_wp2_with fail
  clear q1
  refine (from_any cap 0 _).mono ?_
  rintro _ _ ⟨rfl, rfl⟩
  obtain ⟨b, hb⟩ : ∃ b : Bool, b = inB cap 0 := ⟨_, rfl⟩
  rw [← hb]
  have KB : Aside0 (b = inB x.cap 0) := ⟨by rw [hb, HF.out.2.1]⟩
  clear hb
  have q2 : W1.cell? ⟨p1, 2, none⟩ = some (.slice A2 n2 c2) := (blk_cell Q1.out 2).trans rfl
  go_wp2_with fail
  clear q2
  have K0 : Aside0 (b = (inB x.cap 0 && (x.items.take 0).all itB) ∧ Below W1.heap.size W1 W1) := ⟨by rw [KB.out]; simp, Below.refl _ _⟩
  go_loopw [3, 18] (fun v i wr => ∃ (k : Nat) (b : Bool), k ≤ n2 ∧ v = .bool b ∧ i = .int .i64 k ∧ Aside0 (b = (inB x.cap 0 && (x.items.take k).all itB) ∧ Below W1.heap.size W1 wr)) (fun _ i _ => n2 - (intOf i).toNat)
  case atStart => exact ⟨0, b, Nat.zero_le _, rfl, rfl, K0⟩
  case round =>
    clear K0 KB
    obtain ⟨k, b, hk, rfl, rfl, KB⟩ := hrel
    by_cases hlt : k < n2
    · obtain ⟨ad, rfl, a0', a1'⟩ := at_T159 H2.out (k : Int) (by omega) (by omega)
      have BW := Aside0.mk (B1.out.trans (KB.out.2.mono B1.out.size))
      have a0 := pw_cell_below BW.out a0'
      have a1 := pw_cell_below BW.out a1'
      rw [Int.toNat_natCast] at a0 a1
      obtain ⟨s, hs⟩ : ∃ s, s = rd_T159 x.items (k : Int) := ⟨_, rfl⟩
      rw [← hs] at a0 a1
      have NX := Aside0.mk (all_take (l := x.items) (i := k) (by rw [← HN.out.1]; exact hlt) z159 itB)
      have HS : Aside0 (s = x.items.getD k z159) := ⟨by rw [hs]; unfold rd_T159; rw [Int.toNat_natCast]⟩
      clear hs a0' a1'
      obtain ⟨wo, hwo⟩ : ∃ wo : World, wo = wr := ⟨_, rfl⟩
      rw [← hwo] at KB a0 a1 ⊢
      clear hwo BW
      go_upto_region 5 with fail
      obtain ⟨W4, hW4⟩ : ∃ W, W = wo.alloc (.cells #[.int .i64 s.f0, .int .i64 s.f1] 159) := ⟨_, rfl⟩
      rw [← hW4]
      have B4 : Aside0 (Below W1.heap.size W1 W4) := ⟨by rw [hW4]; exact KB.out.2.alloc KB.out.2.size _⟩
      obtain ⟨p4, hp4⟩ : ∃ p, p = wo.heap.size := ⟨_, rfl⟩
      have Q4 : Aside0 (W4.heap[p4]? = some (.cells #[.int .i64 s.f0, .int .i64 s.f1] 159 (0, 0))) := ⟨by rw [hW4, hp4]; exact heap_alloc_new _ _⟩
      rw [← hp4]
      clear hW4 hp4 a0 a1
      have a0 : W4.cell? ⟨p4, 0, none⟩ = some (.int .i64 s.f0) := (blk_cell Q4.out 0).trans rfl
      have a1 : W4.cell? ⟨p4, 1, none⟩ = some (.int .i64 s.f1) := (blk_cell Q4.out 1).trans rfl
      obtain ⟨u0, hu0⟩ : ∃ b : Bool, b = inB s.f0 0 := ⟨_, rfl⟩
      obtain ⟨u1, hu1⟩ : ∃ b : Bool, b = inB s.f1 0 := ⟨_, rfl⟩
      have U := Aside0.mk (And.intro hu0 hu1)
      have NB : Aside0 ((b && u0 && u1) = (inB x.cap 0 && (x.items.take (k + 1)).all itB)) := ⟨by
        rw [NX.out, KB.out.1, hu0, hu1, ← HS.out]
        rw [show itB s = (inB s.f0 0 && inB s.f1 0) from rfl]
        cases inB x.cap 0 <;> cases (x.items.take k).all itB <;> cases inB s.f0 0 <;> cases inB s.f1 0 <;> rfl⟩
      clear hu0 hu1
      go_wp2_with (go_at_call 126; refine (from_any _ 0 _).mono ?_; rintro _ _ ⟨rfl, rfl⟩; first | rw [← U.out.1] | rw [← U.out.2])
      all_goals
        exact ⟨⟨k + 1, _, by omega, rfl, by go_num, ⟨by rw [← NB.out]; cases b <;> cases u0 <;> cases u1 <;> first | rfl | contradiction, B4.out⟩⟩, by simp [intOf]; omega⟩
    · obtain rfl : n2 = k := by omega
      have K1 : Aside0 (b = (inB x.cap 0 && x.items.all itB)) := ⟨by rw [KB.out.1, List.take_of_length_le (by rw [HN.out.1]; exact Nat.le_refl _)]⟩
      have BR := Aside0.mk KB.out.2
      have q3 : wr.cell? ⟨p1, 3, none⟩ = some (.slice A3 n3 c3) := (blk_cell (blk_below Q1.out BR.out) 3).trans rfl
      clear KB hlt hk
      obtain ⟨W2, hW2⟩ : ∃ W, W = wr := ⟨_, rfl⟩
      rw [← hW2] at BR q3 ⊢
      clear hW2
      go_wp2_with fail
      clear q3
      have K0 : Aside0 (b = (inB x.cap 0 && x.items.all itB && (x.cost.take 0).all rowB)) := ⟨by rw [K1.out]; simp⟩
      go_loop [3, 37] (fun v i => ∃ (k : Nat) (b : Bool), k ≤ n3 ∧ v = .bool b ∧ i = .int .i64 k ∧ Aside0 (b = (inB x.cap 0 && x.items.all itB && (x.cost.take k).all rowB))) (fun _ i => n3 - (intOf i).toNat)
      case atStart => exact ⟨0, b, Nat.zero_le _, rfl, rfl, K0⟩
      case round =>
        clear K0 K1
        obtain ⟨k, b, hk, rfl, rfl, KB⟩ := hrel
        by_cases hlt : k < n3
        · obtain ⟨ad, AY, cY, rfl, a0', ly, hy'⟩ := at_L2 H3.out (k : Int) (by omega) (by omega)
          have BW := Aside0.mk (B1.out.trans (BR.out.mono B1.out.size))
          have a0 := pw_cell_below BW.out a0'
          have hy := Kd.C_below hy' BW.out
          rw [Int.toNat_natCast] at a0
          have hm : rd_L2 x.cost (k : Int) ∈ x.cost := by
            unfold rd_L2
            rw [Int.toNat_natCast, List.getD_eq_getElem?_getD, List.getElem?_eq_getElem (by rw [← HN.out.2.1]; exact hlt)]
            exact List.getElem_mem _
          have hyl : (rd_L2 x.cost (k : Int)).length ≤ 17592186044416 := HX.out.rows _ hm
          have NX := Aside0.mk (all_take (l := x.cost) (i := k) (by rw [← HN.out.2.1]; exact hlt) [] rowB)
          obtain ⟨y, hy1⟩ : ∃ y, y = rd_L2 x.cost (k : Int) := ⟨_, rfl⟩
          have HS : Aside0 (y = x.cost.getD k []) := ⟨by rw [hy1]; unfold rd_L2; rw [Int.toNat_natCast]⟩
          rw [← hy1] at a0 ly hy hyl
          obtain ⟨nY, hnY⟩ : ∃ n, n = y.length := ⟨_, rfl⟩
          rw [← hnY] at a0 ly hyl hy
          have HNY := Aside0.mk hnY
          have HY := Aside0.mk hy
          clear hy hy' a0' hnY hy1 hm
          go_wp2_with fail
          have K0 : Aside0 (b = (inB x.cap 0 && x.items.all itB && (x.cost.take k).all rowB && (y.take 0).all fun z => inB z (-2147483648))) := ⟨by rw [KB.out]; simp⟩
          go_loop [3, 43] (fun v i => ∃ (j : Nat) (b : Bool), j ≤ nY ∧ v = .bool b ∧ i = .int .i64 j ∧ Aside0 (b = (inB x.cap 0 && x.items.all itB && (x.cost.take k).all rowB && (y.take j).all fun z => inB z (-2147483648)))) (fun _ i => nY - (intOf i).toNat)
          case atStart => exact ⟨0, b, Nat.zero_le _, rfl, rfl, K0⟩
          case round =>
            clear K0 KB
            obtain ⟨j, b, hj, rfl, rfl, KJ⟩ := hrel
            by_cases hlt2 : j < nY
            · obtain ⟨ar, rfl, hx⟩ := at_Int HY.out j hlt2
              have NZ := Aside0.mk (all_take (l := y) (i := j) (by rw [← HNY.out]; exact hlt2) 0 (fun z => inB z (-2147483648)))
              obtain ⟨z, hz⟩ : ∃ z, z = y.getD j 0 := ⟨_, rfl⟩
              rw [← hz] at hx
              have HZ := Aside0.mk hz
              clear hz
              obtain ⟨u0, hu0⟩ : ∃ b : Bool, b = inB z (-2147483648) := ⟨_, rfl⟩
              have U := Aside0.mk hu0
              have NB : Aside0 ((b && u0) = (inB x.cap 0 && x.items.all itB && (x.cost.take k).all rowB && (y.take (j + 1)).all fun z => inB z (-2147483648))) := ⟨by
                rw [NZ.out, KJ.out, hu0, ← HZ.out]
                cases inB x.cap 0 <;> cases x.items.all itB <;> cases (x.cost.take k).all rowB <;> cases (y.take j).all (fun z => inB z (-2147483648)) <;> cases inB z (-2147483648) <;> rfl⟩
              clear hu0
              go_wp2_with (go_at_call 126; refine (from_any z (-2147483648) _).mono ?_; rintro _ _ ⟨rfl, rfl⟩; rw [← U.out])
              all_goals
                exact ⟨⟨j + 1, _, by omega, rfl, by go_num, ⟨by rw [← NB.out]; cases b <;> cases u0 <;> first | rfl | contradiction⟩⟩, by simp [intOf]; omega⟩
            · obtain rfl : nY = j := by omega
              have NB : Aside0 (b = (inB x.cap 0 && x.items.all itB && (x.cost.take (k + 1)).all rowB)) := ⟨by
                rw [KJ.out, NX.out, ← HS.out, List.take_of_length_le (l := y) (by rw [HNY.out]; exact Nat.le_refl _)]
                show _ = (inB x.cap 0 && x.items.all itB && ((x.cost.take k).all rowB && y.all fun z => inB z (-2147483648)))
                rw [Bool.and_assoc (inB x.cap 0 && x.items.all itB)]⟩
              go_wp2_with fail
              exact ⟨⟨k + 1, b, by omega, rfl, by go_num, NB⟩, by simp [intOf]; omega⟩
        · obtain rfl : n3 = k := by omega
          have K1 : Aside0 (b = (inB x.cap 0 && x.items.all itB && x.cost.all rowB)) := ⟨by rw [KB.out, List.take_of_length_le (by rw [HN.out.2.1]; exact Nat.le_refl _)]⟩
          clear KB hlt hk
          have q5 : W2.cell? ⟨p1, 5, none⟩ = some (.slice A5 n5 c5) := (blk_cell (blk_below Q1.out BR.out) 5).trans rfl
          go_wp2_with fail
          clear q5
          have K0 : Aside0 (b = (inB x.cap 0 && x.items.all itB && x.cost.all rowB && (x.sets.take 0).all fun s => inB s.f0 0) ∧ Below W1.heap.size W1 W2) := ⟨by rw [K1.out]; simp, BR.out⟩
          go_loopw [3, 57] (fun v i wr => ∃ (k : Nat) (b : Bool), k ≤ n5 ∧ v = .bool b ∧ i = .int .i64 k ∧ Aside0 (b = (inB x.cap 0 && x.items.all itB && x.cost.all rowB && (x.sets.take k).all fun s => inB s.f0 0) ∧ Below W1.heap.size W1 wr)) (fun _ i _ => n5 - (intOf i).toNat)
          case atStart => exact ⟨0, b, Nat.zero_le _, rfl, rfl, K0⟩
          case round =>
            clear K0 K1
            obtain ⟨k, b, hk, rfl, rfl, KB⟩ := hrel
            by_cases hlt : k < n5
            · obtain ⟨ad, AE, cE, rfl, a0', a1', lE, hE⟩ := at_T161 H5.out (k : Int) (by omega) (by omega)
              have BW := Aside0.mk (B1.out.trans (KB.out.2.mono B1.out.size))
              have a0 := pw_cell_below BW.out a0'
              have a1 := pw_cell_below BW.out a1'
              rw [Int.toNat_natCast] at a0 a1
              have NX := Aside0.mk (all_take (l := x.sets) (i := k) (by rw [← HN.out.2.2]; exact hlt) z161 (fun s => inB s.f0 0))
              obtain ⟨s, hs⟩ : ∃ s, s = rd_T161 x.sets (k : Int) := ⟨_, rfl⟩
              rw [← hs] at a0 a1
              have HS : Aside0 (s = x.sets.getD k z161) := ⟨by rw [hs]; unfold rd_T161; rw [Int.toNat_natCast]⟩
              clear hs lE hE a0' a1'
              obtain ⟨wo, hwo⟩ : ∃ wo : World, wo = wr := ⟨_, rfl⟩
              rw [← hwo] at KB a0 a1 ⊢
              clear hwo BW
              go_upto_region 19 with fail
              obtain ⟨W4, hW4⟩ : ∃ W, W = wo.alloc (.cells #[.int .i64 s.f0, .slice AE s.f1.length cE] 161) := ⟨_, rfl⟩
              rw [← hW4]
              have B4 : Aside0 (Below W1.heap.size W1 W4) := ⟨by rw [hW4]; exact KB.out.2.alloc KB.out.2.size _⟩
              obtain ⟨p4, hp4⟩ : ∃ p, p = wo.heap.size := ⟨_, rfl⟩
              have Q4 : Aside0 (W4.heap[p4]? = some (.cells #[.int .i64 s.f0, .slice AE s.f1.length cE] 161 (0, 0))) := ⟨by rw [hW4, hp4]; exact heap_alloc_new _ _⟩
              rw [← hp4]
              clear hW4 hp4 a0 a1
              have a0 : W4.cell? ⟨p4, 0, none⟩ = some (.int .i64 s.f0) := (blk_cell Q4.out 0).trans rfl
              obtain ⟨u0, hu0⟩ : ∃ b : Bool, b = inB s.f0 0 := ⟨_, rfl⟩
              have U := Aside0.mk hu0
              have NB : Aside0 ((b && u0) = (inB x.cap 0 && x.items.all itB && x.cost.all rowB && (x.sets.take (k + 1)).all fun s => inB s.f0 0)) := ⟨by
                rw [NX.out, KB.out.1, hu0, ← HS.out]
                cases inB x.cap 0 <;> cases x.items.all itB <;> cases x.cost.all rowB <;> cases (x.sets.take k).all (fun s => inB s.f0 0) <;> cases inB s.f0 0 <;> rfl⟩
              clear hu0
              go_wp2_with (go_at_call 126; refine (from_any s.f0 0 _).mono ?_; rintro _ _ ⟨rfl, rfl⟩; rw [← U.out])
              all_goals
                exact ⟨⟨k + 1, _, by omega, rfl, by go_num, ⟨by rw [← NB.out]; cases b <;> cases u0 <;> first | rfl | contradiction, B4.out⟩⟩, by simp [intOf]; omega⟩
            · obtain rfl : n5 = k := by omega
              have K1 : Aside0 (b = r) := ⟨by
                rw [KB.out.1, List.take_of_length_le (by rw [HN.out.2.2]; exact Nat.le_refl _), HR.out]
                rfl⟩
              have BZ := Aside0.mk (B1.out.trans (KB.out.2.mono B1.out.size))
              clear KB hlt hk
              go_wp2_with fail
              go_ret
              exact ⟨by first | rfl | (rw [← K1.out]; rfl), BZ.out⟩
set_option maxHeartbeats 1000000 in
set_option maxRecDepth 100000 in
theorem icheck_any' (w : World) (x : PI) (v : Value) (h : InstC w x v) (hx : PIok x) (r : Int) (RR' : r = chk x) : Calls Tryz.prog 52 #[v] w fun e w' => e = .returned (.int .i64 r) ∧ Below w.heap.size w w' := by
  have HI := Aside0.mk h
  obtain ⟨A2, c2, A3, c3, A5, c5, rfl, h2, l2, h3, l3, h5, l5⟩ := h
  have H2 := Aside0.mk h2
  have H3 := Aside0.mk h3
  have H5 := Aside0.mk h5
  have HX := Aside0.mk hx
  have b2 := hx.items
  have b3 := hx.cost
  have b5 := hx.sets
  obtain ⟨n2, hn2⟩ : ∃ n, n = x.items.length := ⟨_, rfl⟩
  obtain ⟨n3, hn3⟩ : ∃ n, n = x.cost.length := ⟨_, rfl⟩
  obtain ⟨n5, hn5⟩ : ∃ n, n = x.sets.length := ⟨_, rfl⟩
  obtain ⟨kd, hkd⟩ : ∃ n, n = x.kind := ⟨_, rfl⟩
  obtain ⟨cap, hcap⟩ : ∃ n, n = x.cap := ⟨_, rfl⟩
  obtain ⟨sz, hsz⟩ : ∃ n, n = x.size := ⟨_, rfl⟩
  rw [← hn2] at HI H2 l2 b2 ⊢
  rw [← hn3] at HI H3 l3 b3 ⊢
  rw [← hn5] at HI H5 l5 b5 ⊢
  rw [← hkd, ← hcap, ← hsz] at HI ⊢
  have HF := Aside0.mk (And.intro hkd (And.intro hcap hsz))
  have HN := Aside0.mk (And.intro hn2 (And.intro hn3 hn5))
  clear hkd hcap hsz hn2 hn3 hn5 h2 h3 h5 hx
  clear H2 H3 H5 b2 b3 b5
  have hu54 := Tryz.underlying76
  have hu101 := Tryz.underlying159
  have hu102 := Tryz.underlying161
  go_enter Tryz.func52, Tryz.ntmps52
  go_upto_region 1 with fail
  obtain ⟨W1, hW1⟩ : ∃ W, W = w.alloc (.cells #[.int .i64 kd, .int .i64 cap, .slice A2 n2 c2, .slice A3 n3 c3, .int .i64 sz, .slice A5 n5 c5] 76) := ⟨_, rfl⟩
  rw [← hW1]
  have B1 : Aside0 (Below w.heap.size w W1) := ⟨by rw [hW1]; exact below_alloc (Below.refl _ _) _⟩
  obtain ⟨p1, hp1⟩ : ∃ p, p = w.heap.size := ⟨_, rfl⟩
  have Q1 : Aside0 (W1.heap[p1]? = some (.cells #[.int .i64 kd, .int .i64 cap, .slice A2 n2 c2, .slice A3 n3 c3, .int .i64 sz, .slice A5 n5 c5] 76 (0, 0))) := ⟨by rw [hW1, hp1]; exact heap_alloc_new _ _⟩
  rw [← hp1]
  clear hW1 hp1
  obtain ⟨q0, q1, q2, q3, q4, q5, _⟩ := six Q1.out (Below.refl _ _)
  have RR := Aside0.mk RR'
  clear RR' q1 q2 q3 q4 q5
  go_wp2_with fail
  clear q0
  refine (is_any kd _).mono ?_
  rintro _ _ ⟨rfl, rfl⟩
  have B2 : Aside0 (Below W1.heap.size W1 W1) := ⟨Below.refl _ _⟩
  cases his : (decide (0 ≤ kd) && decide (kd < 4)) with
  | false =>
    have R : Aside0 (r = 25) := ⟨by
      rw [RR.out]; unfold chk
      rw [decide_eq_false (by rw [← HF.out.1]; intro h; rw [decide_eq_true h.1, decide_eq_true h.2] at his; cases his)]; rfl⟩
    clear his
    go_wp2_with fail
    go_ret
    exact ⟨by rw [R.out]; rfl, B1.out⟩
  | true =>
    have KI : Aside0 (decide (0 ≤ x.kind ∧ x.kind < 4) = true) := ⟨by rw [← HF.out.1]; rw [Bool.and_eq_true, decide_eq_true_eq, decide_eq_true_eq] at his; exact decide_eq_true his⟩
    clear his
    obtain ⟨e0, e1, e2, e3, e4, e5, _⟩ := six Q1.out B2.out
    go_wp2_with fail
    clear e0 e1 e2 e3 e4 e5
    refine (lean_any W1 x _ (HI.out.below (B1.out.trans (B2.out.mono B1.out.size))) HX.out _ rfl).mono ?_
    rintro _ W3 ⟨rfl, B'⟩
    have B3 := Aside0.mk (B2.out.trans (B'.mono B2.out.size))
    clear B'
    cases hb0 : leanB x with
    | false =>
      have R : Aside0 (r = 4) := ⟨by rw [RR.out]; unfold chk; rw [KI.out, hb0]; rfl⟩
      clear hb0
      go_wp2_with fail
      go_ret
      exact ⟨by rw [R.out]; rfl, B1.out.trans (B3.out.mono B1.out.size)⟩
    | true =>
      have L3 := Aside0.mk hb0
      clear hb0
      obtain ⟨e0, e1, e2, e3, e4, e5, _⟩ := six Q1.out B3.out
      go_wp2_with fail
      clear e0 e1 e2 e3 e4 e5
      refine (few_any W3 x _ (HI.out.below (B1.out.trans (B3.out.mono B1.out.size))) HX.out _ rfl).mono ?_
      rintro _ W4 ⟨rfl, B'⟩
      have B4 := Aside0.mk (B3.out.trans (B'.mono B3.out.size))
      clear B'
      cases hb1 : fewB x with
      | false =>
        have R : Aside0 (r = 22) := ⟨by rw [RR.out]; unfold chk; rw [KI.out, L3.out, hb1]; rfl⟩
        clear hb1
        go_wp2_with fail
        go_ret
        exact ⟨by rw [R.out]; rfl, B1.out.trans (B4.out.mono B1.out.size)⟩
      | true =>
        have L4 := Aside0.mk hb1
        clear hb1
        obtain ⟨e0, e1, e2, e3, e4, e5, _⟩ := six Q1.out B4.out
        go_wp2_with fail
        clear e0 e1 e2 e3 e4 e5
        refine (shaped_any W4 x _ (HI.out.below (B1.out.trans (B4.out.mono B1.out.size))) HX.out _ rfl).mono ?_
        rintro _ W5 ⟨rfl, B'⟩
        have B5 := Aside0.mk (B4.out.trans (B'.mono B4.out.size))
        clear B'
        cases hb2 : (rowsB x && setsB x) with
        | false =>
          have R : Aside0 (r = 4) := ⟨by rw [RR.out]; unfold chk; rw [KI.out, L3.out, L4.out, hb2]; rfl⟩
          clear hb2
          go_wp2_with fail
          go_ret
          exact ⟨by rw [R.out]; rfl, B1.out.trans (B5.out.mono B1.out.size)⟩
        | true =>
          have L5 := Aside0.mk hb2
          clear hb2
          obtain ⟨e0, e1, e2, e3, e4, e5, _⟩ := six Q1.out B5.out
          go_wp2_with fail
          clear e0 e1 e2 e3 e4 e5
          refine (small_any W5 x _ (HI.out.below (B1.out.trans (B5.out.mono B1.out.size))) HX.out _ rfl).mono ?_
          rintro _ W6 ⟨rfl, B'⟩
          have B6 := Aside0.mk (B5.out.trans (B'.mono B5.out.size))
          clear B'
          cases hb3 : smallB x with
          | false =>
            have R : Aside0 (r = 22) := ⟨by rw [RR.out]; unfold chk; rw [KI.out, L3.out, L4.out, L5.out, hb3]; rfl⟩
            clear hb3
            go_wp2_with fail
            go_ret
            exact ⟨by rw [R.out]; rfl, B1.out.trans (B6.out.mono B1.out.size)⟩
          | true =>
            have L6 := Aside0.mk hb3
            clear hb3
            obtain ⟨e0, e1, e2, e3, e4, e5, _⟩ := six Q1.out B6.out
            go_wp2_with fail
            clear e0 e1 e2 e3 e4 e5
            refine (bare_any W6 x _ (HI.out.below (B1.out.trans (B6.out.mono B1.out.size))) HX.out (by have := L5.out; rw [Bool.and_eq_true] at this; exact this.1) _ rfl).mono ?_
            rintro _ W7 ⟨rfl, B'⟩
            have B7 := Aside0.mk (B6.out.trans (B'.mono B6.out.size))
            clear B'
            cases hb4 : bareB x with
            | false =>
              have R : Aside0 (r = 4) := ⟨by rw [RR.out]; unfold chk; rw [KI.out, L3.out, L4.out, L5.out, L6.out, hb4]; rfl⟩
              clear hb4
              go_wp2_with fail
              go_ret
              exact ⟨by rw [R.out]; rfl, B1.out.trans (B7.out.mono B1.out.size)⟩
            | true =>
              have L7 := Aside0.mk hb4
              clear hb4
              have R : Aside0 (r = 0) := ⟨by rw [RR.out]; unfold chk; rw [KI.out, L3.out, L4.out, L5.out, L6.out, L7.out]; rfl⟩
              go_wp2_with fail
              go_ret
              exact ⟨by rw [R.out]; rfl, B1.out.trans (B7.out.mono B1.out.size)⟩
/-- inst.Check, as it answers. -/
theorem icheck_any (w : World) (x : PI) (v : Value) (h : InstC w x v) (hx : PIok x) : Calls Tryz.prog 52 #[v] w fun e w' => e = .returned (.int .i64 (chk x)) ∧ Below w.heap.size w w' := icheck_any' w x v h hx _ rfl
end Go.Proofs.YtofomlpdklhigaaGreatDoor.Hand
