/- Texts Kk Ab Ap Aa, cut to what is used. -/
import Derived.StillTailTactics
import Derived.Test.YtlilfgfkedlbcaaDoorYa0
import Derived.Test.YtlilfgfkedlbcaaDoorYa1
import Derived.Test.YtlilfgfkedlbcaaDoorYa4
import Derived.Test.YtlilfgfkedlbcaaDoorYa5
import Derived.Test.YtlilfgfkedlbcaaDoorYa9
set_option linter.unusedVariables false
set_option linter.unusedSimpArgs false
section
namespace Go.Proofs.YtlilfgfkedlbcaaDoor.Hand
open Go.RowKit Go.Proofs.YtlilfgfkedlbcaaDoorW.PrintWords Go.Proofs.YtlilfgfkedlbcaaDoorW.PrintLast Go.Proofs.YtlilfgfkedlbcaaDoorW.PrintMore Go.Proofs.YtlilfgfkedlbcaaDoor.PEvalBetter
def mayP (x : PI) (y : List Int) : Bool :=
 if x.kind = 0 then ascB x.items.length (-1) y && fitB x y
 else if x.kind = 1 then ordB y x.cost.length
 else if x.kind = 2 then ordB y x.cost.length && decide (y.getD 0 0 = 0)
 else ascB x.sets.length (-1) y && covB x y
theorem asc_bd {size : Int} : ∀ (l : List Int) (a : Int), -1 ≤ a → ascB size a l = true → (∀ e ∈ l, 0 ≤ e ∧ e < size) ∧ (l = [] ∨ a + l.length < size)
 | [], _, _, _ => ⟨fun e he => absurd he List.not_mem_nil, .inl rfl⟩
 | y :: t, a, ha, h => by
  unfold ascB at h
  split at h
  ·cases h
  ·split at h
   ·cases h
   ·obtain ⟨h1, h2⟩ := asc_bd t y (by omega) h
    refine ⟨fun e he => ?_, .inr ?_⟩
    ·rcases List.mem_cons.1 he with rfl | he
     ·omega
     ·exact h1 e he
    ·rw [List.length_cons]
     rcases h2 with rfl | h2
     ·simp
      omega
     ·omega
theorem asc_len {n : Nat} {l : List Int} (h : ascB (n : Int) (-1) l = true) : l.length ≤ n ∧ ∀ e ∈ l, 0 ≤ e ∧ e < n := by
 obtain ⟨h1, h2⟩ := asc_bd l (-1) (by omega) h
 refine ⟨?_, h1⟩
 rcases h2 with rfl | h2
 ·exact Nat.zero_le _
 ·omega
theorem ord_in {ys : List Int} {n : Nat} (h : ordB ys n = true) : ys.length = n ∧ (∀ k, k < n → (k : Int) ∈ ys) ∧ ∀ e ∈ ys, 0 ≤ e ∧ e < n := by
 unfold ordB at h
 simp only [Bool.and_eq_true, decide_eq_true_eq, List.all_eq_true, List.mem_range] at h
 obtain ⟨h1, h2⟩ := h
 refine ⟨h1, h2, fun e he => ?_⟩
 apply Classical.byContradiction
 intro hne
 have h3 := dup_short n (ys.erase e) (fun k hk => (List.mem_erase_of_ne (fun e' => hne (by omega))).2 (h2 k hk))
 have h4 := List.length_erase_of_mem he
 have h5 := List.length_pos_of_mem he
 omega
theorem may_bd {x : PI} (hi : IOk x) {y : List Int} (h : mayP x y = true) : y.length ≤ 4096 := by
 unfold mayP at h
 split at h
 ·rw [Bool.and_eq_true] at h
  exact Nat.le_trans (asc_len h.1).1 hi.nitems
 ·split at h
  ·rename_i _ h1
   have := (ord_in h).1
   have := (hi.side (.inl h1)).2
   omega
  ·split at h
   ·rename_i _ _ h1
    rw [Bool.and_eq_true] at h
    have := (ord_in h.1).1
    have := (hi.side (.inr h1)).2
    omega
   ·rw [Bool.and_eq_true] at h
    exact Nat.le_trans (asc_len h.1).1 hi.nsets
set_option maxHeartbeats 1000000 in
set_option maxRecDepth 100000 in
theorem may_any (w : World) (x : PI) (v : Value) (h : InstC w x v) (hi : IOk x) (hx : PIok x) (A : Option Addr) (m c : Nat) (ys : List Int) (hC : (Kd.int .i64).C w A m ys) (hm : m ≤ 17592186044416) (r : Bool) (RR : r = mayP x ys) :
  Calls Tryd.prog 18 #[v, .slice A m c] w fun e w' => e = .returned (.bool r) ∧ Aside0 (Below w.heap.size w w') := by
 have HR := Aside0.mk RR
 have HC := Aside0.mk hC
 have HL : Aside0 (ys.length = m) := ⟨hC.1⟩
 have HIN := Aside0.mk h
 have HI := Aside0.mk hi
 have HX := Aside0.mk hx
 obtain ⟨A2, c2, A3, c3, A5, c5, rfl, h2, l2, h3, l3, h5, l5⟩ := h
 obtain ⟨n2, hn2⟩ : ∃ n, n = x.items.length := ⟨_, rfl⟩
 obtain ⟨n3, hn3⟩ : ∃ n, n = x.cost.length := ⟨_, rfl⟩
 obtain ⟨n5, hn5⟩ : ∃ n, n = x.sets.length := ⟨_, rfl⟩
 obtain ⟨kd, hkd⟩ : ∃ n, n = x.kind := ⟨_, rfl⟩
 obtain ⟨cap, hcap⟩ : ∃ n, n = x.cap := ⟨_, rfl⟩
 obtain ⟨sz, hsz⟩ : ∃ n, n = x.size := ⟨_, rfl⟩
 rw [← hn2, ← hn3, ← hn5, ← hkd, ← hcap, ← hsz] at HIN
 rw [← hn2, ← hn3, ← hn5, ← hkd, ← hcap, ← hsz]
 have HN := Aside0.mk (And.intro hn2 (And.intro hn3 hn5))
 have HF := Aside0.mk (And.intro hkd (And.intro hcap hsz))
 have hk4 := hi.kind
 rw [← hkd] at hk4
 clear h2 h3 h5 l2 l3 l5 hn2 hn3 hn5 hkd hcap hsz hi hx hC RR
 have hu54 := Tryd.underlying32
 have hkk : kd = 0 ∨ kd = 1 ∨ kd = 2 ∨ kd = 3 := by omega
 clear hk4
 rcases hkk with rfl | rfl | rfl | rfl
 ·go_enter Tryd.func18, Tryd.ntmps18
  go_upto_region 1 with fail
  obtain ⟨W1, hW1⟩ : ∃ W, W = w.alloc (.cells #[.int .i64 0, .int .i64 cap, .slice A2 n2 c2, .slice A3 n3 c3, .int .i64 sz, .slice A5 n5 c5] 32) := ⟨_, rfl⟩
  rw [← hW1]
  have B1 : Aside0 (Below w.heap.size w W1) := ⟨by rw [hW1]; exact below_alloc (Below.refl _ _) _⟩
  obtain ⟨p1, hp1⟩ : ∃ p, p = w.heap.size := ⟨_, rfl⟩
  have Q1 : Aside0 (W1.heap[p1]? = some (.cells #[.int .i64 0, .int .i64 cap, .slice A2 n2 c2, .slice A3 n3 c3, .int .i64 sz, .slice A5 n5 c5] 32 (0, 0))) := ⟨by rw [hW1, hp1]; exact heap_alloc_new _ _⟩
  rw [← hp1]
  clear hW1 hp1
  have IW : Aside0 (InstC W1 x (.agg #[.int .i64 0, .int .i64 cap, .slice A2 n2 c2, .slice A3 n3 c3, .int .i64 sz, .slice A5 n5 c5])) := ⟨HIN.out.below B1.out⟩
  have CW : Aside0 ((Kd.int .i64).C W1 A m ys) := ⟨Kd.C_below HC.out B1.out⟩
  obtain ⟨q0, q1, q2, q3, q4, q5, _⟩ := six Q1.out (Below.refl _ _)
  obtain ⟨b, hb⟩ : ∃ b, b = ascB (n2 : Int) (-1) ys := ⟨_, rfl⟩
  have HB := Aside0.mk hb
  have ME : Aside0 (mayP x ys = (b && fitB x ys)) := ⟨by
   unfold mayP
   rw [if_pos HF.out.1.symm, ← HN.out.1, hb]⟩
  clear hb
  go_wp2_with fail
  refine (rises_any W1 A m c ys (n2 : Int) CW.out hm b HB.out).mono ?_
  rintro _ _ ⟨rfl, rfl⟩
  cases b with
  | false =>
   have E : Aside0 (r = false) := ⟨by rw [HR.out, ME.out]; rfl⟩
   go_wp2_with fail
   go_ret
   exact ⟨by rw [E.out]; rfl, B1⟩
  | true =>
   obtain ⟨f, hf⟩ : ∃ f, f = fitB x ys := ⟨_, rfl⟩
   have HFB := Aside0.mk hf
   have E : Aside0 (r = f) := ⟨by rw [HR.out, ME.out, ← hf, Bool.true_and]⟩
   clear hf
   go_wp2_with fail
   refine (fits_any W1 x _ IW.out HI.out A m c ys CW.out (by rw [← HL.out]; exact Nat.le_trans (asc_len HB.out.symm).1 (by rw [HN.out.1]; exact HI.out.nitems)) (by rw [← HN.out.1]; exact (asc_len HB.out.symm).2) f HFB.out).mono ?_
   rintro _ w3 ⟨rfl, H3⟩
   go_wp2_with fail
   go_ret
   exact ⟨by rw [E.out]; rfl, ⟨B1.out.trans (H3.out.mono B1.out.size)⟩⟩
 ·go_enter Tryd.func18, Tryd.ntmps18
  go_upto_region 1 with fail
  obtain ⟨W1, hW1⟩ : ∃ W, W = w.alloc (.cells #[.int .i64 1, .int .i64 cap, .slice A2 n2 c2, .slice A3 n3 c3, .int .i64 sz, .slice A5 n5 c5] 32) := ⟨_, rfl⟩
  rw [← hW1]
  have B1 : Aside0 (Below w.heap.size w W1) := ⟨by rw [hW1]; exact below_alloc (Below.refl _ _) _⟩
  obtain ⟨p1, hp1⟩ : ∃ p, p = w.heap.size := ⟨_, rfl⟩
  have Q1 : Aside0 (W1.heap[p1]? = some (.cells #[.int .i64 1, .int .i64 cap, .slice A2 n2 c2, .slice A3 n3 c3, .int .i64 sz, .slice A5 n5 c5] 32 (0, 0))) := ⟨by rw [hW1, hp1]; exact heap_alloc_new _ _⟩
  rw [← hp1]
  clear hW1 hp1
  have CW : Aside0 ((Kd.int .i64).C W1 A m ys) := ⟨Kd.C_below HC.out B1.out⟩
  obtain ⟨q0, q1, q2, q3, q4, q5, _⟩ := six Q1.out (Below.refl _ _)
  have E : Aside0 (r = ordB ys n3) := ⟨by
   rw [HR.out]
   unfold mayP
   rw [if_neg (by rw [← HF.out.1]; decide), if_pos HF.out.1.symm, ← HN.out.2.1]⟩
  have hn : Aside0 (n3 ≤ 4096) := ⟨by rw [HN.out.2.1]; exact Nat.le_trans (HI.out.side (.inl HF.out.1.symm)).2 (by decide)⟩
  go_wp2_with fail
  refine (order_any W1 A m c ys n3 CW.out hm hn.out r E.out).mono ?_
  rintro _ w3 ⟨rfl, H3⟩
  go_wp2_with fail
  go_ret
  exact ⟨rfl, ⟨B1.out.trans (H3.out.mono B1.out.size)⟩⟩
 ·go_enter Tryd.func18, Tryd.ntmps18
  go_upto_region 1 with fail
  obtain ⟨W1, hW1⟩ : ∃ W, W = w.alloc (.cells #[.int .i64 2, .int .i64 cap, .slice A2 n2 c2, .slice A3 n3 c3, .int .i64 sz, .slice A5 n5 c5] 32) := ⟨_, rfl⟩
  rw [← hW1]
  have B1 : Aside0 (Below w.heap.size w W1) := ⟨by rw [hW1]; exact below_alloc (Below.refl _ _) _⟩
  obtain ⟨p1, hp1⟩ : ∃ p, p = w.heap.size := ⟨_, rfl⟩
  have Q1 : Aside0 (W1.heap[p1]? = some (.cells #[.int .i64 2, .int .i64 cap, .slice A2 n2 c2, .slice A3 n3 c3, .int .i64 sz, .slice A5 n5 c5] 32 (0, 0))) := ⟨by rw [hW1, hp1]; exact heap_alloc_new _ _⟩
  rw [← hp1]
  clear hW1 hp1
  have CW : Aside0 ((Kd.int .i64).C W1 A m ys) := ⟨Kd.C_below HC.out B1.out⟩
  obtain ⟨q0, q1, q2, q3, q4, q5, _⟩ := six Q1.out (Below.refl _ _)
  obtain ⟨b, hb⟩ : ∃ b, b = ordB ys n3 := ⟨_, rfl⟩
  have HB := Aside0.mk hb
  have ME : Aside0 (r = (b && decide (ys.getD 0 0 = 0))) := ⟨by
   rw [HR.out]
   unfold mayP
   rw [if_neg (by rw [← HF.out.1]; decide), if_neg (by rw [← HF.out.1]; decide), if_pos HF.out.1.symm, ← HN.out.2.1, hb]⟩
  have hn : Aside0 (n3 ≤ 4096 ∧ 1 ≤ n3) := ⟨by rw [HN.out.2.1]; exact Nat.le_trans (HI.out.side (.inr HF.out.1.symm)).2 (by decide), by rw [HN.out.2.1]; exact (HI.out.side (.inr HF.out.1.symm)).1⟩
  clear hb
  go_wp2_with fail
  refine (order_any W1 A m c ys n3 CW.out hm hn.out.1 b HB.out).mono ?_
  rintro _ w3 ⟨rfl, H3⟩
  clear q0 q1 q2 q3 q4 q5
  cases b with
  | false =>
   have E : Aside0 (r = false) := ⟨by rw [ME.out]; rfl⟩
   go_wp2_with fail
   go_ret
   exact ⟨by rw [E.out]; rfl, ⟨B1.out.trans (H3.out.mono B1.out.size)⟩⟩
  | true =>
   have hm0 : 0 < m := by
    have h1 := (ord_in HB.out.symm).1
    have h2 := hn.out.2
    rw [HL.out] at h1
    omega
   obtain ⟨ae, rfl, hx'⟩ := at_Int HC.out 0 hm0
   have hx : w3.cell? ae = some (.int .i64 (ys.getD 0 0)) := pw_cell_below (B1.out.trans (H3.out.mono B1.out.size)) hx'
   obtain ⟨z, hz⟩ : ∃ z, z = ys.getD 0 0 := ⟨_, rfl⟩
   rw [← hz] at hx ME
   clear hx' hz
   by_cases hz0 : z = 0
   ·have E : Aside0 (r = true) := ⟨by rw [ME.out, decide_eq_true hz0]; rfl⟩
    subst hz0
    go_wp2_with fail
    go_ret
    exact ⟨by rw [E.out]; rfl, ⟨B1.out.trans (H3.out.mono B1.out.size)⟩⟩
   ·have E : Aside0 (r = false) := ⟨by rw [ME.out, decide_eq_false hz0]; rfl⟩
    have g : (z == 0) = false := beq_eq_false_iff_ne.2 hz0
    clear hz0
    go_wp2_with fail
    go_ret
    exact ⟨by rw [E.out]; rfl, ⟨B1.out.trans (H3.out.mono B1.out.size)⟩⟩
 ·go_enter Tryd.func18, Tryd.ntmps18
  go_upto_region 1 with fail
  obtain ⟨W1, hW1⟩ : ∃ W, W = w.alloc (.cells #[.int .i64 3, .int .i64 cap, .slice A2 n2 c2, .slice A3 n3 c3, .int .i64 sz, .slice A5 n5 c5] 32) := ⟨_, rfl⟩
  rw [← hW1]
  have B1 : Aside0 (Below w.heap.size w W1) := ⟨by rw [hW1]; exact below_alloc (Below.refl _ _) _⟩
  obtain ⟨p1, hp1⟩ : ∃ p, p = w.heap.size := ⟨_, rfl⟩
  have Q1 : Aside0 (W1.heap[p1]? = some (.cells #[.int .i64 3, .int .i64 cap, .slice A2 n2 c2, .slice A3 n3 c3, .int .i64 sz, .slice A5 n5 c5] 32 (0, 0))) := ⟨by rw [hW1, hp1]; exact heap_alloc_new _ _⟩
  rw [← hp1]
  clear hW1 hp1
  have IW : Aside0 (InstC W1 x (.agg #[.int .i64 3, .int .i64 cap, .slice A2 n2 c2, .slice A3 n3 c3, .int .i64 sz, .slice A5 n5 c5])) := ⟨HIN.out.below B1.out⟩
  have CW : Aside0 ((Kd.int .i64).C W1 A m ys) := ⟨Kd.C_below HC.out B1.out⟩
  obtain ⟨q0, q1, q2, q3, q4, q5, _⟩ := six Q1.out (Below.refl _ _)
  obtain ⟨b, hb⟩ : ∃ b, b = ascB (n5 : Int) (-1) ys := ⟨_, rfl⟩
  have HB := Aside0.mk hb
  have ME : Aside0 (mayP x ys = (b && covB x ys)) := ⟨by
   unfold mayP
   rw [if_neg (by rw [← HF.out.1]; decide), if_neg (by rw [← HF.out.1]; decide), if_neg (by rw [← HF.out.1]; decide), ← HN.out.2.2, hb]⟩
  clear hb
  go_wp2_with fail
  refine (rises_any W1 A m c ys (n5 : Int) CW.out hm b HB.out).mono ?_
  rintro _ _ ⟨rfl, rfl⟩
  cases b with
  | false =>
   have E : Aside0 (r = false) := ⟨by rw [HR.out, ME.out]; rfl⟩
   go_wp2_with fail
   go_ret
   exact ⟨by rw [E.out]; rfl, B1⟩
  | true =>
   obtain ⟨f, hf⟩ : ∃ f, f = covB x ys := ⟨_, rfl⟩
   have HFB := Aside0.mk hf
   have E : Aside0 (r = f) := ⟨by rw [HR.out, ME.out, ← hf, Bool.true_and]⟩
   clear hf
   go_wp2_with fail
   refine (covers_any W1 x _ IW.out HI.out HX.out A m c ys CW.out hm (by rw [← HN.out.2.2]; exact (asc_len HB.out.symm).2) f HFB.out).mono ?_
   rintro _ w3 ⟨rfl, H3⟩
   go_wp2_with fail
   go_ret
   exact ⟨by rw [E.out]; rfl, ⟨B1.out.trans (H3.out.mono B1.out.size)⟩⟩
theorem R_len {e base n cc : Nat} {w : World} {ok : Nat → Prop} {L : Option Addr} {l : List Int} (h : (Kd.int .i64).R e w base ok (.slice L n cc) l) : (Kd.int .i64).C w L n l := (R_C h).1
def valP (x : PI) (y : List Int) : Int × Int := if chk x = 0 then (if mayP x y = true then (sumTo y.length (partC x y), 0) else (0, 12)) else (0, chk x)
def cosP (x : PI) (y : List Int) : Int × Int := (if x.kind = 0 then -(valP x y).1 else (valP x y).1, (valP x y).2)
theorem part_bd {x : PI} (hi : IOk x) {y : List Int} (h : mayP x y = true) (i : Nat) (hil : i < y.length) : -2147483648 ≤ partC x y i ∧ partC x y i ≤ 2147483648 := by
 have cst : ∀ a b, -2147483648 ≤ cstA x a b ∧ cstA x a b ≤ 2147483648 := fun a b => by
  unfold cstA
  by_cases ha : a < x.cost.length
  ·have hr : x.cost.getD a [] ∈ x.cost := by
    rw [List.getD_eq_getElem?_getD, List.getElem?_eq_getElem ha]
    exact List.getElem_mem ha
   by_cases hb : b < (x.cost.getD a []).length
   ·have hz : (x.cost.getD a []).getD b 0 ∈ x.cost.getD a [] := getD_mem' hb
    exact hi.cost _ hr _ hz
   ·have : (x.cost.getD a []).getD b 0 = 0 := by rw [List.getD_eq_getElem?_getD, List.getElem?_eq_none (by omega)]; rfl
    rw [this]
    decide
  ·have : x.cost.getD a [] = [] := by rw [List.getD_eq_getElem?_getD, List.getElem?_eq_none (by omega)]; rfl
   rw [this]
   simp
 unfold partC
 split
 ·by_cases ha : (y.getD i 0).toNat < x.items.length
  ·rw [List.getD_eq_getElem?_getD, List.getElem?_eq_getElem ha, Option.getD_some]
   have := (hi.items _ (List.getElem_mem ha)).1
   omega
  ·rw [List.getD_eq_getElem?_getD (l := x.items), List.getElem?_eq_none (by omega)]
   decide
 ·split
  ·exact cst _ _
  ·split
   ·exact cst _ _
   ·by_cases ha : (y.getD i 0).toNat < x.sets.length
    ·rw [List.getD_eq_getElem?_getD (l := x.sets), List.getElem?_eq_getElem ha, Option.getD_some]
     have := hi.costs _ (List.getElem_mem ha)
     omega
    ·rw [List.getD_eq_getElem?_getD (l := x.sets), List.getElem?_eq_none (by omega)]
     decide
theorem val_bd {x : PI} {y : List Int} : -8796093022208 ≤ (valP x y).1 ∧ (valP x y).1 ≤ 8796093022208 := by
 unfold valP
 split
 ·rename_i hc
  split
  ·rename_i hm
   have h1 := may_bd (iok.1 hc) hm
   have h2 := sumTo_abs (n := y.length) (f := partC x y) (B := 2147483648) (fun i hi => part_bd (iok.1 hc) hm i hi)
   simp only
   omega
  ·decide
 ·show (-8796093022208 : Int) ≤ 0 ∧ (0 : Int) ≤ 8796093022208
  decide
theorem parts_any (w : World) (x : PI) (v : Value) (h : InstC w x v) (hi : IOk x) (A : Option Addr) (m c : Nat) (ys : List Int) (hC : (Kd.int .i64).C w A m ys) (hm : mayP x ys = true) :
  Calls Tryd.prog 20 #[v, .slice A m c] w fun e w' => ∃ L cc, e = .returned (.slice L m cc) ∧ Aside0 ((Kd.int .i64).R 2 w' w.heap.size (fun _ => True) (.slice L m cc) ((List.range m).map (partC x ys)) ∧ Below w.heap.size w w') := by
 have hl := may_bd hi hm
 have hml : ys.length = m := hC.1
 rw [hml] at hl
 have hk := hi.kind
 have h4 : x.kind = 0 ∨ x.kind = 1 ∨ x.kind = 2 ∨ x.kind = 3 := by omega
 unfold mayP at hm
 rcases h4 with hk | hk | hk | hk
 ·rw [if_pos hk, Bool.and_eq_true] at hm
  exact parts_0 w x v h hi A m c ys hC hl hk (asc_len hm.1).2
 ·rw [if_neg (by omega), if_pos hk] at hm
  exact parts_1 w x v h hi A m c ys hC hl hk (ord_in hm).2.2 (by rw [← hml, (ord_in hm).1]; exact Nat.le_refl _)
 ·rw [if_neg (by omega), if_neg (by omega), if_pos hk, Bool.and_eq_true] at hm
  exact parts_2 w x v h hi A m c ys hC hl hk (ord_in hm.1).2.2
 ·rw [if_neg (by omega), if_neg (by omega), if_neg (by omega), Bool.and_eq_true] at hm
  exact parts_3 w x v h hi A m c ys hC hl hk (asc_len hm.1).2
set_option maxHeartbeats 1000000 in
set_option maxRecDepth 100000 in
theorem value_any (w : World) (x : PI) (v : Value) (h : InstC w x v) (hx : PIok x) (A : Option Addr) (m c : Nat) (ys : List Int) (hC : (Kd.int .i64).C w A m ys) (hm : m ≤ 17592186044416) (z er : Int) (hz : (z, er) = valP x ys) :
  Calls Tryd.prog 8 #[v, .slice A m c] w fun e w' => e = .returned (.tuple #[.int .i64 z, .int .i64 er]) ∧ Aside0 (Below w.heap.size w w') := by
 have HZ := Aside0.mk hz
 have HC := Aside0.mk hC
 have HL : Aside0 (ys.length = m) := ⟨hC.1⟩
 have HIN := Aside0.mk h
 have HX := Aside0.mk hx
 obtain ⟨A2, c2, A3, c3, A5, c5, rfl, h2, l2, h3, l3, h5, l5⟩ := h
 obtain ⟨n2, hn2⟩ : ∃ n, n = x.items.length := ⟨_, rfl⟩
 obtain ⟨n3, hn3⟩ : ∃ n, n = x.cost.length := ⟨_, rfl⟩
 obtain ⟨n5, hn5⟩ : ∃ n, n = x.sets.length := ⟨_, rfl⟩
 obtain ⟨kd, hkd⟩ : ∃ n, n = x.kind := ⟨_, rfl⟩
 obtain ⟨cap, hcap⟩ : ∃ n, n = x.cap := ⟨_, rfl⟩
 obtain ⟨sz, hsz⟩ : ∃ n, n = x.size := ⟨_, rfl⟩
 rw [← hn2, ← hn3, ← hn5, ← hkd, ← hcap, ← hsz] at HIN
 rw [← hn2, ← hn3, ← hn5, ← hkd, ← hcap, ← hsz]
 clear h2 h3 h5 l2 l3 l5 hn2 hn3 hn5 hkd hcap hsz hx hC hz
 have hu54 := Tryd.underlying32
 go_enter Tryd.func8, Tryd.ntmps8
 go_upto_region 1 with fail
 obtain ⟨W1, hW1⟩ : ∃ W, W = w.alloc (.cells #[.int .i64 kd, .int .i64 cap, .slice A2 n2 c2, .slice A3 n3 c3, .int .i64 sz, .slice A5 n5 c5] 32) := ⟨_, rfl⟩
 rw [← hW1]
 have B1 : Aside0 (Below w.heap.size w W1) := ⟨by rw [hW1]; exact below_alloc (Below.refl _ _) _⟩
 obtain ⟨p1, hp1⟩ : ∃ p, p = w.heap.size := ⟨_, rfl⟩
 have Q1 : Aside0 (W1.heap[p1]? = some (.cells #[.int .i64 kd, .int .i64 cap, .slice A2 n2 c2, .slice A3 n3 c3, .int .i64 sz, .slice A5 n5 c5] 32 (0, 0))) := ⟨by rw [hW1, hp1]; exact heap_alloc_new _ _⟩
 rw [← hp1]
 clear hW1 hp1
 have IW : Aside0 (InstC W1 x (.agg #[.int .i64 kd, .int .i64 cap, .slice A2 n2 c2, .slice A3 n3 c3, .int .i64 sz, .slice A5 n5 c5])) := ⟨HIN.out.below B1.out⟩
 obtain ⟨q0, q1, q2, q3, q4, q5, _⟩ := six Q1.out (Below.refl _ _)
 obtain ⟨ck, hck⟩ : ∃ ck, ck = chk x := ⟨_, rfl⟩
 have HK := Aside0.mk hck
 clear hck
 go_wp2_with fail
 refine (icheck_any' W1 x _ IW.out HX.out ck HK.out).mono ?_
 rintro _ w2 ⟨rfl, hb2⟩
 have B2 : Aside0 (Below W1.heap.size W1 w2) := ⟨hb2⟩
 clear hb2 q0 q1 q2 q3 q4 q5
 by_cases h0 : ck = 0
 ·subst h0
  have IOa : Aside0 (IOk x) := ⟨iok.1 HK.out.symm⟩
  obtain ⟨q0, q1, q2, q3, q4, q5, _⟩ := six Q1.out B2.out
  obtain ⟨b, hb⟩ : ∃ b, b = mayP x ys := ⟨_, rfl⟩
  have HB := Aside0.mk hb
  clear hb
  go_wp2_with fail
  refine (may_any w2 x _ (IW.out.below B2.out) IOa.out HX.out A m c ys (Kd.C_below HC.out (B1.out.trans (B2.out.mono B1.out.size))) hm b HB.out).mono ?_
  rintro _ w3 ⟨rfl, H3⟩
  have B3 : Aside0 (Below W1.heap.size W1 w3) := ⟨B2.out.trans (H3.out.mono B2.out.size)⟩
  clear q0 q1 q2 q3 q4 q5
  cases b with
  | false =>
   have E : Aside0 (z = 0 ∧ er = 12) := ⟨by
    have h1 := HZ.out
    unfold valP at h1
    rw [if_pos HK.out.symm, ← HB.out] at h1
    simpa using h1⟩
   go_wp2_with fail
   go_ret2
   exact ⟨by rw [E.out.1, E.out.2]; rfl, ⟨B1.out.trans (B3.out.mono B1.out.size)⟩⟩
  | true =>
   obtain ⟨q0, q1, q2, q3, q4, q5, _⟩ := six Q1.out B3.out
   go_wp2_with fail
   refine (parts_any w3 x _ (IW.out.below B3.out) IOa.out A m c ys (Kd.C_below HC.out (B1.out.trans (B3.out.mono B1.out.size))) HB.out.symm).mono ?_
   rintro _ w4 ⟨L, cc, rfl, H4⟩
   have hm4 : Aside0 (m ≤ 4096) := ⟨by rw [← HL.out]; exact may_bd IOa.out HB.out.symm⟩
   have RW : Aside0 (RowI w4 L m (fun i => ((List.range m).map (partC x ys)).getD i 0)) := ⟨RowI_C (R_len H4.out.1)⟩
   have GD : Aside0 (∀ i, i < m → ((List.range m).map (partC x ys)).getD i 0 = partC x ys i) := ⟨fun i hi => getD_map hi⟩
   have SB : Aside0 (∀ i, i < m → -549755813888 ≤ ((List.range m).map (partC x ys)).getD i 0 ∧ ((List.range m).map (partC x ys)).getD i 0 ≤ 549755813888) := ⟨fun i hi => by
    rw [GD.out i hi]
    have := part_bd IOa.out HB.out.symm i (by rw [HL.out]; exact hi)
    omega⟩
   have E : Aside0 (z = sumTo m (fun i => ((List.range m).map (partC x ys)).getD i 0) ∧ er = 0) := ⟨by
    have h1 := HZ.out
    unfold valP at h1
    rw [if_pos HK.out.symm, ← HB.out, if_pos rfl, HL.out] at h1
    injection h1 with h2 h3
    exact ⟨h2.trans (sumTo_congr (fun i hi => (GD.out i hi).symm)), h3⟩⟩
   clear q0 q1 q2 q3 q4 q5
   go_wp2_with fail
   refine (sum_any w4 L m cc _ RW.out SB.out hm4.out).mono ?_
   rintro _ w5 ⟨rfl, hb5⟩
   rw [← E.out.1]
   have B5 : Aside0 (Below W1.heap.size W1 w5) := ⟨B3.out.trans ((H4.out.2.trans (hb5.mono H4.out.2.size)).mono B3.out.size)⟩
   clear hb5
   go_wp2_with fail
   go_ret2
   exact ⟨by rw [E.out.2]; rfl, ⟨B1.out.trans (B5.out.mono B1.out.size)⟩⟩
 ·have g : (ck != 0) = true := by rw [bne_iff_ne]; exact h0
  have E : Aside0 (z = 0 ∧ er = ck) := ⟨by
   have h1 := HZ.out
   unfold valP at h1
   rw [if_neg (by rw [← HK.out]; exact h0), ← HK.out] at h1
   simpa using h1⟩
  clear h0
  go_wp2_with fail
  go_ret2
  exact ⟨by rw [E.out.1, E.out.2]; rfl, ⟨B1.out.trans (B2.out.mono B1.out.size)⟩⟩
set_option maxHeartbeats 1000000 in
set_option maxRecDepth 100000 in
theorem cost_any (w : World) (x : PI) (v : Value) (h : InstC w x v) (hx : PIok x) (A : Option Addr) (m c : Nat) (ys : List Int) (hC : (Kd.int .i64).C w A m ys) (hm : m ≤ 17592186044416) (z er : Int) (hz : (z, er) = cosP x ys) :
  Calls Tryd.prog 9 #[v, .slice A m c] w fun e w' => e = .returned (.tuple #[.int .i64 z, .int .i64 er]) ∧ Aside0 (Below w.heap.size w w') := by
 have HC := Aside0.mk hC
 have HIN := Aside0.mk h
 have HX := Aside0.mk hx
 obtain ⟨u, hu⟩ : ∃ u, u = (valP x ys).1 := ⟨_, rfl⟩
 obtain ⟨r, hr⟩ : ∃ r, r = (valP x ys).2 := ⟨_, rfl⟩
 have HV : Aside0 ((u, r) = valP x ys) := ⟨by rw [hu, hr]⟩
 have hub : -8796093022208 ≤ u ∧ u ≤ 8796093022208 := by rw [hu]; exact val_bd
 have HZ : Aside0 (z = (if x.kind = 0 then -u else u) ∧ er = r) := ⟨by
  unfold cosP at hz
  rw [← hu, ← hr] at hz
  injection hz with h1 h2
  exact ⟨h1, h2⟩⟩
 obtain ⟨A2, c2, A3, c3, A5, c5, rfl, h2, l2, h3, l3, h5, l5⟩ := h
 obtain ⟨n2, hn2⟩ : ∃ n, n = x.items.length := ⟨_, rfl⟩
 obtain ⟨n3, hn3⟩ : ∃ n, n = x.cost.length := ⟨_, rfl⟩
 obtain ⟨n5, hn5⟩ : ∃ n, n = x.sets.length := ⟨_, rfl⟩
 obtain ⟨kd, hkd⟩ : ∃ n, n = x.kind := ⟨_, rfl⟩
 obtain ⟨cap, hcap⟩ : ∃ n, n = x.cap := ⟨_, rfl⟩
 obtain ⟨sz, hsz⟩ : ∃ n, n = x.size := ⟨_, rfl⟩
 rw [← hn2, ← hn3, ← hn5, ← hkd, ← hcap, ← hsz] at HIN
 rw [← hn2, ← hn3, ← hn5, ← hkd, ← hcap, ← hsz]
 have HF := Aside0.mk hkd
 obtain ⟨ub0, ub1⟩ := hub
 clear h2 h3 h5 l2 l3 l5 hn2 hn3 hn5 hkd hcap hsz hx hC hz hu hr
 have hu54 := Tryd.underlying32
 go_enter Tryd.func9, Tryd.ntmps9
 go_upto_region 1 with fail
 obtain ⟨W1, hW1⟩ : ∃ W, W = w.alloc (.cells #[.int .i64 kd, .int .i64 cap, .slice A2 n2 c2, .slice A3 n3 c3, .int .i64 sz, .slice A5 n5 c5] 32) := ⟨_, rfl⟩
 rw [← hW1]
 have B1 : Aside0 (Below w.heap.size w W1) := ⟨by rw [hW1]; exact below_alloc (Below.refl _ _) _⟩
 obtain ⟨p1, hp1⟩ : ∃ p, p = w.heap.size := ⟨_, rfl⟩
 have Q1 : Aside0 (W1.heap[p1]? = some (.cells #[.int .i64 kd, .int .i64 cap, .slice A2 n2 c2, .slice A3 n3 c3, .int .i64 sz, .slice A5 n5 c5] 32 (0, 0))) := ⟨by rw [hW1, hp1]; exact heap_alloc_new _ _⟩
 rw [← hp1]
 clear hW1 hp1
 have IW : Aside0 (InstC W1 x (.agg #[.int .i64 kd, .int .i64 cap, .slice A2 n2 c2, .slice A3 n3 c3, .int .i64 sz, .slice A5 n5 c5])) := ⟨HIN.out.below B1.out⟩
 obtain ⟨q0, q1, q2, q3, q4, q5, _⟩ := six Q1.out (Below.refl _ _)
 go_wp2_with fail
 refine (value_any W1 x _ IW.out HX.out A m c ys (Kd.C_below HC.out B1.out) hm u r HV.out).mono ?_
 rintro _ w2 ⟨rfl, H2⟩
 clear q0 q1 q2 q3 q4 q5
 have q0 : w2.cell? ⟨p1, 0, none⟩ = some (.int .i64 kd) := (blk_cell (blk_below Q1.out H2.out) 0).trans rfl
 by_cases hk : kd = 0
 ·subst hk
  have E : Aside0 (z = -u ∧ er = r) := ⟨by have h1 := HZ.out; rwa [if_pos HF.out.symm] at h1⟩
  have e1 : wrap64 (-u) = -u := by unfold wrap64; omega
  go_wp2_with fail
  go_ret2
  exact ⟨by rw [E.out.1, E.out.2]; rfl, ⟨B1.out.trans (H2.out.mono B1.out.size)⟩⟩
 ·have g : (kd == 0) = false := beq_eq_false_iff_ne.2 hk
  have E : Aside0 (z = u ∧ er = r) := ⟨by have h1 := HZ.out; rwa [if_neg (by rw [← HF.out]; exact hk)] at h1⟩
  clear hk
  go_wp2_with fail
  go_ret2
  exact ⟨by rw [E.out.1, E.out.2]; rfl, ⟨B1.out.trans (H2.out.mono B1.out.size)⟩⟩
end Go.Proofs.YtlilfgfkedlbcaaDoor.Hand
end
section
namespace Go.Proofs.YtlilfgfkedlbcaaDoor.Hand
open Go.RowKit Go.Proofs.YtlilfgfkedlbcaaDoorW.PrintWords Go.Proofs.YtlilfgfkedlbcaaDoorW.PrintLast Go.Proofs.YtlilfgfkedlbcaaDoorW.PrintMore
def betP (k a b : Int) : Bool := if k = 0 then decide (b < a) else if k = 1 ∨ k = 2 ∨ k = 3 then decide (a < b) else false
theorem better_any (w : World) (k a b : Int) (r : Bool) (hr : r = betP k a b) : Calls Tryd.prog 10 #[.int .i64 k, .int .i64 a, .int .i64 b] w fun e w' => e = .returned (.bool r) ∧ w = w' := by
 unfold betP at hr
 by_cases h0 : k = 0
 ·subst h0
  rw [if_pos rfl] at hr
  have hr' : decide (b < a) = r := hr.symm
  clear hr
  go_enter Tryd.func10, Tryd.ntmps10
  go_wp2_with fail
  go_ret
  exact ⟨rfl, rfl⟩
 ·rw [if_neg h0] at hr
  have g0 : (k == 0) = false := by simpa using h0
  by_cases h1 : k = 1
  ·subst h1
   rw [if_pos (.inl rfl)] at hr
   have hr' : decide (a < b) = r := hr.symm
   clear hr h0
   go_enter Tryd.func10, Tryd.ntmps10
   go_wp2_with fail
   go_ret
   exact ⟨rfl, rfl⟩
  ·have g1 : (k == 1) = false := by simpa using h1
   by_cases h2 : k = 2
   ·subst h2
    rw [if_pos (.inr (.inl rfl))] at hr
    have hr' : decide (a < b) = r := hr.symm
    clear hr h0 h1
    go_enter Tryd.func10, Tryd.ntmps10
    go_wp2_with fail
    go_ret
    exact ⟨rfl, rfl⟩
   ·have g2 : (k == 2) = false := by simpa using h2
    by_cases h3 : k = 3
    ·subst h3
     rw [if_pos (.inr (.inr rfl))] at hr
     have hr' : decide (a < b) = r := hr.symm
     clear hr h0 h1 h2
     go_enter Tryd.func10, Tryd.ntmps10
     go_wp2_with fail
     go_ret
     exact ⟨rfl, rfl⟩
    ·have g3 : (k == 3) = false := by simpa using h3
     rw [if_neg (by omega)] at hr
     subst hr
     clear h0 h1 h2 h3
     go_enter Tryd.func10, Tryd.ntmps10
     go_wp2_with fail
     go_ret
     exact ⟨rfl, rfl⟩
end Go.Proofs.YtlilfgfkedlbcaaDoor.Hand
end
section
namespace Go.Proofs.YtlilfgfkedlbcaaDoor.Hand
open Go.RowKit Go.Proofs.YtlilfgfkedlbcaaDoorW.PrintWords Go.Proofs.YtlilfgfkedlbcaaDoorW.PrintLast Go.Proofs.YtlilfgfkedlbcaaDoorW.PrintMore Go.Proofs.YtlilfgfkedlbcaaDoor.PEvalBetter
theorem tame_asc {size : Int} : ∀ (l : List Int) (a : Int), l.Pairwise (· < ·) → (∀ e ∈ l, a < e ∧ e < size) → ascB size a l = true
 | [], _, _, _ => rfl
 | e :: t, a, hp, hb => by
  have h1 := hb e List.mem_cons_self
  rw [ascB, if_neg (by omega), if_neg (by omega)]
  exact tame_asc t e hp.tail (fun y hy => ⟨(List.pairwise_cons.1 hp).1 y hy, (hb y (List.mem_cons_of_mem _ hy)).2⟩)
theorem asc_le {size : Int} {l : List Int} (h : ascB size (-1) l = true) : (l.length : Int) ≤ max 0 size := by
 have := (asc_bd l (-1) (by omega) h).2
 rcases this with rfl | h
 ·simp; omega
 ·omega
theorem tame_els {most : Nat} {k : Int} {y : PI} (t : TameP most k y) : ∀ s ∈ y.sets, s.f1.length ≤ 8 := fun s hs => by
 have h := asc_le (tame_asc _ (-1) (t.sets.2 s hs).2.1 (fun e he => by have := (t.sets.2 s hs).2.2 e he; omega : ∀ e ∈ s.f1, -1 < e ∧ e < y.size))
 have := t.size
 omega
theorem tame_pok {most : Nat} {k : Int} {y : PI} (t : TameP most k y) (hm : most ≤ 64) : PIok y := by
 have h1 := t.items.1
 have h2 := t.cost.1
 have h3 := t.sets.1
 refine ⟨by omega, by omega, by omega, fun r hr => ?_, fun s hs => ?_⟩
 ·have := (t.cost.2 r hr).1
  omega
 ·have := tame_els t s hs
  omega
theorem cutI_ok (x : PI) : PIok (cutI x) := by
 refine ⟨?_, ?_, ?_, ?_, ?_⟩
 ·show (x.items.take 40).length ≤ _
  have := List.length_take_le 40 x.items
  omega
 ·show ((x.cost.take 70).map (·.take 70)).length ≤ _
  rw [List.length_map]
  have := List.length_take_le 70 x.cost
  omega
 ·show ((x.sets.take 40).map cutS).length ≤ _
  rw [List.length_map]
  have := List.length_take_le 40 x.sets
  omega
 ·intro r hr
  obtain ⟨q, _, rfl⟩ := List.mem_map.1 hr
  have := List.length_take_le 70 q
  omega
 ·intro s hs
  obtain ⟨q, _, rfl⟩ := List.mem_map.1 hs
  have : ((cutS q).f1).length ≤ 40 := List.length_take_le 40 q.f1
  omega
theorem cutI_len (x : PI) : (cutI x).items.length ≤ 40 ∧ (cutI x).cost.length ≤ 70 ∧ (cutI x).sets.length ≤ 40 := by
 refine ⟨List.length_take_le 40 x.items, ?_, ?_⟩
 ·show ((x.cost.take 70).map (·.take 70)).length ≤ _
  rw [List.length_map]
  exact List.length_take_le 70 x.cost
 ·show ((x.sets.take 40).map cutS).length ≤ _
  rw [List.length_map]
  exact List.length_take_le 40 x.sets
end Go.Proofs.YtlilfgfkedlbcaaDoor.Hand
end
section
namespace Go.Proofs.YtlilfgfkedlbcaaDoor.Hand
open Go.RowKit Go.Proofs.YtlilfgfkedlbcaaDoorW.PrintWords Go.Proofs.YtlilfgfkedlbcaaDoorW.PrintLast Go.Proofs.YtlilfgfkedlbcaaDoorW.PrintMore Go.Proofs.YtlilfgfkedlbcaaDoor.PEvalBetter
attribute [local go_sem] max2_int min2_int max_two min_two
structure TR (base : Nat) (w0 w : World) (v6 : Value) (l6 : List Int) (v7 : Value) (l7 : List Int) : Prop where
 a : (Kd.int .i64).R 3 w base (fun _ => True) v6 l6
 b : (Kd.int .i64).R 3 w base (fun _ => True) v7 l7
 ap : ∀ k, v6.ownBlock = some k → v7.ownBlock ≠ some k
 lo : Below base w0 w
 sz : base ≤ w0.heap.size
namespace TR
variable {base : Nat} {w0 W w1 : World} {v6 v7 : Value} {l6 l7 : List Int} {x : Int}
theorem app6 (h : TR base w0 W v6 l6 v7 l7) {u : Value} (o : (Kd.int .i64).R 3 w1 base (fun _ => True) u (l6 ++ [x])) (hb : Below base w0 w1) (hg : W.grownBy w1 v6.ownBlock) (hat : u.ownBlock = v6.ownBlock ∨ ∃ b, u.ownBlock = some b ∧ W.heap.size ≤ b) : TR base w0 w1 u (l6 ++ [x]) v7 l7 :=
 ⟨o, Kd.R_grown2 h.b rfl hg (fun k hk e => h.ap k hk e.symm), fun k hk e => by
  rcases hat with hat | ⟨b, hb1, hb2⟩
  ·exact h.ap k (hat ▸ hk) e
  ·have := Kd.R_lt h.b k e
   rw [hb1] at hk
   cases hk
   omega, hb, h.sz⟩
theorem app7 (h : TR base w0 W v6 l6 v7 l7) {u : Value} (o : (Kd.int .i64).R 3 w1 base (fun _ => True) u (l7 ++ [x])) (hb : Below base w0 w1) (hg : W.grownBy w1 v7.ownBlock) (hat : u.ownBlock = v7.ownBlock ∨ ∃ b, u.ownBlock = some b ∧ W.heap.size ≤ b) : TR base w0 w1 v6 l6 u (l7 ++ [x]) :=
 ⟨Kd.R_grown2 h.a rfl hg (fun k hk e => h.ap k e.symm hk), o, fun k hk e => by
  rcases hat with hat | ⟨b, hb1, hb2⟩
  ·exact h.ap k hk (hat ▸ e)
  ·have := Kd.R_lt h.a k hk
   rw [hb1] at e
   cases e
   omega, hb, h.sz⟩
theorem lo' (h : TR base w0 W v6 l6 v7 l7) (e : base = w0.heap.size := by rfl) : Below w0.heap.size w0 W := e ▸ h.lo
theorem step (h : TR base w0 W v6 l6 v7 l7) (hb : Below W.heap.size W w1) : TR base w0 w1 v6 l6 v7 l7 :=
 ⟨Kd.R_below h.a hb, Kd.R_below h.b hb, h.ap, h.lo.trans (hb.mono (Nat.le_trans h.sz h.lo.size)), h.sz⟩
end TR
theorem R_at {w : World} {base n c : Nat} {A : Option Addr} {l : List Int} (h : (Kd.int .i64).R 3 w base (fun _ => True) (.slice A n c) l) (h0 : 0 < n) : ∃ g, A = some ⟨g, 0, none⟩ ∧ base ≤ g := by
 have hl := (Kd.R_reads' h).1
 obtain ⟨inner, ho⟩ := Kd.R_own h
 rcases ho.2 with ⟨e, _⟩ | ⟨g, cap, cur, e, hb, _⟩
 ·cases e
  omega
 ·cases e
  exact ⟨g, rfl, hb⟩
def ansP (w : World) (e : Ending) (w' : World) : Prop :=
 ∃ g A1 n1 c1 l1 A2 n2 c2 l2, e = .returned (.slice (some ⟨g, 0, none⟩) 2 2) ∧ w'.heap[g]? = some (.cells #[.slice A1 n1 c1, .slice A2 n2 c2] 27 (0, 0)) ∧ (Kd.int .i64).C w' A1 n1 l1 ∧ n1 ≤ 4096 ∧ (Kd.int .i64).C w' A2 n2 l2 ∧ n2 ≤ 4096 ∧ Below w.heap.size w w'
set_option maxRecDepth 100000 in
set_option maxHeartbeats 4000000 in
theorem answers_any (w : World) (x : PI) (v : Value) (h : InstC w x v) (hx1 : x.items.length ≤ 40) (hx2 : x.cost.length ≤ 70) (hx3 : x.sets.length ≤ 40) (A : Option Addr) (n c : Nat) (xs : List Int) (hC : (Kd.int .i64).C w A n xs) (hn : n ≤ 17592186044416) (hnc : n ≤ c) :
  Calls Tryd.prog 7 #[.slice A n c, v] w (ansP w) := by
 obtain ⟨A2, c2, A3, c3, A5, c5, rfl, h2, l2, h3, l3, h5, l5⟩ := h
 clear h2 l2 h3 l3 h5 l5
 obtain ⟨n2, hn2⟩ : ∃ n, n = x.items.length := ⟨_, rfl⟩
 obtain ⟨n3, hn3⟩ : ∃ n, n = x.cost.length := ⟨_, rfl⟩
 obtain ⟨n5, hn5⟩ : ∃ n, n = x.sets.length := ⟨_, rfl⟩
 rw [← hn2] at hx1 ⊢
 rw [← hn3] at hx2 ⊢
 rw [← hn5] at hx3 ⊢
 clear hn2 hn3 hn5
 obtain ⟨kd, hkd⟩ : ∃ k, k = x.kind := ⟨_, rfl⟩
 rw [← hkd]
 clear hkd
 obtain ⟨m, hm⟩ : ∃ m, m = min n 20 := ⟨_, rfl⟩
 have em : (if (20 : Int) < (n : Int) then 20 else (n : Int)) = (m : Int) := by split <;> omega
 have hmn : m ≤ n := by omega
 have hm20 : m ≤ 20 := by omega
 obtain ⟨N, hN⟩ : ∃ N, N = n2 + n3 + n5 := ⟨_, rfl⟩
 have hN150 : N ≤ 150 := by omega
 have eN : IntKind.i64.wrap ((n2 : Int) + (n3 : Int)) = ((n2 + n3 : Nat) : Int) := by rw [IntWalk.i64_in _ (by omega)]; omega
 have hCm : (Kd.int .i64).C w A m (xs.take m) := by
  have e1 : xs.length = n := hC.1
  have h1 := C_take (w := w) (A := A) (ys := xs) (by rw [e1]; exact hC) m
  rw [show (xs.take m).length = m by rw [List.length_take]; omega] at h1
  exact h1
 have HC := Aside0.mk hCm
 clear hC hm hCm
 have HNN := Aside0.mk hN
 clear hN
 go_enter Tryd.func7, Tryd.ntmps7
 go_upto_region 2 with fail
 obtain ⟨W1, hW1⟩ : ∃ W, W = w.alloc (.cells #[.int .i64 kd, .int .i64 x.cap, .slice A2 n2 c2, .slice A3 n3 c3, .int .i64 x.size, .slice A5 n5 c5] 35) := ⟨_, rfl⟩
 rw [← hW1]
 have B1 : Aside0 (Below w.heap.size w W1) := ⟨by rw [hW1]; exact below_alloc (Below.refl _ _) _⟩
 obtain ⟨p1, hp1⟩ : ∃ p, p = w.heap.size := ⟨_, rfl⟩
 rw [← hp1]
 have Q1 : Aside0 (W1.heap[p1]? = some (.cells #[.int .i64 kd, .int .i64 x.cap, .slice A2 n2 c2, .slice A3 n3 c3, .int .i64 x.size, .slice A5 n5 c5] 35 (0, 0))) := ⟨by rw [hW1, hp1]; exact heap_alloc_new _ _⟩
 clear hW1 hp1
 obtain ⟨e0, e1, e2, e3, e4, e5, _⟩ := six Q1.out (Below.refl _ _)
 have eN2 : IntKind.i64.wrap (((n2 + n3 : Nat) : Int) + (n5 : Int)) = (N : Int) := by have := HNN.out; rw [IntWalk.i64_in _ (by omega)]; omega
 have eN3 : (n2 : Int) + (n3 : Int) + (n5 : Int) = (N : Int) := by have := HNN.out; omega
 go_upto_region 3 with fail
 clear e0 e1 e2 e3 e4 e5 eN eN2 eN3
 have T0 : Aside0 (TR W1.heap.size W1 W1 (.slice none 0 0) [] (.slice none 0 0) []) := ⟨Kd.R_nil _ _ _ _ _, Kd.R_nil _ _ _ _ _, fun k hk => by simp [Value.ownBlock] at hk, Below.refl _ _, Nat.le_refl _⟩
 have HC1 := Aside0.mk (Kd.C_below HC.out B1.out)
 go_wp2_with fail
 go_loopw [6, 7, 34] (fun v6 v7 v34 wr => ∃ (k : Nat) (A6 : Option Addr) (n6 c6 : Nat) (l6 : List Int) (A7 : Option Addr) (n7 c7 : Nat) (l7 : List Int), k ≤ N ∧ v34 = .int .i64 (k : Int) ∧ v6 = .slice A6 n6 c6 ∧ v7 = .slice A7 n7 c7 ∧ n6 ≤ k ∧ n7 = k ∧ Aside0 (l6.length = n6 ∧ l7.length = n7) ∧ Aside0 (TR W1.heap.size W1 wr (.slice A6 n6 c6) l6 (.slice A7 n7 c7) l7)) (fun _ _ v34 _ => N - (intOf v34).toNat)
 case atStart => exact ⟨0, none, 0, 0, [], none, 0, 0, [], Nat.zero_le _, rfl, rfl, rfl, Nat.le_refl _, rfl, ⟨rfl, rfl⟩, T0⟩
 case round =>
  clear T0
  obtain ⟨k, A6, n6, c6, l6, A7, n7, c7, l7, hk, rfl, rfl, rfl, hk6, hk7, LL, T⟩ := hrel
  have HK7 := Aside0.mk hk7
  clear hk7
  by_cases hlt : k < N
  ·go_wp2_with fail
   obtain ⟨wo, hwo⟩ : ∃ wo : World, wo = wr := ⟨_, rfl⟩
   have T' : Aside0 (TR W1.heap.size W1 wr (.slice A6 n6 c6) l6 (.slice A7 n7 c7) l7) := T
   rw [← hwo] at T
   clear hwo
   go_loopw [6, 39] (fun v6 v39 wr => ∃ j : Nat, j ≤ m ∧ v6 = .slice A6 n6 c6 ∧ v39 = .int .i64 (j : Int) ∧ Aside0 (TR W1.heap.size W1 wr (.slice A6 n6 c6) l6 (.slice A7 n7 c7) l7)) (fun _ v39 _ => m - (intOf v39).toNat)
   case atStart => exact ⟨0, Nat.zero_le _, rfl, rfl, T'⟩
   case round =>
    clear T T'
    obtain ⟨j, hj, rfl, rfl, U⟩ := hrel
    by_cases hjm : j < m
    ·obtain ⟨ad, rfl, cx'⟩ := at_Int HC1.out j hjm
     have cx := pw_cell_below U.out.lo' cx'
     obtain ⟨y, hy⟩ : ∃ y, y = (xs.take m).getD j 0 := ⟨_, rfl⟩
     rw [← hy] at cx
     clear cx' hy
     obtain ⟨u, hu⟩ : ∃ u : Int, (if (0 : Int) < y then y else 0) = u := ⟨_, rfl⟩
     have hu0 : 0 ≤ u := by rw [← hu]; split <;> omega
     obtain ⟨r, hr⟩ : ∃ r : Int, u % (N : Int) = r := ⟨_, rfl⟩
     have hr0 : 0 ≤ r := by rw [← hr]; exact Int.emod_nonneg _ (by omega)
     have hr1 : r < (N : Int) := by rw [← hr]; exact Int.emod_lt_of_pos _ (by omega)
     have hr2 : u.tmod (N : Int) = r := by rw [← hr]; exact Int.tmod_eq_emod_of_nonneg hu0
     have hN0 : ((N : Int) == 0) = false := by
      have : (N : Int) ≠ 0 := by omega
      simpa using this
     have hN1 : (N : Int) ≠ 0 := by omega
     have hw1 : IntKind.i64.wrap r = r := IntWalk.i64_in _ (by omega)
     by_cases hrk : r = (k : Int)
     ·have gk : (r == (k : Int)) = true := by simpa using hrk
      have HL6 : Aside0 ((l6.length + 1) * 8 ≤ 140737488355328) := ⟨by have := LL.out.1; omega⟩
      have HL7 : Aside0 ((l7.length + 1) * 8 ≤ 140737488355328) := ⟨by have := LL.out.2; have := HK7.out; omega⟩
      go_wp2_with (first
       | (at_builtin; refine Kd.R_append (Kd.int .i64) (w0 := W1) W1.heap.size rfl _ _ 27 3 (.int .i64 0) 8 rfl Tryd.underlying27 infoR3 rfl (by decide) (by decide) (.slice A6 n6 c6) l6 (k : Int) [.int .i64 (k : Int)] (fun _ => True) (fun _ => False) rfl rfl rfl (fun _ h => h.elim) (fun _ _ => trivial) U.out.a U.out.lo U.out.lo.size HL6.out ?_; intro v8 w8 ho8 hb8 hg8 hat8; have T8 := Aside0.mk (U.out.app6 ho8 hb8 hg8 hat8); obtain ⟨A8, n8, c8, rfl, HN8⟩ := R_open ho8; clear ho8 hb8 hg8 hat8)
       | (at_builtin; refine Kd.R_append (Kd.int .i64) (w0 := W1) W1.heap.size rfl _ _ 27 3 (.int .i64 0) 8 rfl Tryd.underlying27 infoR3 rfl (by decide) (by decide) (.slice A7 n7 c7) l7 (k : Int) [.int .i64 (k : Int)] (fun _ => True) (fun _ => False) rfl rfl rfl (fun _ h => h.elim) (fun _ _ => trivial) T8.out.b T8.out.lo T8.out.lo.size HL7.out ?_; intro v9 w9 ho9 hb9 hg9 hat9; have T9 := Aside0.mk (T8.out.app7 ho9 hb9 hg9 hat9); obtain ⟨A9, n9, c9, rfl, HN9⟩ := R_open ho9; clear ho9 hb9 hg9 hat9))
      refine ⟨⟨k + 1, A8, n8, c8, l6 ++ [(k : Int)], A9, n9, c9, l7 ++ [(k : Int)], by omega, by go_num, rfl, rfl, by have h1 := HN8.out; rw [List.length_append, List.length_singleton, LL.out.1] at h1; omega, by have h1 := HN9.out; rw [List.length_append, List.length_singleton, LL.out.2, HK7.out] at h1; exact h1, ⟨HN8.out.symm, HN9.out.symm⟩, T9⟩, by simp [intOf]; omega⟩
     ·have gk : (r == (k : Int)) = false := by simpa using hrk
      clear hrk
      go_wp2_with fail
      exact ⟨⟨j + 1, by omega, rfl, by go_num, U⟩, by simp [intOf]; omega⟩
    ·obtain rfl : j = m := by omega
     have HL6n : Aside0 (l6.length = n6) := ⟨LL.out.1⟩
     have HL7 : Aside0 ((l7.length + 1) * 8 ≤ 140737488355328) := ⟨by have := LL.out.2; have := HK7.out; omega⟩
     go_wp2_with (at_builtin; refine Kd.R_append (Kd.int .i64) (w0 := W1) W1.heap.size rfl _ _ 27 3 (.int .i64 0) 8 rfl Tryd.underlying27 infoR3 rfl (by decide) (by decide) (.slice A7 n7 c7) l7 (k : Int) [.int .i64 (k : Int)] (fun _ => True) (fun _ => False) rfl rfl rfl (fun _ h => h.elim) (fun _ _ => trivial) U.out.b U.out.lo U.out.lo.size HL7.out ?_; intro v8 w8 ho8 hb8 hg8 hat8; have T8 := Aside0.mk (U.out.app7 ho8 hb8 hg8 hat8); obtain ⟨A8, n8, c8, rfl, HN8⟩ := R_open ho8; clear ho8 hb8 hg8 hat8)
     refine ⟨⟨k + 1, A6, n6, c6, l6, A8, n8, c8, l7 ++ [(k : Int)], by omega, by go_num, rfl, rfl, by omega, by have h1 := HN8.out; rw [List.length_append, List.length_singleton, LL.out.2, HK7.out] at h1; exact h1, ⟨HL6n.out, HN8.out.symm⟩, T8⟩, by simp [intOf]; omega⟩
  ·obtain rfl : k = N := by omega
   obtain ⟨e0, e1, e2, e3, e4, e5, _⟩ := six Q1.out T.out.lo'
   have BT : Aside0 (Below w.heap.size w wr) := ⟨B1.out.trans (T.out.lo'.mono B1.out.size)⟩
   have HCT := Aside0.mk (Kd.C_below HC.out BT.out)
   by_cases hk1 : kd = 1
   ·subst hk1
    have e7 := (Kd.R_reads' T.out.b).1
    have K7 : Aside0 ((l7.length = n7) ∧ (Kd.int .i64).R 3 wr W1.heap.size (fun _ => True) (.slice A7 n7 c7) l7) := ⟨LL.out.2, T.out.b⟩
    clear e7
    go_wp2_with fail
    clear e0 e1 e2 e3 e4 e5
    have A77 : Aside0 (0 < n7 → ∃ g, A7 = some ⟨g, 0, none⟩ ∧ W1.heap.size ≤ g) := ⟨fun h0 => R_at T.out.b h0⟩
    go_loopw [72] (fun v72 wr => ∃ (j : Nat) (l : List Int), j ≤ m ∧ v72 = .int .i64 (j : Int) ∧ Aside0 ((l.length = n7) ∧ (Kd.int .i64).R 3 wr W1.heap.size (fun _ => True) (.slice A7 n7 c7) l) ∧ Aside0 (Below W1.heap.size W1 wr)) (fun v72 _ => m - (intOf v72).toNat)
    case atStart => exact ⟨0, l7, Nat.zero_le _, rfl, K7, ⟨T.out.lo'⟩⟩
    case round =>
     clear K7 T BT HCT
     obtain ⟨j, l, hj, rfl, K, BL⟩ := hrel
     have BT : Aside0 (Below w.heap.size w wr) := ⟨B1.out.trans (BL.out.mono B1.out.size)⟩
     by_cases hjm : j < m
     ·obtain ⟨ad, rfl, cx'⟩ := at_Int HC1.out j hjm
      have cx := pw_cell_below BL.out cx'
      obtain ⟨y, hy⟩ : ∃ y, y = (xs.take m).getD j 0 := ⟨_, rfl⟩
      rw [← hy] at cx
      clear cx' hy
      by_cases hl : 0 < k
      ·obtain ⟨g, rfl, hg⟩ := A77.out (by have := HK7.out; omega)
       obtain ⟨L, hL⟩ : ∃ L, L = k - 0 := ⟨_, rfl⟩
       have hL0 : 0 < L := by omega
       have eL : IntKind.i64.wrap ((k : Int) - 0) = (L : Int) := by rw [IntWalk.i64_in _ (by omega)]; omega
       have eL2 : (k : Int) - 0 = (L : Int) := by omega
       obtain ⟨u, hu⟩ : ∃ u : Int, (if (0 : Int) < y then y else 0) = u := ⟨_, rfl⟩
       have hu0 : 0 ≤ u := by rw [← hu]; split <;> omega
       have hLi : (0 : Int) < (L : Int) := by omega
       obtain ⟨ia, hia⟩ : ∃ ia : Nat, ia = j % L := ⟨_, rfl⟩
       have hia1 : ia < L := by rw [hia]; exact Nat.mod_lt _ hL0
       have hi2 : (j : Int) % (L : Int) = (ia : Int) := by rw [hia]; omega
       have hi3 : (j : Int).tmod (L : Int) = (ia : Int) := by rw [Int.tmod_eq_emod_of_nonneg (by omega)]; exact hi2
       have hb0 := Int.emod_nonneg u (b := (L : Int)) (by omega)
       have hb1 := Int.emod_lt_of_pos u hLi
       obtain ⟨ib, hib⟩ : ∃ ib : Nat, ((ib : Nat) : Int) = u % (L : Int) := ⟨(u % (L : Int)).toNat, by omega⟩
       have hib1 : ib < L := by omega
       have hj2 : u % (L : Int) = (ib : Int) := hib.symm
       have hj3 : u.tmod (L : Int) = (ib : Int) := by rw [Int.tmod_eq_emod_of_nonneg hu0]; exact hj2
       have hL00 : ((L : Int) == 0) = false := by
        have : (L : Int) ≠ 0 := by omega
        simpa using this
       have hL01 : (L : Int) ≠ 0 := by omega
       have wa : IntKind.i64.wrap (ia : Int) = (ia : Int) := IntWalk.i64_in _ (by omega)
       have wb : IntKind.i64.wrap (ib : Int) = (ib : Int) := IntWalk.i64_in _ (by omega)
       obtain ⟨pa, hpa⟩ : ∃ pa : Nat, pa = 0 + ia := ⟨_, rfl⟩
       obtain ⟨pb, hpb⟩ : ∃ pb : Nat, pb = 0 + ib := ⟨_, rfl⟩
       have wa1 : IntKind.i64.wrap (0 + (ia : Int)) = (pa : Int) := by rw [IntWalk.i64_in _ (by omega)]; omega
       have wb1 : IntKind.i64.wrap (0 + (ib : Int)) = (pb : Int) := by rw [IntWalk.i64_in _ (by omega)]; omega
       have wa2 : 0 + (ia : Int) = (pa : Int) := by omega
       have wb2 : 0 + (ib : Int) = (pb : Int) := by omega
       have hpa1 : pa < k := by omega
       have hpb1 : pb < k := by omega
       have ha7 : pa < n7 := by have := HK7.out; omega
       have hb7 : pb < n7 := by have := HK7.out; omega
       have HLL := Aside0.mk (And.intro hL (And.intro hia (And.intro hpa hpb)))
       clear hL hia hib hpa hpb hb0 hb1
       go_upto_region 24 with fail
       go_quiet (fail)
       rename_i nq
       clear wa wb wa1 wb1 wa2 wb2 hi2 hi3 hj2 hj3 hL00 hL01 hu eL eL2
       have KD := Kd.R_drewN K.out.2 nq
       have BD : Aside0 (Below W1.heap.size W1 (wr.drewN nq)) := ⟨pw_below_drewN BL.out nq⟩
       generalize wr.drewN nq = wd at *
       obtain ⟨ca, za⟩ := Kd.R_celln (enc := Value.int .i64) (h1 := fun _ => rfl) (0 : Int) KD (pa : Int) (by omega) (by omega)
       obtain ⟨cb, zb⟩ := Kd.R_celln (enc := Value.int .i64) (h1 := fun _ => rfl) (0 : Int) KD (pb : Int) (by omega) (by omega)
       rw [Int.toNat_natCast] at ca za cb zb
       obtain ⟨ua, hua⟩ : ∃ z, z = rdOf (0 : Int) l (pa : Int) := ⟨_, rfl⟩
       obtain ⟨ub, hub⟩ : ∃ z, z = rdOf (0 : Int) l (pb : Int) := ⟨_, rfl⟩
       rw [← hua] at ca
       rw [← hub] at cb
       have KDA := Aside0.mk KD
       clear hua hub KD
       obtain ⟨v', hy'⟩ := cell?_setCell_some (w := wd) (p := ⟨g, pa, none⟩) (x := .int .i64 ub) (q := ⟨g, pb, none⟩) (v := .int .i64 ub) cb
       go_wp2_with fail
       go_region
       go_wp2_with fail
       clear hy' ca cb za zb
       have q1 := Kd.R_putn (enc := Value.int .i64) (h1 := fun _ => rfl) KDA.out (pa : Int) ub
       have q2 := Kd.R_putn (enc := Value.int .i64) (h1 := fun _ => rfl) q1 (pb : Int) ua
       rw [Int.toNat_natCast, Int.toNat_natCast] at q2
       exact ⟨⟨j + 1, (l.set pa ub).set pb ua, by omega, by go_num, ⟨by rw [List.length_set, List.length_set]; exact K.out.1, Kd.R_below q2 (below_drew (Below.refl _ _))⟩, ⟨below_drew ((BD.out.setCell hg _).setCell hg _)⟩⟩, by simp [intOf]; omega⟩
      ·have eL : IntKind.i64.wrap ((k : Int) - 0) = (k : Int) - 0 := IntWalk.i64_in _ (by omega)
       go_wp2_with fail
       exact ⟨⟨j + 1, l, by omega, by go_num, K, BL⟩, by simp [intOf]; omega⟩
     ·obtain rfl : j = m := by omega
      go_wp2_with fail
      go_ret
      have r7 := (Kd.R_reads' K.out.2).2.2
      rw [K.out.1] at r7
      refine ⟨wr.heap.size, A, j, c, xs.take j, A7, n7, c7, l, rfl, heap_alloc_new _ _, Kd.C_below (Kd.C_below HC.out BT.out) (below_alloc (Below.refl _ _) _), by omega, Kd.C_below r7 (below_alloc (Below.refl _ _) _), by have := HK7.out; omega, below_alloc BT.out _⟩
   ·by_cases hk2 : kd = 2
    ·subst hk2
     have e7 := (Kd.R_reads' T.out.b).1
     have K7 : Aside0 ((l7.length = n7) ∧ (Kd.int .i64).R 3 wr W1.heap.size (fun _ => True) (.slice A7 n7 c7) l7) := ⟨LL.out.2, T.out.b⟩
     clear e7
     go_wp2_with fail
     clear e0 e1 e2 e3 e4 e5
     have A77 : Aside0 (0 < n7 → ∃ g, A7 = some ⟨g, 0, none⟩ ∧ W1.heap.size ≤ g) := ⟨fun h0 => R_at T.out.b h0⟩
     go_loopw [72] (fun v72 wr => ∃ (j : Nat) (l : List Int), j ≤ m ∧ v72 = .int .i64 (j : Int) ∧ Aside0 ((l.length = n7) ∧ (Kd.int .i64).R 3 wr W1.heap.size (fun _ => True) (.slice A7 n7 c7) l) ∧ Aside0 (Below W1.heap.size W1 wr)) (fun v72 _ => m - (intOf v72).toNat)
     case atStart => exact ⟨0, l7, Nat.zero_le _, rfl, K7, ⟨T.out.lo'⟩⟩
     case round =>
      clear K7 T BT HCT
      obtain ⟨j, l, hj, rfl, K, BL⟩ := hrel
      have BT : Aside0 (Below w.heap.size w wr) := ⟨B1.out.trans (BL.out.mono B1.out.size)⟩
      by_cases hjm : j < m
      ·obtain ⟨ad, rfl, cx'⟩ := at_Int HC1.out j hjm
       have cx := pw_cell_below BL.out cx'
       obtain ⟨y, hy⟩ : ∃ y, y = (xs.take m).getD j 0 := ⟨_, rfl⟩
       rw [← hy] at cx
       clear cx' hy
       by_cases hl : 1 < k
       ·obtain ⟨g, rfl, hg⟩ := A77.out (by have := HK7.out; omega)
        obtain ⟨L, hL⟩ : ∃ L, L = k - 1 := ⟨_, rfl⟩
        have hL0 : 0 < L := by omega
        have eL : IntKind.i64.wrap ((k : Int) - 1) = (L : Int) := by rw [IntWalk.i64_in _ (by omega)]; omega
        have eL2 : (k : Int) - 1 = (L : Int) := by omega
        obtain ⟨u, hu⟩ : ∃ u : Int, (if (0 : Int) < y then y else 0) = u := ⟨_, rfl⟩
        have hu0 : 0 ≤ u := by rw [← hu]; split <;> omega
        have hLi : (0 : Int) < (L : Int) := by omega
        obtain ⟨ia, hia⟩ : ∃ ia : Nat, ia = j % L := ⟨_, rfl⟩
        have hia1 : ia < L := by rw [hia]; exact Nat.mod_lt _ hL0
        have hi2 : (j : Int) % (L : Int) = (ia : Int) := by rw [hia]; omega
        have hi3 : (j : Int).tmod (L : Int) = (ia : Int) := by rw [Int.tmod_eq_emod_of_nonneg (by omega)]; exact hi2
        have hb0 := Int.emod_nonneg u (b := (L : Int)) (by omega)
        have hb1 := Int.emod_lt_of_pos u hLi
        obtain ⟨ib, hib⟩ : ∃ ib : Nat, ((ib : Nat) : Int) = u % (L : Int) := ⟨(u % (L : Int)).toNat, by omega⟩
        have hib1 : ib < L := by omega
        have hj2 : u % (L : Int) = (ib : Int) := hib.symm
        have hj3 : u.tmod (L : Int) = (ib : Int) := by rw [Int.tmod_eq_emod_of_nonneg hu0]; exact hj2
        have hL00 : ((L : Int) == 0) = false := by
         have : (L : Int) ≠ 0 := by omega
         simpa using this
        have hL01 : (L : Int) ≠ 0 := by omega
        have wa : IntKind.i64.wrap (ia : Int) = (ia : Int) := IntWalk.i64_in _ (by omega)
        have wb : IntKind.i64.wrap (ib : Int) = (ib : Int) := IntWalk.i64_in _ (by omega)
        obtain ⟨pa, hpa⟩ : ∃ pa : Nat, pa = 1 + ia := ⟨_, rfl⟩
        obtain ⟨pb, hpb⟩ : ∃ pb : Nat, pb = 1 + ib := ⟨_, rfl⟩
        have wa1 : IntKind.i64.wrap (1 + (ia : Int)) = (pa : Int) := by rw [IntWalk.i64_in _ (by omega)]; omega
        have wb1 : IntKind.i64.wrap (1 + (ib : Int)) = (pb : Int) := by rw [IntWalk.i64_in _ (by omega)]; omega
        have wa2 : 1 + (ia : Int) = (pa : Int) := by omega
        have wb2 : 1 + (ib : Int) = (pb : Int) := by omega
        have hpa1 : pa < k := by omega
        have hpb1 : pb < k := by omega
        have ha7 : pa < n7 := by have := HK7.out; omega
        have hb7 : pb < n7 := by have := HK7.out; omega
        have HLL := Aside0.mk (And.intro hL (And.intro hia (And.intro hpa hpb)))
        clear hL hia hib hpa hpb hb0 hb1
        go_upto_region 24 with fail
        go_quiet (fail)
        rename_i nq
        clear wa wb wa1 wb1 wa2 wb2 hi2 hi3 hj2 hj3 hL00 hL01 hu eL eL2
        have KD := Kd.R_drewN K.out.2 nq
        have BD : Aside0 (Below W1.heap.size W1 (wr.drewN nq)) := ⟨pw_below_drewN BL.out nq⟩
        generalize wr.drewN nq = wd at *
        obtain ⟨ca, za⟩ := Kd.R_celln (enc := Value.int .i64) (h1 := fun _ => rfl) (0 : Int) KD (pa : Int) (by omega) (by omega)
        obtain ⟨cb, zb⟩ := Kd.R_celln (enc := Value.int .i64) (h1 := fun _ => rfl) (0 : Int) KD (pb : Int) (by omega) (by omega)
        rw [Int.toNat_natCast] at ca za cb zb
        obtain ⟨ua, hua⟩ : ∃ z, z = rdOf (0 : Int) l (pa : Int) := ⟨_, rfl⟩
        obtain ⟨ub, hub⟩ : ∃ z, z = rdOf (0 : Int) l (pb : Int) := ⟨_, rfl⟩
        rw [← hua] at ca
        rw [← hub] at cb
        have KDA := Aside0.mk KD
        clear hua hub KD
        obtain ⟨v', hy'⟩ := cell?_setCell_some (w := wd) (p := ⟨g, pa, none⟩) (x := .int .i64 ub) (q := ⟨g, pb, none⟩) (v := .int .i64 ub) cb
        go_wp2_with fail
        go_region
        go_wp2_with fail
        clear hy' ca cb za zb
        have q1 := Kd.R_putn (enc := Value.int .i64) (h1 := fun _ => rfl) KDA.out (pa : Int) ub
        have q2 := Kd.R_putn (enc := Value.int .i64) (h1 := fun _ => rfl) q1 (pb : Int) ua
        rw [Int.toNat_natCast, Int.toNat_natCast] at q2
        exact ⟨⟨j + 1, (l.set pa ub).set pb ua, by omega, by go_num, ⟨by rw [List.length_set, List.length_set]; exact K.out.1, Kd.R_below q2 (below_drew (Below.refl _ _))⟩, ⟨below_drew ((BD.out.setCell hg _).setCell hg _)⟩⟩, by simp [intOf]; omega⟩
       ·have eL : IntKind.i64.wrap ((k : Int) - 1) = (k : Int) - 1 := IntWalk.i64_in _ (by omega)
        go_wp2_with fail
        exact ⟨⟨j + 1, l, by omega, by go_num, K, BL⟩, by simp [intOf]; omega⟩
      ·obtain rfl : j = m := by omega
       go_wp2_with fail
       go_ret
       have r7 := (Kd.R_reads' K.out.2).2.2
       rw [K.out.1] at r7
       refine ⟨wr.heap.size, A, j, c, xs.take j, A7, n7, c7, l, rfl, heap_alloc_new _ _, Kd.C_below (Kd.C_below HC.out BT.out) (below_alloc (Below.refl _ _) _), by omega, Kd.C_below r7 (below_alloc (Below.refl _ _) _), by have := HK7.out; omega, below_alloc BT.out _⟩
    ·have g1 : (kd == 1) = false := by simpa using hk1
     have g2 : (kd == 2) = false := by simpa using hk2
     clear hk1 hk2
     go_wp2_with fail
     go_ret
     have r6 := Kd.R_reads' T.out.a
     have e6 := r6.1
     have r6' := r6.2.2
     rw [← e6] at r6'
     refine ⟨wr.heap.size, A, m, c, xs.take m, A6, n6, c6, l6, rfl, heap_alloc_new _ _, Kd.C_below HCT.out (below_alloc (Below.refl _ _) _), by omega, Kd.C_below r6' (below_alloc (Below.refl _ _) _), by omega, below_alloc BT.out _⟩
end Go.Proofs.YtlilfgfkedlbcaaDoor.Hand
end
