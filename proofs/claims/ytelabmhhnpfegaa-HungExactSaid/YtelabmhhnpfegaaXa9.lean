/- Texts Kk Ma Di, cut to what is used. -/
import Derived.StillTailTactics
import Derived.Deep.QuietTactic
import Derived.BigQuiet
import Derived.IntWalk
import Derived.Test.YtelabmhhnpfegaaXa0
import Derived.Test.YtelabmhhnpfegaaXa4
import Derived.Test.YtelabmhhnpfegaaXa8
set_option linter.unusedVariables false
set_option linter.unusedSimpArgs false
section
namespace Go.Proofs.Ytelabmhhnpfegaa.Hand
open Go.RowKit Go.Proofs.YtelabmhhnpfegaaW.PrintWords Go.Proofs.YtelabmhhnpfegaaW.PrintLast Go.Proofs.YtelabmhhnpfegaaW.PrintMore Go.Proofs.Ytelabmhhnpfegaa.PDynCells
def mayP (x : PI) (y : List Int) : Bool :=
 if x.kind = 0 then ascB x.items.length (-1) y && fitB x y
 else if x.kind = 1 then ordB y x.cost.length
 else if x.kind = 2 then ordB y x.cost.length && decide (y.getD 0 0 = 0)
 else ascB x.sets.length (-1) y && covB x y
theorem asc_bd {size : Int} : ∀ (l : List Int) (a : Int), -1 ≤ a → ascB size a l = true → (∀ e ∈ l, 0 ≤ e ∧ e < size) ∧ (l = [] ∨ a + l.length < size)
 | [], _, _, _ => ⟨fun e he => absurd he List.not_mem_nil, .inl rfl⟩
 | y :: t, a, ha, h => by
  unfold ascB at h
  split at h
  ·cases h
  ·split at h
   ·cases h
   ·obtain ⟨h1, h2⟩ := asc_bd t y (by omega) h
    refine ⟨fun e he => ?_, .inr ?_⟩
    ·rcases List.mem_cons.1 he with rfl | he
     ·omega
     ·exact h1 e he
    ·rw [List.length_cons]
     rcases h2 with rfl | h2
     ·simp
      omega
     ·omega
theorem asc_len {n : Nat} {l : List Int} (h : ascB (n : Int) (-1) l = true) : l.length ≤ n ∧ ∀ e ∈ l, 0 ≤ e ∧ e < n := by
 obtain ⟨h1, h2⟩ := asc_bd l (-1) (by omega) h
 refine ⟨?_, h1⟩
 rcases h2 with rfl | h2
 ·exact Nat.zero_le _
 ·omega
theorem ord_in {ys : List Int} {n : Nat} (h : ordB ys n = true) : ys.length = n ∧ (∀ k, k < n → (k : Int) ∈ ys) ∧ ∀ e ∈ ys, 0 ≤ e ∧ e < n := by
 unfold ordB at h
 simp only [Bool.and_eq_true, decide_eq_true_eq, List.all_eq_true, List.mem_range] at h
 obtain ⟨h1, h2⟩ := h
 refine ⟨h1, h2, fun e he => ?_⟩
 apply Classical.byContradiction
 intro hne
 have h3 := dup_short n (ys.erase e) (fun k hk => (List.mem_erase_of_ne (fun e' => hne (by omega))).2 (h2 k hk))
 have h4 := List.length_erase_of_mem he
 have h5 := List.length_pos_of_mem he
 omega
theorem may_bd {x : PI} (hi : IOk x) {y : List Int} (h : mayP x y = true) : y.length ≤ 4096 := by
 unfold mayP at h
 split at h
 ·rw [Bool.and_eq_true] at h
  exact Nat.le_trans (asc_len h.1).1 hi.nitems
 ·split at h
  ·rename_i _ h1
   have := (ord_in h).1
   have := (hi.side (.inl h1)).2
   omega
  ·split at h
   ·rename_i _ _ h1
    rw [Bool.and_eq_true] at h
    have := (ord_in h.1).1
    have := (hi.side (.inr h1)).2
    omega
   ·rw [Bool.and_eq_true] at h
    exact Nat.le_trans (asc_len h.1).1 hi.nsets
set_option maxHeartbeats 1000000 in
set_option maxRecDepth 100000 in
theorem may_any (w : World) (x : PI) (v : Value) (h : InstC w x v) (hi : IOk x) (hx : PIok x) (A : Option Addr) (m c : Nat) (ys : List Int) (hC : (Kd.int .i64).C w A m ys) (hm : m ≤ 17592186044416) (r : Bool) (RR : r = mayP x ys) :
  Calls Try.prog 97 #[v, .slice A m c] w fun e w' => e = .returned (.bool r) ∧ Aside0 (Below w.heap.size w w') := by
 have HR := Aside0.mk RR
 have HC := Aside0.mk hC
 have HL : Aside0 (ys.length = m) := ⟨hC.1⟩
 have HIN := Aside0.mk h
 have HI := Aside0.mk hi
 have HX := Aside0.mk hx
 obtain ⟨A2, c2, A3, c3, A5, c5, rfl, h2, l2, h3, l3, h5, l5⟩ := h
 obtain ⟨n2, hn2⟩ : ∃ n, n = x.items.length := ⟨_, rfl⟩
 obtain ⟨n3, hn3⟩ : ∃ n, n = x.cost.length := ⟨_, rfl⟩
 obtain ⟨n5, hn5⟩ : ∃ n, n = x.sets.length := ⟨_, rfl⟩
 obtain ⟨kd, hkd⟩ : ∃ n, n = x.kind := ⟨_, rfl⟩
 obtain ⟨cap, hcap⟩ : ∃ n, n = x.cap := ⟨_, rfl⟩
 obtain ⟨sz, hsz⟩ : ∃ n, n = x.size := ⟨_, rfl⟩
 rw [← hn2, ← hn3, ← hn5, ← hkd, ← hcap, ← hsz] at HIN
 rw [← hn2, ← hn3, ← hn5, ← hkd, ← hcap, ← hsz]
 have HN := Aside0.mk (And.intro hn2 (And.intro hn3 hn5))
 have HF := Aside0.mk (And.intro hkd (And.intro hcap hsz))
 have hk4 := hi.kind
 rw [← hkd] at hk4
 clear h2 h3 h5 l2 l3 l5 hn2 hn3 hn5 hkd hcap hsz hi hx hC RR
 have hu54 := Try.underlying54
 have hkk : kd = 0 ∨ kd = 1 ∨ kd = 2 ∨ kd = 3 := by omega
 clear hk4
 rcases hkk with rfl | rfl | rfl | rfl
 ·go_enter Try.func97, Try.ntmps97
  go_upto_region 1 with fail
  obtain ⟨W1, hW1⟩ : ∃ W, W = w.alloc (.cells #[.int .i64 0, .int .i64 cap, .slice A2 n2 c2, .slice A3 n3 c3, .int .i64 sz, .slice A5 n5 c5] 54) := ⟨_, rfl⟩
  rw [← hW1]
  have B1 : Aside0 (Below w.heap.size w W1) := ⟨by rw [hW1]; exact below_alloc (Below.refl _ _) _⟩
  obtain ⟨p1, hp1⟩ : ∃ p, p = w.heap.size := ⟨_, rfl⟩
  have Q1 : Aside0 (W1.heap[p1]? = some (.cells #[.int .i64 0, .int .i64 cap, .slice A2 n2 c2, .slice A3 n3 c3, .int .i64 sz, .slice A5 n5 c5] 54 (0, 0))) := ⟨by rw [hW1, hp1]; exact heap_alloc_new _ _⟩
  rw [← hp1]
  clear hW1 hp1
  have IW : Aside0 (InstC W1 x (.agg #[.int .i64 0, .int .i64 cap, .slice A2 n2 c2, .slice A3 n3 c3, .int .i64 sz, .slice A5 n5 c5])) := ⟨HIN.out.below B1.out⟩
  have CW : Aside0 ((Kd.int .i64).C W1 A m ys) := ⟨Kd.C_below HC.out B1.out⟩
  obtain ⟨q0, q1, q2, q3, q4, q5, _⟩ := six Q1.out (Below.refl _ _)
  obtain ⟨b, hb⟩ : ∃ b, b = ascB (n2 : Int) (-1) ys := ⟨_, rfl⟩
  have HB := Aside0.mk hb
  have ME : Aside0 (mayP x ys = (b && fitB x ys)) := ⟨by
   unfold mayP
   rw [if_pos HF.out.1.symm, ← HN.out.1, hb]⟩
  clear hb
  go_wp2_with fail
  refine (rises_any W1 A m c ys (n2 : Int) CW.out hm b HB.out).mono ?_
  rintro _ _ ⟨rfl, rfl⟩
  cases b with
  | false =>
   have E : Aside0 (r = false) := ⟨by rw [HR.out, ME.out]; rfl⟩
   go_wp2_with fail
   go_ret
   exact ⟨by rw [E.out]; rfl, B1⟩
  | true =>
   obtain ⟨f, hf⟩ : ∃ f, f = fitB x ys := ⟨_, rfl⟩
   have HFB := Aside0.mk hf
   have E : Aside0 (r = f) := ⟨by rw [HR.out, ME.out, ← hf, Bool.true_and]⟩
   clear hf
   go_wp2_with fail
   refine (fits_any W1 x _ IW.out HI.out A m c ys CW.out (by rw [← HL.out]; exact Nat.le_trans (asc_len HB.out.symm).1 (by rw [HN.out.1]; exact HI.out.nitems)) (by rw [← HN.out.1]; exact (asc_len HB.out.symm).2) f HFB.out).mono ?_
   rintro _ w3 ⟨rfl, H3⟩
   go_wp2_with fail
   go_ret
   exact ⟨by rw [E.out]; rfl, ⟨B1.out.trans (H3.out.mono B1.out.size)⟩⟩
 ·go_enter Try.func97, Try.ntmps97
  go_upto_region 1 with fail
  obtain ⟨W1, hW1⟩ : ∃ W, W = w.alloc (.cells #[.int .i64 1, .int .i64 cap, .slice A2 n2 c2, .slice A3 n3 c3, .int .i64 sz, .slice A5 n5 c5] 54) := ⟨_, rfl⟩
  rw [← hW1]
  have B1 : Aside0 (Below w.heap.size w W1) := ⟨by rw [hW1]; exact below_alloc (Below.refl _ _) _⟩
  obtain ⟨p1, hp1⟩ : ∃ p, p = w.heap.size := ⟨_, rfl⟩
  have Q1 : Aside0 (W1.heap[p1]? = some (.cells #[.int .i64 1, .int .i64 cap, .slice A2 n2 c2, .slice A3 n3 c3, .int .i64 sz, .slice A5 n5 c5] 54 (0, 0))) := ⟨by rw [hW1, hp1]; exact heap_alloc_new _ _⟩
  rw [← hp1]
  clear hW1 hp1
  have CW : Aside0 ((Kd.int .i64).C W1 A m ys) := ⟨Kd.C_below HC.out B1.out⟩
  obtain ⟨q0, q1, q2, q3, q4, q5, _⟩ := six Q1.out (Below.refl _ _)
  have E : Aside0 (r = ordB ys n3) := ⟨by
   rw [HR.out]
   unfold mayP
   rw [if_neg (by rw [← HF.out.1]; decide), if_pos HF.out.1.symm, ← HN.out.2.1]⟩
  have hn : Aside0 (n3 ≤ 4096) := ⟨by rw [HN.out.2.1]; exact Nat.le_trans (HI.out.side (.inl HF.out.1.symm)).2 (by decide)⟩
  go_wp2_with fail
  refine (order_any W1 A m c ys n3 CW.out hm hn.out r E.out).mono ?_
  rintro _ w3 ⟨rfl, H3⟩
  go_wp2_with fail
  go_ret
  exact ⟨rfl, ⟨B1.out.trans (H3.out.mono B1.out.size)⟩⟩
 ·go_enter Try.func97, Try.ntmps97
  go_upto_region 1 with fail
  obtain ⟨W1, hW1⟩ : ∃ W, W = w.alloc (.cells #[.int .i64 2, .int .i64 cap, .slice A2 n2 c2, .slice A3 n3 c3, .int .i64 sz, .slice A5 n5 c5] 54) := ⟨_, rfl⟩
  rw [← hW1]
  have B1 : Aside0 (Below w.heap.size w W1) := ⟨by rw [hW1]; exact below_alloc (Below.refl _ _) _⟩
  obtain ⟨p1, hp1⟩ : ∃ p, p = w.heap.size := ⟨_, rfl⟩
  have Q1 : Aside0 (W1.heap[p1]? = some (.cells #[.int .i64 2, .int .i64 cap, .slice A2 n2 c2, .slice A3 n3 c3, .int .i64 sz, .slice A5 n5 c5] 54 (0, 0))) := ⟨by rw [hW1, hp1]; exact heap_alloc_new _ _⟩
  rw [← hp1]
  clear hW1 hp1
  have CW : Aside0 ((Kd.int .i64).C W1 A m ys) := ⟨Kd.C_below HC.out B1.out⟩
  obtain ⟨q0, q1, q2, q3, q4, q5, _⟩ := six Q1.out (Below.refl _ _)
  obtain ⟨b, hb⟩ : ∃ b, b = ordB ys n3 := ⟨_, rfl⟩
  have HB := Aside0.mk hb
  have ME : Aside0 (r = (b && decide (ys.getD 0 0 = 0))) := ⟨by
   rw [HR.out]
   unfold mayP
   rw [if_neg (by rw [← HF.out.1]; decide), if_neg (by rw [← HF.out.1]; decide), if_pos HF.out.1.symm, ← HN.out.2.1, hb]⟩
  have hn : Aside0 (n3 ≤ 4096 ∧ 1 ≤ n3) := ⟨by rw [HN.out.2.1]; exact Nat.le_trans (HI.out.side (.inr HF.out.1.symm)).2 (by decide), by rw [HN.out.2.1]; exact (HI.out.side (.inr HF.out.1.symm)).1⟩
  clear hb
  go_wp2_with fail
  refine (order_any W1 A m c ys n3 CW.out hm hn.out.1 b HB.out).mono ?_
  rintro _ w3 ⟨rfl, H3⟩
  clear q0 q1 q2 q3 q4 q5
  cases b with
  | false =>
   have E : Aside0 (r = false) := ⟨by rw [ME.out]; rfl⟩
   go_wp2_with fail
   go_ret
   exact ⟨by rw [E.out]; rfl, ⟨B1.out.trans (H3.out.mono B1.out.size)⟩⟩
  | true =>
   have hm0 : 0 < m := by
    have h1 := (ord_in HB.out.symm).1
    have h2 := hn.out.2
    rw [HL.out] at h1
    omega
   obtain ⟨ae, rfl, hx'⟩ := at_Int HC.out 0 hm0
   have hx : w3.cell? ae = some (.int .i64 (ys.getD 0 0)) := pw_cell_below (B1.out.trans (H3.out.mono B1.out.size)) hx'
   obtain ⟨z, hz⟩ : ∃ z, z = ys.getD 0 0 := ⟨_, rfl⟩
   rw [← hz] at hx ME
   clear hx' hz
   by_cases hz0 : z = 0
   ·have E : Aside0 (r = true) := ⟨by rw [ME.out, decide_eq_true hz0]; rfl⟩
    subst hz0
    go_wp2_with fail
    go_ret
    exact ⟨by rw [E.out]; rfl, ⟨B1.out.trans (H3.out.mono B1.out.size)⟩⟩
   ·have E : Aside0 (r = false) := ⟨by rw [ME.out, decide_eq_false hz0]; rfl⟩
    have g : (z == 0) = false := beq_eq_false_iff_ne.2 hz0
    clear hz0
    go_wp2_with fail
    go_ret
    exact ⟨by rw [E.out]; rfl, ⟨B1.out.trans (H3.out.mono B1.out.size)⟩⟩
 ·go_enter Try.func97, Try.ntmps97
  go_upto_region 1 with fail
  obtain ⟨W1, hW1⟩ : ∃ W, W = w.alloc (.cells #[.int .i64 3, .int .i64 cap, .slice A2 n2 c2, .slice A3 n3 c3, .int .i64 sz, .slice A5 n5 c5] 54) := ⟨_, rfl⟩
  rw [← hW1]
  have B1 : Aside0 (Below w.heap.size w W1) := ⟨by rw [hW1]; exact below_alloc (Below.refl _ _) _⟩
  obtain ⟨p1, hp1⟩ : ∃ p, p = w.heap.size := ⟨_, rfl⟩
  have Q1 : Aside0 (W1.heap[p1]? = some (.cells #[.int .i64 3, .int .i64 cap, .slice A2 n2 c2, .slice A3 n3 c3, .int .i64 sz, .slice A5 n5 c5] 54 (0, 0))) := ⟨by rw [hW1, hp1]; exact heap_alloc_new _ _⟩
  rw [← hp1]
  clear hW1 hp1
  have IW : Aside0 (InstC W1 x (.agg #[.int .i64 3, .int .i64 cap, .slice A2 n2 c2, .slice A3 n3 c3, .int .i64 sz, .slice A5 n5 c5])) := ⟨HIN.out.below B1.out⟩
  have CW : Aside0 ((Kd.int .i64).C W1 A m ys) := ⟨Kd.C_below HC.out B1.out⟩
  obtain ⟨q0, q1, q2, q3, q4, q5, _⟩ := six Q1.out (Below.refl _ _)
  obtain ⟨b, hb⟩ : ∃ b, b = ascB (n5 : Int) (-1) ys := ⟨_, rfl⟩
  have HB := Aside0.mk hb
  have ME : Aside0 (mayP x ys = (b && covB x ys)) := ⟨by
   unfold mayP
   rw [if_neg (by rw [← HF.out.1]; decide), if_neg (by rw [← HF.out.1]; decide), if_neg (by rw [← HF.out.1]; decide), ← HN.out.2.2, hb]⟩
  clear hb
  go_wp2_with fail
  refine (rises_any W1 A m c ys (n5 : Int) CW.out hm b HB.out).mono ?_
  rintro _ _ ⟨rfl, rfl⟩
  cases b with
  | false =>
   have E : Aside0 (r = false) := ⟨by rw [HR.out, ME.out]; rfl⟩
   go_wp2_with fail
   go_ret
   exact ⟨by rw [E.out]; rfl, B1⟩
  | true =>
   obtain ⟨f, hf⟩ : ∃ f, f = covB x ys := ⟨_, rfl⟩
   have HFB := Aside0.mk hf
   have E : Aside0 (r = f) := ⟨by rw [HR.out, ME.out, ← hf, Bool.true_and]⟩
   clear hf
   go_wp2_with fail
   refine (covers_any W1 x _ IW.out HI.out HX.out A m c ys CW.out hm (by rw [← HN.out.2.2]; exact (asc_len HB.out.symm).2) f HFB.out).mono ?_
   rintro _ w3 ⟨rfl, H3⟩
   go_wp2_with fail
   go_ret
   exact ⟨by rw [E.out]; rfl, ⟨B1.out.trans (H3.out.mono B1.out.size)⟩⟩
theorem R_len {e base n cc : Nat} {w : World} {ok : Nat → Prop} {L : Option Addr} {l : List Int} (h : (Kd.int .i64).R e w base ok (.slice L n cc) l) : (Kd.int .i64).C w L n l := (R_C h).1
def valP (x : PI) (y : List Int) : Int × Int := if chk x = 0 then (if mayP x y = true then (sumTo y.length (partC x y), 0) else (0, 12)) else (0, chk x)
def cosP (x : PI) (y : List Int) : Int × Int := (if x.kind = 0 then -(valP x y).1 else (valP x y).1, (valP x y).2)
theorem part_bd {x : PI} (hi : IOk x) {y : List Int} (h : mayP x y = true) (i : Nat) (hil : i < y.length) : -2147483648 ≤ partC x y i ∧ partC x y i ≤ 2147483648 := by
 have cst : ∀ a b, -2147483648 ≤ cstA x a b ∧ cstA x a b ≤ 2147483648 := fun a b => by
  unfold cstA
  by_cases ha : a < x.cost.length
  ·have hr : x.cost.getD a [] ∈ x.cost := by
    rw [List.getD_eq_getElem?_getD, List.getElem?_eq_getElem ha]
    exact List.getElem_mem ha
   by_cases hb : b < (x.cost.getD a []).length
   ·have hz : (x.cost.getD a []).getD b 0 ∈ x.cost.getD a [] := getD_mem' hb
    exact hi.cost _ hr _ hz
   ·have : (x.cost.getD a []).getD b 0 = 0 := by rw [List.getD_eq_getElem?_getD, List.getElem?_eq_none (by omega)]; rfl
    rw [this]
    decide
  ·have : x.cost.getD a [] = [] := by rw [List.getD_eq_getElem?_getD, List.getElem?_eq_none (by omega)]; rfl
   rw [this]
   simp
 unfold partC
 split
 ·by_cases ha : (y.getD i 0).toNat < x.items.length
  ·rw [List.getD_eq_getElem?_getD, List.getElem?_eq_getElem ha, Option.getD_some]
   have := (hi.items _ (List.getElem_mem ha)).1
   omega
  ·rw [List.getD_eq_getElem?_getD (l := x.items), List.getElem?_eq_none (by omega)]
   decide
 ·split
  ·exact cst _ _
  ·split
   ·exact cst _ _
   ·by_cases ha : (y.getD i 0).toNat < x.sets.length
    ·rw [List.getD_eq_getElem?_getD (l := x.sets), List.getElem?_eq_getElem ha, Option.getD_some]
     have := hi.costs _ (List.getElem_mem ha)
     omega
    ·rw [List.getD_eq_getElem?_getD (l := x.sets), List.getElem?_eq_none (by omega)]
     decide
theorem val_bd {x : PI} {y : List Int} : -8796093022208 ≤ (valP x y).1 ∧ (valP x y).1 ≤ 8796093022208 := by
 unfold valP
 split
 ·rename_i hc
  split
  ·rename_i hm
   have h1 := may_bd (iok.1 hc) hm
   have h2 := sumTo_abs (n := y.length) (f := partC x y) (B := 2147483648) (fun i hi => part_bd (iok.1 hc) hm i hi)
   simp only
   omega
  ·decide
 ·show (-8796093022208 : Int) ≤ 0 ∧ (0 : Int) ≤ 8796093022208
  decide
theorem parts_any (w : World) (x : PI) (v : Value) (h : InstC w x v) (hi : IOk x) (A : Option Addr) (m c : Nat) (ys : List Int) (hC : (Kd.int .i64).C w A m ys) (hm : mayP x ys = true) :
  Calls Try.prog 98 #[v, .slice A m c] w fun e w' => ∃ L cc, e = .returned (.slice L m cc) ∧ Aside0 ((Kd.int .i64).R 2 w' w.heap.size (fun _ => True) (.slice L m cc) ((List.range m).map (partC x ys)) ∧ Below w.heap.size w w') := by
 have hl := may_bd hi hm
 have hml : ys.length = m := hC.1
 rw [hml] at hl
 have hk := hi.kind
 have h4 : x.kind = 0 ∨ x.kind = 1 ∨ x.kind = 2 ∨ x.kind = 3 := by omega
 unfold mayP at hm
 rcases h4 with hk | hk | hk | hk
 ·rw [if_pos hk, Bool.and_eq_true] at hm
  exact parts_0 w x v h hi A m c ys hC hl hk (asc_len hm.1).2
 ·rw [if_neg (by omega), if_pos hk] at hm
  exact parts_1 w x v h hi A m c ys hC hl hk (ord_in hm).2.2 (by rw [← hml, (ord_in hm).1]; exact Nat.le_refl _)
 ·rw [if_neg (by omega), if_neg (by omega), if_pos hk, Bool.and_eq_true] at hm
  exact parts_2 w x v h hi A m c ys hC hl hk (ord_in hm.1).2.2
 ·rw [if_neg (by omega), if_neg (by omega), if_neg (by omega), Bool.and_eq_true] at hm
  exact parts_3 w x v h hi A m c ys hC hl hk (asc_len hm.1).2
set_option maxHeartbeats 1000000 in
set_option maxRecDepth 100000 in
theorem value_any (w : World) (x : PI) (v : Value) (h : InstC w x v) (hx : PIok x) (A : Option Addr) (m c : Nat) (ys : List Int) (hC : (Kd.int .i64).C w A m ys) (hm : m ≤ 17592186044416) (z er : Int) (hz : (z, er) = valP x ys) :
  Calls Try.prog 61 #[v, .slice A m c] w fun e w' => e = .returned (.tuple #[.int .i64 z, .int .i64 er]) ∧ Aside0 (Below w.heap.size w w') := by
 have HZ := Aside0.mk hz
 have HC := Aside0.mk hC
 have HL : Aside0 (ys.length = m) := ⟨hC.1⟩
 have HIN := Aside0.mk h
 have HX := Aside0.mk hx
 obtain ⟨A2, c2, A3, c3, A5, c5, rfl, h2, l2, h3, l3, h5, l5⟩ := h
 obtain ⟨n2, hn2⟩ : ∃ n, n = x.items.length := ⟨_, rfl⟩
 obtain ⟨n3, hn3⟩ : ∃ n, n = x.cost.length := ⟨_, rfl⟩
 obtain ⟨n5, hn5⟩ : ∃ n, n = x.sets.length := ⟨_, rfl⟩
 obtain ⟨kd, hkd⟩ : ∃ n, n = x.kind := ⟨_, rfl⟩
 obtain ⟨cap, hcap⟩ : ∃ n, n = x.cap := ⟨_, rfl⟩
 obtain ⟨sz, hsz⟩ : ∃ n, n = x.size := ⟨_, rfl⟩
 rw [← hn2, ← hn3, ← hn5, ← hkd, ← hcap, ← hsz] at HIN
 rw [← hn2, ← hn3, ← hn5, ← hkd, ← hcap, ← hsz]
 clear h2 h3 h5 l2 l3 l5 hn2 hn3 hn5 hkd hcap hsz hx hC hz
 have hu54 := Try.underlying54
 go_enter Try.func61, Try.ntmps61
 go_upto_region 1 with fail
 obtain ⟨W1, hW1⟩ : ∃ W, W = w.alloc (.cells #[.int .i64 kd, .int .i64 cap, .slice A2 n2 c2, .slice A3 n3 c3, .int .i64 sz, .slice A5 n5 c5] 54) := ⟨_, rfl⟩
 rw [← hW1]
 have B1 : Aside0 (Below w.heap.size w W1) := ⟨by rw [hW1]; exact below_alloc (Below.refl _ _) _⟩
 obtain ⟨p1, hp1⟩ : ∃ p, p = w.heap.size := ⟨_, rfl⟩
 have Q1 : Aside0 (W1.heap[p1]? = some (.cells #[.int .i64 kd, .int .i64 cap, .slice A2 n2 c2, .slice A3 n3 c3, .int .i64 sz, .slice A5 n5 c5] 54 (0, 0))) := ⟨by rw [hW1, hp1]; exact heap_alloc_new _ _⟩
 rw [← hp1]
 clear hW1 hp1
 have IW : Aside0 (InstC W1 x (.agg #[.int .i64 kd, .int .i64 cap, .slice A2 n2 c2, .slice A3 n3 c3, .int .i64 sz, .slice A5 n5 c5])) := ⟨HIN.out.below B1.out⟩
 obtain ⟨q0, q1, q2, q3, q4, q5, _⟩ := six Q1.out (Below.refl _ _)
 obtain ⟨ck, hck⟩ : ∃ ck, ck = chk x := ⟨_, rfl⟩
 have HK := Aside0.mk hck
 clear hck
 go_wp2_with fail
 refine (icheck_any' W1 x _ IW.out HX.out ck HK.out).mono ?_
 rintro _ w2 ⟨rfl, hb2⟩
 have B2 : Aside0 (Below W1.heap.size W1 w2) := ⟨hb2⟩
 clear hb2 q0 q1 q2 q3 q4 q5
 by_cases h0 : ck = 0
 ·subst h0
  have IOa : Aside0 (IOk x) := ⟨iok.1 HK.out.symm⟩
  obtain ⟨q0, q1, q2, q3, q4, q5, _⟩ := six Q1.out B2.out
  obtain ⟨b, hb⟩ : ∃ b, b = mayP x ys := ⟨_, rfl⟩
  have HB := Aside0.mk hb
  clear hb
  go_wp2_with fail
  refine (may_any w2 x _ (IW.out.below B2.out) IOa.out HX.out A m c ys (Kd.C_below HC.out (B1.out.trans (B2.out.mono B1.out.size))) hm b HB.out).mono ?_
  rintro _ w3 ⟨rfl, H3⟩
  have B3 : Aside0 (Below W1.heap.size W1 w3) := ⟨B2.out.trans (H3.out.mono B2.out.size)⟩
  clear q0 q1 q2 q3 q4 q5
  cases b with
  | false =>
   have E : Aside0 (z = 0 ∧ er = 12) := ⟨by
    have h1 := HZ.out
    unfold valP at h1
    rw [if_pos HK.out.symm, ← HB.out] at h1
    simpa using h1⟩
   go_wp2_with fail
   go_ret2
   exact ⟨by rw [E.out.1, E.out.2]; rfl, ⟨B1.out.trans (B3.out.mono B1.out.size)⟩⟩
  | true =>
   obtain ⟨q0, q1, q2, q3, q4, q5, _⟩ := six Q1.out B3.out
   go_wp2_with fail
   refine (parts_any w3 x _ (IW.out.below B3.out) IOa.out A m c ys (Kd.C_below HC.out (B1.out.trans (B3.out.mono B1.out.size))) HB.out.symm).mono ?_
   rintro _ w4 ⟨L, cc, rfl, H4⟩
   have hm4 : Aside0 (m ≤ 4096) := ⟨by rw [← HL.out]; exact may_bd IOa.out HB.out.symm⟩
   have RW : Aside0 (RowI w4 L m (fun i => ((List.range m).map (partC x ys)).getD i 0)) := ⟨RowI_C (R_len H4.out.1)⟩
   have GD : Aside0 (∀ i, i < m → ((List.range m).map (partC x ys)).getD i 0 = partC x ys i) := ⟨fun i hi => getD_map hi⟩
   have SB : Aside0 (∀ i, i < m → -549755813888 ≤ ((List.range m).map (partC x ys)).getD i 0 ∧ ((List.range m).map (partC x ys)).getD i 0 ≤ 549755813888) := ⟨fun i hi => by
    rw [GD.out i hi]
    have := part_bd IOa.out HB.out.symm i (by rw [HL.out]; exact hi)
    omega⟩
   have E : Aside0 (z = sumTo m (fun i => ((List.range m).map (partC x ys)).getD i 0) ∧ er = 0) := ⟨by
    have h1 := HZ.out
    unfold valP at h1
    rw [if_pos HK.out.symm, ← HB.out, if_pos rfl, HL.out] at h1
    injection h1 with h2 h3
    exact ⟨h2.trans (sumTo_congr (fun i hi => (GD.out i hi).symm)), h3⟩⟩
   clear q0 q1 q2 q3 q4 q5
   go_wp2_with fail
   refine (sum_any w4 L m cc _ RW.out SB.out hm4.out).mono ?_
   rintro _ w5 ⟨rfl, hb5⟩
   rw [← E.out.1]
   have B5 : Aside0 (Below W1.heap.size W1 w5) := ⟨B3.out.trans ((H4.out.2.trans (hb5.mono H4.out.2.size)).mono B3.out.size)⟩
   clear hb5
   go_wp2_with fail
   go_ret2
   exact ⟨by rw [E.out.2]; rfl, ⟨B1.out.trans (B5.out.mono B1.out.size)⟩⟩
 ·have g : (ck != 0) = true := by rw [bne_iff_ne]; exact h0
  have E : Aside0 (z = 0 ∧ er = ck) := ⟨by
   have h1 := HZ.out
   unfold valP at h1
   rw [if_neg (by rw [← HK.out]; exact h0), ← HK.out] at h1
   simpa using h1⟩
  clear h0
  go_wp2_with fail
  go_ret2
  exact ⟨by rw [E.out.1, E.out.2]; rfl, ⟨B1.out.trans (B2.out.mono B1.out.size)⟩⟩
set_option maxHeartbeats 1000000 in
set_option maxRecDepth 100000 in
theorem cost_any (w : World) (x : PI) (v : Value) (h : InstC w x v) (hx : PIok x) (A : Option Addr) (m c : Nat) (ys : List Int) (hC : (Kd.int .i64).C w A m ys) (hm : m ≤ 17592186044416) (z er : Int) (hz : (z, er) = cosP x ys) :
  Calls Try.prog 30 #[v, .slice A m c] w fun e w' => e = .returned (.tuple #[.int .i64 z, .int .i64 er]) ∧ Aside0 (Below w.heap.size w w') := by
 have HC := Aside0.mk hC
 have HIN := Aside0.mk h
 have HX := Aside0.mk hx
 obtain ⟨u, hu⟩ : ∃ u, u = (valP x ys).1 := ⟨_, rfl⟩
 obtain ⟨r, hr⟩ : ∃ r, r = (valP x ys).2 := ⟨_, rfl⟩
 have HV : Aside0 ((u, r) = valP x ys) := ⟨by rw [hu, hr]⟩
 have hub : -8796093022208 ≤ u ∧ u ≤ 8796093022208 := by rw [hu]; exact val_bd
 have HZ : Aside0 (z = (if x.kind = 0 then -u else u) ∧ er = r) := ⟨by
  unfold cosP at hz
  rw [← hu, ← hr] at hz
  injection hz with h1 h2
  exact ⟨h1, h2⟩⟩
 obtain ⟨A2, c2, A3, c3, A5, c5, rfl, h2, l2, h3, l3, h5, l5⟩ := h
 obtain ⟨n2, hn2⟩ : ∃ n, n = x.items.length := ⟨_, rfl⟩
 obtain ⟨n3, hn3⟩ : ∃ n, n = x.cost.length := ⟨_, rfl⟩
 obtain ⟨n5, hn5⟩ : ∃ n, n = x.sets.length := ⟨_, rfl⟩
 obtain ⟨kd, hkd⟩ : ∃ n, n = x.kind := ⟨_, rfl⟩
 obtain ⟨cap, hcap⟩ : ∃ n, n = x.cap := ⟨_, rfl⟩
 obtain ⟨sz, hsz⟩ : ∃ n, n = x.size := ⟨_, rfl⟩
 rw [← hn2, ← hn3, ← hn5, ← hkd, ← hcap, ← hsz] at HIN
 rw [← hn2, ← hn3, ← hn5, ← hkd, ← hcap, ← hsz]
 have HF := Aside0.mk hkd
 obtain ⟨ub0, ub1⟩ := hub
 clear h2 h3 h5 l2 l3 l5 hn2 hn3 hn5 hkd hcap hsz hx hC hz hu hr
 have hu54 := Try.underlying54
 go_enter Try.func30, Try.ntmps30
 go_upto_region 1 with fail
 obtain ⟨W1, hW1⟩ : ∃ W, W = w.alloc (.cells #[.int .i64 kd, .int .i64 cap, .slice A2 n2 c2, .slice A3 n3 c3, .int .i64 sz, .slice A5 n5 c5] 54) := ⟨_, rfl⟩
 rw [← hW1]
 have B1 : Aside0 (Below w.heap.size w W1) := ⟨by rw [hW1]; exact below_alloc (Below.refl _ _) _⟩
 obtain ⟨p1, hp1⟩ : ∃ p, p = w.heap.size := ⟨_, rfl⟩
 have Q1 : Aside0 (W1.heap[p1]? = some (.cells #[.int .i64 kd, .int .i64 cap, .slice A2 n2 c2, .slice A3 n3 c3, .int .i64 sz, .slice A5 n5 c5] 54 (0, 0))) := ⟨by rw [hW1, hp1]; exact heap_alloc_new _ _⟩
 rw [← hp1]
 clear hW1 hp1
 have IW : Aside0 (InstC W1 x (.agg #[.int .i64 kd, .int .i64 cap, .slice A2 n2 c2, .slice A3 n3 c3, .int .i64 sz, .slice A5 n5 c5])) := ⟨HIN.out.below B1.out⟩
 obtain ⟨q0, q1, q2, q3, q4, q5, _⟩ := six Q1.out (Below.refl _ _)
 go_wp2_with fail
 refine (value_any W1 x _ IW.out HX.out A m c ys (Kd.C_below HC.out B1.out) hm u r HV.out).mono ?_
 rintro _ w2 ⟨rfl, H2⟩
 clear q0 q1 q2 q3 q4 q5
 have q0 : w2.cell? ⟨p1, 0, none⟩ = some (.int .i64 kd) := (blk_cell (blk_below Q1.out H2.out) 0).trans rfl
 by_cases hk : kd = 0
 ·subst hk
  have E : Aside0 (z = -u ∧ er = r) := ⟨by have h1 := HZ.out; rwa [if_pos HF.out.symm] at h1⟩
  have e1 : wrap64 (-u) = -u := by unfold wrap64; omega
  go_wp2_with fail
  go_ret2
  exact ⟨by rw [E.out.1, E.out.2]; rfl, ⟨B1.out.trans (H2.out.mono B1.out.size)⟩⟩
 ·have g : (kd == 0) = false := beq_eq_false_iff_ne.2 hk
  have E : Aside0 (z = u ∧ er = r) := ⟨by have h1 := HZ.out; rwa [if_neg (by rw [← HF.out]; exact hk)] at h1⟩
  clear hk
  go_wp2_with fail
  go_ret2
  exact ⟨by rw [E.out.1, E.out.2]; rfl, ⟨B1.out.trans (H2.out.mono B1.out.size)⟩⟩
end Go.Proofs.Ytelabmhhnpfegaa.Hand
end
section
namespace Go.Proofs.Ytelabmhhnpfegaa.Hand
open Go.RowKit Go.Proofs.YtelabmhhnpfegaaW.PrintWords Go.Proofs.YtelabmhhnpfegaaW.PrintLast Go.Proofs.YtelabmhhnpfegaaW.PrintMore Go.Proofs.Ytelabmhhnpfegaa.PDynCells
def cntE (xs : List Int) (k : Int) : Nat := xs.countP fun e => e == k
theorem mem_cnt {xs : List Int} {k : Int} : 0 < cntE xs k ↔ k ∈ xs := by
 unfold cntE
 rw [List.countP_pos_iff]
 constructor
 ·rintro ⟨a, h1, h2⟩
  rw [beq_iff_eq] at h2
  rw [← h2]
  exact h1
 ·exact fun h => ⟨k, h, by simp⟩
theorem each_ord (xs : List Int) (n : Nat) : ((∀ k, k < n → cntE xs (k : Int) = 1) ∧ xs.length = n) ↔ ordB xs n = true := by
 constructor
 ·rintro ⟨h1, h2⟩
  unfold ordB
  rw [Bool.and_eq_true, decide_eq_true_eq, List.all_eq_true]
  exact ⟨h2, fun k hk => decide_eq_true (mem_cnt.1 (by rw [h1 k (List.mem_range.1 hk)]; decide))⟩
 ·intro h
  obtain ⟨h1, h2, h3⟩ := ord_in h
  refine ⟨fun k hk => ?_, h1⟩
  have h4 := mem_cnt.2 (h2 k hk)
  apply Classical.byContradiction
  intro hne
  have h5 : 2 ≤ cntE xs (k : Int) := by omega
  have h6 := dup_short n (xs.erase (k : Int)) (fun i hi => by
   by_cases e : i = k
   ·subst e
    apply mem_cnt.1
    have h8 : cntE (xs.erase (i : Int)) (i : Int) = cntE xs (i : Int) - 1 := by
     unfold cntE
     have := List.count_erase_self (a := (i : Int)) (l := xs)
     unfold List.count at this
     exact this
    omega
   ·exact (List.mem_erase_of_ne (by omega)).2 (h2 i hi))
  have h7 := List.length_erase_of_mem (h2 k hk)
  have h9 := List.length_pos_of_mem (h2 k hk)
  omega
end Go.Proofs.Ytelabmhhnpfegaa.Hand
end
section
namespace Go.Proofs.Ytelabmhhnpfegaa.Hand
open Go.RowKit Go.Proofs.YtelabmhhnpfegaaW.PrintWords Go.Proofs.YtelabmhhnpfegaaW.PrintLast Go.Proofs.YtelabmhhnpfegaaW.PrintMore Go.Proofs.Ytelabmhhnpfegaa.PDynCells
theorem out_any (z lo hi : Int) (w : World) : Calls Try.prog 99 #[.int .i64 z, .int .i64 lo, .int .i64 hi] w fun e w' => e = .returned (.bool (!(decide (z ≥ lo) && decide (z ≤ hi)))) ∧ w = w' := by
 cases h1 : decide (z < lo) with
 | true =>
  have e : decide (z ≥ lo) = false := decide_eq_false (by have := of_decide_eq_true h1; omega)
  rw [e]
  go_enter Try.func99, Try.ntmps99
  go_wp2
  go_ret
  exact ⟨rfl, rfl⟩
 | false =>
  have e : decide (z ≥ lo) = true := decide_eq_true (by have := of_decide_eq_false h1; omega)
  rw [e]
  cases h2 : decide (z > hi) with
  | true =>
   have e2 : decide (z ≤ hi) = false := decide_eq_false (by have := of_decide_eq_true h2; omega)
   rw [e2]
   go_enter Try.func99, Try.ntmps99
   go_wp2
   go_ret
   exact ⟨rfl, rfl⟩
  | false =>
   have e2 : decide (z ≤ hi) = true := decide_eq_true (by have := of_decide_eq_false h2; omega)
   rw [e2]
   go_enter Try.func99, Try.ntmps99
   go_wp2
   go_ret
   exact ⟨rfl, rfl⟩
set_option maxHeartbeats 4000000 in
set_option maxRecDepth 100000 in
theorem numbers_any (w : World) (x : PI) (v : Value) (h : InstC w x v) (hx : PIok x) : Calls Try.prog 62 #[v] w fun e w' => e = .returned (.bool (smallB x)) ∧ Below w.heap.size w w' := by
 obtain ⟨A2, c2, A3, c3, A5, c5, rfl, h2, l2, h3, l3, h5, l5⟩ := h
 obtain ⟨n2, hn2⟩ : ∃ n, n = x.items.length := ⟨_, rfl⟩
 obtain ⟨n3, hn3⟩ : ∃ n, n = x.cost.length := ⟨_, rfl⟩
 obtain ⟨n5, hn5⟩ : ∃ n, n = x.sets.length := ⟨_, rfl⟩
 obtain ⟨kd, hkd⟩ : ∃ n, n = x.kind := ⟨_, rfl⟩
 obtain ⟨cap, hcap⟩ : ∃ n, n = x.cap := ⟨_, rfl⟩
 obtain ⟨sz, hsz⟩ : ∃ n, n = x.size := ⟨_, rfl⟩
 have b2 := hx.items
 have b3 := hx.cost
 have b5 := hx.sets
 rw [← hn2] at h2 l2 b2 ⊢
 rw [← hn3] at h3 l3 b3 ⊢
 rw [← hn5] at h5 l5 b5 ⊢
 rw [← hkd, ← hcap, ← hsz]
 have HF := Aside0.mk (And.intro hkd (And.intro hcap hsz))
 have HN2 := Aside0.mk hn2
 have HN3 := Aside0.mk hn3
 have HN5 := Aside0.mk hn5
 have H2 := Aside0.mk h2
 have H3 := Aside0.mk h3
 have H5 := Aside0.mk h5
 have HX := Aside0.mk hx
 clear hkd hcap hsz hn2 hn3 hn5 h2 h3 h5 hx
 have hu57 := Try.underlying57
 have hu68 := Try.underlying68
 have hu103 := Try.underlying103
 go_enter Try.func62, Try.ntmps62
 go_wp2_with fail
 refine (out_any cap 0 2147483648 _).mono ?_
 rintro _ _ ⟨rfl, rfl⟩
 obtain ⟨b, hb⟩ : ∃ b : Bool, b = !(decide (cap ≥ 0) && decide (cap ≤ 2147483648)) := ⟨_, rfl⟩
 rw [← hb]
 have HB0 : Aside0 (b = !(inB x.cap 0)) := ⟨by rw [hb, HF.out.2.1]; rfl⟩
 clear hb
 obtain ⟨W1, hW1⟩ : ∃ W, W = w.alloc (.cells #[.int .i64 kd, .int .i64 cap, .slice A2 n2 c2, .slice A3 n3 c3, .int .i64 sz, .slice A5 n5 c5] 57) := ⟨_, rfl⟩
 rw [← hW1]
 have B1 : Aside0 (Below w.heap.size w W1) := ⟨by rw [hW1]; exact below_alloc (Below.refl _ _) _⟩
 obtain ⟨p1, hp1⟩ : ∃ p, p = w.heap.size := ⟨_, rfl⟩
 have Q1 : Aside0 (W1.heap[p1]? = some (.cells #[.int .i64 kd, .int .i64 cap, .slice A2 n2 c2, .slice A3 n3 c3, .int .i64 sz, .slice A5 n5 c5] 57 (0, 0))) := ⟨by rw [hW1, hp1]; exact heap_alloc_new _ _⟩
 rw [← hp1]
 clear hW1 hp1
 have q2 : W1.cell? ⟨p1, 2, none⟩ = some (.slice A2 n2 c2) := (blk_cell Q1.out 2).trans rfl
 have q3 : W1.cell? ⟨p1, 3, none⟩ = some (.slice A3 n3 c3) := (blk_cell Q1.out 3).trans rfl
 have q5 : W1.cell? ⟨p1, 5, none⟩ = some (.slice A5 n5 c5) := (blk_cell Q1.out 5).trans rfl
 go_wp2_with fail
 have K0 : Aside0 (b = !(inB x.cap 0 && (x.items.take 0).all itB)) := ⟨by rw [HB0.out]; simp⟩
 go_loop [3, 4] (fun v i => ∃ (k : Nat) (b : Bool), k ≤ n2 ∧ v = .bool b ∧ i = .int .i64 k ∧ Aside0 (b = !(inB x.cap 0 && (x.items.take k).all itB))) (fun _ i => n2 - (intOf i).toNat)
 case atStart => exact ⟨0, b, Nat.zero_le _, rfl, rfl, K0⟩
 case round =>
  clear K0 HB0
  obtain ⟨k, b, hk, rfl, rfl, KB⟩ := hrel
  by_cases hlt : k < n2
  ·obtain ⟨ad, rfl, a0, a1⟩ := at_T101 (Kd.C_below H2.out B1.out) (k : Int) (by omega) (by omega)
   rw [Int.toNat_natCast] at a0 a1
   obtain ⟨s, hs⟩ : ∃ s, s = rd_T101 x.items (k : Int) := ⟨_, rfl⟩
   rw [← hs] at a0 a1
   have NX := Aside0.mk (all_take (l := x.items) (i := k) (by rw [← HN2.out]; exact hlt) z101 itB)
   have HS : Aside0 (s = x.items.getD k z101) := ⟨by rw [hs]; unfold rd_T101; rw [Int.toNat_natCast]⟩
   clear hs
   go_wp2_with fail
   refine (out_any s.f0 0 2147483648 _).mono ?_
   rintro _ _ ⟨rfl, rfl⟩
   obtain ⟨c0, hc0⟩ : ∃ b : Bool, b = inB s.f0 0 := ⟨_, rfl⟩
   rw [show (decide (s.f0 ≥ 0) && decide (s.f0 ≤ 2147483648)) = c0 from hc0.symm]
   have C0 := Aside0.mk hc0
   clear hc0
   go_wp2_with fail
   refine (out_any s.f1 0 2147483648 _).mono ?_
   rintro _ _ ⟨rfl, rfl⟩
   obtain ⟨c1, hc1⟩ : ∃ b : Bool, b = inB s.f1 0 := ⟨_, rfl⟩
   rw [show (decide (s.f1 ≥ 0) && decide (s.f1 ≤ 2147483648)) = c1 from hc1.symm]
   have C1 := Aside0.mk hc1
   clear hc1
   have NB : Aside0 ((b || (!c0) || (!c1)) = !(inB x.cap 0 && (x.items.take (k + 1)).all itB)) := ⟨by
    rw [NX.out, KB.out, C0.out, C1.out, ← HS.out]
    rw [show itB s = (inB s.f0 0 && inB s.f1 0) from rfl]
    cases inB x.cap 0 <;> cases (x.items.take k).all itB <;> cases inB s.f0 0 <;> cases inB s.f1 0 <;> rfl⟩
   go_wp2_with fail
   all_goals
    exact ⟨⟨k + 1, _, by omega, rfl, by simp, ⟨by rw [← NB.out]; cases b <;> cases c0 <;> first | rfl | contradiction⟩⟩, by simp [intOf]; omega⟩
  ·obtain rfl : n2 = k := by omega
   have K1 : Aside0 (b = !(inB x.cap 0 && x.items.all itB)) := ⟨by rw [KB.out, List.take_of_length_le (by rw [HN2.out]; exact Nat.le_refl _)]⟩
   clear KB hlt hk
   go_wp2_with fail
   have K0 : Aside0 (b = !(inB x.cap 0 && x.items.all itB && (x.cost.take 0).all rowB)) := ⟨by rw [K1.out]; simp⟩
   go_loop [3, 7] (fun v i => ∃ (k : Nat) (b : Bool), k ≤ n3 ∧ v = .bool b ∧ i = .int .i64 k ∧ Aside0 (b = !(inB x.cap 0 && x.items.all itB && (x.cost.take k).all rowB))) (fun _ i => n3 - (intOf i).toNat)
   case atStart => exact ⟨0, b, Nat.zero_le _, rfl, rfl, K0⟩
   case round =>
    clear K0 K1
    obtain ⟨k, b, hk, rfl, rfl, KB⟩ := hrel
    by_cases hlt : k < n3
    ·obtain ⟨ad, AY, cY, rfl, a0, ly, hy⟩ := at_L2 (Kd.C_below H3.out B1.out) (k : Int) (by omega) (by omega)
     rw [Int.toNat_natCast] at a0
     have hm : rd_L2 x.cost (k : Int) ∈ x.cost := by
      unfold rd_L2
      rw [Int.toNat_natCast, List.getD_eq_getElem?_getD, List.getElem?_eq_getElem (by rw [← HN3.out]; exact hlt)]
      exact List.getElem_mem _
     have hyl : (rd_L2 x.cost (k : Int)).length ≤ 17592186044416 := HX.out.rows _ hm
     have NX := Aside0.mk (all_take (l := x.cost) (i := k) (by rw [← HN3.out]; exact hlt) [] rowB)
     obtain ⟨y, hy1⟩ : ∃ y, y = rd_L2 x.cost (k : Int) := ⟨_, rfl⟩
     have HS : Aside0 (y = x.cost.getD k []) := ⟨by rw [hy1]; unfold rd_L2; rw [Int.toNat_natCast]⟩
     rw [← hy1] at a0 ly hy hyl
     obtain ⟨nY, hnY⟩ : ∃ n, n = y.length := ⟨_, rfl⟩
     rw [← hnY] at a0 ly hyl hy
     have HNY := Aside0.mk hnY
     have HY := Aside0.mk hy
     clear hy hnY hy1 hm
     go_wp2_with fail
     have K0 : Aside0 (b = !(inB x.cap 0 && x.items.all itB && (x.cost.take k).all rowB && (y.take 0).all fun z => inB z (-2147483648))) := ⟨by rw [KB.out]; simp⟩
     go_loop [3, 8] (fun v i => ∃ (j : Nat) (b : Bool), j ≤ nY ∧ v = .bool b ∧ i = .int .i64 j ∧ Aside0 (b = !(inB x.cap 0 && x.items.all itB && (x.cost.take k).all rowB && (y.take j).all fun z => inB z (-2147483648)))) (fun _ i => nY - (intOf i).toNat)
     case atStart => exact ⟨0, b, Nat.zero_le _, rfl, rfl, K0⟩
     case round =>
      clear K0 KB
      obtain ⟨j, b, hj, rfl, rfl, KJ⟩ := hrel
      by_cases hlt2 : j < nY
      ·obtain ⟨ar, rfl, hx⟩ := at_Int HY.out j hlt2
       have NZ := Aside0.mk (all_take (l := y) (i := j) (by rw [← HNY.out]; exact hlt2) 0 (fun z => inB z (-2147483648)))
       obtain ⟨z, hz⟩ : ∃ z, z = y.getD j 0 := ⟨_, rfl⟩
       rw [← hz] at hx
       have HZ := Aside0.mk hz
       clear hz
       go_wp2_with fail
       refine (out_any z (-2147483648) 2147483648 _).mono ?_
       rintro _ _ ⟨rfl, rfl⟩
       obtain ⟨c0, hc0⟩ : ∃ b : Bool, b = inB z (-2147483648) := ⟨_, rfl⟩
       rw [show (decide (z ≥ -2147483648) && decide (z ≤ 2147483648)) = c0 from hc0.symm]
       have C0 := Aside0.mk hc0
       clear hc0
       have NB : Aside0 ((b || (!c0)) = !(inB x.cap 0 && x.items.all itB && (x.cost.take k).all rowB && (y.take (j + 1)).all fun z => inB z (-2147483648))) := ⟨by
        rw [NZ.out, KJ.out, C0.out, ← HZ.out]
        cases inB x.cap 0 <;> cases x.items.all itB <;> cases (x.cost.take k).all rowB <;> cases (y.take j).all (fun z => inB z (-2147483648)) <;> cases inB z (-2147483648) <;> rfl⟩
       go_wp2_with fail
       all_goals
        exact ⟨⟨j + 1, _, by omega, rfl, by simp, ⟨by rw [← NB.out]; cases b <;> first | rfl | contradiction⟩⟩, by simp [intOf]; omega⟩
      ·obtain rfl : nY = j := by omega
       have NB : Aside0 (b = !(inB x.cap 0 && x.items.all itB && (x.cost.take (k + 1)).all rowB)) := ⟨by
        rw [KJ.out, NX.out, ← HS.out, List.take_of_length_le (l := y) (by rw [HNY.out]; exact Nat.le_refl _)]
        show _ = !(inB x.cap 0 && x.items.all itB && ((x.cost.take k).all rowB && y.all fun z => inB z (-2147483648)))
        rw [Bool.and_assoc (inB x.cap 0 && x.items.all itB)]⟩
       go_wp2_with fail
       exact ⟨⟨k + 1, b, by omega, rfl, by simp, NB⟩, by simp [intOf]; omega⟩
    ·obtain rfl : n3 = k := by omega
     have K1 : Aside0 (b = !(inB x.cap 0 && x.items.all itB && x.cost.all rowB)) := ⟨by rw [KB.out, List.take_of_length_le (by rw [HN3.out]; exact Nat.le_refl _)]⟩
     clear KB hlt hk
     go_wp2_with fail
     have K0 : Aside0 (b = !(inB x.cap 0 && x.items.all itB && x.cost.all rowB && (x.sets.take 0).all fun s => inB s.f0 0)) := ⟨by rw [K1.out]; simp⟩
     go_loop [3, 10] (fun v i => ∃ (k : Nat) (b : Bool), k ≤ n5 ∧ v = .bool b ∧ i = .int .i64 k ∧ Aside0 (b = !(inB x.cap 0 && x.items.all itB && x.cost.all rowB && (x.sets.take k).all fun s => inB s.f0 0))) (fun _ i => n5 - (intOf i).toNat)
     case atStart => exact ⟨0, b, Nat.zero_le _, rfl, rfl, K0⟩
     case round =>
      clear K0 K1
      obtain ⟨k, b, hk, rfl, rfl, KB⟩ := hrel
      by_cases hlt : k < n5
      ·obtain ⟨ad, AE, cE, rfl, a0, a1, lE, hE⟩ := at_T102 (Kd.C_below H5.out B1.out) (k : Int) (by omega) (by omega)
       rw [Int.toNat_natCast] at a0 a1
       have NX := Aside0.mk (all_take (l := x.sets) (i := k) (by rw [← HN5.out]; exact hlt) z102 (fun s => inB s.f0 0))
       obtain ⟨s, hs⟩ : ∃ s, s = rd_T102 x.sets (k : Int) := ⟨_, rfl⟩
       rw [← hs] at a0
       have HS : Aside0 (s = x.sets.getD k z102) := ⟨by rw [hs]; unfold rd_T102; rw [Int.toNat_natCast]⟩
       clear hs a1 lE hE
       go_wp2_with fail
       refine (out_any s.f0 0 2147483648 _).mono ?_
       rintro _ _ ⟨rfl, rfl⟩
       obtain ⟨c0, hc0⟩ : ∃ b : Bool, b = inB s.f0 0 := ⟨_, rfl⟩
       rw [show (decide (s.f0 ≥ 0) && decide (s.f0 ≤ 2147483648)) = c0 from hc0.symm]
       have C0 := Aside0.mk hc0
       clear hc0
       have NB : Aside0 ((b || (!c0)) = !(inB x.cap 0 && x.items.all itB && x.cost.all rowB && (x.sets.take (k + 1)).all fun s => inB s.f0 0)) := ⟨by
        rw [NX.out, KB.out, C0.out, ← HS.out]
        cases inB x.cap 0 <;> cases x.items.all itB <;> cases x.cost.all rowB <;> cases (x.sets.take k).all (fun s => inB s.f0 0) <;> cases inB s.f0 0 <;> rfl⟩
       go_wp2_with fail
       all_goals
        exact ⟨⟨k + 1, _, by omega, rfl, by simp, ⟨by rw [← NB.out]; cases b <;> first | rfl | contradiction⟩⟩, by simp [intOf]; omega⟩
      ·obtain rfl : n5 = k := by omega
       have K1 : Aside0 ((!b) = smallB x) := ⟨by
        rw [KB.out, List.take_of_length_le (by rw [HN5.out]; exact Nat.le_refl _), Bool.not_not]
        rfl⟩
       clear KB hlt hk
       go_wp2_with fail
       go_ret
       exact ⟨by first | rfl | (rw [← K1.out]; rfl), B1.out⟩
end Go.Proofs.Ytelabmhhnpfegaa.Hand
end
