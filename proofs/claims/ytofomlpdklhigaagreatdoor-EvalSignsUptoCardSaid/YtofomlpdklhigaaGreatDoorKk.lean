/- Answers: which may be, and what they come to: in plain Lean and walked. -/
import Derived.Test.YtofomlpdklhigaaGreatDoorKj
namespace Go.Proofs.YtofomlpdklhigaaGreatDoor.Hand
open Go.RowKit Go.Proofs.YtofomlpdklhigaaGreatDoorW.PrintWords Go.Proofs.YtofomlpdklhigaaGreatDoorW.PrintLast Go.Proofs.YtofomlpdklhigaaGreatDoorW.PrintMore Go.Proofs.YtofomlpdklhigaaGreatDoor.PSigns
set_option linter.unusedVariables false
set_option linter.unusedSimpArgs false
def mayP (x : PI) (y : List Int) : Bool :=
  if x.kind = 0 then ascB x.items.length (-1) y && fitB x y
  else if x.kind = 1 then ordB y x.cost.length
  else if x.kind = 2 then ordB y x.cost.length && decide (y.getD 0 0 = 0)
  else ascB x.sets.length (-1) y && covB x y
theorem asc_bd {size : Int} : ∀ (l : List Int) (a : Int), -1 ≤ a → ascB size a l = true → (∀ e ∈ l, 0 ≤ e ∧ e < size) ∧ (l = [] ∨ a + l.length < size)
  | [], _, _, _ => ⟨fun e he => absurd he List.not_mem_nil, .inl rfl⟩
  | y :: t, a, ha, h => by
    unfold ascB at h
    split at h
    · cases h
    · split at h
      · cases h
      · obtain ⟨h1, h2⟩ := asc_bd t y (by omega) h
        refine ⟨fun e he => ?_, .inr ?_⟩
        · rcases List.mem_cons.1 he with rfl | he
          · omega
          · exact h1 e he
        · rw [List.length_cons]
          rcases h2 with rfl | h2
          · simp
            omega
          · omega
theorem asc_len {n : Nat} {l : List Int} (h : ascB (n : Int) (-1) l = true) : l.length ≤ n ∧ ∀ e ∈ l, 0 ≤ e ∧ e < n := by
  obtain ⟨h1, h2⟩ := asc_bd l (-1) (by omega) h
  refine ⟨?_, h1⟩
  rcases h2 with rfl | h2
  · exact Nat.zero_le _
  · omega
theorem ord_in {ys : List Int} {n : Nat} (h : ordB ys n = true) : ys.length = n ∧ (∀ k, k < n → (k : Int) ∈ ys) ∧ ∀ e ∈ ys, 0 ≤ e ∧ e < n := by
  unfold ordB at h
  simp only [Bool.and_eq_true, decide_eq_true_eq, List.all_eq_true, List.mem_range] at h
  obtain ⟨h1, h2⟩ := h
  refine ⟨h1, h2, fun e he => ?_⟩
  apply Classical.byContradiction
  intro hne
  have h3 := dup_short n (ys.erase e) (fun k hk => (List.mem_erase_of_ne (fun e' => hne (by omega))).2 (h2 k hk))
  have h4 := List.length_erase_of_mem he
  have h5 := List.length_pos_of_mem he
  omega
theorem may_bd {x : PI} (hi : IOk x) {y : List Int} (h : mayP x y = true) : y.length ≤ 4096 := by
  unfold mayP at h
  split at h
  · rw [Bool.and_eq_true] at h
    exact Nat.le_trans (asc_len h.1).1 hi.nitems
  · split at h
    · rename_i _ h1
      have := (ord_in h).1
      have := (hi.side (.inl h1)).2
      omega
    · split at h
      · rename_i _ _ h1
        rw [Bool.and_eq_true] at h
        have := (ord_in h.1).1
        have := (hi.side (.inr h1)).2
        omega
      · rw [Bool.and_eq_true] at h
        exact Nat.le_trans (asc_len h.1).1 hi.nsets
set_option maxHeartbeats 1000000 in
set_option maxRecDepth 100000 in
theorem may_any (w : World) (x : PI) (v : Value) (h : InstC w x v) (hi : IOk x) (hx : PIok x) (A : Option Addr) (m c : Nat) (ys : List Int) (hC : (Kd.int .i64).C w A m ys) (hm : m ≤ 17592186044416) (r : Bool) (RR : r = mayP x ys) :
    Calls Tryz.prog 53 #[v, .slice A m c] w fun e w' => e = .returned (.bool r) ∧ Aside0 (Below w.heap.size w w') := by
  have HR := Aside0.mk RR
  have HC := Aside0.mk hC
  have HL : Aside0 (ys.length = m) := ⟨hC.1⟩
  have HIN := Aside0.mk h
  have HI := Aside0.mk hi
  have HX := Aside0.mk hx
  obtain ⟨A2, c2, A3, c3, A5, c5, rfl, h2, l2, h3, l3, h5, l5⟩ := h
  obtain ⟨n2, hn2⟩ : ∃ n, n = x.items.length := ⟨_, rfl⟩
  obtain ⟨n3, hn3⟩ : ∃ n, n = x.cost.length := ⟨_, rfl⟩
  obtain ⟨n5, hn5⟩ : ∃ n, n = x.sets.length := ⟨_, rfl⟩
  obtain ⟨kd, hkd⟩ : ∃ n, n = x.kind := ⟨_, rfl⟩
  obtain ⟨cap, hcap⟩ : ∃ n, n = x.cap := ⟨_, rfl⟩
  obtain ⟨sz, hsz⟩ : ∃ n, n = x.size := ⟨_, rfl⟩
  rw [← hn2, ← hn3, ← hn5, ← hkd, ← hcap, ← hsz] at HIN
  rw [← hn2, ← hn3, ← hn5, ← hkd, ← hcap, ← hsz]
  have HN := Aside0.mk (And.intro hn2 (And.intro hn3 hn5))
  have HF := Aside0.mk (And.intro hkd (And.intro hcap hsz))
  have hk4 := hi.kind
  rw [← hkd] at hk4
  clear h2 h3 h5 l2 l3 l5 hn2 hn3 hn5 hkd hcap hsz hi hx hC RR
  have hu54 := Tryz.underlying76
  have hkk : kd = 0 ∨ kd = 1 ∨ kd = 2 ∨ kd = 3 := by omega
  clear hk4
  rcases hkk with rfl | rfl | rfl | rfl
  · go_enter Tryz.func53, Tryz.ntmps53
    go_upto_region 1 with fail
    obtain ⟨W1, hW1⟩ : ∃ W, W = w.alloc (.cells #[.int .i64 0, .int .i64 cap, .slice A2 n2 c2, .slice A3 n3 c3, .int .i64 sz, .slice A5 n5 c5] 76) := ⟨_, rfl⟩
    rw [← hW1]
    have B1 : Aside0 (Below w.heap.size w W1) := ⟨by rw [hW1]; exact below_alloc (Below.refl _ _) _⟩
    obtain ⟨p1, hp1⟩ : ∃ p, p = w.heap.size := ⟨_, rfl⟩
    have Q1 : Aside0 (W1.heap[p1]? = some (.cells #[.int .i64 0, .int .i64 cap, .slice A2 n2 c2, .slice A3 n3 c3, .int .i64 sz, .slice A5 n5 c5] 76 (0, 0))) := ⟨by rw [hW1, hp1]; exact heap_alloc_new _ _⟩
    rw [← hp1]
    clear hW1 hp1
    have IW : Aside0 (InstC W1 x (.agg #[.int .i64 0, .int .i64 cap, .slice A2 n2 c2, .slice A3 n3 c3, .int .i64 sz, .slice A5 n5 c5])) := ⟨HIN.out.below B1.out⟩
    have CW : Aside0 ((Kd.int .i64).C W1 A m ys) := ⟨Kd.C_below HC.out B1.out⟩
    obtain ⟨q0, q1, q2, q3, q4, q5, _⟩ := six Q1.out (Below.refl _ _)
    obtain ⟨b, hb⟩ : ∃ b, b = ascB (n2 : Int) (-1) ys := ⟨_, rfl⟩
    have HB := Aside0.mk hb
    have ME : Aside0 (mayP x ys = (b && fitB x ys)) := ⟨by
      unfold mayP
      rw [if_pos HF.out.1.symm, ← HN.out.1, hb]⟩
    clear hb
    go_wp2_with fail
    refine (rises_any W1 A m c ys (n2 : Int) CW.out hm b HB.out).mono ?_
    rintro _ _ ⟨rfl, rfl⟩
    cases b with
    | false =>
      have E : Aside0 (r = false) := ⟨by rw [HR.out, ME.out]; rfl⟩
      go_wp2_with fail
      go_ret
      exact ⟨by rw [E.out]; rfl, B1⟩
    | true =>
      obtain ⟨f, hf⟩ : ∃ f, f = fitB x ys := ⟨_, rfl⟩
      have HFB := Aside0.mk hf
      have E : Aside0 (r = f) := ⟨by rw [HR.out, ME.out, ← hf, Bool.true_and]⟩
      clear hf
      go_wp2_with fail
      refine (fits_any W1 x _ IW.out HI.out A m c ys CW.out (by rw [← HL.out]; exact Nat.le_trans (asc_len HB.out.symm).1 (by rw [HN.out.1]; exact HI.out.nitems)) (by rw [← HN.out.1]; exact (asc_len HB.out.symm).2) f HFB.out).mono ?_
      rintro _ w3 ⟨rfl, H3⟩
      go_wp2_with fail
      go_ret
      exact ⟨by rw [E.out]; rfl, ⟨B1.out.trans (H3.out.mono B1.out.size)⟩⟩
  · go_enter Tryz.func53, Tryz.ntmps53
    go_upto_region 1 with fail
    obtain ⟨W1, hW1⟩ : ∃ W, W = w.alloc (.cells #[.int .i64 1, .int .i64 cap, .slice A2 n2 c2, .slice A3 n3 c3, .int .i64 sz, .slice A5 n5 c5] 76) := ⟨_, rfl⟩
    rw [← hW1]
    have B1 : Aside0 (Below w.heap.size w W1) := ⟨by rw [hW1]; exact below_alloc (Below.refl _ _) _⟩
    obtain ⟨p1, hp1⟩ : ∃ p, p = w.heap.size := ⟨_, rfl⟩
    have Q1 : Aside0 (W1.heap[p1]? = some (.cells #[.int .i64 1, .int .i64 cap, .slice A2 n2 c2, .slice A3 n3 c3, .int .i64 sz, .slice A5 n5 c5] 76 (0, 0))) := ⟨by rw [hW1, hp1]; exact heap_alloc_new _ _⟩
    rw [← hp1]
    clear hW1 hp1
    have CW : Aside0 ((Kd.int .i64).C W1 A m ys) := ⟨Kd.C_below HC.out B1.out⟩
    obtain ⟨q0, q1, q2, q3, q4, q5, _⟩ := six Q1.out (Below.refl _ _)
    have E : Aside0 (r = ordB ys n3) := ⟨by
      rw [HR.out]
      unfold mayP
      rw [if_neg (by rw [← HF.out.1]; decide), if_pos HF.out.1.symm, ← HN.out.2.1]⟩
    have hn : Aside0 (n3 ≤ 4096) := ⟨by rw [HN.out.2.1]; exact Nat.le_trans (HI.out.side (.inl HF.out.1.symm)).2 (by decide)⟩
    go_wp2_with fail
    refine (order_any W1 A m c ys n3 CW.out hm hn.out r E.out).mono ?_
    rintro _ w3 ⟨rfl, H3⟩
    go_wp2_with fail
    go_ret
    exact ⟨rfl, ⟨B1.out.trans (H3.out.mono B1.out.size)⟩⟩
  · go_enter Tryz.func53, Tryz.ntmps53
    go_upto_region 1 with fail
    obtain ⟨W1, hW1⟩ : ∃ W, W = w.alloc (.cells #[.int .i64 2, .int .i64 cap, .slice A2 n2 c2, .slice A3 n3 c3, .int .i64 sz, .slice A5 n5 c5] 76) := ⟨_, rfl⟩
    rw [← hW1]
    have B1 : Aside0 (Below w.heap.size w W1) := ⟨by rw [hW1]; exact below_alloc (Below.refl _ _) _⟩
    obtain ⟨p1, hp1⟩ : ∃ p, p = w.heap.size := ⟨_, rfl⟩
    have Q1 : Aside0 (W1.heap[p1]? = some (.cells #[.int .i64 2, .int .i64 cap, .slice A2 n2 c2, .slice A3 n3 c3, .int .i64 sz, .slice A5 n5 c5] 76 (0, 0))) := ⟨by rw [hW1, hp1]; exact heap_alloc_new _ _⟩
    rw [← hp1]
    clear hW1 hp1
    have CW : Aside0 ((Kd.int .i64).C W1 A m ys) := ⟨Kd.C_below HC.out B1.out⟩
    obtain ⟨q0, q1, q2, q3, q4, q5, _⟩ := six Q1.out (Below.refl _ _)
    obtain ⟨b, hb⟩ : ∃ b, b = ordB ys n3 := ⟨_, rfl⟩
    have HB := Aside0.mk hb
    have ME : Aside0 (r = (b && decide (ys.getD 0 0 = 0))) := ⟨by
      rw [HR.out]
      unfold mayP
      rw [if_neg (by rw [← HF.out.1]; decide), if_neg (by rw [← HF.out.1]; decide), if_pos HF.out.1.symm, ← HN.out.2.1, hb]⟩
    have hn : Aside0 (n3 ≤ 4096 ∧ 1 ≤ n3) := ⟨by rw [HN.out.2.1]; exact Nat.le_trans (HI.out.side (.inr HF.out.1.symm)).2 (by decide), by rw [HN.out.2.1]; exact (HI.out.side (.inr HF.out.1.symm)).1⟩
    clear hb
    go_wp2_with fail
    refine (order_any W1 A m c ys n3 CW.out hm hn.out.1 b HB.out).mono ?_
    rintro _ w3 ⟨rfl, H3⟩
    clear q0 q1 q2 q3 q4 q5
    cases b with
    | false =>
      have E : Aside0 (r = false) := ⟨by rw [ME.out]; rfl⟩
      go_wp2_with fail
      go_ret
      exact ⟨by rw [E.out]; rfl, ⟨B1.out.trans (H3.out.mono B1.out.size)⟩⟩
    | true =>
      have hm0 : 0 < m := by
        have h1 := (ord_in HB.out.symm).1
        have h2 := hn.out.2
        rw [HL.out] at h1
        omega
      obtain ⟨ae, rfl, hx'⟩ := at_Int HC.out 0 hm0
      have hx : w3.cell? ae = some (.int .i64 (ys.getD 0 0)) := pw_cell_below (B1.out.trans (H3.out.mono B1.out.size)) hx'
      obtain ⟨z, hz⟩ : ∃ z, z = ys.getD 0 0 := ⟨_, rfl⟩
      rw [← hz] at hx ME
      clear hx' hz
      by_cases hz0 : z = 0
      · have E : Aside0 (r = true) := ⟨by rw [ME.out, decide_eq_true hz0]; rfl⟩
        subst hz0
        go_wp2_with fail
        go_ret
        exact ⟨by rw [E.out]; rfl, ⟨B1.out.trans (H3.out.mono B1.out.size)⟩⟩
      · have E : Aside0 (r = false) := ⟨by rw [ME.out, decide_eq_false hz0]; rfl⟩
        have g : (z == 0) = false := beq_eq_false_iff_ne.2 hz0
        clear hz0
        go_wp2_with fail
        go_ret
        exact ⟨by rw [E.out]; rfl, ⟨B1.out.trans (H3.out.mono B1.out.size)⟩⟩
  · go_enter Tryz.func53, Tryz.ntmps53
    go_upto_region 1 with fail
    obtain ⟨W1, hW1⟩ : ∃ W, W = w.alloc (.cells #[.int .i64 3, .int .i64 cap, .slice A2 n2 c2, .slice A3 n3 c3, .int .i64 sz, .slice A5 n5 c5] 76) := ⟨_, rfl⟩
    rw [← hW1]
    have B1 : Aside0 (Below w.heap.size w W1) := ⟨by rw [hW1]; exact below_alloc (Below.refl _ _) _⟩
    obtain ⟨p1, hp1⟩ : ∃ p, p = w.heap.size := ⟨_, rfl⟩
    have Q1 : Aside0 (W1.heap[p1]? = some (.cells #[.int .i64 3, .int .i64 cap, .slice A2 n2 c2, .slice A3 n3 c3, .int .i64 sz, .slice A5 n5 c5] 76 (0, 0))) := ⟨by rw [hW1, hp1]; exact heap_alloc_new _ _⟩
    rw [← hp1]
    clear hW1 hp1
    have IW : Aside0 (InstC W1 x (.agg #[.int .i64 3, .int .i64 cap, .slice A2 n2 c2, .slice A3 n3 c3, .int .i64 sz, .slice A5 n5 c5])) := ⟨HIN.out.below B1.out⟩
    have CW : Aside0 ((Kd.int .i64).C W1 A m ys) := ⟨Kd.C_below HC.out B1.out⟩
    obtain ⟨q0, q1, q2, q3, q4, q5, _⟩ := six Q1.out (Below.refl _ _)
    obtain ⟨b, hb⟩ : ∃ b, b = ascB (n5 : Int) (-1) ys := ⟨_, rfl⟩
    have HB := Aside0.mk hb
    have ME : Aside0 (mayP x ys = (b && covB x ys)) := ⟨by
      unfold mayP
      rw [if_neg (by rw [← HF.out.1]; decide), if_neg (by rw [← HF.out.1]; decide), if_neg (by rw [← HF.out.1]; decide), ← HN.out.2.2, hb]⟩
    clear hb
    go_wp2_with fail
    refine (rises_any W1 A m c ys (n5 : Int) CW.out hm b HB.out).mono ?_
    rintro _ _ ⟨rfl, rfl⟩
    cases b with
    | false =>
      have E : Aside0 (r = false) := ⟨by rw [HR.out, ME.out]; rfl⟩
      go_wp2_with fail
      go_ret
      exact ⟨by rw [E.out]; rfl, B1⟩
    | true =>
      obtain ⟨f, hf⟩ : ∃ f, f = covB x ys := ⟨_, rfl⟩
      have HFB := Aside0.mk hf
      have E : Aside0 (r = f) := ⟨by rw [HR.out, ME.out, ← hf, Bool.true_and]⟩
      clear hf
      go_wp2_with fail
      refine (covers_any W1 x _ IW.out HI.out HX.out A m c ys CW.out hm (by rw [← HN.out.2.2]; exact (asc_len HB.out.symm).2) f HFB.out).mono ?_
      rintro _ w3 ⟨rfl, H3⟩
      go_wp2_with fail
      go_ret
      exact ⟨by rw [E.out]; rfl, ⟨B1.out.trans (H3.out.mono B1.out.size)⟩⟩
theorem R_len {e base n cc : Nat} {w : World} {ok : Nat → Prop} {L : Option Addr} {l : List Int} (h : (Kd.int .i64).R e w base ok (.slice L n cc) l) : (Kd.int .i64).C w L n l := (R_C h).1
/-- What an answer comes to, and its error. -/
def valP (x : PI) (y : List Int) : Int × Int := if chk x = 0 then (if mayP x y = true then (sumTo y.length (partC x y), 0) else (0, 12)) else (0, chk x)
def cosP (x : PI) (y : List Int) : Int × Int := (if x.kind = 0 then -(valP x y).1 else (valP x y).1, (valP x y).2)
theorem part_bd {x : PI} (hi : IOk x) {y : List Int} (h : mayP x y = true) (i : Nat) (hil : i < y.length) : -2147483648 ≤ partC x y i ∧ partC x y i ≤ 2147483648 := by
  have cst : ∀ a b, -2147483648 ≤ cstA x a b ∧ cstA x a b ≤ 2147483648 := fun a b => by
    unfold cstA
    by_cases ha : a < x.cost.length
    · have hr : x.cost.getD a [] ∈ x.cost := by
        rw [List.getD_eq_getElem?_getD, List.getElem?_eq_getElem ha]
        exact List.getElem_mem ha
      by_cases hb : b < (x.cost.getD a []).length
      · have hz : (x.cost.getD a []).getD b 0 ∈ x.cost.getD a [] := getD_mem' hb
        exact hi.cost _ hr _ hz
      · have : (x.cost.getD a []).getD b 0 = 0 := by rw [List.getD_eq_getElem?_getD, List.getElem?_eq_none (by omega)]; rfl
        rw [this]
        decide
    · have : x.cost.getD a [] = [] := by rw [List.getD_eq_getElem?_getD, List.getElem?_eq_none (by omega)]; rfl
      rw [this]
      simp
  unfold partC
  split
  · by_cases ha : (y.getD i 0).toNat < x.items.length
    · rw [List.getD_eq_getElem?_getD, List.getElem?_eq_getElem ha, Option.getD_some]
      have := (hi.items _ (List.getElem_mem ha)).1
      omega
    · rw [List.getD_eq_getElem?_getD (l := x.items), List.getElem?_eq_none (by omega)]
      decide
  · split
    · exact cst _ _
    · split
      · exact cst _ _
      · by_cases ha : (y.getD i 0).toNat < x.sets.length
        · rw [List.getD_eq_getElem?_getD (l := x.sets), List.getElem?_eq_getElem ha, Option.getD_some]
          have := hi.costs _ (List.getElem_mem ha)
          omega
        · rw [List.getD_eq_getElem?_getD (l := x.sets), List.getElem?_eq_none (by omega)]
          decide
theorem val_bd {x : PI} {y : List Int} : -8796093022208 ≤ (valP x y).1 ∧ (valP x y).1 ≤ 8796093022208 := by
  unfold valP
  split
  · rename_i hc
    split
    · rename_i hm
      have h1 := may_bd (iok.1 hc) hm
      have h2 := sumTo_abs (n := y.length) (f := partC x y) (B := 2147483648) (fun i hi => part_bd (iok.1 hc) hm i hi)
      simp only
      omega
    · decide
  · show (-8796093022208 : Int) ≤ 0 ∧ (0 : Int) ≤ 8796093022208
    decide
theorem parts_any (w : World) (x : PI) (v : Value) (h : InstC w x v) (hi : IOk x) (A : Option Addr) (m c : Nat) (ys : List Int) (hC : (Kd.int .i64).C w A m ys) (hm : mayP x ys = true) :
    Calls Tryz.prog 55 #[v, .slice A m c] w fun e w' => ∃ L cc, e = .returned (.slice L m cc) ∧ Aside0 ((Kd.int .i64).R 2 w' w.heap.size (fun _ => True) (.slice L m cc) ((List.range m).map (partC x ys)) ∧ Below w.heap.size w w') := by
  have hl := may_bd hi hm
  have hml : ys.length = m := hC.1
  rw [hml] at hl
  have hk := hi.kind
  have h4 : x.kind = 0 ∨ x.kind = 1 ∨ x.kind = 2 ∨ x.kind = 3 := by omega
  unfold mayP at hm
  rcases h4 with hk | hk | hk | hk
  · rw [if_pos hk, Bool.and_eq_true] at hm
    exact parts_0 w x v h hi A m c ys hC hl hk (asc_len hm.1).2
  · rw [if_neg (by omega), if_pos hk] at hm
    exact parts_1 w x v h hi A m c ys hC hl hk (ord_in hm).2.2 (by rw [← hml, (ord_in hm).1]; exact Nat.le_refl _)
  · rw [if_neg (by omega), if_neg (by omega), if_pos hk, Bool.and_eq_true] at hm
    exact parts_2 w x v h hi A m c ys hC hl hk (ord_in hm.1).2.2
  · rw [if_neg (by omega), if_neg (by omega), if_neg (by omega), Bool.and_eq_true] at hm
    exact parts_3 w x v h hi A m c ys hC hl hk (asc_len hm.1).2
set_option maxHeartbeats 1000000 in
set_option maxRecDepth 100000 in
theorem value_any (w : World) (x : PI) (v : Value) (h : InstC w x v) (hx : PIok x) (A : Option Addr) (m c : Nat) (ys : List Int) (hC : (Kd.int .i64).C w A m ys) (hm : m ≤ 17592186044416) (z er : Int) (hz : (z, er) = valP x ys) :
    Calls Tryz.prog 26 #[v, .slice A m c] w fun e w' => e = .returned (.tuple #[.int .i64 z, .int .i64 er]) ∧ Aside0 (Below w.heap.size w w') := by
  have HZ := Aside0.mk hz
  have HC := Aside0.mk hC
  have HL : Aside0 (ys.length = m) := ⟨hC.1⟩
  have HIN := Aside0.mk h
  have HX := Aside0.mk hx
  obtain ⟨A2, c2, A3, c3, A5, c5, rfl, h2, l2, h3, l3, h5, l5⟩ := h
  obtain ⟨n2, hn2⟩ : ∃ n, n = x.items.length := ⟨_, rfl⟩
  obtain ⟨n3, hn3⟩ : ∃ n, n = x.cost.length := ⟨_, rfl⟩
  obtain ⟨n5, hn5⟩ : ∃ n, n = x.sets.length := ⟨_, rfl⟩
  obtain ⟨kd, hkd⟩ : ∃ n, n = x.kind := ⟨_, rfl⟩
  obtain ⟨cap, hcap⟩ : ∃ n, n = x.cap := ⟨_, rfl⟩
  obtain ⟨sz, hsz⟩ : ∃ n, n = x.size := ⟨_, rfl⟩
  rw [← hn2, ← hn3, ← hn5, ← hkd, ← hcap, ← hsz] at HIN
  rw [← hn2, ← hn3, ← hn5, ← hkd, ← hcap, ← hsz]
  clear h2 h3 h5 l2 l3 l5 hn2 hn3 hn5 hkd hcap hsz hx hC hz
  have hu54 := Tryz.underlying76
  go_enter Tryz.func26, Tryz.ntmps26
  go_upto_region 1 with fail
  obtain ⟨W1, hW1⟩ : ∃ W, W = w.alloc (.cells #[.int .i64 kd, .int .i64 cap, .slice A2 n2 c2, .slice A3 n3 c3, .int .i64 sz, .slice A5 n5 c5] 76) := ⟨_, rfl⟩
  rw [← hW1]
  have B1 : Aside0 (Below w.heap.size w W1) := ⟨by rw [hW1]; exact below_alloc (Below.refl _ _) _⟩
  obtain ⟨p1, hp1⟩ : ∃ p, p = w.heap.size := ⟨_, rfl⟩
  have Q1 : Aside0 (W1.heap[p1]? = some (.cells #[.int .i64 kd, .int .i64 cap, .slice A2 n2 c2, .slice A3 n3 c3, .int .i64 sz, .slice A5 n5 c5] 76 (0, 0))) := ⟨by rw [hW1, hp1]; exact heap_alloc_new _ _⟩
  rw [← hp1]
  clear hW1 hp1
  have IW : Aside0 (InstC W1 x (.agg #[.int .i64 kd, .int .i64 cap, .slice A2 n2 c2, .slice A3 n3 c3, .int .i64 sz, .slice A5 n5 c5])) := ⟨HIN.out.below B1.out⟩
  obtain ⟨q0, q1, q2, q3, q4, q5, _⟩ := six Q1.out (Below.refl _ _)
  obtain ⟨ck, hck⟩ : ∃ ck, ck = chk x := ⟨_, rfl⟩
  have HK := Aside0.mk hck
  clear hck
  go_wp2_with fail
  refine (icheck_any' W1 x _ IW.out HX.out ck HK.out).mono ?_
  rintro _ w2 ⟨rfl, hb2⟩
  have B2 : Aside0 (Below W1.heap.size W1 w2) := ⟨hb2⟩
  clear hb2 q0 q1 q2 q3 q4 q5
  by_cases h0 : ck = 0
  · subst h0
    have IOa : Aside0 (IOk x) := ⟨iok.1 HK.out.symm⟩
    obtain ⟨q0, q1, q2, q3, q4, q5, _⟩ := six Q1.out B2.out
    obtain ⟨b, hb⟩ : ∃ b, b = mayP x ys := ⟨_, rfl⟩
    have HB := Aside0.mk hb
    clear hb
    go_wp2_with fail
    refine (may_any w2 x _ (IW.out.below B2.out) IOa.out HX.out A m c ys (Kd.C_below HC.out (B1.out.trans (B2.out.mono B1.out.size))) hm b HB.out).mono ?_
    rintro _ w3 ⟨rfl, H3⟩
    have B3 : Aside0 (Below W1.heap.size W1 w3) := ⟨B2.out.trans (H3.out.mono B2.out.size)⟩
    clear q0 q1 q2 q3 q4 q5
    cases b with
    | false =>
      have E : Aside0 (z = 0 ∧ er = 12) := ⟨by
        have h1 := HZ.out
        unfold valP at h1
        rw [if_pos HK.out.symm, ← HB.out] at h1
        simpa using h1⟩
      go_wp2_with fail
      go_ret2
      exact ⟨by rw [E.out.1, E.out.2]; rfl, ⟨B1.out.trans (B3.out.mono B1.out.size)⟩⟩
    | true =>
      obtain ⟨q0, q1, q2, q3, q4, q5, _⟩ := six Q1.out B3.out
      go_wp2_with fail
      refine (parts_any w3 x _ (IW.out.below B3.out) IOa.out A m c ys (Kd.C_below HC.out (B1.out.trans (B3.out.mono B1.out.size))) HB.out.symm).mono ?_
      rintro _ w4 ⟨L, cc, rfl, H4⟩
      have hm4 : Aside0 (m ≤ 4096) := ⟨by rw [← HL.out]; exact may_bd IOa.out HB.out.symm⟩
      have RW : Aside0 (RowI w4 L m (fun i => ((List.range m).map (partC x ys)).getD i 0)) := ⟨RowI_C (R_len H4.out.1)⟩
      have GD : Aside0 (∀ i, i < m → ((List.range m).map (partC x ys)).getD i 0 = partC x ys i) := ⟨fun i hi => getD_map hi⟩
      have SB : Aside0 (∀ i, i < m → -549755813888 ≤ ((List.range m).map (partC x ys)).getD i 0 ∧ ((List.range m).map (partC x ys)).getD i 0 ≤ 549755813888) := ⟨fun i hi => by
        rw [GD.out i hi]
        have := part_bd IOa.out HB.out.symm i (by rw [HL.out]; exact hi)
        omega⟩
      have E : Aside0 (z = sumTo m (fun i => ((List.range m).map (partC x ys)).getD i 0) ∧ er = 0) := ⟨by
        have h1 := HZ.out
        unfold valP at h1
        rw [if_pos HK.out.symm, ← HB.out, if_pos rfl, HL.out] at h1
        injection h1 with h2 h3
        exact ⟨h2.trans (sumTo_congr (fun i hi => (GD.out i hi).symm)), h3⟩⟩
      clear q0 q1 q2 q3 q4 q5
      go_wp2_with fail
      refine (sum_any w4 L m cc _ RW.out SB.out hm4.out).mono ?_
      rintro _ w5 ⟨rfl, hb5⟩
      rw [← E.out.1]
      have B5 : Aside0 (Below W1.heap.size W1 w5) := ⟨B3.out.trans ((H4.out.2.trans (hb5.mono H4.out.2.size)).mono B3.out.size)⟩
      clear hb5
      go_wp2_with fail
      go_ret2
      exact ⟨by rw [E.out.2]; rfl, ⟨B1.out.trans (B5.out.mono B1.out.size)⟩⟩
  · have g : (ck != 0) = true := by rw [bne_iff_ne]; exact h0
    have E : Aside0 (z = 0 ∧ er = ck) := ⟨by
      have h1 := HZ.out
      unfold valP at h1
      rw [if_neg (by rw [← HK.out]; exact h0), ← HK.out] at h1
      simpa using h1⟩
    clear h0
    go_wp2_with fail
    go_ret2
    exact ⟨by rw [E.out.1, E.out.2]; rfl, ⟨B1.out.trans (B2.out.mono B1.out.size)⟩⟩
end Go.Proofs.YtofomlpdklhigaaGreatDoor.Hand
