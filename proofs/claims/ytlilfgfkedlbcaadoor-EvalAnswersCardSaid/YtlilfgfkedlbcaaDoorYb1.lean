/- Texts At Av Ma Di, cut to what is used. -/
import Derived.StillTailTactics
import Derived.Test.YtlilfgfkedlbcaaDoorShelf
import Derived.Deep.QuietTactic
import Derived.BigQuiet
import Derived.IntWalk
import Derived.Test.YtlilfgfkedlbcaaDoorYa0
import Derived.Test.YtlilfgfkedlbcaaDoorYa5
import Derived.Test.YtlilfgfkedlbcaaDoorYb0
set_option linter.unusedVariables false
set_option linter.unusedSimpArgs false
section
namespace Go.Proofs.YtlilfgfkedlbcaaDoor.Hand
open Go.RowKit Go.Proofs.YtlilfgfkedlbcaaDoorW.PrintWords Go.Proofs.YtlilfgfkedlbcaaDoorW.PrintLast Go.Proofs.YtlilfgfkedlbcaaDoorW.PrintMore Go.Proofs.YtlilfgfkedlbcaaDoor.PEvalBetter
theorem R_some {α : Type} {d : Kd α} {w : World} {e base n c : Nat} {ok : Nat → Prop} {A : Option Addr} {l : List α} (h : d.R e w base ok (.slice A n c) l) (h0 : 0 < n) : ∃ g, A = some ⟨g, 0, none⟩ ∧ base ≤ g ∧ g < w.heap.size := by
 have hl := (Kd.R_reads' h).1
 have ht := Kd.R_lt h
 obtain ⟨inner, ho⟩ := Kd.R_own h
 rcases ho.2 with ⟨e, _⟩ | ⟨g, cap, cur, e, hb, _⟩
 ·cases e
  omega
 ·cases e
  exact ⟨g, rfl, hb, ht g rfl⟩
theorem C_two {w : World} {g t : Nat} {a b : Int} (h : w.heap[g]? = some (.cells #[.int .i64 a, .int .i64 b] t (0, 0))) : (Kd.int .i64).C w (some ⟨g, 0, none⟩) 2 [a, b] := by
 refine ⟨rfl, by decide, fun _ => ⟨_, rfl, fun j p hp => ⟨[.int .i64 p], rfl, rfl, fun i u hu => ?_⟩⟩⟩
 obtain rfl : i = 0 := by
  have := (List.getElem?_eq_some_iff.1 hu).1
  simp at this
  exact this
 rw [add_plain, blk_cell h]
 match j, hp with
 | 0, hp => cases hp; cases hu; rfl
 | 1, hp => cases hp; cases hu; rfl
theorem C_rows {w : World} {g t : Nat} {A1 A2 : Option Addr} {r1 r2 : List Int} {c1 c2 : Nat} (h : w.heap[g]? = some (.cells #[.slice A1 r1.length c1, .slice A2 r2.length c2] t (0, 0))) (l1 : r1.length ≤ c1) (l2 : r2.length ≤ c2) (h1 : (Kd.int .i64).C w A1 r1.length r1) (h2 : (Kd.int .i64).C w A2 r2.length r2) :
  (Kd.slice 2 (Kd.int .i64)).C w (some ⟨g, 0, none⟩) 2 [r1, r2] := by
 refine ⟨rfl, by decide, fun _ => ⟨_, rfl, fun j p hp => ?_⟩⟩
 match j, hp with
 | 0, hp =>
  cases hp
  refine ⟨[.slice A1 r1.length c1], rfl, ⟨A1, c1, rfl, l1, h1⟩, fun i u hu => ?_⟩
  obtain rfl : i = 0 := by
   have := (List.getElem?_eq_some_iff.1 hu).1
   simp at this
   exact this
  rw [add_plain, blk_cell h]
  exact hu
 | 1, hp =>
  cases hp
  refine ⟨[.slice A2 r2.length c2], rfl, ⟨A2, c2, rfl, l2, h2⟩, fun i u hu => ?_⟩
  obtain rfl : i = 0 := by
   have := (List.getElem?_eq_some_iff.1 hu).1
   simp at this
   exact this
  rw [add_plain, blk_cell h]
  exact hu
theorem infoR9 : (Tryd.prog.info? 9).map (fun i => (i.zero, i.size, i.bytes)) = some (some (.string ⟨#[]⟩), 1, 16) := by kernel_rfl
theorem ita (i : Nat) (hi : i < 100) (s : ByteArray) (hs : s = ⟨(Lib.decDigits i).toArray⟩) (w : World) : Calls Tryd.prog 38 #[.int .i64 (i : Int)] w fun e w' => e = .returned (.string s) ∧ w = w' :=
 (Tryd.strconv_Itoa_small i hi w).mono fun _ _ h => ⟨by rw [hs]; exact h.1, h.2.symm⟩
set_option maxHeartbeats 1000000 in
theorem text_any (w : World) (g : Nat) (h : w.heap[g]? = some (.cells #[.int .i64 1, .int .i64 0] 3 (0, 0))) : Calls Tryd.prog 21 #[.slice (some ⟨g, 0, none⟩) 2 2] w fun e w' => e = .returned (.string ⟨#[49, 32, 48]⟩) ∧ Below w.heap.size w w' := by
 have HG := Aside0.mk h
 have c0 : w.cell? ⟨g, 0, none⟩ = some (.int .i64 1) := (blk_cell h 0).trans rfl
 have K0 : Aside0 (Kd.string.R 9 w w.heap.size (fun _ => True) (.slice none 0 0) [] ∧ Below w.heap.size w w) := ⟨Kd.R_nil _ _ _ _ _, Below.refl _ _⟩
 clear h
 go_enter Tryd.func21, Tryd.ntmps21
 go_wp2_with fail
 refine wp_loop_rounds 3 ?_
 rw [rounds_succ]
 go_wp2_with fail
 refine (ita 1 (by decide) ⟨#[49]⟩ (by decide +kernel) _).mono ?_
 rintro _ _ ⟨rfl, rfl⟩
 go_wp2_with (at_builtin; refine Kd.R_append Kd.string (w0 := w) w.heap.size rfl _ _ 75 9 (.string ⟨#[]⟩) 16 rfl Tryd.underlying75 infoR9 rfl (by decide) (by decide) (.slice none 0 0) [] (⟨#[49]⟩ : ByteArray) [.string ⟨#[49]⟩] (fun _ => True) (fun _ => False) rfl rfl rfl (fun _ h => h.elim) (fun _ _ => trivial) K0.out.1 K0.out.2 K0.out.2.size (by decide) ?_; intro v8 w8 ho8 hb8 _ _; have O8 := Aside0.mk ho8; have B8 := Aside0.mk hb8; obtain ⟨A8, n8, c8, rfl, HN8⟩ := R_open ho8; clear ho8 hb8)
 have c1 : w8.cell? ⟨g, 1, none⟩ = some (.int .i64 0) := (blk_cell (blk_below HG.out B8.out) 1).trans rfl
 rw [rounds_succ]
 go_wp2_with fail
 refine (ita 0 (by decide) ⟨#[48]⟩ (by decide +kernel) _).mono ?_
 rintro _ _ ⟨rfl, rfl⟩
 go_wp2_with (at_builtin; refine Kd.R_append Kd.string (w0 := w) w.heap.size rfl _ _ 75 9 (.string ⟨#[]⟩) 16 rfl Tryd.underlying75 infoR9 rfl (by decide) (by decide) (.slice A8 n8 c8) [⟨#[49]⟩] (⟨#[48]⟩ : ByteArray) [.string ⟨#[48]⟩] (fun _ => True) (fun _ => False) rfl rfl rfl (fun _ h => h.elim) (fun _ _ => trivial) O8.out B8.out B8.out.size (by decide) ?_; intro v9 w9 ho9 hb9 _ _; have O9 := Aside0.mk ho9; have B9 := Aside0.mk hb9; obtain ⟨A9, n9, c9, rfl, HN9⟩ := R_open ho9; clear ho9 hb9)
 rw [rounds_succ]
 go_wp2_with fail
 obtain rfl : n9 = 2 := HN9.out
 obtain ⟨gb, rfl, _, hgb⟩ := R_some O9.out (by decide)
 obtain ⟨d0, _⟩ := Kd.R_celln (enc := Value.string) (h1 := fun _ => rfl) (⟨#[]⟩ : ByteArray) O9.out 0 (by decide) (by decide)
 obtain ⟨d1, _⟩ := Kd.R_celln (enc := Value.string) (h1 := fun _ => rfl) (⟨#[]⟩ : ByteArray) O9.out 1 (by decide) (by decide)
 have hc9 := (Kd.R_reads' O9.out).2.1
 refine (Tryd.strings_Join gb 0 c9 [⟨#[49]⟩, ⟨#[48]⟩] ⟨#[32]⟩ w9 (fun j s hj => ?_) hgb (by decide) hc9 (by decide +kernel)).mono ?_
 ·match j, hj with
  | 0, hj => cases hj; exact d0
  | 1, hj => cases hj; exact d1
 ·rintro _ W2 ⟨rfl, B2⟩
  have BB := Aside0.mk (B9.out.trans (B2.mono B9.out.size))
  clear B2 d0 d1 hc9
  go_wp2_with fail
  go_ret
  have ej : (Lib.join [[49], [48]] [32]).toArray = #[49, 32, 48] := by decide +kernel
  exact ⟨congrArg (fun a => Ending.returned (.string ⟨a⟩)) ej, BB.out⟩
def wkP : PI := ⟨1, 0, [], [[1, 2], [3, 4]], 0, []⟩
theorem wk_ok : PIok wkP := ⟨by decide, by decide, by decide, fun r hr => by
 simp only [wkP, List.mem_cons, List.not_mem_nil, or_false] at hr
 rcases hr with rfl | rfl <;> decide, fun s hs => absurd hs List.not_mem_nil⟩
theorem wk_v1 : (5, 0) = valP wkP [1, 0] := by decide +kernel
theorem wk_v2 : (0, 12) = valP wkP [1, 1] := by decide +kernel
set_option maxHeartbeats 2000000 in
set_option maxRecDepth 100000 in
theorem wakes_any (w : World) : Calls Tryd.prog 11 #[] w fun e w' => e = .returned (.bool true) ∧ Below w.heap.size w w' := by
 have hu32 := Tryd.underlying32
 go_enter Tryd.func11, Tryd.ntmps11
 go_upto_region 2 with fail
 obtain ⟨W1, hW1⟩ : ∃ W, W = (((w.alloc (.cells #[.int .i64 1, .int .i64 2] 2)).alloc (.cells #[.int .i64 3, .int .i64 4] 2)).alloc (.cells #[.slice (some ⟨w.heap.size, 0, none⟩) 2 2, .slice (some ⟨w.heap.size + 1, 0, none⟩) 2 2] 56)).alloc (.cells #[.int .i64 1, .int .i64 0, .slice none 0 0, .slice (some ⟨w.heap.size + 1 + 1, 0, none⟩) 2 2, .int .i64 0, .slice none 0 0] 32) := ⟨_, rfl⟩
 rw [← hW1]
 have B1 : Aside0 (Below w.heap.size w W1) := ⟨by rw [hW1]; exact below_alloc (below_alloc (below_alloc (below_alloc (Below.refl _ _) _) _) _) _⟩
 obtain ⟨p, hp⟩ : ∃ p, p = w.heap.size := ⟨_, rfl⟩
 have X1 : W1.heap[p]? = some (.cells #[.int .i64 1, .int .i64 2] 2 (0, 0)) := by
  rw [hW1, hp]
  simp only [al_get, al_size]
  repeat (first | rw [if_pos trivial] | rw [if_neg (by omega)])
 have X2 : W1.heap[p + 1]? = some (.cells #[.int .i64 3, .int .i64 4] 2 (0, 0)) := by
  rw [hW1, hp]
  simp only [al_get, al_size]
  repeat (first | rw [if_pos trivial] | rw [if_neg (by omega)])
 have X3 : W1.heap[p + 1 + 1]? = some (.cells #[.slice (some ⟨p, 0, none⟩) 2 2, .slice (some ⟨p + 1, 0, none⟩) 2 2] 56 (0, 0)) := by
  rw [hW1, hp]
  simp only [al_get, al_size]
  repeat (first | rw [if_pos trivial] | rw [if_neg (by omega)])
 have X4 : Aside0 (W1.heap[p + 1 + 1 + 1]? = some (.cells #[.int .i64 1, .int .i64 0, .slice none 0 0, .slice (some ⟨p + 1 + 1, 0, none⟩) 2 2, .int .i64 0, .slice none 0 0] 32 (0, 0))) := ⟨by
  rw [hW1, hp]
  simp only [al_get, al_size]
  repeat (first | rw [if_pos trivial] | rw [if_neg (by omega)])⟩
 have IC : Aside0 (InstC W1 wkP (.agg #[.int .i64 1, .int .i64 0, .slice none 0 0, .slice (some ⟨p + 1 + 1, 0, none⟩) 2 2, .int .i64 0, .slice none 0 0])) := ⟨none, 0, some ⟨p + 1 + 1, 0, none⟩, 2, none, 0, rfl, Kd.C_nil _ _, Nat.le_refl _, C_rows (r1 := [1, 2]) (r2 := [3, 4]) X3 (Nat.le_refl _) (Nat.le_refl _) (C_two X1) (C_two X2), Nat.le_refl _, Kd.C_nil _ _, Nat.le_refl _⟩
 rw [← hp]
 clear hW1 hp X1 X2 X3
 obtain ⟨e0, e1, e2, e3, e4, e5, _⟩ := six X4.out (Below.refl _ _)
 go_wp2_with fail
 clear e0 e1 e2 e3 e4 e5
 have A2 : Aside0 ((Kd.int .i64).C (W1.alloc (.cells #[.int .i64 1, .int .i64 0] 3)) (some ⟨W1.heap.size, 0, none⟩) 2 [1, 0] ∧ Below W1.heap.size W1 (W1.alloc (.cells #[.int .i64 1, .int .i64 0] 3))) := ⟨C_two (heap_alloc_new _ _), below_alloc (Below.refl _ _) _⟩
 generalize (W1.alloc (.cells #[.int .i64 1, .int .i64 0] 3)) = W2 at *
 refine (value_any W2 wkP _ (IC.out.below A2.out.2) wk_ok _ 2 2 [1, 0] A2.out.1 (by decide) 5 0 wk_v1).mono ?_
 rintro _ W3 ⟨rfl, HV⟩
 have B3 : Aside0 (Below W1.heap.size W1 W3) := ⟨A2.out.2.trans (HV.out.mono A2.out.2.size)⟩
 clear HV A2
 obtain ⟨e0, e1, e2, e3, e4, e5, _⟩ := six X4.out B3.out
 go_wp2_with fail
 clear e0 e1 e2 e3 e4 e5
 have A4 : Aside0 ((Kd.int .i64).C (W3.alloc (.cells #[.int .i64 1, .int .i64 1] 3)) (some ⟨W3.heap.size, 0, none⟩) 2 [1, 1] ∧ Below W1.heap.size W1 (W3.alloc (.cells #[.int .i64 1, .int .i64 1] 3))) := ⟨C_two (heap_alloc_new _ _), below_alloc B3.out _⟩
 generalize (W3.alloc (.cells #[.int .i64 1, .int .i64 1] 3)) = W4 at *
 refine (value_any W4 wkP _ (IC.out.below A4.out.2) wk_ok _ 2 2 [1, 1] A4.out.1 (by decide) 0 12 wk_v2).mono ?_
 rintro _ W5 ⟨rfl, HV⟩
 have B5 : Aside0 (Below w.heap.size w W5) := ⟨B1.out.trans ((A4.out.2.trans (HV.out.mono A4.out.2.size)).mono B1.out.size)⟩
 clear HV A4 B3 B1 IC X4
 go_wp2_with fail
 refine (better_any _ 0 2 1 true (by decide)).mono ?_
 rintro _ _ ⟨rfl, rfl⟩
 go_wp2_with fail
 refine (better_any _ 3 1 2 true (by decide)).mono ?_
 rintro _ _ ⟨rfl, rfl⟩
 go_wp2_with fail
 have X6 := heap_alloc_new W5 (.cells #[.int .i64 1, .int .i64 0] 3)
 have B6 : Aside0 (Below w.heap.size w (W5.alloc (.cells #[.int .i64 1, .int .i64 0] 3))) := ⟨below_alloc B5.out _⟩
 generalize (W5.alloc (.cells #[.int .i64 1, .int .i64 0] 3)) = W6 at *
 refine (text_any W6 _ X6).mono ?_
 rintro _ W7 ⟨rfl, B7⟩
 have B8 := Aside0.mk (B6.out.trans (B7.mono B6.out.size))
 clear B7 X6
 go_wp2_with fail
 go_ret
 exact ⟨rfl, B8.out⟩
end Go.Proofs.YtlilfgfkedlbcaaDoor.Hand
end
section
namespace Go.Proofs.YtlilfgfkedlbcaaDoor.Hand
open Go.RowKit Go.Proofs.YtlilfgfkedlbcaaDoorW.PrintWords Go.Proofs.YtlilfgfkedlbcaaDoorW.PrintLast Go.Proofs.YtlilfgfkedlbcaaDoorW.PrintMore Go.Proofs.YtlilfgfkedlbcaaDoor.PEvalBetter
def Two2 (w : World) (g : Nat) : Prop := ∀ k, k < 2 → ∃ A n c l, w.cell? ⟨g, k, none⟩ = some (.slice A n c) ∧ (Kd.int .i64).C w A n l ∧ n ≤ 4096
theorem Two2.of {w : World} {g n1 c1 n2 c2 t : Nat} {A1 A2 : Option Addr} {l1 l2 : List Int} (h : w.heap[g]? = some (.cells #[.slice A1 n1 c1, .slice A2 n2 c2] t (0, 0))) (h1 : (Kd.int .i64).C w A1 n1 l1) (hn1 : n1 ≤ 4096) (h2 : (Kd.int .i64).C w A2 n2 l2) (hn2 : n2 ≤ 4096) : Two2 w g := fun k hk => by
 match k, hk with
 | 0, _ => exact ⟨A1, n1, c1, l1, (blk_cell h 0).trans rfl, h1, hn1⟩
 | 1, _ => exact ⟨A2, n2, c2, l2, (blk_cell h 1).trans rfl, h2, hn2⟩
theorem Two2.below {w w1 : World} {g : Nat} (h : Two2 w g) (hb : Below w.heap.size w w1) : Two2 w1 g := fun k hk => by
 obtain ⟨A, n, c, l, h1, h2, h3⟩ := h k hk
 exact ⟨A, n, c, l, pw_cell_below hb h1, Kd.C_below h2 hb, h3⟩
def ans2P (w : World) (e : Ending) (w' : World) : Prop := ∃ g, e = .returned (.slice (some ⟨g, 0, none⟩) 2 2) ∧ Two2 w' g ∧ Below w.heap.size w w'
theorem answers2_any (w : World) (x : PI) (v : Value) (h : InstC w x v) (hx : x.items.length ≤ 40 ∧ x.cost.length ≤ 70 ∧ x.sets.length ≤ 40) (A : Option Addr) (n c : Nat) (xs : List Int) (hC : (Kd.int .i64).C w A n xs) (hn : n ≤ 17592186044416) (hnc : n ≤ c) :
  Calls Tryd.prog 7 #[.slice A n c, v] w (ans2P w) :=
 (answers_any w x v h hx.1 hx.2.1 hx.2.2 A n c xs hC hn hnc).mono fun _ _ ⟨g, _, _, _, _, _, _, _, _, e, h1, h2, h3, h4, h5, h6⟩ => ⟨g, e, Two2.of h1 h2 h3 h4 h5, h6⟩
end Go.Proofs.YtlilfgfkedlbcaaDoor.Hand
end
section
namespace Go.Proofs.YtlilfgfkedlbcaaDoor.Hand
open Go.RowKit Go.Proofs.YtlilfgfkedlbcaaDoorW.PrintWords Go.Proofs.YtlilfgfkedlbcaaDoorW.PrintLast Go.Proofs.YtlilfgfkedlbcaaDoorW.PrintMore Go.Proofs.YtlilfgfkedlbcaaDoor.PEvalBetter
theorem take_snoc_mem {xs : List Int} {j : Nat} (h0 : j ≠ 0) (hj : j ≤ xs.length) : (xs.take j)[j - 1]'(by rw [List.length_take]; omega) = xs.getD (j - 1) 0 := by
 rw [List.getElem_take, List.getD_eq_getElem?_getD, List.getElem?_eq_getElem (by omega), Option.getD_some]
set_option maxHeartbeats 2000000 in
set_option maxRecDepth 100000 in
theorem rrises_any (w : World) (A : Option Addr) (n c : Nat) (xs : List Int) (N : Int) (hC : (Kd.int .i64).C w A n xs) (hn : n ≤ 17592186044416) (r : Bool) (RR : r = ascB N (-1) xs) :
  Calls Tryd.prog 23 #[.slice A n c, .int .i64 N] w fun e w' => e = .returned (.bool r) ∧ Aside0 (Below w.heap.size w w') := by
 have HC := Aside0.mk hC
 have HL : Aside0 (xs.length = n) := ⟨hC.1⟩
 have HR := Aside0.mk RR
 clear hC RR
 go_enter Tryd.func23, Tryd.ntmps23
 go_wp2_with fail
 have J0 : Aside0 (ascB N (-1) (xs.take 0) = true ∧ Below w.heap.size w w) := ⟨rfl, Below.refl _ _⟩
 go_loopw [5] (fun v wr => ∃ j : Nat, j ≤ n ∧ v = .int .i64 j ∧ Aside0 (ascB N (-1) (xs.take j) = true ∧ Below w.heap.size w wr)) (fun v _ => n - (intOf v).toNat)
 case atStart => exact ⟨0, Nat.zero_le _, rfl, J0⟩
 case round =>
  clear J0
  obtain ⟨j, hj, rfl, KJ⟩ := hrel
  by_cases hlt : j < n
  ·obtain ⟨ae, rfl, hx'⟩ := at_Int HC.out j hlt
   have hx := pw_cell_below KJ.out.2 hx'
   have NZ := Aside0.mk (asc_take N xs j (-1) (by rw [HL.out]; exact hlt))
   obtain ⟨z, hz⟩ : ∃ z, z = xs.getD j 0 := ⟨_, rfl⟩
   rw [← hz] at hx
   have HZ := Aside0.mk hz
   clear hz hx'
   have LW : Aside0 (j ≠ 0 → 0 ≤ xs.getD (j - 1) 0) := ⟨fun h0 => by
    have h1 := asc_low N _ _ KJ.out.1 (xs.getD (j - 1) 0) (by
     rw [← take_snoc_mem h0 (show j ≤ xs.length by rw [HL.out]; omega)]
     exact List.getElem_mem _)
    omega⟩
   have BAD : Aside0 (z < 0 ∨ z ≥ N ∨ (j ≠ 0 ∧ z ≤ xs.getD (j - 1) 0) → r = false) := ⟨fun hbad => by
    have h1 : ascB N (-1) (xs.take (j + 1)) = false := by
     rw [NZ.out, KJ.out.1, Bool.true_and, ← HZ.out]
     have : decide ((if j = 0 then -1 else xs.getD (j - 1) 0) ≥ z) = true ∨ decide (z ≥ N) = true := by
      by_cases h0 : j = 0
      ·rw [if_pos h0, decide_eq_true_eq, decide_eq_true_eq]
       omega
      ·rw [if_neg h0, decide_eq_true_eq, decide_eq_true_eq]
       have := LW.out h0
       omega
     rcases this with h | h
     ·rw [h]; rfl
     ·rw [h, Bool.or_true]; rfl
    rw [HR.out, Bool.eq_false_iff]
    intro ha
    have := asc_short N xs (-1) (j + 1) ha
    rw [h1] at this
    cases this⟩
   cases g1 : decide (z < 0) with
   | true =>
    have BB := Aside0.mk (BAD.out (.inl (of_decide_eq_true g1)))
    go_upto_region 4 with fail
    go_quiet (fail)
    go_wp2_with fail
    go_ret
    exact ⟨by rw [BB.out]; rfl, ⟨pw_below_drewN KJ.out.2 nq⟩⟩
   | false =>
    cases g2 : decide (z ≥ N) with
    | true =>
     have BB := Aside0.mk (BAD.out (.inr (.inl (of_decide_eq_true g2))))
     go_upto_region 4 with fail
     go_quiet (fail)
     go_wp2_with fail
     go_ret
     exact ⟨by rw [BB.out]; rfl, ⟨pw_below_drewN KJ.out.2 nq⟩⟩
    | false =>
     have NXT : Aside0 (j = 0 ∨ xs.getD (j - 1) 0 < z) → Aside0 (ascB N (-1) (xs.take (j + 1)) = true) := fun h0 => ⟨by
      have h1 := of_decide_eq_false g1
      have h2 := of_decide_eq_false g2
      rw [NZ.out, KJ.out.1, Bool.true_and, ← HZ.out, decide_eq_false h2, Bool.or_false]
      rw [Bool.not_eq_true', decide_eq_false_iff_not]
      rcases h0.out with h3 | h3
      ·rw [if_pos h3]
       omega
      ·split <;> omega⟩
     rcases Nat.eq_zero_or_pos j with h0 | h0
     ·have N1 := NXT ⟨.inl h0⟩
      have g3 : decide ((j : Int) > 0) = false := decide_eq_false (by omega)
      have g3' : decide (0 < j) = false := decide_eq_false (by omega)
      clear NXT BAD LW h0
      go_upto_region 4 with fail
      go_quiet (fail)
      go_wp2_with fail
      go_roundw
      case measure => simp [intOf]; omega
      case rel => exact ⟨j + 1, by omega, by go_num, ⟨N1.out, pw_below_drewN KJ.out.2 nq⟩⟩
     ·obtain ⟨m, hm⟩ : ∃ m, j = m + 1 := ⟨j - 1, by omega⟩
      obtain ⟨ae', e, hx2'⟩ := at_Int HC.out m (by omega)
      injection e with e
      subst e
      have hx2 := pw_cell_below KJ.out.2 hx2'
      clear hx2'
      obtain ⟨zp, hzp⟩ : ∃ z, z = xs.getD m 0 := ⟨_, rfl⟩
      rw [← hzp] at hx2
      have HZP := Aside0.mk hzp
      clear hzp
      have g3 : decide ((j : Int) > 0) = true := decide_eq_true (by omega)
      have g3' : decide (0 < j) = true := decide_eq_true (by omega)
      have hwm : IntKind.i64.wrap ((j : Int) - 1) = (m : Int) := by
       rw [show (j : Int) - 1 = (m : Int) by omega]
       exact IntWalk.i64_in _ (by omega)
      have hmj : j - 1 = m := by omega
      have hmn : m < n := by omega
      by_cases g4' : z ≤ zp
      ·have g4 : decide (z ≤ zp) = true := decide_eq_true g4'
       have BB := Aside0.mk (BAD.out (.inr (.inr ⟨by omega, by rw [hmj, ← HZP.out]; exact g4'⟩)))
       clear NXT BAD LW g4' hm hmj h0
       go_upto_region 4 with fail
       go_quiet (fail)
       go_wp2_with fail
       go_ret
       exact ⟨by rw [BB.out]; rfl, ⟨pw_below_drewN KJ.out.2 nq⟩⟩
      ·have g4 : decide (z ≤ zp) = false := decide_eq_false g4'
       have N1 := NXT ⟨.inr (by rw [hmj, ← HZP.out]; omega)⟩
       clear NXT BAD LW g4' hm hmj h0
       go_upto_region 4 with fail
       go_quiet (fail)
       clear hwm
       go_wp2_with fail
       go_roundw
       case measure => simp [intOf]; omega
       case rel => exact ⟨j + 1, by omega, by go_num, ⟨N1.out, pw_below_drewN KJ.out.2 nq⟩⟩
  ·obtain rfl : n = j := by omega
   have N1 : Aside0 (r = true) := ⟨by
    have h1 := KJ.out.1
    rw [List.take_of_length_le (by rw [HL.out]; exact Nat.le_refl _)] at h1
    rw [HR.out, h1]⟩
   go_wp2_with fail
   go_ret
   exact ⟨by rw [N1.out]; rfl, ⟨KJ.out.2⟩⟩
def cntE (xs : List Int) (k : Int) : Nat := xs.countP fun e => e == k
theorem cnt_take {xs : List Int} {i : Nat} (h : i < xs.length) (k : Int) : cntE (xs.take (i + 1)) k = cntE (xs.take i) k + (if xs.getD i 0 == k then 1 else 0) := by
 unfold cntE
 rw [take_snoc h 0, List.countP_append, List.countP_singleton]
theorem mem_cnt {xs : List Int} {k : Int} : 0 < cntE xs k ↔ k ∈ xs := by
 unfold cntE
 rw [List.countP_pos_iff]
 constructor
 ·rintro ⟨a, h1, h2⟩
  rw [beq_iff_eq] at h2
  rw [← h2]
  exact h1
 ·exact fun h => ⟨k, h, by simp⟩
theorem each_ord (xs : List Int) (n : Nat) : ((∀ k, k < n → cntE xs (k : Int) = 1) ∧ xs.length = n) ↔ ordB xs n = true := by
 constructor
 ·rintro ⟨h1, h2⟩
  unfold ordB
  rw [Bool.and_eq_true, decide_eq_true_eq, List.all_eq_true]
  exact ⟨h2, fun k hk => decide_eq_true (mem_cnt.1 (by rw [h1 k (List.mem_range.1 hk)]; decide))⟩
 ·intro h
  obtain ⟨h1, h2, h3⟩ := ord_in h
  refine ⟨fun k hk => ?_, h1⟩
  have h4 := mem_cnt.2 (h2 k hk)
  apply Classical.byContradiction
  intro hne
  have h5 : 2 ≤ cntE xs (k : Int) := by omega
  have h6 := dup_short n (xs.erase (k : Int)) (fun i hi => by
   by_cases e : i = k
   ·subst e
    apply mem_cnt.1
    have h8 : cntE (xs.erase (i : Int)) (i : Int) = cntE xs (i : Int) - 1 := by
     unfold cntE
     have := List.count_erase_self (a := (i : Int)) (l := xs)
     unfold List.count at this
     exact this
    omega
   ·exact (List.mem_erase_of_ne (by omega)).2 (h2 i hi))
  have h7 := List.length_erase_of_mem (h2 k hk)
  have h9 := List.length_pos_of_mem (h2 k hk)
  omega
set_option maxHeartbeats 2000000 in
set_option maxRecDepth 100000 in
theorem reach_any (w : World) (A : Option Addr) (m c : Nat) (xs : List Int) (n : Nat) (hC : (Kd.int .i64).C w A m xs) (hm : m ≤ 17592186044416) (hn : n ≤ 4096) (r : Bool) (RR : r = ordB xs n) :
  Calls Tryd.prog 24 #[.slice A m c, .int .i64 (n : Int)] w fun e w' => e = .returned (.bool r) ∧ w = w' := by
 have HC := Aside0.mk hC
 have HL : Aside0 (xs.length = m) := ⟨hC.1⟩
 have HR := Aside0.mk RR
 clear hC RR
 go_enter Tryd.func24, Tryd.ntmps24
 go_wp2_with fail
 have K0 : Aside0 (∀ k, k < 0 → cntE xs ((k : Nat) : Int) = 1) := ⟨fun k h => by omega⟩
 go_loop [5] (fun v5 => ∃ k : Nat, k ≤ n ∧ v5 = .int .i64 (k : Int) ∧ Aside0 (∀ i, i < k → cntE xs ((i : Nat) : Int) = 1)) (fun v5 => n - (intOf v5).toNat)
 case atStart => exact ⟨0, Nat.zero_le _, rfl, K0⟩
 case round =>
  clear K0
  obtain ⟨k, hk, rfl, KK⟩ := hrel
  by_cases hlt : k < n
  ·go_wp2_with fail
   have J0 : Aside0 ((0 : Nat) = cntE (xs.take 0) (k : Int)) := ⟨rfl⟩
   go_loop [6, 7] (fun v6 v7 => ∃ i s : Nat, i ≤ m ∧ s ≤ i ∧ v6 = .int .i64 (s : Int) ∧ v7 = .int .i64 (i : Int) ∧ Aside0 (s = cntE (xs.take i) (k : Int))) (fun _ v7 => m - (intOf v7).toNat)
   case atStart => exact ⟨0, 0, Nat.zero_le _, Nat.le_refl _, rfl, rfl, J0⟩
   case round =>
    clear J0
    obtain ⟨i, s, hi, hs, rfl, rfl, KJ⟩ := hrel
    by_cases hli : i < m
    ·obtain ⟨ae, rfl, hx⟩ := at_Int HC.out i hli
     have NX := Aside0.mk (cnt_take (xs := xs) (i := i) (by rw [HL.out]; exact hli) (k : Int))
     obtain ⟨z, hz⟩ : ∃ z, z = xs.getD i 0 := ⟨_, rfl⟩
     rw [← hz] at hx NX
     clear hz
     cases g : (z == (k : Int)) with
     | true =>
      have N1 : Aside0 (s + 1 = cntE (xs.take (i + 1)) (k : Int)) := ⟨by rw [NX.out, g, ← KJ.out]; rfl⟩
      go_wp2_with fail
      exact ⟨⟨i + 1, s + 1, by omega, by omega, by go_num, by go_num, N1⟩, by simp [intOf]; omega⟩
     | false =>
      have N1 : Aside0 (s = cntE (xs.take (i + 1)) (k : Int)) := ⟨by rw [NX.out, g, ← KJ.out]; rfl⟩
      go_wp2_with fail
      exact ⟨⟨i + 1, s, by omega, by omega, rfl, by go_num, N1⟩, by simp [intOf]; omega⟩
    ·obtain rfl : m = i := by omega
     have hs1 : s = cntE xs (k : Int) := by
      rw [KJ.out, List.take_of_length_le (by rw [HL.out]; exact Nat.le_refl _)]
     by_cases h1 : s = 1
     ·have N1 : Aside0 (∀ i, i < k + 1 → cntE xs ((i : Nat) : Int) = 1) := ⟨fun i hi => by
       by_cases e : i = k
       ·subst e
        rw [← hs1, h1]
       ·exact KK.out i (by omega)⟩
      subst h1
      clear hs1
      go_wp2_with fail
      exact ⟨⟨k + 1, by omega, by go_num, N1⟩, by simp [intOf]; omega⟩
     ·have g : ((s : Int) != 1) = true := by rw [bne_iff_ne]; omega
      have E : Aside0 (r = false) := ⟨by
       rw [HR.out, Bool.eq_false_iff]
       intro h
       have h2 := ((each_ord xs n).2 h).1 k hlt
       omega⟩
      clear hs1
      go_wp2_with fail
      go_ret
      exact ⟨by rw [E.out]; rfl, rfl⟩
  ·obtain rfl : n = k := by omega
   have E : Aside0 (r = decide (m = n)) := ⟨by
    rw [HR.out, Bool.eq_iff_iff, decide_eq_true_eq, ← each_ord, HL.out]
    exact ⟨fun h => h.2, fun h => ⟨KK.out, h⟩⟩⟩
   by_cases hmn : m = n
   ·subst hmn
    have E1 : Aside0 (r = true) := ⟨by rw [E.out]; simp⟩
    go_wp2_with fail
    go_ret
    exact ⟨by rw [E1.out]; first | rfl | (simp; done), rfl⟩
   ·have E1 : Aside0 (r = false) := ⟨by rw [E.out]; simp [hmn]⟩
    have g : ((m : Int) == (n : Int)) = false := beq_eq_false_iff_ne.2 (by omega)
    go_wp2_with fail
    go_ret
    exact ⟨by rw [E1.out]; rfl, rfl⟩
set_option maxHeartbeats 2000000 in
set_option maxRecDepth 100000 in
theorem rhas_any (w : World) (x : PI) (hx : PIok x) (A5 : Option Addr) (K c5 : Nat) (h5 : k59.C w A5 K x.sets) (A : Option Addr) (m c : Nat) (xs : List Int) (hC : (Kd.int .i64).C w A m xs) (hm : m ≤ 17592186044416) (hr : ∀ k ∈ xs, 0 ≤ k ∧ k < K) (e : Int) (r : Bool) (RR : r = decide (e ∈ xs.flatMap (elsC x))) :
  Calls Tryd.prog 25 #[.slice A5 K c5, .slice A m c, .int .i64 e] w fun e w' => e = .returned (.bool r) ∧ w = w' := by
 have HC := Aside0.mk hC
 have HL : Aside0 (xs.length = m) := ⟨hC.1⟩
 have HR := Aside0.mk RR
 have H5 := Aside0.mk h5
 have HKK : Aside0 (x.sets.length = K) := ⟨h5.1⟩
 have HE := Aside0.mk hr
 have HX := Aside0.mk hx
 clear hC RR h5 hr hx
 have hu102 := Tryd.underlying59
 have hu103 := Tryd.underlying60
 go_enter Tryd.func25, Tryd.ntmps25
 go_wp2_with fail
 have K0 : Aside0 (e ∉ (xs.take 0).flatMap (elsC x)) := ⟨by simp⟩
 go_loop [7] (fun v7 => ∃ j : Nat, j ≤ m ∧ v7 = .int .i64 (j : Int) ∧ Aside0 (e ∉ (xs.take j).flatMap (elsC x))) (fun v7 => m - (intOf v7).toNat)
 case atStart => exact ⟨0, Nat.zero_le _, rfl, K0⟩
 case round =>
  clear K0
  obtain ⟨j, hj, rfl, KK⟩ := hrel
  by_cases hlt : j < m
  ·have hjl : j < xs.length := by rw [HL.out]; exact hlt
   obtain ⟨ae, rfl, hx⟩ := at_Int HC.out j hlt
   have hzr := HE.out (xs.getD j 0) (getD_mem' hjl)
   obtain ⟨k, hk⟩ : ∃ k : Nat, (k : Int) = xs.getD j 0 := ⟨(xs.getD j 0).toNat, by omega⟩
   rw [← hk] at hx hzr
   have hkK : k < K := by omega
   obtain ⟨ad, AE, cE, rfl, a0', a1, lE, hE⟩ := at_T59 H5.out (k : Int) (by omega) (by omega)
   rw [Int.toNat_natCast] at a1
   have hkl : k < x.sets.length := by rw [HKK.out]; exact hkK
   have hmk : rd_T59 x.sets (k : Int) = x.sets.getD k ⟨0, []⟩ := by
    unfold rd_T59
    rw [Int.toNat_natCast]
    rfl
   obtain ⟨el, hl0⟩ : ∃ z, z = (x.sets.getD k ⟨0, []⟩).f1 := ⟨_, rfl⟩
   rw [hmk, ← hl0] at a1 hE lE
   have HEL : Aside0 (el = elsC x (xs.getD j 0)) := ⟨by rw [hl0, ← hk]; rfl⟩
   obtain ⟨nE, hnE⟩ : ∃ n, n = el.length := ⟨_, rfl⟩
   rw [← hnE] at a1 hE lE
   have hEN : nE ≤ 17592186044416 := by
    rw [hnE, hl0]
    exact HX.out.els _ (by
     rw [List.getD_eq_getElem?_getD, List.getElem?_eq_getElem hkl]
     exact List.getElem_mem hkl)
   have HEE := Aside0.mk hE
   have HNE := Aside0.mk hnE
   have NX : Aside0 ((xs.take (j + 1)).flatMap (elsC x) = (xs.take j).flatMap (elsC x) ++ el) := ⟨by
    rw [take_snoc hjl 0, List.flatMap_append, HEL.out]
    simp⟩
   have ALL : Aside0 (e ∈ el → r = true) := ⟨fun h => by
    rw [HR.out]
    refine decide_eq_true (List.mem_flatMap.2 ⟨xs.getD j 0, getD_mem' hjl, ?_⟩)
    rw [← HEL.out]
    exact h⟩
   clear hzr hk a0' hmk hl0 hnE hkl hE hjl
   go_wp2_with fail
   have J0 : Aside0 (e ∉ el.take 0) := ⟨by simp⟩
   go_loop [8] (fun v8 => ∃ i : Nat, i ≤ nE ∧ v8 = .int .i64 (i : Int) ∧ Aside0 (e ∉ el.take i)) (fun v8 => nE - (intOf v8).toNat)
   case atStart => exact ⟨0, Nat.zero_le _, rfl, J0⟩
   case round =>
    clear J0
    obtain ⟨i, hi, rfl, KJ⟩ := hrel
    by_cases hli : i < nE
    ·have hil : i < el.length := by rw [← HNE.out]; exact hli
     obtain ⟨ae2, rfl, hy⟩ := at_Int HEE.out i hli
     obtain ⟨z, hz⟩ : ∃ z, z = el.getD i 0 := ⟨_, rfl⟩
     rw [← hz] at hy
     have HZ := Aside0.mk hz
     have HIL := Aside0.mk hil
     clear hz hil
     cases g : (z == e) with
     | true =>
      have E : Aside0 (r = true) := ⟨ALL.out (by
       have h1 := getD_mem' HIL.out
       rw [← HZ.out, beq_iff_eq.1 g] at h1
       exact h1)⟩
      go_wp2_with fail
      go_ret
      exact ⟨by rw [E.out]; rfl, rfl⟩
     | false =>
      have N1 : Aside0 (e ∉ el.take (i + 1)) := ⟨by
       rw [take_snoc HIL.out 0, ← HZ.out, List.mem_append, List.mem_singleton]
       rintro (h | h)
       ·exact KJ.out h
       ·rw [h] at g
        simp at g⟩
      go_wp2_with fail
      exact ⟨⟨i + 1, by omega, by go_num, N1⟩, by simp [intOf]; omega⟩
    ·obtain rfl : nE = i := by omega
     have N1 : Aside0 (e ∉ (xs.take (j + 1)).flatMap (elsC x)) := ⟨by
      have h1 := KJ.out
      rw [List.take_of_length_le (l := el) (by rw [HNE.out]; exact Nat.le_refl _)] at h1
      rw [NX.out, List.mem_append]
      rintro (h | h)
      ·exact KK.out h
      ·exact h1 h⟩
     go_wp2_with fail
     exact ⟨⟨j + 1, by omega, by go_num, N1⟩, by simp [intOf]; omega⟩
  ·obtain rfl : m = j := by omega
   have E : Aside0 (r = false) := ⟨by
    have h1 := KK.out
    rw [List.take_of_length_le (by rw [HL.out]; exact Nat.le_refl _)] at h1
    rw [HR.out]
    exact decide_eq_false h1⟩
   go_wp2_with fail
   go_ret
   exact ⟨by rw [E.out]; rfl, rfl⟩
end Go.Proofs.YtlilfgfkedlbcaaDoor.Hand
end
section
namespace Go.Proofs.YtlilfgfkedlbcaaDoor.Hand
open Go.RowKit Go.Proofs.YtlilfgfkedlbcaaDoorW.PrintWords Go.Proofs.YtlilfgfkedlbcaaDoorW.PrintLast Go.Proofs.YtlilfgfkedlbcaaDoorW.PrintMore Go.Proofs.YtlilfgfkedlbcaaDoor.PEvalBetter
theorem out_any (z lo hi : Int) (w : World) : Calls Tryd.prog 53 #[.int .i64 z, .int .i64 lo, .int .i64 hi] w fun e w' => e = .returned (.bool (!(decide (z ≥ lo) && decide (z ≤ hi)))) ∧ w = w' := by
 cases h1 : decide (z < lo) with
 | true =>
  have e : decide (z ≥ lo) = false := decide_eq_false (by have := of_decide_eq_true h1; omega)
  rw [e]
  go_enter Tryd.func53, Tryd.ntmps53
  go_wp2
  go_ret
  exact ⟨rfl, rfl⟩
 | false =>
  have e : decide (z ≥ lo) = true := decide_eq_true (by have := of_decide_eq_false h1; omega)
  rw [e]
  cases h2 : decide (z > hi) with
  | true =>
   have e2 : decide (z ≤ hi) = false := decide_eq_false (by have := of_decide_eq_true h2; omega)
   rw [e2]
   go_enter Tryd.func53, Tryd.ntmps53
   go_wp2
   go_ret
   exact ⟨rfl, rfl⟩
  | false =>
   have e2 : decide (z ≤ hi) = true := decide_eq_true (by have := of_decide_eq_false h2; omega)
   rw [e2]
   go_enter Tryd.func53, Tryd.ntmps53
   go_wp2
   go_ret
   exact ⟨rfl, rfl⟩
set_option maxHeartbeats 4000000 in
set_option maxRecDepth 100000 in
theorem numbers_any (w : World) (x : PI) (v : Value) (h : InstC w x v) (hx : PIok x) : Calls Tryd.prog 40 #[v] w fun e w' => e = .returned (.bool (smallB x)) ∧ Below w.heap.size w w' := by
 obtain ⟨A2, c2, A3, c3, A5, c5, rfl, h2, l2, h3, l3, h5, l5⟩ := h
 obtain ⟨n2, hn2⟩ : ∃ n, n = x.items.length := ⟨_, rfl⟩
 obtain ⟨n3, hn3⟩ : ∃ n, n = x.cost.length := ⟨_, rfl⟩
 obtain ⟨n5, hn5⟩ : ∃ n, n = x.sets.length := ⟨_, rfl⟩
 obtain ⟨kd, hkd⟩ : ∃ n, n = x.kind := ⟨_, rfl⟩
 obtain ⟨cap, hcap⟩ : ∃ n, n = x.cap := ⟨_, rfl⟩
 obtain ⟨sz, hsz⟩ : ∃ n, n = x.size := ⟨_, rfl⟩
 have b2 := hx.items
 have b3 := hx.cost
 have b5 := hx.sets
 rw [← hn2] at h2 l2 b2 ⊢
 rw [← hn3] at h3 l3 b3 ⊢
 rw [← hn5] at h5 l5 b5 ⊢
 rw [← hkd, ← hcap, ← hsz]
 have HF := Aside0.mk (And.intro hkd (And.intro hcap hsz))
 have HN2 := Aside0.mk hn2
 have HN3 := Aside0.mk hn3
 have HN5 := Aside0.mk hn5
 have H2 := Aside0.mk h2
 have H3 := Aside0.mk h3
 have H5 := Aside0.mk h5
 have HX := Aside0.mk hx
 clear hkd hcap hsz hn2 hn3 hn5 h2 h3 h5 hx
 have hu57 := Tryd.underlying35
 have hu68 := Tryd.underlying53
 have hu103 := Tryd.underlying60
 go_enter Tryd.func40, Tryd.ntmps40
 go_wp2_with fail
 refine (out_any cap 0 2147483648 _).mono ?_
 rintro _ _ ⟨rfl, rfl⟩
 obtain ⟨b, hb⟩ : ∃ b : Bool, b = !(decide (cap ≥ 0) && decide (cap ≤ 2147483648)) := ⟨_, rfl⟩
 rw [← hb]
 have HB0 : Aside0 (b = !(inB x.cap 0)) := ⟨by rw [hb, HF.out.2.1]; rfl⟩
 clear hb
 obtain ⟨W1, hW1⟩ : ∃ W, W = w.alloc (.cells #[.int .i64 kd, .int .i64 cap, .slice A2 n2 c2, .slice A3 n3 c3, .int .i64 sz, .slice A5 n5 c5] 35) := ⟨_, rfl⟩
 rw [← hW1]
 have B1 : Aside0 (Below w.heap.size w W1) := ⟨by rw [hW1]; exact below_alloc (Below.refl _ _) _⟩
 obtain ⟨p1, hp1⟩ : ∃ p, p = w.heap.size := ⟨_, rfl⟩
 have Q1 : Aside0 (W1.heap[p1]? = some (.cells #[.int .i64 kd, .int .i64 cap, .slice A2 n2 c2, .slice A3 n3 c3, .int .i64 sz, .slice A5 n5 c5] 35 (0, 0))) := ⟨by rw [hW1, hp1]; exact heap_alloc_new _ _⟩
 rw [← hp1]
 clear hW1 hp1
 have q2 : W1.cell? ⟨p1, 2, none⟩ = some (.slice A2 n2 c2) := (blk_cell Q1.out 2).trans rfl
 have q3 : W1.cell? ⟨p1, 3, none⟩ = some (.slice A3 n3 c3) := (blk_cell Q1.out 3).trans rfl
 have q5 : W1.cell? ⟨p1, 5, none⟩ = some (.slice A5 n5 c5) := (blk_cell Q1.out 5).trans rfl
 go_wp2_with fail
 have K0 : Aside0 (b = !(inB x.cap 0 && (x.items.take 0).all itB)) := ⟨by rw [HB0.out]; simp⟩
 go_loop [3, 4] (fun v i => ∃ (k : Nat) (b : Bool), k ≤ n2 ∧ v = .bool b ∧ i = .int .i64 k ∧ Aside0 (b = !(inB x.cap 0 && (x.items.take k).all itB))) (fun _ i => n2 - (intOf i).toNat)
 case atStart => exact ⟨0, b, Nat.zero_le _, rfl, rfl, K0⟩
 case round =>
  clear K0 HB0
  obtain ⟨k, b, hk, rfl, rfl, KB⟩ := hrel
  by_cases hlt : k < n2
  ·obtain ⟨ad, rfl, a0, a1⟩ := at_T55 (Kd.C_below H2.out B1.out) (k : Int) (by omega) (by omega)
   rw [Int.toNat_natCast] at a0 a1
   obtain ⟨s, hs⟩ : ∃ s, s = rd_T55 x.items (k : Int) := ⟨_, rfl⟩
   rw [← hs] at a0 a1
   have NX := Aside0.mk (all_take (l := x.items) (i := k) (by rw [← HN2.out]; exact hlt) z55 itB)
   have HS : Aside0 (s = x.items.getD k z55) := ⟨by rw [hs]; unfold rd_T55; rw [Int.toNat_natCast]⟩
   clear hs
   go_wp2_with fail
   refine (out_any s.f0 0 2147483648 _).mono ?_
   rintro _ _ ⟨rfl, rfl⟩
   obtain ⟨c0, hc0⟩ : ∃ b : Bool, b = inB s.f0 0 := ⟨_, rfl⟩
   rw [show (decide (s.f0 ≥ 0) && decide (s.f0 ≤ 2147483648)) = c0 from hc0.symm]
   have C0 := Aside0.mk hc0
   clear hc0
   go_wp2_with fail
   refine (out_any s.f1 0 2147483648 _).mono ?_
   rintro _ _ ⟨rfl, rfl⟩
   obtain ⟨c1, hc1⟩ : ∃ b : Bool, b = inB s.f1 0 := ⟨_, rfl⟩
   rw [show (decide (s.f1 ≥ 0) && decide (s.f1 ≤ 2147483648)) = c1 from hc1.symm]
   have C1 := Aside0.mk hc1
   clear hc1
   have NB : Aside0 ((b || (!c0) || (!c1)) = !(inB x.cap 0 && (x.items.take (k + 1)).all itB)) := ⟨by
    rw [NX.out, KB.out, C0.out, C1.out, ← HS.out]
    rw [show itB s = (inB s.f0 0 && inB s.f1 0) from rfl]
    cases inB x.cap 0 <;> cases (x.items.take k).all itB <;> cases inB s.f0 0 <;> cases inB s.f1 0 <;> rfl⟩
   go_wp2_with fail
   all_goals
    exact ⟨⟨k + 1, _, by omega, rfl, by simp, ⟨by rw [← NB.out]; cases b <;> cases c0 <;> first | rfl | contradiction⟩⟩, by simp [intOf]; omega⟩
  ·obtain rfl : n2 = k := by omega
   have K1 : Aside0 (b = !(inB x.cap 0 && x.items.all itB)) := ⟨by rw [KB.out, List.take_of_length_le (by rw [HN2.out]; exact Nat.le_refl _)]⟩
   clear KB hlt hk
   go_wp2_with fail
   have K0 : Aside0 (b = !(inB x.cap 0 && x.items.all itB && (x.cost.take 0).all rowB)) := ⟨by rw [K1.out]; simp⟩
   go_loop [3, 7] (fun v i => ∃ (k : Nat) (b : Bool), k ≤ n3 ∧ v = .bool b ∧ i = .int .i64 k ∧ Aside0 (b = !(inB x.cap 0 && x.items.all itB && (x.cost.take k).all rowB))) (fun _ i => n3 - (intOf i).toNat)
   case atStart => exact ⟨0, b, Nat.zero_le _, rfl, rfl, K0⟩
   case round =>
    clear K0 K1
    obtain ⟨k, b, hk, rfl, rfl, KB⟩ := hrel
    by_cases hlt : k < n3
    ·obtain ⟨ad, AY, cY, rfl, a0, ly, hy⟩ := at_L2 (Kd.C_below H3.out B1.out) (k : Int) (by omega) (by omega)
     rw [Int.toNat_natCast] at a0
     have hm : rd_L2 x.cost (k : Int) ∈ x.cost := by
      unfold rd_L2
      rw [Int.toNat_natCast, List.getD_eq_getElem?_getD, List.getElem?_eq_getElem (by rw [← HN3.out]; exact hlt)]
      exact List.getElem_mem _
     have hyl : (rd_L2 x.cost (k : Int)).length ≤ 17592186044416 := HX.out.rows _ hm
     have NX := Aside0.mk (all_take (l := x.cost) (i := k) (by rw [← HN3.out]; exact hlt) [] rowB)
     obtain ⟨y, hy1⟩ : ∃ y, y = rd_L2 x.cost (k : Int) := ⟨_, rfl⟩
     have HS : Aside0 (y = x.cost.getD k []) := ⟨by rw [hy1]; unfold rd_L2; rw [Int.toNat_natCast]⟩
     rw [← hy1] at a0 ly hy hyl
     obtain ⟨nY, hnY⟩ : ∃ n, n = y.length := ⟨_, rfl⟩
     rw [← hnY] at a0 ly hyl hy
     have HNY := Aside0.mk hnY
     have HY := Aside0.mk hy
     clear hy hnY hy1 hm
     go_wp2_with fail
     have K0 : Aside0 (b = !(inB x.cap 0 && x.items.all itB && (x.cost.take k).all rowB && (y.take 0).all fun z => inB z (-2147483648))) := ⟨by rw [KB.out]; simp⟩
     go_loop [3, 8] (fun v i => ∃ (j : Nat) (b : Bool), j ≤ nY ∧ v = .bool b ∧ i = .int .i64 j ∧ Aside0 (b = !(inB x.cap 0 && x.items.all itB && (x.cost.take k).all rowB && (y.take j).all fun z => inB z (-2147483648)))) (fun _ i => nY - (intOf i).toNat)
     case atStart => exact ⟨0, b, Nat.zero_le _, rfl, rfl, K0⟩
     case round =>
      clear K0 KB
      obtain ⟨j, b, hj, rfl, rfl, KJ⟩ := hrel
      by_cases hlt2 : j < nY
      ·obtain ⟨ar, rfl, hx⟩ := at_Int HY.out j hlt2
       have NZ := Aside0.mk (all_take (l := y) (i := j) (by rw [← HNY.out]; exact hlt2) 0 (fun z => inB z (-2147483648)))
       obtain ⟨z, hz⟩ : ∃ z, z = y.getD j 0 := ⟨_, rfl⟩
       rw [← hz] at hx
       have HZ := Aside0.mk hz
       clear hz
       go_wp2_with fail
       refine (out_any z (-2147483648) 2147483648 _).mono ?_
       rintro _ _ ⟨rfl, rfl⟩
       obtain ⟨c0, hc0⟩ : ∃ b : Bool, b = inB z (-2147483648) := ⟨_, rfl⟩
       rw [show (decide (z ≥ -2147483648) && decide (z ≤ 2147483648)) = c0 from hc0.symm]
       have C0 := Aside0.mk hc0
       clear hc0
       have NB : Aside0 ((b || (!c0)) = !(inB x.cap 0 && x.items.all itB && (x.cost.take k).all rowB && (y.take (j + 1)).all fun z => inB z (-2147483648))) := ⟨by
        rw [NZ.out, KJ.out, C0.out, ← HZ.out]
        cases inB x.cap 0 <;> cases x.items.all itB <;> cases (x.cost.take k).all rowB <;> cases (y.take j).all (fun z => inB z (-2147483648)) <;> cases inB z (-2147483648) <;> rfl⟩
       go_wp2_with fail
       all_goals
        exact ⟨⟨j + 1, _, by omega, rfl, by simp, ⟨by rw [← NB.out]; cases b <;> first | rfl | contradiction⟩⟩, by simp [intOf]; omega⟩
      ·obtain rfl : nY = j := by omega
       have NB : Aside0 (b = !(inB x.cap 0 && x.items.all itB && (x.cost.take (k + 1)).all rowB)) := ⟨by
        rw [KJ.out, NX.out, ← HS.out, List.take_of_length_le (l := y) (by rw [HNY.out]; exact Nat.le_refl _)]
        show _ = !(inB x.cap 0 && x.items.all itB && ((x.cost.take k).all rowB && y.all fun z => inB z (-2147483648)))
        rw [Bool.and_assoc (inB x.cap 0 && x.items.all itB)]⟩
       go_wp2_with fail
       exact ⟨⟨k + 1, b, by omega, rfl, by simp, NB⟩, by simp [intOf]; omega⟩
    ·obtain rfl : n3 = k := by omega
     have K1 : Aside0 (b = !(inB x.cap 0 && x.items.all itB && x.cost.all rowB)) := ⟨by rw [KB.out, List.take_of_length_le (by rw [HN3.out]; exact Nat.le_refl _)]⟩
     clear KB hlt hk
     go_wp2_with fail
     have K0 : Aside0 (b = !(inB x.cap 0 && x.items.all itB && x.cost.all rowB && (x.sets.take 0).all fun s => inB s.f0 0)) := ⟨by rw [K1.out]; simp⟩
     go_loop [3, 10] (fun v i => ∃ (k : Nat) (b : Bool), k ≤ n5 ∧ v = .bool b ∧ i = .int .i64 k ∧ Aside0 (b = !(inB x.cap 0 && x.items.all itB && x.cost.all rowB && (x.sets.take k).all fun s => inB s.f0 0))) (fun _ i => n5 - (intOf i).toNat)
     case atStart => exact ⟨0, b, Nat.zero_le _, rfl, rfl, K0⟩
     case round =>
      clear K0 K1
      obtain ⟨k, b, hk, rfl, rfl, KB⟩ := hrel
      by_cases hlt : k < n5
      ·obtain ⟨ad, AE, cE, rfl, a0, a1, lE, hE⟩ := at_T59 (Kd.C_below H5.out B1.out) (k : Int) (by omega) (by omega)
       rw [Int.toNat_natCast] at a0 a1
       have NX := Aside0.mk (all_take (l := x.sets) (i := k) (by rw [← HN5.out]; exact hlt) z59 (fun s => inB s.f0 0))
       obtain ⟨s, hs⟩ : ∃ s, s = rd_T59 x.sets (k : Int) := ⟨_, rfl⟩
       rw [← hs] at a0
       have HS : Aside0 (s = x.sets.getD k z59) := ⟨by rw [hs]; unfold rd_T59; rw [Int.toNat_natCast]⟩
       clear hs a1 lE hE
       go_wp2_with fail
       refine (out_any s.f0 0 2147483648 _).mono ?_
       rintro _ _ ⟨rfl, rfl⟩
       obtain ⟨c0, hc0⟩ : ∃ b : Bool, b = inB s.f0 0 := ⟨_, rfl⟩
       rw [show (decide (s.f0 ≥ 0) && decide (s.f0 ≤ 2147483648)) = c0 from hc0.symm]
       have C0 := Aside0.mk hc0
       clear hc0
       have NB : Aside0 ((b || (!c0)) = !(inB x.cap 0 && x.items.all itB && x.cost.all rowB && (x.sets.take (k + 1)).all fun s => inB s.f0 0)) := ⟨by
        rw [NX.out, KB.out, C0.out, ← HS.out]
        cases inB x.cap 0 <;> cases x.items.all itB <;> cases x.cost.all rowB <;> cases (x.sets.take k).all (fun s => inB s.f0 0) <;> cases inB s.f0 0 <;> rfl⟩
       go_wp2_with fail
       all_goals
        exact ⟨⟨k + 1, _, by omega, rfl, by simp, ⟨by rw [← NB.out]; cases b <;> first | rfl | contradiction⟩⟩, by simp [intOf]; omega⟩
      ·obtain rfl : n5 = k := by omega
       have K1 : Aside0 ((!b) = smallB x) := ⟨by
        rw [KB.out, List.take_of_length_le (by rw [HN5.out]; exact Nat.le_refl _), Bool.not_not]
        rfl⟩
       clear KB hlt hk
       go_wp2_with fail
       go_ret
       exact ⟨by first | rfl | (rw [← K1.out]; rfl), B1.out⟩
end Go.Proofs.YtlilfgfkedlbcaaDoor.Hand
end
