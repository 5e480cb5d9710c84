/- Texts At Av Dx, cut to what is used. -/
import Derived.StillTailTactics
import Derived.Test.YtlilfgfkedlbcaaDoorShelf
import Derived.WalkKit
import Derived.ProofKit
import Derived.OpenShut
import Derived.ShutString
import Derived.ChangeOld
import Derived.Below
import Derived.SizedLaws
import Derived.Lib.SmallJoins
import Derived.ChangeSame
import Derived.Deep.Slices
import Derived.Deep.Fields
import Derived.Test.YtlilfgfkedlbcaaDoorZa0
import Derived.Test.YtlilfgfkedlbcaaDoorZa2
import Derived.Test.YtlilfgfkedlbcaaDoorZb0
set_option linter.unusedVariables false
set_option linter.unusedSimpArgs false
section
namespace Go.Proofs.YtlilfgfkedlbcaaDoor.Hand
open Go.RowKit Go.Proofs.YtlilfgfkedlbcaaDoorW.PrintWords Go.Proofs.YtlilfgfkedlbcaaDoorW.PrintLast Go.Proofs.YtlilfgfkedlbcaaDoorW.PrintMore Go.Proofs.YtlilfgfkedlbcaaDoor.PEvalBetter
theorem R_some {α : Type} {d : Kd α} {w : World} {e base n c : Nat} {ok : Nat → Prop} {A : Option Addr} {l : List α} (h : d.R e w base ok (.slice A n c) l) (h0 : 0 < n) : ∃ g, A = some ⟨g, 0, none⟩ ∧ base ≤ g ∧ g < w.heap.size := by
 have hl := (Kd.R_reads' h).1
 have ht := Kd.R_lt h
 obtain ⟨inner, ho⟩ := Kd.R_own h
 rcases ho.2 with ⟨e, _⟩ | ⟨g, cap, cur, e, hb, _⟩
 ·cases e
  omega
 ·cases e
  exact ⟨g, rfl, hb, ht g rfl⟩
theorem C_two {w : World} {g t : Nat} {a b : Int} (h : w.heap[g]? = some (.cells #[.int .i64 a, .int .i64 b] t (0, 0))) : (Kd.int .i64).C w (some ⟨g, 0, none⟩) 2 [a, b] := by
 refine ⟨rfl, by decide, fun _ => ⟨_, rfl, fun j p hp => ⟨[.int .i64 p], rfl, rfl, fun i u hu => ?_⟩⟩⟩
 obtain rfl : i = 0 := by
  have := (List.getElem?_eq_some_iff.1 hu).1
  simp at this
  exact this
 rw [add_plain, blk_cell h]
 match j, hp with
 | 0, hp => cases hp; cases hu; rfl
 | 1, hp => cases hp; cases hu; rfl
theorem C_rows {w : World} {g t : Nat} {A1 A2 : Option Addr} {r1 r2 : List Int} {c1 c2 : Nat} (h : w.heap[g]? = some (.cells #[.slice A1 r1.length c1, .slice A2 r2.length c2] t (0, 0))) (l1 : r1.length ≤ c1) (l2 : r2.length ≤ c2) (h1 : (Kd.int .i64).C w A1 r1.length r1) (h2 : (Kd.int .i64).C w A2 r2.length r2) :
  (Kd.slice 2 (Kd.int .i64)).C w (some ⟨g, 0, none⟩) 2 [r1, r2] := by
 refine ⟨rfl, by decide, fun _ => ⟨_, rfl, fun j p hp => ?_⟩⟩
 match j, hp with
 | 0, hp =>
  cases hp
  refine ⟨[.slice A1 r1.length c1], rfl, ⟨A1, c1, rfl, l1, h1⟩, fun i u hu => ?_⟩
  obtain rfl : i = 0 := by
   have := (List.getElem?_eq_some_iff.1 hu).1
   simp at this
   exact this
  rw [add_plain, blk_cell h]
  exact hu
 | 1, hp =>
  cases hp
  refine ⟨[.slice A2 r2.length c2], rfl, ⟨A2, c2, rfl, l2, h2⟩, fun i u hu => ?_⟩
  obtain rfl : i = 0 := by
   have := (List.getElem?_eq_some_iff.1 hu).1
   simp at this
   exact this
  rw [add_plain, blk_cell h]
  exact hu
theorem infoR9 : (Tryd.prog.info? 9).map (fun i => (i.zero, i.size, i.bytes)) = some (some (.string ⟨#[]⟩), 1, 16) := by kernel_rfl
theorem ita (i : Nat) (hi : i < 100) (s : ByteArray) (hs : s = ⟨(Lib.decDigits i).toArray⟩) (w : World) : Calls Tryd.prog 38 #[.int .i64 (i : Int)] w fun e w' => e = .returned (.string s) ∧ w = w' :=
 (Tryd.strconv_Itoa_small i hi w).mono fun _ _ h => ⟨by rw [hs]; exact h.1, h.2.symm⟩
set_option maxHeartbeats 1000000 in
theorem text_any (w : World) (g : Nat) (h : w.heap[g]? = some (.cells #[.int .i64 1, .int .i64 0] 3 (0, 0))) : Calls Tryd.prog 21 #[.slice (some ⟨g, 0, none⟩) 2 2] w fun e w' => e = .returned (.string ⟨#[49, 32, 48]⟩) ∧ Below w.heap.size w w' := by
 have HG := Aside0.mk h
 have c0 : w.cell? ⟨g, 0, none⟩ = some (.int .i64 1) := (blk_cell h 0).trans rfl
 have K0 : Aside0 (Kd.string.R 9 w w.heap.size (fun _ => True) (.slice none 0 0) [] ∧ Below w.heap.size w w) := ⟨Kd.R_nil _ _ _ _ _, Below.refl _ _⟩
 clear h
 go_enter Tryd.func21, Tryd.ntmps21
 go_wp2_with fail
 refine wp_loop_rounds 3 ?_
 rw [rounds_succ]
 go_wp2_with fail
 refine (ita 1 (by decide) ⟨#[49]⟩ (by decide +kernel) _).mono ?_
 rintro _ _ ⟨rfl, rfl⟩
 go_wp2_with (at_builtin; refine Kd.R_append Kd.string (w0 := w) w.heap.size rfl _ _ 75 9 (.string ⟨#[]⟩) 16 rfl Tryd.underlying75 infoR9 rfl (by decide) (by decide) (.slice none 0 0) [] (⟨#[49]⟩ : ByteArray) [.string ⟨#[49]⟩] (fun _ => True) (fun _ => False) rfl rfl rfl (fun _ h => h.elim) (fun _ _ => trivial) K0.out.1 K0.out.2 K0.out.2.size (by decide) ?_; intro v8 w8 ho8 hb8 _ _; have O8 := Aside0.mk ho8; have B8 := Aside0.mk hb8; obtain ⟨A8, n8, c8, rfl, HN8⟩ := R_open ho8; clear ho8 hb8)
 have c1 : w8.cell? ⟨g, 1, none⟩ = some (.int .i64 0) := (blk_cell (blk_below HG.out B8.out) 1).trans rfl
 rw [rounds_succ]
 go_wp2_with fail
 refine (ita 0 (by decide) ⟨#[48]⟩ (by decide +kernel) _).mono ?_
 rintro _ _ ⟨rfl, rfl⟩
 go_wp2_with (at_builtin; refine Kd.R_append Kd.string (w0 := w) w.heap.size rfl _ _ 75 9 (.string ⟨#[]⟩) 16 rfl Tryd.underlying75 infoR9 rfl (by decide) (by decide) (.slice A8 n8 c8) [⟨#[49]⟩] (⟨#[48]⟩ : ByteArray) [.string ⟨#[48]⟩] (fun _ => True) (fun _ => False) rfl rfl rfl (fun _ h => h.elim) (fun _ _ => trivial) O8.out B8.out B8.out.size (by decide) ?_; intro v9 w9 ho9 hb9 _ _; have O9 := Aside0.mk ho9; have B9 := Aside0.mk hb9; obtain ⟨A9, n9, c9, rfl, HN9⟩ := R_open ho9; clear ho9 hb9)
 rw [rounds_succ]
 go_wp2_with fail
 obtain rfl : n9 = 2 := HN9.out
 obtain ⟨gb, rfl, _, hgb⟩ := R_some O9.out (by decide)
 obtain ⟨d0, _⟩ := Kd.R_celln (enc := Value.string) (h1 := fun _ => rfl) (⟨#[]⟩ : ByteArray) O9.out 0 (by decide) (by decide)
 obtain ⟨d1, _⟩ := Kd.R_celln (enc := Value.string) (h1 := fun _ => rfl) (⟨#[]⟩ : ByteArray) O9.out 1 (by decide) (by decide)
 have hc9 := (Kd.R_reads' O9.out).2.1
 refine (Tryd.strings_Join gb 0 c9 [⟨#[49]⟩, ⟨#[48]⟩] ⟨#[32]⟩ w9 (fun j s hj => ?_) hgb (by decide) hc9 (by decide +kernel)).mono ?_
 ·match j, hj with
  | 0, hj => cases hj; exact d0
  | 1, hj => cases hj; exact d1
 ·rintro _ W2 ⟨rfl, B2⟩
  have BB := Aside0.mk (B9.out.trans (B2.mono B9.out.size))
  clear B2 d0 d1 hc9
  go_wp2_with fail
  go_ret
  have ej : (Lib.join [[49], [48]] [32]).toArray = #[49, 32, 48] := by decide +kernel
  exact ⟨congrArg (fun a => Ending.returned (.string ⟨a⟩)) ej, BB.out⟩
def wkP : PI := ⟨1, 0, [], [[1, 2], [3, 4]], 0, []⟩
theorem wk_ok : PIok wkP := ⟨by decide, by decide, by decide, fun r hr => by
 simp only [wkP, List.mem_cons, List.not_mem_nil, or_false] at hr
 rcases hr with rfl | rfl <;> decide, fun s hs => absurd hs List.not_mem_nil⟩
theorem wk_v1 : (5, 0) = valP wkP [1, 0] := by decide +kernel
theorem wk_v2 : (0, 12) = valP wkP [1, 1] := by decide +kernel
set_option maxHeartbeats 2000000 in
set_option maxRecDepth 100000 in
theorem wakes_any (w : World) : Calls Tryd.prog 11 #[] w fun e w' => e = .returned (.bool true) ∧ Below w.heap.size w w' := by
 have hu32 := Tryd.underlying32
 go_enter Tryd.func11, Tryd.ntmps11
 go_upto_region 2 with fail
 obtain ⟨W1, hW1⟩ : ∃ W, W = (((w.alloc (.cells #[.int .i64 1, .int .i64 2] 2)).alloc (.cells #[.int .i64 3, .int .i64 4] 2)).alloc (.cells #[.slice (some ⟨w.heap.size, 0, none⟩) 2 2, .slice (some ⟨w.heap.size + 1, 0, none⟩) 2 2] 56)).alloc (.cells #[.int .i64 1, .int .i64 0, .slice none 0 0, .slice (some ⟨w.heap.size + 1 + 1, 0, none⟩) 2 2, .int .i64 0, .slice none 0 0] 32) := ⟨_, rfl⟩
 rw [← hW1]
 have B1 : Aside0 (Below w.heap.size w W1) := ⟨by rw [hW1]; exact below_alloc (below_alloc (below_alloc (below_alloc (Below.refl _ _) _) _) _) _⟩
 obtain ⟨p, hp⟩ : ∃ p, p = w.heap.size := ⟨_, rfl⟩
 have X1 : W1.heap[p]? = some (.cells #[.int .i64 1, .int .i64 2] 2 (0, 0)) := by
  rw [hW1, hp]
  simp only [al_get, al_size]
  repeat (first | rw [if_pos trivial] | rw [if_neg (by omega)])
 have X2 : W1.heap[p + 1]? = some (.cells #[.int .i64 3, .int .i64 4] 2 (0, 0)) := by
  rw [hW1, hp]
  simp only [al_get, al_size]
  repeat (first | rw [if_pos trivial] | rw [if_neg (by omega)])
 have X3 : W1.heap[p + 1 + 1]? = some (.cells #[.slice (some ⟨p, 0, none⟩) 2 2, .slice (some ⟨p + 1, 0, none⟩) 2 2] 56 (0, 0)) := by
  rw [hW1, hp]
  simp only [al_get, al_size]
  repeat (first | rw [if_pos trivial] | rw [if_neg (by omega)])
 have X4 : Aside0 (W1.heap[p + 1 + 1 + 1]? = some (.cells #[.int .i64 1, .int .i64 0, .slice none 0 0, .slice (some ⟨p + 1 + 1, 0, none⟩) 2 2, .int .i64 0, .slice none 0 0] 32 (0, 0))) := ⟨by
  rw [hW1, hp]
  simp only [al_get, al_size]
  repeat (first | rw [if_pos trivial] | rw [if_neg (by omega)])⟩
 have IC : Aside0 (InstC W1 wkP (.agg #[.int .i64 1, .int .i64 0, .slice none 0 0, .slice (some ⟨p + 1 + 1, 0, none⟩) 2 2, .int .i64 0, .slice none 0 0])) := ⟨none, 0, some ⟨p + 1 + 1, 0, none⟩, 2, none, 0, rfl, Kd.C_nil _ _, Nat.le_refl _, C_rows (r1 := [1, 2]) (r2 := [3, 4]) X3 (Nat.le_refl _) (Nat.le_refl _) (C_two X1) (C_two X2), Nat.le_refl _, Kd.C_nil _ _, Nat.le_refl _⟩
 rw [← hp]
 clear hW1 hp X1 X2 X3
 obtain ⟨e0, e1, e2, e3, e4, e5, _⟩ := six X4.out (Below.refl _ _)
 go_wp2_with fail
 clear e0 e1 e2 e3 e4 e5
 have A2 : Aside0 ((Kd.int .i64).C (W1.alloc (.cells #[.int .i64 1, .int .i64 0] 3)) (some ⟨W1.heap.size, 0, none⟩) 2 [1, 0] ∧ Below W1.heap.size W1 (W1.alloc (.cells #[.int .i64 1, .int .i64 0] 3))) := ⟨C_two (heap_alloc_new _ _), below_alloc (Below.refl _ _) _⟩
 generalize (W1.alloc (.cells #[.int .i64 1, .int .i64 0] 3)) = W2 at *
 refine (value_any W2 wkP _ (IC.out.below A2.out.2) wk_ok _ 2 2 [1, 0] A2.out.1 (by decide) 5 0 wk_v1).mono ?_
 rintro _ W3 ⟨rfl, HV⟩
 have B3 : Aside0 (Below W1.heap.size W1 W3) := ⟨A2.out.2.trans (HV.out.mono A2.out.2.size)⟩
 clear HV A2
 obtain ⟨e0, e1, e2, e3, e4, e5, _⟩ := six X4.out B3.out
 go_wp2_with fail
 clear e0 e1 e2 e3 e4 e5
 have A4 : Aside0 ((Kd.int .i64).C (W3.alloc (.cells #[.int .i64 1, .int .i64 1] 3)) (some ⟨W3.heap.size, 0, none⟩) 2 [1, 1] ∧ Below W1.heap.size W1 (W3.alloc (.cells #[.int .i64 1, .int .i64 1] 3))) := ⟨C_two (heap_alloc_new _ _), below_alloc B3.out _⟩
 generalize (W3.alloc (.cells #[.int .i64 1, .int .i64 1] 3)) = W4 at *
 refine (value_any W4 wkP _ (IC.out.below A4.out.2) wk_ok _ 2 2 [1, 1] A4.out.1 (by decide) 0 12 wk_v2).mono ?_
 rintro _ W5 ⟨rfl, HV⟩
 have B5 : Aside0 (Below w.heap.size w W5) := ⟨B1.out.trans ((A4.out.2.trans (HV.out.mono A4.out.2.size)).mono B1.out.size)⟩
 clear HV A4 B3 B1 IC X4
 go_wp2_with fail
 refine (better_any _ 0 2 1 true (by decide)).mono ?_
 rintro _ _ ⟨rfl, rfl⟩
 go_wp2_with fail
 refine (better_any _ 3 1 2 true (by decide)).mono ?_
 rintro _ _ ⟨rfl, rfl⟩
 go_wp2_with fail
 have X6 := heap_alloc_new W5 (.cells #[.int .i64 1, .int .i64 0] 3)
 have B6 : Aside0 (Below w.heap.size w (W5.alloc (.cells #[.int .i64 1, .int .i64 0] 3))) := ⟨below_alloc B5.out _⟩
 generalize (W5.alloc (.cells #[.int .i64 1, .int .i64 0] 3)) = W6 at *
 refine (text_any W6 _ X6).mono ?_
 rintro _ W7 ⟨rfl, B7⟩
 have B8 := Aside0.mk (B6.out.trans (B7.mono B6.out.size))
 clear B7 X6
 go_wp2_with fail
 go_ret
 exact ⟨rfl, B8.out⟩
end Go.Proofs.YtlilfgfkedlbcaaDoor.Hand
end
section
namespace Go.Proofs.YtlilfgfkedlbcaaDoor.Hand
open Go.RowKit Go.Proofs.YtlilfgfkedlbcaaDoorW.PrintWords Go.Proofs.YtlilfgfkedlbcaaDoorW.PrintLast Go.Proofs.YtlilfgfkedlbcaaDoorW.PrintMore Go.Proofs.YtlilfgfkedlbcaaDoor.PEvalBetter
def Two2 (w : World) (g : Nat) : Prop := ∀ k, k < 2 → ∃ A n c l, w.cell? ⟨g, k, none⟩ = some (.slice A n c) ∧ (Kd.int .i64).C w A n l ∧ n ≤ 4096
theorem Two2.of {w : World} {g n1 c1 n2 c2 t : Nat} {A1 A2 : Option Addr} {l1 l2 : List Int} (h : w.heap[g]? = some (.cells #[.slice A1 n1 c1, .slice A2 n2 c2] t (0, 0))) (h1 : (Kd.int .i64).C w A1 n1 l1) (hn1 : n1 ≤ 4096) (h2 : (Kd.int .i64).C w A2 n2 l2) (hn2 : n2 ≤ 4096) : Two2 w g := fun k hk => by
 match k, hk with
 | 0, _ => exact ⟨A1, n1, c1, l1, (blk_cell h 0).trans rfl, h1, hn1⟩
 | 1, _ => exact ⟨A2, n2, c2, l2, (blk_cell h 1).trans rfl, h2, hn2⟩
theorem Two2.below {w w1 : World} {g : Nat} (h : Two2 w g) (hb : Below w.heap.size w w1) : Two2 w1 g := fun k hk => by
 obtain ⟨A, n, c, l, h1, h2, h3⟩ := h k hk
 exact ⟨A, n, c, l, pw_cell_below hb h1, Kd.C_below h2 hb, h3⟩
def ans2P (w : World) (e : Ending) (w' : World) : Prop := ∃ g, e = .returned (.slice (some ⟨g, 0, none⟩) 2 2) ∧ Two2 w' g ∧ Below w.heap.size w w'
theorem answers2_any (w : World) (x : PI) (v : Value) (h : InstC w x v) (hx : x.items.length ≤ 40 ∧ x.cost.length ≤ 70 ∧ x.sets.length ≤ 40) (A : Option Addr) (n c : Nat) (xs : List Int) (hC : (Kd.int .i64).C w A n xs) (hn : n ≤ 17592186044416) (hnc : n ≤ c) :
  Calls Tryd.prog 7 #[.slice A n c, v] w (ans2P w) :=
 (answers_any w x v h hx.1 hx.2.1 hx.2.2 A n c xs hC hn hnc).mono fun _ _ ⟨g, _, _, _, _, _, _, _, _, e, h1, h2, h3, h4, h5, h6⟩ => ⟨g, e, Two2.of h1 h2 h3 h4 h5, h6⟩
set_option maxHeartbeats 4000000 in
set_option maxRecDepth 100000 in
theorem better_law (w : World) (x : PI) (v : Value) (h : InstC w x v) (hx : PIok x) (A1 A2 : Option Addr) (n1 c1 n2 c2 : Nat) (ys zs : List Int) (hy : (Kd.int .i64).C w A1 n1 ys) (hy1 : n1 ≤ 17592186044416) (hy2 : n1 ≤ c1) (hz : (Kd.int .i64).C w A2 n2 zs) (hz1 : n2 ≤ 17592186044416) (hz2 : n2 ≤ c2) :
  Calls Tryd.prog 3 #[v, .slice A1 n1 c1, .slice A2 n2 c2] w fun e w' => e = .returned (.bool true) ∧ Below w.heap.size w w' := by
 have HI := Aside0.mk h
 have HX := Aside0.mk hx
 have HY := Aside0.mk (And.intro hy (And.intro hy1 hy2))
 have HZ := Aside0.mk (And.intro hz (And.intro hz1 hz2))
 clear hy hy1 hy2 hz hz1 hz2
 obtain ⟨A2x, c2x, A3x, c3x, A5x, c5x, rfl, h2, l2, h3, l3, h5, l5⟩ := h
 clear h2 h3 h5 l2 l3 l5 hx
 have hu26 := Tryd.underlying26
 have hu32 := Tryd.underlying32
 have hu35 := Tryd.underlying35
 go_enter Tryd.func3, Tryd.ntmps3
 go_wp2_with fail
 obtain ⟨W1, hW1⟩ : ∃ W, W = w.alloc (.cells #[.int .i64 x.kind, .int .i64 x.cap, .slice A2x x.items.length c2x, .slice A3x x.cost.length c3x, .int .i64 x.size, .slice A5x x.sets.length c5x] 26) := ⟨_, rfl⟩
 rw [← hW1]
 have B1 : Aside0 (Below w.heap.size w W1) := ⟨by rw [hW1]; exact below_alloc (Below.refl _ _) _⟩
 clear hW1
 refine (tame_any W1 x _ 9 (HI.out.below B1.out) HX.out (by decide) (by decide)).mono ?_
 rintro _ W3 ⟨va, rfl, ⟨y, iy, TP, B3'⟩⟩
 have B3 := Aside0.mk (B1.out.trans (B3'.mono B1.out.size))
 have IY := Aside0.mk iy.c
 have YO := Aside0.mk (tame_pok TP (by omega))
 have YK : Aside0 (0 ≤ y.kind ∧ y.kind ≤ 3) := ⟨by have := kindT_bd x.kind; rw [← TP.kind] at this; exact this⟩
 clear B3' TP iy
 go_wp2_with fail
 refine (insts_any W3 y _ IY.out YO.out).mono ?_
 rintro _ W4 ⟨vc, vd, rfl, ⟨ic, id_, B4'⟩⟩
 have B4 := Aside0.mk (B3.out.trans (B4'.mono B3.out.size))
 have CO := Aside0.mk (cutI_ok y)
 have CL := Aside0.mk (cutI_len y)
 have YK' : Aside0 (0 ≤ (cutI y).kind ∧ (cutI y).kind ≤ 3) := YK
 obtain ⟨yc, hyc⟩ : ∃ z, z = cutI y := ⟨_, rfl⟩
 rw [← hyc] at ic id_ CO CL YK'
 have IC := Aside0.mk ic
 have ID := Aside0.mk id_
 clear B4' hyc YK
 obtain ⟨A2c, c2c, A3c, c3c, A5c, c5c, rfl, _⟩ := ic
 obtain ⟨A2d, c2d, A3d, c3d, A5d, c5d, rfl, _⟩ := id_
 go_upto_region 2 with fail
 have B5 : Aside0 (Below W4.heap.size W4 ((W4.alloc (.cells #[.int .i64 yc.kind, .int .i64 yc.cap, .slice A2c yc.items.length c2c, .slice A3c yc.cost.length c3c, .int .i64 yc.size, .slice A5c yc.sets.length c5c] 32)).alloc (.cells #[.int .i64 yc.kind, .int .i64 yc.cap, .slice A2d yc.items.length c2d, .slice A3d yc.cost.length c3d, .int .i64 yc.size, .slice A5d yc.sets.length c5d] 35))) := ⟨below_alloc (below_alloc (Below.refl _ _) _) _⟩
 obtain ⟨W5, hW5⟩ : ∃ W, W = (W4.alloc (.cells #[.int .i64 yc.kind, .int .i64 yc.cap, .slice A2c yc.items.length c2c, .slice A3c yc.cost.length c3c, .int .i64 yc.size, .slice A5c yc.sets.length c5c] 32)).alloc (.cells #[.int .i64 yc.kind, .int .i64 yc.cap, .slice A2d yc.items.length c2d, .slice A3d yc.cost.length c3d, .int .i64 yc.size, .slice A5d yc.sets.length c5d] 35) := ⟨_, rfl⟩
 rw [← hW5] at B5 ⊢
 obtain ⟨p5, hp5⟩ : ∃ p, p = W4.heap.size := ⟨_, rfl⟩
 rw [← hp5]
 have Q5 : Aside0 (W5.heap[p5]? = some (.cells #[.int .i64 yc.kind, .int .i64 yc.cap, .slice A2c yc.items.length c2c, .slice A3c yc.cost.length c3c, .int .i64 yc.size, .slice A5c yc.sets.length c5c] 32 (0, 0)) ∧ W5.heap[p5 + 1]? = some (.cells #[.int .i64 yc.kind, .int .i64 yc.cap, .slice A2d yc.items.length c2d, .slice A3d yc.cost.length c3d, .int .i64 yc.size, .slice A5d yc.sets.length c5d] 35 (0, 0))) := ⟨by
  rw [hW5, hp5]
  constructor
  all_goals
   simp only [al_get, al_size]
   repeat (first | rw [if_pos trivial] | rw [if_neg (by omega)])⟩
 have B25 := Aside0.mk (B4.out.trans (B5.out.mono B4.out.size))
 have IC5 := Aside0.mk (IC.out.below B5.out)
 have ID5 := Aside0.mk (ID.out.below B5.out)
 clear hW5 hp5 B5 B4 B3 B1 IC ID IY YO
 obtain ⟨e0, e1, e2, e3, e4, e5, _⟩ := six Q5.out.2 (Below.refl _ _)
 go_wp2_with fail
 clear e0 e1 e2 e3 e4 e5
 refine (answers2_any W5 yc _ ID5.out CL.out A1 n1 c1 ys (Kd.C_below HY.out.1 B25.out) HY.out.2.1 HY.out.2.2).mono ?_
 rintro _ W6 ⟨g, rfl, TG, B6'⟩
 have HG := Aside0.mk TG
 have B6 := Aside0.mk B6'
 clear TG B6'
 go_wp2_with fail
 go_loopw [31] (fun v31 wr => ∃ k : Nat, k ≤ 2 ∧ v31 = .int .i64 (k : Int) ∧ Aside0 (Below W6.heap.size W6 wr)) (fun v31 _ => 2 - (intOf v31).toNat)
 case atStart => exact ⟨0, by omega, rfl, ⟨Below.refl _ _⟩⟩
 case round =>
  obtain ⟨k, hk, rfl, KB⟩ := hrel
  have B5k : Aside0 (Below W5.heap.size W5 wr) := ⟨B6.out.trans (KB.out.mono B6.out.size)⟩
  by_cases hlt : k < 2
  ·obtain ⟨AP, nP, cP, lP, cp, CP', hnP⟩ := HG.out.below KB.out k hlt
   have CP := Aside0.mk CP'
   clear CP'
   obtain ⟨e0, e1, e2, e3, e4, e5, _⟩ := six Q5.out.2 B5k.out
   go_wp2_with fail
   clear e0 e1 e2 e3 e4 e5 cp
   refine (answers2_any wr yc _ (ID5.out.below B5k.out) CL.out A2 n2 c2 zs (Kd.C_below (Kd.C_below HZ.out.1 B25.out) B5k.out) HZ.out.2.1 HZ.out.2.2).mono ?_
   rintro _ W8 ⟨g2, rfl, TG2, B8'⟩
   have HG2 := Aside0.mk TG2
   have B8 : Aside0 (Below W5.heap.size W5 W8) := ⟨B5k.out.trans (B8'.mono B5k.out.size)⟩
   have K8 : Aside0 (Below W6.heap.size W6 W8) := ⟨KB.out.trans (B8'.mono KB.out.size)⟩
   have CP8 := Aside0.mk (Kd.C_below CP.out B8')
   clear TG2 B8' CP B5k KB
   go_wp2_with fail
   go_loopw [39] (fun v39 wr => ∃ k2 : Nat, k2 ≤ 2 ∧ v39 = .int .i64 (k2 : Int) ∧ Aside0 (Below W8.heap.size W8 wr)) (fun v39 _ => 2 - (intOf v39).toNat)
   case atStart => exact ⟨0, by omega, rfl, ⟨Below.refl _ _⟩⟩
   case round =>
    obtain ⟨k2, hk2, rfl, LB⟩ := hrel
    have B5l : Aside0 (Below W5.heap.size W5 wr) := ⟨B8.out.trans (LB.out.mono B8.out.size)⟩
    have K6l : Aside0 (Below W6.heap.size W6 wr) := ⟨K8.out.trans (LB.out.mono K8.out.size)⟩
    by_cases hlt2 : k2 < 2
    ·obtain ⟨AQ, nQ, cQ, lQ, cq, CQ', hnQ⟩ := HG2.out.below LB.out k2 hlt2
     have CQ := Aside0.mk CQ'
     have CPl := Aside0.mk (Kd.C_below CP8.out LB.out)
     clear CQ'
     obtain ⟨z1, hz1⟩ : ∃ z, z = (valP yc lP).1 := ⟨_, rfl⟩
     obtain ⟨f1, hf1⟩ : ∃ z, z = (valP yc lP).2 := ⟨_, rfl⟩
     obtain ⟨z2, hz2⟩ : ∃ z, z = (valP yc lQ).1 := ⟨_, rfl⟩
     obtain ⟨f2, hf2⟩ : ∃ z, z = (valP yc lQ).2 := ⟨_, rfl⟩
     obtain ⟨d1, hd1⟩ : ∃ z, z = (cosP yc lP).1 := ⟨_, rfl⟩
     obtain ⟨d2, hd2⟩ : ∃ z, z = (cosP yc lQ).1 := ⟨_, rfl⟩
     have VP : Aside0 ((z1, f1) = valP yc lP) := ⟨by rw [hz1, hf1]⟩
     have VQ : Aside0 ((z2, f2) = valP yc lQ) := ⟨by rw [hz2, hf2]⟩
     have KP : Aside0 ((d1, f1) = cosP yc lP) := ⟨by rw [hd1, hf1]; rfl⟩
     have KQ : Aside0 ((d2, f2) = cosP yc lQ) := ⟨by rw [hd2, hf2]; rfl⟩
     obtain ⟨bt, hbt⟩ : ∃ b : Bool, b = decide (d1 < d2) := ⟨_, rfl⟩
     have BT : Aside0 (bt = betP yc.kind z1 z2) := ⟨by rw [hbt, hd1, hd2, hz1, hz2, bet_cos yc YK'.out]⟩
     have HBT := Aside0.mk hbt
     clear hz1 hf1 hz2 hf2 hd1 hd2 hbt
     obtain ⟨e0, e1, e2, e3, e4, e5, _⟩ := six Q5.out.1 B5l.out
     go_wp2_with fail
     clear e0 e1 e2 e3 e4 e5 cq
     refine (value_any wr yc _ (IC5.out.below B5l.out) CO.out AP nP cP lP CPl.out (by omega) z1 f1 VP.out).mono ?_
     rintro _ U1 ⟨rfl, HU1⟩
     have L1 : Aside0 (Below wr.heap.size wr U1) := ⟨HU1.out⟩
     clear HU1
     obtain ⟨e0, e1, e2, e3, e4, e5, _⟩ := six Q5.out.1 (B5l.out.trans (L1.out.mono B5l.out.size))
     go_wp2_with fail
     clear e0 e1 e2 e3 e4 e5
     refine (value_any U1 yc _ (IC5.out.below (B5l.out.trans (L1.out.mono B5l.out.size))) CO.out AQ nQ cQ lQ (Kd.C_below CQ.out L1.out) (by omega) z2 f2 VQ.out).mono ?_
     rintro _ U2 ⟨rfl, HU2⟩
     have L2 : Aside0 (Below wr.heap.size wr U2) := ⟨L1.out.trans (HU2.out.mono L1.out.size)⟩
     clear HU2 L1
     obtain ⟨e0, e1, e2, e3, e4, e5, _⟩ := six Q5.out.1 (B5l.out.trans (L2.out.mono B5l.out.size))
     go_wp2_with fail
     clear e0 e1 e2 e3 e4 e5
     refine (cost_any U2 yc _ (IC5.out.below (B5l.out.trans (L2.out.mono B5l.out.size))) CO.out AP nP cP lP (Kd.C_below CPl.out L2.out) (by omega) d1 f1 KP.out).mono ?_
     rintro _ U3 ⟨rfl, HU3⟩
     have L3 : Aside0 (Below wr.heap.size wr U3) := ⟨L2.out.trans (HU3.out.mono L2.out.size)⟩
     clear HU3 L2
     obtain ⟨e0, e1, e2, e3, e4, e5, _⟩ := six Q5.out.1 (B5l.out.trans (L3.out.mono B5l.out.size))
     go_wp2_with fail
     clear e0 e1 e2 e3 e4 e5
     refine (cost_any U3 yc _ (IC5.out.below (B5l.out.trans (L3.out.mono B5l.out.size))) CO.out AQ nQ cQ lQ (Kd.C_below CQ.out L3.out) (by omega) d2 f2 KQ.out).mono ?_
     rintro _ U4 ⟨rfl, HU4⟩
     have L4 : Aside0 (Below wr.heap.size wr U4) := ⟨L3.out.trans (HU4.out.mono L3.out.size)⟩
     have L8 : Aside0 (Below W8.heap.size W8 U4) := ⟨LB.out.trans (L4.out.mono LB.out.size)⟩
     clear HU4 L3
     obtain ⟨e0, e1, e2, e3, e4, e5, _⟩ := six Q5.out.1 (B5l.out.trans (L4.out.mono B5l.out.size))
     have gf1 : (f1 != f1) = false := by simp
     have gf2 : (f2 != f2) = false := by simp
     by_cases h1 : f1 = 0
     ·by_cases h2 : f2 = 0
      ·have g1 : (f1 == 0) = true := by simpa using h1
       have g2 : (f2 == 0) = true := by simpa using h2
       have hd : decide (d1 < d2) = bt := HBT.out.symm
       have gb : (bt != bt) = false := by simp
       clear h1 h2
       go_wp2_with fail
       refine (better_any _ yc.kind z1 z2 bt BT.out).mono ?_
       rintro _ _ ⟨rfl, rfl⟩
       go_wp2_with fail
       exact ⟨⟨k2 + 1, by omega, by go_num, L8⟩, by simp [intOf]; omega⟩
      ·have g1 : (f1 == 0) = true := by simpa using h1
       have g2 : (f2 == 0) = false := by simpa using h2
       clear h1 h2
       go_wp2_with fail
       exact ⟨⟨k2 + 1, by omega, by go_num, L8⟩, by simp [intOf]; omega⟩
     ·have g1 : (f1 == 0) = false := by simpa using h1
      clear h1
      go_wp2_with fail
      exact ⟨⟨k2 + 1, by omega, by go_num, L8⟩, by simp [intOf]; omega⟩
    ·obtain rfl : k2 = 2 := by omega
     go_wp2_with fail
     exact ⟨⟨k + 1, by omega, by go_num, K6l⟩, by simp [intOf]; omega⟩
  ·obtain rfl : k = 2 := by omega
   have BX : Aside0 (Below w.heap.size w wr) := ⟨B25.out.trans (B5k.out.mono B25.out.size)⟩
   go_wp2_with fail
   refine (wakes_any wr).mono ?_
   rintro _ W9 ⟨rfl, B9'⟩
   have B9 := Aside0.mk (BX.out.trans (B9'.mono BX.out.size))
   clear B9'
   go_wp2_with fail
   refine (better_any _ 4 1 2 false (by decide)).mono ?_
   rintro _ _ ⟨rfl, rfl⟩
   go_wp2_with fail
   refine (better_any _ (-1) 2 1 false (by decide)).mono ?_
   rintro _ _ ⟨rfl, rfl⟩
   go_wp2_with fail
   refine (better_any _ 2 (-1) 0 true (by decide)).mono ?_
   rintro _ _ ⟨rfl, rfl⟩
   go_wp2_with fail
   go_ret
   exact ⟨rfl, B9.out⟩
end Go.Proofs.YtlilfgfkedlbcaaDoor.Hand
end
section
namespace Go.Proofs.YtlilfgfkedlbcaaDoor.Hand
open Go.Joins Go.ChangeShapes Go.WideShapes Go.ChangeAt Go.RowKit Go.Deep Go.Proofs.YtlilfgfkedlbcaaDoorW.PrintWords Go.Proofs.YtlilfgfkedlbcaaDoor.PEvalBetter
section
variable {H : Type} {enc : TypeId × Value → H} {P : Program} {w : World} {base : Nat} {spare : Nat → Bool} {held : Bool}
theorem open_agg6 {r : Reach} {b0 : Nat} {t : TypeId} {f0 f1 f2 f3 f4 f5 : Field} {v : Value} {d : DataW H} {p : List MemPlace} (hs : P.underlying t = some (.struct #[f0, f1, f2, f3, f4, f5])) (hone : oneCellFields P #[f0, f1, f2, f3, f4, f5] = true) (hC : P.cellsOf t = 6)
  (hv : Value.okWide P w r b0 t v) (h : DataW.Trod enc P w base spare held t v d p) :
  ∃ (v0 v1 v2 v3 v4 v5 : Value) (y0 y1 y2 y3 y4 y5 : DataW H × List MemPlace) (n : Nat), v = .agg #[v0, v1, v2, v3, v4, v5] ∧ d = .agg [y0.1, y1.1, y2.1, y3.1, y4.1, y5.1] ∧ p = y0.2 ++ (y1.2 ++ (y2.2 ++ (y3.2 ++ (y4.2 ++ y5.2)))) ∧
   DataW.trod enc P w base spare held n f0.type [v0] = some y0 ∧ DataW.trod enc P w base spare held n f1.type [v1] = some y1 ∧ DataW.trod enc P w base spare held n f2.type [v2] = some y2 ∧ DataW.trod enc P w base spare held n f3.type [v3] = some y3 ∧ DataW.trod enc P w base spare held n f4.type [v4] = some y4 ∧ DataW.trod enc P w base spare held n f5.type [v5] = some y5 := by
 obtain ⟨cs, rfl, hsz⟩ := okWide_struct hs hv
 obtain ⟨l⟩ := cs
 match l, hsz.trans hC with
 | [c0, c1, c2, c3, c4, c5], _ =>
  obtain ⟨fuel, hf⟩ := h
  obtain ⟨xs, n, _, hx, _, hlen, hg⟩ := DataW.trod_struct hs hf
  obtain ⟨o0, k0⟩ := hone_of hone 0 f0 rfl
  obtain ⟨o1, k1⟩ := hone_of hone 1 f1 rfl
  obtain ⟨o2, k2⟩ := hone_of hone 2 f2 rfl
  obtain ⟨o3, k3⟩ := hone_of hone 3 f3 rfl
  obtain ⟨o4, k4⟩ := hone_of hone 4 f4 rfl
  obtain ⟨o5, k5⟩ := hone_of hone 5 f5 rfl
  match xs, hlen with
  | [y0, y1, y2, y3, y4, y5], _ =>
   simp only [Prod.mk.injEq] at hx
   exact ⟨c0, c1, c2, c3, c4, c5, y0, y1, y2, y3, y4, y5, n, rfl, by simpa using hx.1, by simpa using hx.2, by simpa [Value.cells, o0, k0] using hg 0 f0 rfl, by simpa [Value.cells, o1, k1] using hg 1 f1 rfl, by simpa [Value.cells, o2, k2] using hg 2 f2 rfl, by simpa [Value.cells, o3, k3] using hg 3 f3 rfl, by simpa [Value.cells, o4, k4] using hg 4 f4 rfl, by simpa [Value.cells, o5, k5] using hg 5 f5 rfl⟩
end
section
variable {H : Type} {enc : TypeId × Value → H} {w : World} {spare : Nat → Bool} {held : Bool}
theorem int_at {t : TypeId} {k : IntKind} {n : Nat} {v : Value} {y : DataW H × List MemPlace} (ht : Tryd.prog.underlying t = some (.int k)) (h : DataW.trod enc Tryd.prog w 0 spare held n t [v] = some y) : ∃ x, v = .int k x ∧ (Lit.int k x).wf = true := by
 obtain ⟨x, hx, _, hw⟩ := DataW.trod_int ht h
 simp at hx
 exact ⟨x, hx, hw⟩
theorem row_at {t e : TypeId} {k : IntKind} {n : Nat} {v : Value} {y : DataW H × List MemPlace} (ht : Tryd.prog.underlying t = some (.slice e)) (he : Tryd.prog.underlying e = some (.int k)) (hc : Tryd.prog.cellsOf e = 1)
  (h : DataW.trod enc Tryd.prog w 0 spare held n t [v] = some y) : ∃ (A : Option Addr) (c : Nat) (l : List Int), v = .slice A l.length c ∧ l.length ≤ c ∧ Kd.C (Kd.int k) w A l.length l ∧
   (∀ x ∈ l, (Lit.int k x).wf = true) ∧ ∀ B, Tryd.prog.bytesOf e = B → (∀ m ∈ y.1.weights Tryd.prog t, m ≤ reachBytes) → l.length * B ≤ reachBytes := by
 rcases open_ints ht he hc h with ⟨hcs, hy⟩ | ⟨a, len, cap, zs, hcs, _, hl, hm, hz, hy, hcell, hwf⟩
 ·simp at hcs
  subst hcs
  refine ⟨none, 0, [], rfl, Nat.le_refl _, Kd.C_nil _ _, by simp, fun B _ _ => by simp⟩
 ·simp at hcs
  subst hcs
  have hlz : len ≤ zs.length := by rw [hz]; split <;> omega
  have hlen : (zs.take len).length = len := by rw [List.length_take]; omega
  refine ⟨some a, cap, zs.take len, by rw [hlen], by rw [hlen]; exact hl, ?_, fun x hx => hwf x (List.mem_of_mem_take hx), ?_⟩
  ·refine Kd.C_of_reads (d := (0 : Int)) (h1 := fun _ => rfl) (show ReadsInt w k _ _ _ from ⟨rfl, by have hmx : maxLen = 9223372036854775807 := rfl; rw [hlen]; omega, fun _ => ⟨_, rfl, fun j hj => ?_⟩⟩)
   rw [hlen] at hj
   rw [hcell j (by omega)]
   have e : zs.getD j 0 = (zs.take len).getD j 0 := by
    rw [List.getD_eq_getElem?_getD, List.getD_eq_getElem?_getD, List.getElem?_take_of_lt hj]
   rw [e]
  ·intro B hB hw
   subst hy
   have h1 : (lits (H := H) k (zs.take len)).length + (lits (H := H) k (zs.drop len)).length = zs.length := by
    simp [lits]
    omega
   have z := hw (zs.length * B) (by
    simp only [DataW.weights, ht, hB]
    rw [h1]
    exact List.mem_cons_self ..)
   rw [hlen]
   exact Nat.le_trans (Nat.mul_le_mul_right _ hlz) z
end
theorem mem_all {H : Type} {P : Program} {e : TypeId} {d : DataW H} {m : Nat} (hm : m ∈ d.weights P e) : ∀ {l : List (DataW H)}, d ∈ l → m ∈ DataW.weightsAll P e l
 | [], h => by cases h
 | x :: l, h => by
  simp only [DataW.weightsAll, List.mem_append]
  rcases List.mem_cons.1 h with rfl | h
  ·exact .inl hm
  ·exact .inr (mem_all hm h)
theorem list_of {α : Type} {Q : Nat → α → Prop} : ∀ (n : Nat), (∀ i, i < n → ∃ x, Q i x) → ∃ l : List α, l.length = n ∧ ∀ i x, l[i]? = some x → Q i x
 | 0, _ => ⟨[], rfl, fun i x h => by simp at h⟩
 | n + 1, h => by
  obtain ⟨l, hl, hq⟩ := list_of n (fun i hi => h i (Nat.lt_succ_of_lt hi))
  obtain ⟨x, hx⟩ := h n (Nat.lt_succ_self n)
  refine ⟨l ++ [x], by simp [hl], fun i y hy => ?_⟩
  rcases Nat.lt_or_ge i l.length with h1 | h1
  ·rw [List.getElem?_append_left h1] at hy
   exact hq i y hy
  ·rw [List.getElem?_append_right h1] at hy
   have h2 : i - l.length = 0 := by
    have := (List.getElem?_eq_some_iff.1 hy).1
    simpa using this
   rw [h2] at hy
   simp at hy
   subst hy
   have : i = n := by omega
   rw [this]
   exact hx
section
variable {H : Type} {enc : TypeId × Value → H} {w : World} {spare : Nat → Bool} {held : Bool}
theorem slice_at {α : Type} (d : Kd α) {Ok : α → Prop} {t e B : TypeId} {n : Nat} {v : Value} {y : DataW H × List MemPlace} (ht : Tryd.prog.underlying t = some (.slice e)) (hC : Tryd.prog.cellsOf e = d.sz) (hb : Tryd.prog.bytesOf e = B)
  (hel : ∀ (n : Nat) (cs : List Value) (z : DataW H × List MemPlace), cs.length = d.sz → DataW.trod enc Tryd.prog w 0 spare held n e cs = some z → (∀ m ∈ z.1.weights Tryd.prog e, m ≤ reachBytes) → ∃ x, d.K w x cs ∧ Ok x)
  (h : DataW.trod enc Tryd.prog w 0 spare held n t [v] = some y) (hw : ∀ m ∈ y.1.weights Tryd.prog t, m ≤ reachBytes) :
  ∃ (A : Option Addr) (c : Nat) (l : List α), v = .slice A l.length c ∧ l.length ≤ c ∧ d.C w A l.length l ∧ (∀ x ∈ l, Ok x) ∧ l.length * B ≤ reachBytes := by
 rcases open_slice ht h with ⟨hcs, hy⟩ | ⟨a, len, cap, m, n', D, Pl, hcs, _, hl, hm, hmm, hx, hi⟩
 ·simp at hcs
  subst hcs
  exact ⟨none, 0, [], rfl, Nat.le_refl _, Kd.C_nil _ _, by simp, by simp⟩
 ·simp at hcs
  subst hcs
  have hlm : len ≤ m := by rw [hmm]; split <;> omega
  subst hx
  have hwlen : len * B ≤ reachBytes := by
   have z := hw ((((List.range len).map D).length + ((List.range (m - len)).map fun j => D (len + j)).length) * B) (by
    simp only [DataW.weights, ht, hb]
    exact List.mem_cons_self ..)
   refine Nat.le_trans (Nat.mul_le_mul_right _ ?_) z
   simp
  have hwall : ∀ i, i < len → ∀ q ∈ (D i).weights Tryd.prog e, q ≤ reachBytes := fun i hi q hq => hw q (by
   simp only [DataW.weights, ht]
   refine List.mem_cons_of_mem _ (List.mem_append_left _ (mem_all hq ?_))
   exact List.mem_map.2 ⟨i, List.mem_range.2 hi, rfl⟩)
  obtain ⟨l, hlen, hq⟩ := list_of (α := α) (Q := fun i x => Ok x ∧ ∃ cs : List Value, cs.length = d.sz ∧ d.K w x cs ∧ ∀ j u, cs[j]? = some u → w.cell? (a.add (i * d.sz + j)) = some u) len (fun i hi' => by
   obtain ⟨cs', hc, ht'⟩ := hi i (by omega)
   rw [hC] at hc
   obtain ⟨_, hcl, hat⟩ := World.cells?_some hc
   obtain ⟨x, hK, hok⟩ := hel _ cs' _ hcl ht' (hwall i hi')
   refine ⟨x, hok, cs', hcl, hK, fun j u hu => ?_⟩
   have hj : j < d.sz := by
    have := (List.getElem?_eq_some_iff.1 hu).1
    omega
   rw [← Go.Deep.add_add, hat j hj, hu])
  have hmx : maxLen = 9223372036854775807 := rfl
  refine ⟨some a, cap, l, by rw [hlen], by rw [hlen]; exact hl, ⟨rfl, by omega, fun _ => ⟨a, rfl, fun j p hp => ?_⟩⟩, fun x hx => ?_, by rw [hlen]; exact hwlen⟩
  ·obtain ⟨_, cs, h6, hK, hcell⟩ := hq j p hp
   exact ⟨cs, h6, hK, hcell⟩
  ·obtain ⟨i, hi⟩ := List.getElem?_of_mem hx
   exact (hq i x hi).1
set_option maxRecDepth 100000 in
theorem items_at {n : Nat} {v : Value} {y : DataW H × List MemPlace} (h : DataW.trod enc Tryd.prog w 0 spare held n 22 [v] = some y) (hw : ∀ m ∈ y.1.weights Tryd.prog 22, m ≤ reachBytes) :
  ∃ (A : Option Addr) (c : Nat) (l : List S55), v = .slice A l.length c ∧ l.length ≤ c ∧ k55.C w A l.length l ∧ (∀ _x ∈ l, True) ∧ l.length * 16 ≤ reachBytes := by
 refine slice_at k55 (Ok := fun _ => True) Tryd.underlying22 (by kernel_rfl) (by kernel_rfl) (fun m cs z hcl ht _ => ?_) h hw
 match cs, hcl with
 | [c0, c1], _ =>
  obtain ⟨xs, m', _, hx, _, hlen, hg⟩ := DataW.trod_array Tryd.underlying53 ht
  match xs, hlen with
  | [y0, y1], _ =>
   have g0 := hg 0 (by omega)
   have g1 := hg 1 (by omega)
   have hc : Tryd.prog.cellsOf 2 = 1 := by kernel_rfl
   rw [hc] at g0 g1
   have g0' : DataW.trod enc Tryd.prog w 0 spare held m' 2 [c0] = some y0 := g0
   have g1' : DataW.trod enc Tryd.prog w 0 spare held m' 2 [c1] = some y1 := g1
   obtain ⟨x0, e0, _, _⟩ := DataW.trod_int Tryd.underlying2 g0'
   obtain ⟨x1, e1, _, _⟩ := DataW.trod_int Tryd.underlying2 g1'
   simp at e0 e1
   subst e0 e1
   exact ⟨⟨x0, x1⟩, k55_mk w _, trivial⟩
set_option maxRecDepth 100000 in
theorem cost_at {n : Nat} {v : Value} {y : DataW H × List MemPlace} (h : DataW.trod enc Tryd.prog w 0 spare held n 23 [v] = some y) (hw : ∀ m ∈ y.1.weights Tryd.prog 23, m ≤ reachBytes) :
  ∃ (A : Option Addr) (c : Nat) (l : List (List Int)), v = .slice A l.length c ∧ l.length ≤ c ∧ (Kd.slice 2 (Kd.int .i64)).C w A l.length l ∧ (∀ r ∈ l, r.length ≤ 17592186044416) ∧ l.length * 24 ≤ reachBytes := by
 refine slice_at (Kd.slice 2 (Kd.int .i64)) (Ok := fun r => r.length ≤ 17592186044416) Tryd.underlying23 (by kernel_rfl) (by kernel_rfl) (fun m cs z hcl ht hz => ?_) h hw
 match cs, hcl with
 | [c0], _ =>
  obtain ⟨A, c, l, rfl, hl, hC, _, hB⟩ := row_at Tryd.underlying56 Tryd.underlying2 (by kernel_rfl) ht
  have z := hB 8 (by kernel_rfl) hz
  have hr : reachBytes = 140737488355328 - 4096 := rfl
  exact ⟨l, ⟨A, c, rfl, hl, hC⟩, by omega⟩
set_option maxRecDepth 100000 in
theorem sets_at {n : Nat} {v : Value} {y : DataW H × List MemPlace} (h : DataW.trod enc Tryd.prog w 0 spare held n 24 [v] = some y) (hw : ∀ m ∈ y.1.weights Tryd.prog 24, m ≤ reachBytes) :
  ∃ (A : Option Addr) (c : Nat) (l : List S59), v = .slice A l.length c ∧ l.length ≤ c ∧ k59.C w A l.length l ∧ (∀ s ∈ l, s.f1.length ≤ 17592186044416) ∧ l.length * 32 ≤ reachBytes := by
 refine slice_at k59 (Ok := fun s => s.f1.length ≤ 17592186044416) Tryd.underlying24 (by kernel_rfl) (by kernel_rfl) (fun m cs z hcl ht hz => ?_) h hw
 match cs, hcl with
 | [c0, c1], _ =>
  obtain ⟨ys, n', _, hy, _, hyl, hf⟩ := DataW.trod_struct Tryd.underlying58 ht
  match ys, hyl with
  | [y0, y1], _ =>
   have t0 : DataW.trod enc Tryd.prog w 0 spare held n' 2 [c0] = some y0 := hf 0 _ rfl
   have t1 : DataW.trod enc Tryd.prog w 0 spare held n' 27 [c1] = some y1 := hf 1 _ rfl
   obtain ⟨u, rfl, _⟩ := int_at Tryd.underlying2 t0
   obtain ⟨A, c, l, rfl, hl, hC, _, hB⟩ := row_at Tryd.underlying27 Tryd.underlying3 (by kernel_rfl) t1
   have z := hB 8 (by kernel_rfl) (fun m hm => hz m (by
    rw [congrArg Prod.fst hy]
    simp only [DataW.weights, Tryd.underlying58, DataW.weightsEach, List.map_cons, List.map_nil, List.mem_append]
    exact .inr (.inl hm)))
   have hr : reachBytes = 140737488355328 - 4096 := rfl
   exact ⟨⟨u, l⟩, k59_mk w ⟨u, l⟩ hl hC, by show l.length ≤ _; omega⟩
set_option maxRecDepth 100000 in
theorem inst_at {r : Reach} {b0 : Nat} {v : Value} {d : DataW H} {p : List MemPlace} (hv : Value.okWide Tryd.prog w r b0 26 v) (h : DataW.Trod enc Tryd.prog w 0 spare held 26 v d p) (hw : ∀ m ∈ d.weights Tryd.prog 26, m ≤ reachBytes) : ∃ x : PI, InstC w x v ∧ PIok x := by
 obtain ⟨x0, x1, x2, x3, x4, x5, y0, y1, y2, y3, y4, y5, n, rfl, rfl, rfl, g0, g1, g2, g3, g4, g5⟩ := open_agg6 Tryd.underlying26 (by kernel_rfl) (by kernel_rfl) hv h
 obtain ⟨k, rfl, _⟩ := int_at Tryd.underlying3 g0
 obtain ⟨cp, rfl, _⟩ := int_at Tryd.underlying2 g1
 obtain ⟨A2, c2, l2, rfl, b2, C2, _, w2⟩ := items_at g2 (fun m hm => hw m (by
  simp only [DataW.weights, Tryd.underlying26, DataW.weightsEach, List.map_cons, List.map_nil, List.mem_append]
  exact .inr (.inr (.inl hm))))
 obtain ⟨A3, c3, l3, rfl, b3, C3, r3, w3⟩ := cost_at g3 (fun m hm => hw m (by
  simp only [DataW.weights, Tryd.underlying26, DataW.weightsEach, List.map_cons, List.map_nil, List.mem_append]
  exact .inr (.inr (.inr (.inl hm)))))
 obtain ⟨sz, rfl, _⟩ := int_at Tryd.underlying3 g4
 obtain ⟨A5, c5, l5, rfl, b5, C5, r5, w5⟩ := sets_at g5 (fun m hm => hw m (by
  simp only [DataW.weights, Tryd.underlying26, DataW.weightsEach, List.map_cons, List.map_nil, List.mem_append]
  exact .inr (.inr (.inr (.inr (.inr (.inl hm)))))))
 have hr : reachBytes = 140737488355328 - 4096 := rfl
 exact ⟨⟨k, cp, l2, l3, sz, l5⟩, ⟨A2, c2, A3, c3, A5, c5, rfl, C2, b2, C3, b3, C5, b5⟩, by show l2.length ≤ _; omega, by show l3.length ≤ _; omega, by show l5.length ≤ _; omega, r3, r5⟩
end
end Go.Proofs.YtlilfgfkedlbcaaDoor.Hand
end
