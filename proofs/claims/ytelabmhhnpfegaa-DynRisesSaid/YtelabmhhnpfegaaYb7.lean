/- Texts Qo Dx, cut to what is used. -/
import Derived.WalkKit
import Derived.ProofKit
import Derived.OpenShut
import Derived.ShutString
import Derived.ChangeOld
import Derived.Below
import Derived.SizedLaws
import Derived.Lib.SmallJoins
import Derived.ChangeSame
import Derived.Deep.Slices
import Derived.Deep.Fields
import Derived.Test.YtelabmhhnpfegaaYa0
import Derived.Test.YtelabmhhnpfegaaYa3
import Derived.Test.YtelabmhhnpfegaaYb5
import Derived.Test.YtelabmhhnpfegaaYb6
set_option linter.unusedVariables false
set_option linter.unusedSimpArgs false
section
namespace Go.Proofs.Ytelabmhhnpfegaa.Hand
open Go.RowKit Go.Proofs.YtelabmhhnpfegaaW.PrintWords Go.Proofs.YtelabmhhnpfegaaW.PrintLast Go.Proofs.YtelabmhhnpfegaaW.PrintMore Go.Proofs.Ytelabmhhnpfegaa.PDynCells
theorem rises_k0 {y : PI} (l : LightP 12 0 y) : y.kind = 0 ∧ (cellsP y).2 = 0 ∧ 0 ≤ roomP y ∧ roomP y ≤ 468 := by
 have t := l.t
 have hi := tame_iok t (by omega)
 have k0 : y.kind = 0 := t.kind.trans (by decide)
 have h1 := t.items.1
 have hw := wsum_le (c := 39) y.items (fun s hs => by have := l.l s hs; omega)
 have hr : roomP y ≤ 468 := by
  unfold roomP
  split <;> omega
 have hr0 := (room_bd hi).1
 refine ⟨k0, ?_, hr0, hr⟩
 unfold cellsP
 rw [if_pos (iok.2 hi)]
 have hq : qP y ≤ 1048576 := by
  have : qP y = ((y.items.length : Int) + 1) * (roomP y + 1) * 2 ^ 0 := by
   unfold qP aP tP
   rw [if_pos k0, if_pos k0]
  rw [this]
  have := Int.mul_le_mul (a := (y.items.length : Int) + 1) (b := roomP y + 1) (c := 13) (d := 469) (by omega) (by omega) (by omega) (by omega)
  show ((y.items.length : Int) + 1) * (roomP y + 1) * 1 ≤ 1048576
  omega
 rw [if_neg (by omega)]
theorem inst_k0 {w : World} {x : PI} {k : Value} {a b c d e : Value} (h : InstC w x (.agg #[k, a, b, c, d, e])) : InstC w { x with kind := 0 } (.agg #[.int .i64 0, a, b, c, d, e]) := by
 obtain ⟨A2, c2, A3, c3, A5, c5, e', h'⟩ := h
 simp only [Value.agg.injEq, Array.mk.injEq, List.cons.injEq, and_true] at e'
 obtain ⟨_, rfl, rfl, rfl, rfl, rfl⟩ := e'
 exact ⟨A2, c2, A3, c3, A5, c5, rfl, h'⟩
set_option maxHeartbeats 1000000 in
set_option maxRecDepth 100000 in
theorem dynrises_law (w : World) (x : PI) (v : Value) (h : InstC w x v) (hx : PIok x) : Calls Try.prog 11 #[v] w fun e w' => e = .returned (.bool true) ∧ Below w.heap.size w w' := by
 have HI := Aside0.mk h
 have HX := Aside0.mk hx
 obtain ⟨A2x, c2x, A3x, c3x, A5x, c5x, rfl, h2, l2, h3, l3, h5, l5⟩ := h
 clear h2 h3 h5 l2 l3 l5 hx
 have hu47 := Try.underlying47
 have hu54 := Try.underlying54
 have hu57 := Try.underlying57
 have hu86 := Try.underlying86
 go_enter Try.func11, Try.ntmps11
 go_upto_region 1 with fail
 obtain ⟨W1, hW1⟩ : ∃ W, W = w.alloc (.cells #[.int .i64 x.kind, .int .i64 x.cap, .slice A2x x.items.length c2x, .slice A3x x.cost.length c3x, .int .i64 x.size, .slice A5x x.sets.length c5x] 47) := ⟨_, rfl⟩
 rw [← hW1]
 have B1 : Aside0 (Below w.heap.size w W1) := ⟨by rw [hW1]; exact below_alloc (Below.refl _ _) _⟩
 obtain ⟨p1, hp1⟩ : ∃ p, p = w.heap.size := ⟨_, rfl⟩
 rw [← hp1]
 have HP1 : Aside0 (w.heap.size ≤ p1) := ⟨by omega⟩
 have Q1 : Aside0 (W1.heap[p1]? = some (.cells #[.int .i64 x.kind, .int .i64 x.cap, .slice A2x x.items.length c2x, .slice A3x x.cost.length c3x, .int .i64 x.size, .slice A5x x.sets.length c5x] 47 (0, 0))) := ⟨by rw [hW1, hp1]; exact heap_alloc_new _ _⟩
 clear hW1 hp1
 obtain ⟨e0, e1, e2, e3, e4, e5, _⟩ := six Q1.out (Below.refl _ _)
 have z0 : ∀ j, W1.frozen? ⟨p1, j, none⟩ = false := blk_frozen Q1.out
 go_upto_region 2 with fail
 clear e0 e1 e2 e3 e4 e5 z0
 obtain ⟨W2, hW2⟩ : ∃ W, W = W1.setCell ⟨p1, 0, none⟩ (Value.int .i64 0) := ⟨_, rfl⟩
 rw [← hW2]
 have B2 : Aside0 (Below w.heap.size w W2) := ⟨by rw [hW2]; exact B1.out.setCell HP1.out _⟩
 have Q2 : Aside0 (W2.heap[p1]? = some (.cells #[.int .i64 0, .int .i64 x.cap, .slice A2x x.items.length c2x, .slice A3x x.cost.length c3x, .int .i64 x.size, .slice A5x x.sets.length c5x] 47 (0, 0))) := ⟨by rw [hW2]; exact blk_put Q1.out 0 _ rfl⟩
 clear hW2 Q1 B1
 obtain ⟨x0, hx0⟩ : ∃ z : PI, z = { x with kind := 0 } := ⟨_, rfl⟩
 have IX : Aside0 (InstC W2 x0 (.agg #[.int .i64 0, .int .i64 x.cap, .slice A2x x.items.length c2x, .slice A3x x.cost.length c3x, .int .i64 x.size, .slice A5x x.sets.length c5x])) := ⟨by
  rw [hx0]
  exact inst_k0 (HI.out.below B2.out)⟩
 have PX : Aside0 (PIok x0) := ⟨by rw [hx0]; exact ⟨HX.out.items, HX.out.cost, HX.out.sets, HX.out.rows, HX.out.els⟩⟩
 have KX : Aside0 (x0.kind = 0) := ⟨by rw [hx0]⟩
 clear hx0
 obtain ⟨e0, e1, e2, e3, e4, e5, _⟩ := six Q2.out (Below.refl _ _)
 go_wp2_with fail
 clear e0 e1 e2 e3 e4 e5
 refine (light_any W2 x0 _ 12 IX.out PX.out (by decide) (by decide)).mono ?_
 rintro _ W3 ⟨va, rfl, ⟨y, iy, LP', B3'⟩⟩
 rw [KX.out] at LP'
 have B3 := Aside0.mk (B2.out.trans (B3'.mono B2.out.size))
 have IY := Aside0.mk iy.c
 have YI := Aside0.mk (tame_iok LP'.t (by omega))
 have YO := Aside0.mk (tame_pok LP'.t (by omega))
 have YC := Aside0.mk (rises_k0 LP')
 have YL := Aside0.mk LP'.t.items.1
 have CUT := Aside0.mk (cut_tame LP'.t (by omega))
 clear B3' LP' iy
 go_wp2_with fail
 refine (insts_any W3 y _ IY.out YO.out).mono ?_
 rintro _ W4 ⟨vc, vd, rfl, ⟨ic, id_, B4'⟩⟩
 have B4 := Aside0.mk (B3.out.trans (B4'.mono B3.out.size))
 rw [CUT.out] at ic id_
 have IC := Aside0.mk ic
 clear B4' CUT IY
 obtain ⟨aI, c2c, A3c, c3c, A5c, c5c, rfl, hI, _⟩ := ic
 have IT := Aside0.mk hI
 obtain ⟨A2d, c2d, A3d, c3d, A5d, c5d, rfl, _⟩ := id_
 clear hI
 go_upto_region 3 with fail
 have B5 : Aside0 (Below W4.heap.size W4 ((W4.alloc (.cells #[.int .i64 y.kind, .int .i64 y.cap, .slice aI y.items.length c2c, .slice A3c y.cost.length c3c, .int .i64 y.size, .slice A5c y.sets.length c5c] 54)).alloc (.cells #[.int .i64 y.kind, .int .i64 y.cap, .slice A2d y.items.length c2d, .slice A3d y.cost.length c3d, .int .i64 y.size, .slice A5d y.sets.length c5d] 57))) := ⟨below_alloc (below_alloc (Below.refl _ _) _) _⟩
 obtain ⟨W5, hW5⟩ : ∃ W, W = (W4.alloc (.cells #[.int .i64 y.kind, .int .i64 y.cap, .slice aI y.items.length c2c, .slice A3c y.cost.length c3c, .int .i64 y.size, .slice A5c y.sets.length c5c] 54)).alloc (.cells #[.int .i64 y.kind, .int .i64 y.cap, .slice A2d y.items.length c2d, .slice A3d y.cost.length c3d, .int .i64 y.size, .slice A5d y.sets.length c5d] 57) := ⟨_, rfl⟩
 rw [← hW5] at B5 ⊢
 obtain ⟨p5, hp5⟩ : ∃ p, p = W4.heap.size := ⟨_, rfl⟩
 rw [← hp5]
 have Q5 : Aside0 (W5.heap[p5]? = some (.cells #[.int .i64 y.kind, .int .i64 y.cap, .slice aI y.items.length c2c, .slice A3c y.cost.length c3c, .int .i64 y.size, .slice A5c y.sets.length c5c] 54 (0, 0))) := ⟨by
  rw [hW5, hp5]
  simp only [al_get, al_size]
  repeat (first | rw [if_pos trivial] | rw [if_neg (by omega)])⟩
 have B25 := Aside0.mk (B4.out.trans (B5.out.mono B4.out.size))
 have IC5 := Aside0.mk (IC.out.below B5.out)
 have IT5 := Aside0.mk (Kd.C_below IT.out B5.out)
 clear hW5 hp5 B5 B4 B3 IC IT
 obtain ⟨e0, e1, e2, e3, e4, e5, _⟩ := six Q5.out (Below.refl _ _)
 go_wp2_with fail
 clear e0 e1 e2 e3 e4 e5
 refine (front_ok W5 y _ IC5.out YO.out YC.out.2.1 YC.out.1).mono ?_
 rintro _ W6 ⟨aF, cF, rfl, HF⟩
 obtain ⟨R, hR⟩ : ∃ R : Nat, R = (roomP y).toNat := ⟨_, rfl⟩
 have RR : Aside0 ((roomP y + 1).toNat = R + 1) := ⟨by have := YC.out.2.2; omega⟩
 have R468 : R ≤ 468 := by have := YC.out.2.2; omega
 rw [RR.out] at HF ⊢
 obtain ⟨e0, e1, e2, e3, e4, e5, _⟩ := six Q5.out HF.out.2
 go_wp2_with fail
 clear e0 e1 e2 e3 e4 e5
 refine (best_0 W6 y _ (IC5.out.below HF.out.2) YO.out YC.out.2.1 YC.out.1).mono ?_
 rintro _ W7 ⟨vb, rfl, HB⟩
 rw [RR.out, ← hR]
 obtain ⟨L, hL⟩ : ∃ L, L = rowK (R + 1) y.items y.items.length := ⟨_, rfl⟩
 rw [← hL] at HF ⊢
 have LB : Aside0 (∀ i, 0 ≤ L.getD i 0 ∧ L.getD i 0 ≤ 2147483648 * 12) := ⟨fun i => by
  have := rowK_bd (m := R + 1) (fun s hs => (YI.out.items s hs).1) y.items.length i
  have h12 := YL.out
  rw [hL]
  omega⟩
 have RS : Aside0 (∀ a b, a ≤ b → b < R + 1 → L.getD a 0 ≤ L.getD b 0) := ⟨fun a b h1 h2 => by
  rw [hL]
  exact row_rises (fun s hs => (YI.out.items s hs).2) (fun s hs => (YI.out.items s hs).1) h1 h2⟩
 have RL : Aside0 (∀ o : List Nat, o.Perm (List.range y.items.length) → (o.Pairwise fun a b => vOf y.items b * wOf y.items a ≤ vOf y.items a * wOf y.items b) → ∀ r, r < R + 1 → L.getD r 0 ≤ relx (vOf y.items) (wOf y.items) o r 0) := ⟨fun o h1 h2 r h3 => by
  rw [hL]
  exact row_relx (fun s hs => (YI.out.items s hs).2) (fun s hs => (YI.out.items s hs).1) h1 h2 h3⟩
 have HL7 := Aside0.mk (Kd.C_below HF.out.1 HB.out.2)
 have B7 : Aside0 (Below W5.heap.size W5 W7) := ⟨HF.out.2.trans (HB.out.2.mono HF.out.2.size)⟩
 have IG := Aside0.mk YI.out.items
 clear HF HB hL hR RR YC YO YI IC5
 have gz := (LB.out R)
 obtain ⟨z, hz⟩ : ∃ z, z = L.getD R 0 := ⟨_, rfl⟩
 rw [← hz] at gz ⊢
 have HZ := Aside0.mk hz
 have gz1 := gz.1
 have gz2 := gz.2
 clear gz hz
 go_wp2_with fail
 refine (wakes_any W7).mono ?_
 rintro _ W8 ⟨rfl, B8'⟩
 have B8 : Aside0 (Below W5.heap.size W5 W8) := ⟨B7.out.trans (B8'.mono B7.out.size)⟩
 have HL8 := Aside0.mk (Kd.C_below HL7.out B8')
 clear B8' HL7 B7
 obtain ⟨aL, eL, cR⟩ := at_Int HL8.out R (by omega)
 injection eL with eL
 subst eL
 rw [← HZ.out] at cR
 have g1 : (((R : Nat) : Int) + 1 == 0) = false := by
  have : (R : Int) + 1 ≠ 0 := by omega
  simpa using this
 go_wp2_with fail
 have K0 : Aside0 (Below W8.heap.size W8 W8) := ⟨Below.refl _ _⟩
 clear cR g1 gz1 gz2 HZ
 go_loopw [66] (fun v66 wr => ∃ k : Nat, k ≤ R + 1 ∧ v66 = .int .i64 (k : Int) ∧ Aside0 (Below W8.heap.size W8 wr)) (fun v66 _ => R + 1 - (intOf v66).toNat)
 case atStart => exact ⟨0, Nat.zero_le _, rfl, K0⟩
 case round =>
  clear K0
  obtain ⟨k, hk, rfl, KB⟩ := hrel
  have BK : Aside0 (Below w.heap.size w wr) := ⟨B25.out.trans ((B8.out.trans (KB.out.mono B8.out.size)).mono B25.out.size)⟩
  by_cases hlt : k < R + 1
  ·obtain ⟨aK, eK, cK⟩ := at_Int HL8.out k hlt
   injection eK with eK
   subst eK
   have c0 := pw_cell_below KB.out cK
   obtain ⟨u, hu⟩ : ∃ u, u = L.getD k 0 := ⟨_, rfl⟩
   rw [← hu] at c0
   have HU := Aside0.mk hu
   clear cK
   by_cases h0 : k = 0
   ·have hk0 : ¬ 0 < k := by omega
    clear hu
    subst h0
    rw [Addr.add_zero'] at c0
    have k00 : ((0 : Nat) : Int) = 0 := rfl
    rw [k00]
    obtain ⟨e0, e1, e2, e3, e4, e5, _⟩ := six Q5.out (B8.out.trans (KB.out.mono B8.out.size))
    go_wp2_with fail
    clear e0 e1 e2 e3 e4 e5
    refine (relax_any wr aI y.items.length c2c y.items 0 (Kd.C_below IT5.out (B8.out.trans (KB.out.mono B8.out.size))) (by have := YL.out; omega) IG.out (by omega) (by omega)).mono ?_
    rintro _ W9 ⟨o, xa, xb, o1, o2, rfl, B9'⟩
    have hge : L.getD 0 0 ≤ relx (vOf y.items) (wOf y.items) o 0 0 := RL.out o o1 o2 0 hlt
    rw [← HU.out] at hge
    obtain ⟨t, ht⟩ : ∃ t, t = relx (vOf y.items) (wOf y.items) o 0 0 := ⟨_, rfl⟩
    rw [← ht] at hge ⊢
    clear ht o1 o2
    have B9 : Aside0 (Below W8.heap.size W8 W9) := ⟨KB.out.trans (B9'.mono KB.out.size)⟩
    clear B9'
    have hgt : ¬ t < u := by omega
    go_wp2_with fail
    exact ⟨⟨1, by omega, by go_num, ⟨below_alloc B9.out _⟩⟩, by simp [intOf]⟩
   ·have hk0 : 0 < k := by omega
    obtain ⟨q, hq⟩ : ∃ q, q = k - 1 := ⟨_, rfl⟩
    obtain ⟨aK, eK, cK⟩ := at_Int HL8.out q (by omega)
    injection eK with eK
    subst eK
    have c1 := pw_cell_below KB.out cK
    have hle := RS.out q k (by omega) hlt
    rw [← hu] at hle
    obtain ⟨u', hu'⟩ : ∃ u, u = L.getD q 0 := ⟨_, rfl⟩
    rw [← hu'] at c1 hle
    have hlu : ¬ u < u' := by omega
    have hqn : q < R + 1 := by omega
    have wq : IntKind.i64.wrap ((k : Int) - 1) = (q : Int) := by rw [IntWalk.i64_in _ (by omega)]; omega
    have wq2 : wrap64 ((k : Int) - 1) = (q : Int) := by unfold wrap64; omega
    have wq3 : (k : Int) - 1 = (q : Int) := by omega
    clear hu hu' cK hq
    by_cases h7 : (k : Int) % 7 = 0
    ·have g7 : ((k : Int) % 7 == 0) = true := by simpa using h7
     obtain ⟨e0, e1, e2, e3, e4, e5, _⟩ := six Q5.out (B8.out.trans (KB.out.mono B8.out.size))
     go_wp2_with fail
     clear e0 e1 e2 e3 e4 e5
     refine (relax_any wr aI y.items.length c2c y.items (k : Int) (Kd.C_below IT5.out (B8.out.trans (KB.out.mono B8.out.size))) (by have := YL.out; omega) IG.out (by omega) (by omega)).mono ?_
     rintro _ W9 ⟨o, xa, xb, o1, o2, rfl, B9'⟩
     have hge := RL.out o o1 o2 k hlt
     rw [← HU.out] at hge
     obtain ⟨t, ht⟩ : ∃ t, t = relx (vOf y.items) (wOf y.items) o (k : Int) 0 := ⟨_, rfl⟩
     rw [← ht] at hge ⊢
     clear ht o1 o2
     have B9 : Aside0 (Below W8.heap.size W8 W9) := ⟨KB.out.trans (B9'.mono KB.out.size)⟩
     clear B9'
     have hgt : ¬ t < u := by omega
     go_wp2_with fail
     exact ⟨⟨k + 1, by omega, by go_num, ⟨below_alloc B9.out _⟩⟩, by simp [intOf]; omega⟩
    ·have g7 : ((k : Int) % 7 == 0) = false := by simpa using h7
     by_cases hR : k = R
     ·have gR : ((k : Int) == (R : Int)) = true := beq_iff_eq.2 (by omega)
      clear hR
      obtain ⟨e0, e1, e2, e3, e4, e5, _⟩ := six Q5.out (B8.out.trans (KB.out.mono B8.out.size))
      go_wp2_with fail
      clear e0 e1 e2 e3 e4 e5
      refine (relax_any wr aI y.items.length c2c y.items (k : Int) (Kd.C_below IT5.out (B8.out.trans (KB.out.mono B8.out.size))) (by have := YL.out; omega) IG.out (by omega) (by omega)).mono ?_
      rintro _ W9 ⟨o, xa, xb, o1, o2, rfl, B9'⟩
      have hge := RL.out o o1 o2 k hlt
      rw [← HU.out] at hge
      obtain ⟨t, ht⟩ : ∃ t, t = relx (vOf y.items) (wOf y.items) o (k : Int) 0 := ⟨_, rfl⟩
      rw [← ht] at hge ⊢
      clear ht o1 o2
      have B9 : Aside0 (Below W8.heap.size W8 W9) := ⟨KB.out.trans (B9'.mono KB.out.size)⟩
      clear B9'
      have hgt : ¬ t < u := by omega
      go_wp2_with fail
      exact ⟨⟨k + 1, by omega, by go_num, ⟨below_alloc B9.out _⟩⟩, by simp [intOf]; omega⟩
     ·have gR : ((k : Int) == (R : Int)) = false := by
       have : (k : Int) ≠ (R : Int) := by omega
       simpa using this
      go_wp2_with fail
      exact ⟨⟨k + 1, by omega, by go_num, KB⟩, by simp [intOf]; omega⟩
  ·obtain rfl : k = R + 1 := by omega
   go_wp2_with fail
   go_ret
   exact ⟨rfl, BK.out⟩
end Go.Proofs.Ytelabmhhnpfegaa.Hand
end
section
namespace Go.Proofs.Ytelabmhhnpfegaa.Hand
open Go.Joins Go.ChangeShapes Go.WideShapes Go.ChangeAt Go.RowKit Go.Deep Go.Proofs.YtelabmhhnpfegaaW.PrintWords Go.Proofs.Ytelabmhhnpfegaa.PDynCells
section
variable {H : Type} {enc : TypeId × Value → H} {P : Program} {w : World} {base : Nat} {spare : Nat → Bool} {held : Bool}
theorem open_agg6 {r : Reach} {b0 : Nat} {t : TypeId} {f0 f1 f2 f3 f4 f5 : Field} {v : Value} {d : DataW H} {p : List MemPlace} (hs : P.underlying t = some (.struct #[f0, f1, f2, f3, f4, f5])) (hone : oneCellFields P #[f0, f1, f2, f3, f4, f5] = true) (hC : P.cellsOf t = 6)
  (hv : Value.okWide P w r b0 t v) (h : DataW.Trod enc P w base spare held t v d p) :
  ∃ (v0 v1 v2 v3 v4 v5 : Value) (y0 y1 y2 y3 y4 y5 : DataW H × List MemPlace) (n : Nat), v = .agg #[v0, v1, v2, v3, v4, v5] ∧ d = .agg [y0.1, y1.1, y2.1, y3.1, y4.1, y5.1] ∧ p = y0.2 ++ (y1.2 ++ (y2.2 ++ (y3.2 ++ (y4.2 ++ y5.2)))) ∧
   DataW.trod enc P w base spare held n f0.type [v0] = some y0 ∧ DataW.trod enc P w base spare held n f1.type [v1] = some y1 ∧ DataW.trod enc P w base spare held n f2.type [v2] = some y2 ∧ DataW.trod enc P w base spare held n f3.type [v3] = some y3 ∧ DataW.trod enc P w base spare held n f4.type [v4] = some y4 ∧ DataW.trod enc P w base spare held n f5.type [v5] = some y5 := by
 obtain ⟨cs, rfl, hsz⟩ := okWide_struct hs hv
 obtain ⟨l⟩ := cs
 match l, hsz.trans hC with
 | [c0, c1, c2, c3, c4, c5], _ =>
  obtain ⟨fuel, hf⟩ := h
  obtain ⟨xs, n, _, hx, _, hlen, hg⟩ := DataW.trod_struct hs hf
  obtain ⟨o0, k0⟩ := hone_of hone 0 f0 rfl
  obtain ⟨o1, k1⟩ := hone_of hone 1 f1 rfl
  obtain ⟨o2, k2⟩ := hone_of hone 2 f2 rfl
  obtain ⟨o3, k3⟩ := hone_of hone 3 f3 rfl
  obtain ⟨o4, k4⟩ := hone_of hone 4 f4 rfl
  obtain ⟨o5, k5⟩ := hone_of hone 5 f5 rfl
  match xs, hlen with
  | [y0, y1, y2, y3, y4, y5], _ =>
   simp only [Prod.mk.injEq] at hx
   exact ⟨c0, c1, c2, c3, c4, c5, y0, y1, y2, y3, y4, y5, n, rfl, by simpa using hx.1, by simpa using hx.2, by simpa [Value.cells, o0, k0] using hg 0 f0 rfl, by simpa [Value.cells, o1, k1] using hg 1 f1 rfl, by simpa [Value.cells, o2, k2] using hg 2 f2 rfl, by simpa [Value.cells, o3, k3] using hg 3 f3 rfl, by simpa [Value.cells, o4, k4] using hg 4 f4 rfl, by simpa [Value.cells, o5, k5] using hg 5 f5 rfl⟩
end
section
variable {H : Type} {enc : TypeId × Value → H} {w : World} {spare : Nat → Bool} {held : Bool}
theorem int_at {t : TypeId} {k : IntKind} {n : Nat} {v : Value} {y : DataW H × List MemPlace} (ht : Try.prog.underlying t = some (.int k)) (h : DataW.trod enc Try.prog w 0 spare held n t [v] = some y) : ∃ x, v = .int k x ∧ (Lit.int k x).wf = true := by
 obtain ⟨x, hx, _, hw⟩ := DataW.trod_int ht h
 simp at hx
 exact ⟨x, hx, hw⟩
theorem row_at {t e : TypeId} {k : IntKind} {n : Nat} {v : Value} {y : DataW H × List MemPlace} (ht : Try.prog.underlying t = some (.slice e)) (he : Try.prog.underlying e = some (.int k)) (hc : Try.prog.cellsOf e = 1)
  (h : DataW.trod enc Try.prog w 0 spare held n t [v] = some y) : ∃ (A : Option Addr) (c : Nat) (l : List Int), v = .slice A l.length c ∧ l.length ≤ c ∧ Kd.C (Kd.int k) w A l.length l ∧
   (∀ x ∈ l, (Lit.int k x).wf = true) ∧ ∀ B, Try.prog.bytesOf e = B → (∀ m ∈ y.1.weights Try.prog t, m ≤ reachBytes) → l.length * B ≤ reachBytes := by
 rcases open_ints ht he hc h with ⟨hcs, hy⟩ | ⟨a, len, cap, zs, hcs, _, hl, hm, hz, hy, hcell, hwf⟩
 ·simp at hcs
  subst hcs
  refine ⟨none, 0, [], rfl, Nat.le_refl _, Kd.C_nil _ _, by simp, fun B _ _ => by simp⟩
 ·simp at hcs
  subst hcs
  have hlz : len ≤ zs.length := by rw [hz]; split <;> omega
  have hlen : (zs.take len).length = len := by rw [List.length_take]; omega
  refine ⟨some a, cap, zs.take len, by rw [hlen], by rw [hlen]; exact hl, ?_, fun x hx => hwf x (List.mem_of_mem_take hx), ?_⟩
  ·refine Kd.C_of_reads (d := (0 : Int)) (h1 := fun _ => rfl) (show ReadsInt w k _ _ _ from ⟨rfl, by have hmx : maxLen = 9223372036854775807 := rfl; rw [hlen]; omega, fun _ => ⟨_, rfl, fun j hj => ?_⟩⟩)
   rw [hlen] at hj
   rw [hcell j (by omega)]
   have e : zs.getD j 0 = (zs.take len).getD j 0 := by
    rw [List.getD_eq_getElem?_getD, List.getD_eq_getElem?_getD, List.getElem?_take_of_lt hj]
   rw [e]
  ·intro B hB hw
   subst hy
   have h1 : (lits (H := H) k (zs.take len)).length + (lits (H := H) k (zs.drop len)).length = zs.length := by
    simp [lits]
    omega
   have z := hw (zs.length * B) (by
    simp only [DataW.weights, ht, hB]
    rw [h1]
    exact List.mem_cons_self ..)
   rw [hlen]
   exact Nat.le_trans (Nat.mul_le_mul_right _ hlz) z
end
theorem mem_all {H : Type} {P : Program} {e : TypeId} {d : DataW H} {m : Nat} (hm : m ∈ d.weights P e) : ∀ {l : List (DataW H)}, d ∈ l → m ∈ DataW.weightsAll P e l
 | [], h => by cases h
 | x :: l, h => by
  simp only [DataW.weightsAll, List.mem_append]
  rcases List.mem_cons.1 h with rfl | h
  ·exact .inl hm
  ·exact .inr (mem_all hm h)
theorem list_of {α : Type} {Q : Nat → α → Prop} : ∀ (n : Nat), (∀ i, i < n → ∃ x, Q i x) → ∃ l : List α, l.length = n ∧ ∀ i x, l[i]? = some x → Q i x
 | 0, _ => ⟨[], rfl, fun i x h => by simp at h⟩
 | n + 1, h => by
  obtain ⟨l, hl, hq⟩ := list_of n (fun i hi => h i (Nat.lt_succ_of_lt hi))
  obtain ⟨x, hx⟩ := h n (Nat.lt_succ_self n)
  refine ⟨l ++ [x], by simp [hl], fun i y hy => ?_⟩
  rcases Nat.lt_or_ge i l.length with h1 | h1
  ·rw [List.getElem?_append_left h1] at hy
   exact hq i y hy
  ·rw [List.getElem?_append_right h1] at hy
   have h2 : i - l.length = 0 := by
    have := (List.getElem?_eq_some_iff.1 hy).1
    simpa using this
   rw [h2] at hy
   simp at hy
   subst hy
   have : i = n := by omega
   rw [this]
   exact hx
section
variable {H : Type} {enc : TypeId × Value → H} {w : World} {spare : Nat → Bool} {held : Bool}
theorem slice_at {α : Type} (d : Kd α) {Ok : α → Prop} {t e B : TypeId} {n : Nat} {v : Value} {y : DataW H × List MemPlace} (ht : Try.prog.underlying t = some (.slice e)) (hC : Try.prog.cellsOf e = d.sz) (hb : Try.prog.bytesOf e = B)
  (hel : ∀ (n : Nat) (cs : List Value) (z : DataW H × List MemPlace), cs.length = d.sz → DataW.trod enc Try.prog w 0 spare held n e cs = some z → (∀ m ∈ z.1.weights Try.prog e, m ≤ reachBytes) → ∃ x, d.K w x cs ∧ Ok x)
  (h : DataW.trod enc Try.prog w 0 spare held n t [v] = some y) (hw : ∀ m ∈ y.1.weights Try.prog t, m ≤ reachBytes) :
  ∃ (A : Option Addr) (c : Nat) (l : List α), v = .slice A l.length c ∧ l.length ≤ c ∧ d.C w A l.length l ∧ (∀ x ∈ l, Ok x) ∧ l.length * B ≤ reachBytes := by
 rcases open_slice ht h with ⟨hcs, hy⟩ | ⟨a, len, cap, m, n', D, Pl, hcs, _, hl, hm, hmm, hx, hi⟩
 ·simp at hcs
  subst hcs
  exact ⟨none, 0, [], rfl, Nat.le_refl _, Kd.C_nil _ _, by simp, by simp⟩
 ·simp at hcs
  subst hcs
  have hlm : len ≤ m := by rw [hmm]; split <;> omega
  subst hx
  have hwlen : len * B ≤ reachBytes := by
   have z := hw ((((List.range len).map D).length + ((List.range (m - len)).map fun j => D (len + j)).length) * B) (by
    simp only [DataW.weights, ht, hb]
    exact List.mem_cons_self ..)
   refine Nat.le_trans (Nat.mul_le_mul_right _ ?_) z
   simp
  have hwall : ∀ i, i < len → ∀ q ∈ (D i).weights Try.prog e, q ≤ reachBytes := fun i hi q hq => hw q (by
   simp only [DataW.weights, ht]
   refine List.mem_cons_of_mem _ (List.mem_append_left _ (mem_all hq ?_))
   exact List.mem_map.2 ⟨i, List.mem_range.2 hi, rfl⟩)
  obtain ⟨l, hlen, hq⟩ := list_of (α := α) (Q := fun i x => Ok x ∧ ∃ cs : List Value, cs.length = d.sz ∧ d.K w x cs ∧ ∀ j u, cs[j]? = some u → w.cell? (a.add (i * d.sz + j)) = some u) len (fun i hi' => by
   obtain ⟨cs', hc, ht'⟩ := hi i (by omega)
   rw [hC] at hc
   obtain ⟨_, hcl, hat⟩ := World.cells?_some hc
   obtain ⟨x, hK, hok⟩ := hel _ cs' _ hcl ht' (hwall i hi')
   refine ⟨x, hok, cs', hcl, hK, fun j u hu => ?_⟩
   have hj : j < d.sz := by
    have := (List.getElem?_eq_some_iff.1 hu).1
    omega
   rw [← Go.Deep.add_add, hat j hj, hu])
  have hmx : maxLen = 9223372036854775807 := rfl
  refine ⟨some a, cap, l, by rw [hlen], by rw [hlen]; exact hl, ⟨rfl, by omega, fun _ => ⟨a, rfl, fun j p hp => ?_⟩⟩, fun x hx => ?_, by rw [hlen]; exact hwlen⟩
  ·obtain ⟨_, cs, h6, hK, hcell⟩ := hq j p hp
   exact ⟨cs, h6, hK, hcell⟩
  ·obtain ⟨i, hi⟩ := List.getElem?_of_mem hx
   exact (hq i x hi).1
set_option maxRecDepth 100000 in
theorem items_at {n : Nat} {v : Value} {y : DataW H × List MemPlace} (h : DataW.trod enc Try.prog w 0 spare held n 44 [v] = some y) (hw : ∀ m ∈ y.1.weights Try.prog 44, m ≤ reachBytes) :
  ∃ (A : Option Addr) (c : Nat) (l : List S101), v = .slice A l.length c ∧ l.length ≤ c ∧ k101.C w A l.length l ∧ (∀ _x ∈ l, True) ∧ l.length * 16 ≤ reachBytes := by
 refine slice_at k101 (Ok := fun _ => True) Try.underlying44 (by kernel_rfl) (by kernel_rfl) (fun m cs z hcl ht _ => ?_) h hw
 match cs, hcl with
 | [c0, c1], _ =>
  obtain ⟨xs, m', _, hx, _, hlen, hg⟩ := DataW.trod_array Try.underlying68 ht
  match xs, hlen with
  | [y0, y1], _ =>
   have g0 := hg 0 (by omega)
   have g1 := hg 1 (by omega)
   have hc : Try.prog.cellsOf 2 = 1 := by kernel_rfl
   rw [hc] at g0 g1
   have g0' : DataW.trod enc Try.prog w 0 spare held m' 2 [c0] = some y0 := g0
   have g1' : DataW.trod enc Try.prog w 0 spare held m' 2 [c1] = some y1 := g1
   obtain ⟨x0, e0, _, _⟩ := DataW.trod_int Try.underlying2 g0'
   obtain ⟨x1, e1, _, _⟩ := DataW.trod_int Try.underlying2 g1'
   simp at e0 e1
   subst e0 e1
   exact ⟨⟨x0, x1⟩, k101_mk w _, trivial⟩
set_option maxRecDepth 100000 in
theorem cost_at {n : Nat} {v : Value} {y : DataW H × List MemPlace} (h : DataW.trod enc Try.prog w 0 spare held n 22 [v] = some y) (hw : ∀ m ∈ y.1.weights Try.prog 22, m ≤ reachBytes) :
  ∃ (A : Option Addr) (c : Nat) (l : List (List Int)), v = .slice A l.length c ∧ l.length ≤ c ∧ (Kd.slice 2 (Kd.int .i64)).C w A l.length l ∧ (∀ r ∈ l, r.length ≤ 17592186044416) ∧ l.length * 24 ≤ reachBytes := by
 refine slice_at (Kd.slice 2 (Kd.int .i64)) (Ok := fun r => r.length ≤ 17592186044416) Try.underlying22 (by kernel_rfl) (by kernel_rfl) (fun m cs z hcl ht hz => ?_) h hw
 match cs, hcl with
 | [c0], _ =>
  obtain ⟨A, c, l, rfl, hl, hC, _, hB⟩ := row_at Try.underlying30 Try.underlying2 (by kernel_rfl) ht
  have z := hB 8 (by kernel_rfl) hz
  have hr : reachBytes = 140737488355328 - 4096 := rfl
  exact ⟨l, ⟨A, c, rfl, hl, hC⟩, by omega⟩
set_option maxRecDepth 100000 in
theorem sets_at {n : Nat} {v : Value} {y : DataW H × List MemPlace} (h : DataW.trod enc Try.prog w 0 spare held n 45 [v] = some y) (hw : ∀ m ∈ y.1.weights Try.prog 45, m ≤ reachBytes) :
  ∃ (A : Option Addr) (c : Nat) (l : List S102), v = .slice A l.length c ∧ l.length ≤ c ∧ k102.C w A l.length l ∧ (∀ s ∈ l, s.f1.length ≤ 17592186044416) ∧ l.length * 32 ≤ reachBytes := by
 refine slice_at k102 (Ok := fun s => s.f1.length ≤ 17592186044416) Try.underlying45 (by kernel_rfl) (by kernel_rfl) (fun m cs z hcl ht hz => ?_) h hw
 match cs, hcl with
 | [c0, c1], _ =>
  obtain ⟨ys, n', _, hy, _, hyl, hf⟩ := DataW.trod_struct Try.underlying99 ht
  match ys, hyl with
  | [y0, y1], _ =>
   have t0 : DataW.trod enc Try.prog w 0 spare held n' 2 [c0] = some y0 := hf 0 _ rfl
   have t1 : DataW.trod enc Try.prog w 0 spare held n' 29 [c1] = some y1 := hf 1 _ rfl
   obtain ⟨u, rfl, _⟩ := int_at Try.underlying2 t0
   obtain ⟨A, c, l, rfl, hl, hC, _, hB⟩ := row_at Try.underlying29 Try.underlying3 (by kernel_rfl) t1
   have z := hB 8 (by kernel_rfl) (fun m hm => hz m (by
    rw [congrArg Prod.fst hy]
    simp only [DataW.weights, Try.underlying99, DataW.weightsEach, List.map_cons, List.map_nil, List.mem_append]
    exact .inr (.inl hm)))
   have hr : reachBytes = 140737488355328 - 4096 := rfl
   exact ⟨⟨u, l⟩, k102_mk w ⟨u, l⟩ hl hC, by show l.length ≤ _; omega⟩
set_option maxRecDepth 100000 in
theorem inst_at {r : Reach} {b0 : Nat} {v : Value} {d : DataW H} {p : List MemPlace} (hv : Value.okWide Try.prog w r b0 47 v) (h : DataW.Trod enc Try.prog w 0 spare held 47 v d p) (hw : ∀ m ∈ d.weights Try.prog 47, m ≤ reachBytes) : ∃ x : PI, InstC w x v ∧ PIok x := by
 obtain ⟨x0, x1, x2, x3, x4, x5, y0, y1, y2, y3, y4, y5, n, rfl, rfl, rfl, g0, g1, g2, g3, g4, g5⟩ := open_agg6 Try.underlying47 (by kernel_rfl) (by kernel_rfl) hv h
 obtain ⟨k, rfl, _⟩ := int_at Try.underlying3 g0
 obtain ⟨cp, rfl, _⟩ := int_at Try.underlying2 g1
 obtain ⟨A2, c2, l2, rfl, b2, C2, _, w2⟩ := items_at g2 (fun m hm => hw m (by
  simp only [DataW.weights, Try.underlying47, DataW.weightsEach, List.map_cons, List.map_nil, List.mem_append]
  exact .inr (.inr (.inl hm))))
 obtain ⟨A3, c3, l3, rfl, b3, C3, r3, w3⟩ := cost_at g3 (fun m hm => hw m (by
  simp only [DataW.weights, Try.underlying47, DataW.weightsEach, List.map_cons, List.map_nil, List.mem_append]
  exact .inr (.inr (.inr (.inl hm)))))
 obtain ⟨sz, rfl, _⟩ := int_at Try.underlying3 g4
 obtain ⟨A5, c5, l5, rfl, b5, C5, r5, w5⟩ := sets_at g5 (fun m hm => hw m (by
  simp only [DataW.weights, Try.underlying47, DataW.weightsEach, List.map_cons, List.map_nil, List.mem_append]
  exact .inr (.inr (.inr (.inr (.inr (.inl hm)))))))
 have hr : reachBytes = 140737488355328 - 4096 := rfl
 exact ⟨⟨k, cp, l2, l3, sz, l5⟩, ⟨A2, c2, A3, c3, A5, c5, rfl, C2, b2, C3, b3, C5, b5⟩, by show l2.length ≤ _; omega, by show l3.length ≤ _; omega, by show l5.length ≤ _; omega, r3, r5⟩
end
end Go.Proofs.Ytelabmhhnpfegaa.Hand
end
