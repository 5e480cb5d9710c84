/- Texts Aw Dx, cut to what is used. -/
import Derived.Deep.RegionHeld3
import Derived.WalkKit
import Derived.ProofKit
import Derived.OpenShut
import Derived.ShutString
import Derived.ChangeOld
import Derived.Below
import Derived.SizedLaws
import Derived.Lib.SmallJoins
import Derived.ChangeSame
import Derived.Deep.Slices
import Derived.Deep.Fields
import Derived.Test.YtlilfgfkedlbcaaDoorYa0
import Derived.Test.YtlilfgfkedlbcaaDoorYa2
import Derived.Test.YtlilfgfkedlbcaaDoorYb1
import Derived.Test.YtlilfgfkedlbcaaDoorYb3
set_option linter.unusedVariables false
set_option linter.unusedSimpArgs false
section
namespace Go.Proofs.YtlilfgfkedlbcaaDoor.Hand
open Go.RowKit Go.Proofs.YtlilfgfkedlbcaaDoorW.PrintWords Go.Proofs.YtlilfgfkedlbcaaDoorW.PrintLast Go.Proofs.YtlilfgfkedlbcaaDoorW.PrintMore Go.Proofs.YtlilfgfkedlbcaaDoor.PEvalBetter
def tameQ (w : World) (k : Int) (e : Ending) (w' : World) : Prop := ∃ (y : PI) (A2 : Option Addr) (n2 c2 : Nat) (A3 : Option Addr) (n3 c3 : Nat) (A5 : Option Addr) (n5 c5 : Nat), e = .returned (.agg #[.int .i64 y.kind, .int .i64 y.cap, .slice A2 n2 c2, .slice A3 n3 c3, .int .i64 y.size, .slice A5 n5 c5]) ∧ Aside0 (InstC w' y (.agg #[.int .i64 y.kind, .int .i64 y.cap, .slice A2 n2 c2, .slice A3 n3 c3, .int .i64 y.size, .slice A5 n5 c5]) ∧ PIok y) ∧ Below w.heap.size w w'
theorem tame_d (w : World) (x : PI) (v : Value) (h : InstC w x v) (hx : PIok x) : Calls Tryd.prog 6 #[v, .int .i64 9] w (tameQ w x.kind) :=
 (tame_any w x v 9 h hx (by decide) (by decide)).mono fun _ _ ⟨va, e, H⟩ => by
  obtain ⟨y, iy, TP, B⟩ := H.out
  have ic := iy.c
  obtain ⟨A2, n2, c2, A3, n3, c3, A5, n5, c5, e', _⟩ := iy
  rw [e'] at ic
  exact ⟨y, A2, n2, c2, A3, n3, c3, A5, n5, c5, by rw [e, e'], ⟨ic, tame_pok TP (by omega)⟩, B⟩
theorem six_keep {W1 w' w'' : World} {p : Nat} {v0 v1 v2 v3 v4 v5 : Value} (h0 : w'.cell? ⟨p, 0, none⟩ = some v0) (h1 : w'.cell? ⟨p, 1, none⟩ = some v1) (h2 : w'.cell? ⟨p, 2, none⟩ = some v2) (h3 : w'.cell? ⟨p, 3, none⟩ = some v3) (h4 : w'.cell? ⟨p, 4, none⟩ = some v4) (h5 : w'.cell? ⟨p, 5, none⟩ = some v5) (hB : Aside0 (Below W1.heap.size W1 w')) (e : p < W1.heap.size) (hb : Below w'.heap.size w' w'') :
  w''.cell? ⟨p, 0, none⟩ = some v0 ∧ w''.cell? ⟨p, 1, none⟩ = some v1 ∧ w''.cell? ⟨p, 2, none⟩ = some v2 ∧ w''.cell? ⟨p, 3, none⟩ = some v3 ∧ w''.cell? ⟨p, 4, none⟩ = some v4 ∧ w''.cell? ⟨p, 5, none⟩ = some v5 ∧ Aside0 (Below W1.heap.size W1 w'') := by
 have hs := hB.out.size
 have k : ∀ (j : Nat) (v : Value), w'.cell? ⟨p, j, none⟩ = some v → w''.cell? ⟨p, j, none⟩ = some v := fun j v h => (hb.cell (by show p < _; omega)).trans h
 exact ⟨k _ _ h0, k _ _ h1, k _ _ h2, k _ _ h3, k _ _ h4, k _ _ h5, ⟨hB.out.trans (hb.mono hs)⟩⟩
theorem dozen_keep {W1 w' w'' : World} {p q : Nat} {v0 v1 v2 v3 v4 v5 u0 u1 u2 u3 u4 u5 : Value} (h0 : w'.cell? ⟨p, 0, none⟩ = some v0) (h1 : w'.cell? ⟨p, 1, none⟩ = some v1) (h2 : w'.cell? ⟨p, 2, none⟩ = some v2) (h3 : w'.cell? ⟨p, 3, none⟩ = some v3) (h4 : w'.cell? ⟨p, 4, none⟩ = some v4) (h5 : w'.cell? ⟨p, 5, none⟩ = some v5)
  (k0 : w'.cell? ⟨q, 0, none⟩ = some u0) (k1 : w'.cell? ⟨q, 1, none⟩ = some u1) (k2 : w'.cell? ⟨q, 2, none⟩ = some u2) (k3 : w'.cell? ⟨q, 3, none⟩ = some u3) (k4 : w'.cell? ⟨q, 4, none⟩ = some u4) (k5 : w'.cell? ⟨q, 5, none⟩ = some u5) (hB : Aside0 (Below W1.heap.size W1 w')) (e : p < W1.heap.size) (e' : q < W1.heap.size) (hb : Below w'.heap.size w' w'') :
  (w''.cell? ⟨p, 0, none⟩ = some v0 ∧ w''.cell? ⟨p, 1, none⟩ = some v1 ∧ w''.cell? ⟨p, 2, none⟩ = some v2 ∧ w''.cell? ⟨p, 3, none⟩ = some v3 ∧ w''.cell? ⟨p, 4, none⟩ = some v4 ∧ w''.cell? ⟨p, 5, none⟩ = some v5) ∧ (w''.cell? ⟨q, 0, none⟩ = some u0 ∧ w''.cell? ⟨q, 1, none⟩ = some u1 ∧ w''.cell? ⟨q, 2, none⟩ = some u2 ∧ w''.cell? ⟨q, 3, none⟩ = some u3 ∧ w''.cell? ⟨q, 4, none⟩ = some u4 ∧ w''.cell? ⟨q, 5, none⟩ = some u5) ∧ Aside0 (Below W1.heap.size W1 w'') := by
 obtain ⟨a0, a1, a2, a3, a4, a5, hx⟩ := six_keep h0 h1 h2 h3 h4 h5 hB e hb
 obtain ⟨b0, b1, b2, b3, b4, b5, _⟩ := six_keep k0 k1 k2 k3 k4 k5 hB e' hb
 exact ⟨⟨a0, a1, a2, a3, a4, a5⟩, ⟨b0, b1, b2, b3, b4, b5⟩, hx⟩
set_option maxHeartbeats 4000000 in
set_option maxRecDepth 100000 in
theorem answers_law (w : World) (x : PI) (v : Value) (h : InstC w x v) (hx : PIok x) (A1 : Option Addr) (n1 c1 : Nat) (ys : List Int) (hy : (Kd.int .i64).C w A1 n1 ys) (hy1 : n1 ≤ 17592186044416) (hy2 : n1 ≤ c1) :
  Calls Tryd.prog 4 #[v, .slice A1 n1 c1] w fun e w' => e = .returned (.bool true) ∧ Below w.heap.size w w' := by
 have HI := Aside0.mk h
 have HX := Aside0.mk hx
 have HY := Aside0.mk (And.intro hy (And.intro hy1 hy2))
 clear hy hy1 hy2
 obtain ⟨A2x, c2x, A3x, c3x, A5x, c5x, rfl, h2, l2, h3, l3, h5, l5⟩ := h
 clear h2 h3 h5 l2 l3 l5 hx
 have hu26 := Tryd.underlying26
 have hu32 := Tryd.underlying32
 have hu35 := Tryd.underlying35
 go_enter Tryd.func4, Tryd.ntmps4
 go_upto_region 1 with fail
 obtain ⟨W1, hW1⟩ : ∃ W, W = w.alloc (.cells #[.int .i64 x.kind, .int .i64 x.cap, .slice A2x x.items.length c2x, .slice A3x x.cost.length c3x, .int .i64 x.size, .slice A5x x.sets.length c5x] 26) := ⟨_, rfl⟩
 rw [← hW1]
 have B1 : Aside0 (Below w.heap.size w W1) := ⟨by rw [hW1]; exact below_alloc (Below.refl _ _) _⟩
 obtain ⟨p1, hp1⟩ : ∃ p, p = w.heap.size := ⟨_, rfl⟩
 have Q1 : Aside0 (W1.heap[p1]? = some (.cells #[.int .i64 x.kind, .int .i64 x.cap, .slice A2x x.items.length c2x, .slice A3x x.cost.length c3x, .int .i64 x.size, .slice A5x x.sets.length c5x] 26 (0, 0))) := ⟨by rw [hW1, hp1]; exact heap_alloc_new _ _⟩
 have S1 : p1 < W1.heap.size := (Array.getElem?_eq_some_iff.1 Q1.out).1
 rw [← hp1]
 clear hW1 hp1
 obtain ⟨e0, e1, e2, e3, e4, e5, hbb⟩ := six Q1.out (below_drew (Below.refl _ _))
 have TM := Aside0.mk (fun W (hb : Below W1.heap.size W1 W) => tame_d W x _ (HI.out.below (B1.out.trans (hb.mono B1.out.size))) HX.out)
 go_region_held3 (fun w' => w'.cell? ⟨p1, 0, none⟩ = some (.int .i64 x.kind) ∧ w'.cell? ⟨p1, 1, none⟩ = some (.int .i64 x.cap) ∧ w'.cell? ⟨p1, 2, none⟩ = some (.slice A2x x.items.length c2x) ∧ w'.cell? ⟨p1, 3, none⟩ = some (.slice A3x x.cost.length c3x) ∧ w'.cell? ⟨p1, 4, none⟩ = some (.int .i64 x.size) ∧ w'.cell? ⟨p1, 5, none⟩ = some (.slice A5x x.sets.length c5x) ∧ Aside0 (Below W1.heap.size W1 w'))
  (first | exact ⟨e0, e1, e2, e3, e4, e5, hbb⟩ | (go_split_ands; exact six_keep (by assumption) (by assumption) (by assumption) (by assumption) (by assumption) (by assumption) (by assumption) S1 hbq) | (go_split_ands; exact six_keep (by assumption) (by assumption) (by assumption) (by assumption) (by assumption) (by assumption) (by assumption) S1 (below_alloc (Below.refl _ _) _)))
  (first | (go_at_call 6; go_split_ands; refine (TM.out _ (Aside0.out (by assumption))).mono ?_; rintro e w' ⟨y, A2y, n2y, c2y, A3y, n3y, c3y, A5y, n5y, c5y, rfl, IYO, hbq⟩))
 clear e0 e1 e2 e3 e4 e5 hbb
 go_wp2_with fail
 go_split_ands
 obtain ⟨W2, hW2⟩ : ∃ W, W = w'.alloc (.cells #[.int .i64 x.kind, .int .i64 x.cap, .slice A2x x.items.length c2x, .slice A3x x.cost.length c3x, .int .i64 x.size, .slice A5x x.sets.length c5x, .int .i64 y.kind, .int .i64 y.cap, .slice A2y n2y c2y, .slice A3y n3y c3y, .int .i64 y.size, .slice A5y n5y c5y] 26) := ⟨_, rfl⟩
 rw [← hW2]
 obtain ⟨g, hg⟩ : ∃ p, p = w'.heap.size := ⟨_, rfl⟩
 rw [← hg]
 have QG : Aside0 (W2.heap[g]? = some (.cells #[.int .i64 x.kind, .int .i64 x.cap, .slice A2x x.items.length c2x, .slice A3x x.cost.length c3x, .int .i64 x.size, .slice A5x x.sets.length c5x, .int .i64 y.kind, .int .i64 y.cap, .slice A2y n2y c2y, .slice A3y n3y c3y, .int .i64 y.size, .slice A5y n5y c5y] 26 (0, 0))) := ⟨by rw [hW2, hg]; exact heap_alloc_new _ _⟩
 have BY : Below w'.heap.size w' W2 := by rw [hW2]; exact below_alloc (Below.refl _ _) _
 have BWA : Aside0 (Below W1.heap.size W1 W2) := by rw [hW2]; assumption
 have B2 : Aside0 (Below w.heap.size w W2) := ⟨B1.out.trans (BWA.out.mono B1.out.size)⟩
 have EL : Aside0 (∀ i, i < 2 → ∃ (z : PI) (kz cz : Int) (A2z : Option Addr) (n2z c2z : Nat) (A3z : Option Addr) (n3z c3z : Nat) (sz : Int) (A5z : Option Addr) (n5z c5z : Nat), InstC W2 z (.agg #[.int .i64 kz, .int .i64 cz, .slice A2z n2z c2z, .slice A3z n3z c3z, .int .i64 sz, .slice A5z n5z c5z]) ∧ PIok z ∧ W2.cell? ⟨g, i * 6, none⟩ = some (.int .i64 kz) ∧ W2.cell? ⟨g, i * 6 + 1, none⟩ = some (.int .i64 cz) ∧ W2.cell? ⟨g, i * 6 + 2, none⟩ = some (.slice A2z n2z c2z) ∧ W2.cell? ⟨g, i * 6 + 3, none⟩ = some (.slice A3z n3z c3z) ∧ W2.cell? ⟨g, i * 6 + 4, none⟩ = some (.int .i64 sz) ∧ W2.cell? ⟨g, i * 6 + 5, none⟩ = some (.slice A5z n5z c5z)) := ⟨fun i hi => by
  have hi2 : i = 0 ∨ i = 1 := by omega
  rcases hi2 with rfl | rfl
  ·exact ⟨x, x.kind, x.cap, A2x, x.items.length, c2x, A3x, x.cost.length, c3x, x.size, A5x, x.sets.length, c5x, HI.out.below B2.out, HX.out, (blk_cell QG.out 0).trans rfl, (blk_cell QG.out 1).trans rfl, (blk_cell QG.out 2).trans rfl, (blk_cell QG.out 3).trans rfl, (blk_cell QG.out 4).trans rfl, (blk_cell QG.out 5).trans rfl⟩
  ·exact ⟨y, y.kind, y.cap, A2y, n2y, c2y, A3y, n3y, c3y, y.size, A5y, n5y, c5y, IYO.out.1.below BY, IYO.out.2, (blk_cell QG.out 6).trans rfl, (blk_cell QG.out 7).trans rfl, (blk_cell QG.out 8).trans rfl, (blk_cell QG.out 9).trans rfl, (blk_cell QG.out 10).trans rfl, (blk_cell QG.out 11).trans rfl⟩⟩
 clear hW2 hg QG BY BWA IYO TM hbq
 go_loopw [24] (fun v24 wr => ∃ i : Nat, i ≤ 2 ∧ v24 = .int .i64 (i : Int) ∧ Aside0 (Below W2.heap.size W2 wr)) (fun v24 _ => 2 - (intOf v24).toNat)
 case atStart => exact ⟨0, by omega, rfl, ⟨Below.refl _ _⟩⟩
 case round =>
  obtain ⟨i, hi, rfl, BR⟩ := hrel
  by_cases hlt : i < 2
  ·obtain ⟨z, kz, cz, A2z, n2z, c2z, A3z, n3z, c3z, sz, A5z, n5z, c5z, iz, oz, e0', e1', e2', e3', e4', e5'⟩ := EL.out i hlt
   have e0 := pw_cell_below BR.out e0'
   have e1 := pw_cell_below BR.out e1'
   have e2 := pw_cell_below BR.out e2'
   have e3 := pw_cell_below BR.out e3'
   have e4 := pw_cell_below BR.out e4'
   have e5 := pw_cell_below BR.out e5'
   have IZ := Aside0.mk iz
   have OZ := Aside0.mk oz
   clear e0' e1' e2' e3' e4' e5' iz oz
   obtain ⟨wo, hwo⟩ : ∃ wo : World, wo = wr := ⟨_, rfl⟩
   rw [← hwo] at BR e0 e1 e2 e3 e4 e5 ⊢
   clear hwo
   go_wp2_with fail
   clear e0 e1 e2 e3 e4 e5
   obtain ⟨W3, hW3⟩ : ∃ W, W = wo.alloc (.cells #[.int .i64 kz, .int .i64 cz, .slice A2z n2z c2z, .slice A3z n3z c3z, .int .i64 sz, .slice A5z n5z c5z] 26) := ⟨_, rfl⟩
   rw [← hW3]
   have B3 : Aside0 (Below W2.heap.size W2 W3) := ⟨by rw [hW3]; exact BR.out.alloc BR.out.size _⟩
   clear hW3
   refine (insts_any W3 z _ (IZ.out.below B3.out) OZ.out).mono ?_
   rintro _ W4 ⟨vc, vd, rfl, ⟨ic, id_, B4'⟩⟩
   have B4 := Aside0.mk (B3.out.trans (B4'.mono B3.out.size))
   have CO := Aside0.mk (cutI_ok z)
   have CL := Aside0.mk (cutI_len z)
   obtain ⟨yc, hyc⟩ : ∃ u, u = cutI z := ⟨_, rfl⟩
   rw [← hyc] at ic id_ CO CL
   have IC := Aside0.mk ic
   have ID := Aside0.mk id_
   clear B4' hyc
   obtain ⟨A2c, c2c, A3c, c3c, A5c, c5c, rfl, _⟩ := ic
   obtain ⟨A2d, c2d, A3d, c3d, A5d, c5d, rfl, _⟩ := id_
   go_upto_region 5 with fail
   have B5 : Aside0 (Below W4.heap.size W4 ((W4.alloc (.cells #[.int .i64 yc.kind, .int .i64 yc.cap, .slice A2c yc.items.length c2c, .slice A3c yc.cost.length c3c, .int .i64 yc.size, .slice A5c yc.sets.length c5c] 32)).alloc (.cells #[.int .i64 yc.kind, .int .i64 yc.cap, .slice A2d yc.items.length c2d, .slice A3d yc.cost.length c3d, .int .i64 yc.size, .slice A5d yc.sets.length c5d] 35))) := ⟨below_alloc (below_alloc (Below.refl _ _) _) _⟩
   obtain ⟨W5, hW5⟩ : ∃ W, W = (W4.alloc (.cells #[.int .i64 yc.kind, .int .i64 yc.cap, .slice A2c yc.items.length c2c, .slice A3c yc.cost.length c3c, .int .i64 yc.size, .slice A5c yc.sets.length c5c] 32)).alloc (.cells #[.int .i64 yc.kind, .int .i64 yc.cap, .slice A2d yc.items.length c2d, .slice A3d yc.cost.length c3d, .int .i64 yc.size, .slice A5d yc.sets.length c5d] 35) := ⟨_, rfl⟩
   rw [← hW5] at B5 ⊢
   obtain ⟨p5, hp5⟩ : ∃ p, p = W4.heap.size := ⟨_, rfl⟩
   rw [← hp5]
   have Q5 : Aside0 (W5.heap[p5]? = some (.cells #[.int .i64 yc.kind, .int .i64 yc.cap, .slice A2c yc.items.length c2c, .slice A3c yc.cost.length c3c, .int .i64 yc.size, .slice A5c yc.sets.length c5c] 32 (0, 0)) ∧ W5.heap[p5 + 1]? = some (.cells #[.int .i64 yc.kind, .int .i64 yc.cap, .slice A2d yc.items.length c2d, .slice A3d yc.cost.length c3d, .int .i64 yc.size, .slice A5d yc.sets.length c5d] 35 (0, 0))) := ⟨by
    rw [hW5, hp5]
    constructor
    all_goals
     simp only [al_get, al_size]
     repeat (first | rw [if_pos trivial] | rw [if_neg (by omega)])⟩
   have B25 : Aside0 (Below W2.heap.size W2 W5) := ⟨B4.out.trans (B5.out.mono B4.out.size)⟩
   have IC5 := Aside0.mk (IC.out.below B5.out)
   have ID5 := Aside0.mk (ID.out.below B5.out)
   clear hW5 hp5 B5 B4 B3 IC ID IZ OZ
   obtain ⟨e0, e1, e2, e3, e4, e5, _⟩ := six Q5.out.2 (Below.refl _ _)
   go_wp2_with fail
   clear e0 e1 e2 e3 e4 e5
   refine (answers2_any W5 yc _ ID5.out CL.out A1 n1 c1 ys (Kd.C_below (Kd.C_below HY.out.1 B2.out) B25.out) HY.out.2.1 HY.out.2.2).mono ?_
   rintro _ W8 ⟨g2, rfl, TG2, B8'⟩
   have HG := Aside0.mk TG2
   have B8 : Aside0 (Below W5.heap.size W5 W8) := ⟨B8'⟩
   clear TG2 B8'
   go_wp2_with fail
   go_loopw [37] (fun v37 wr => ∃ k2 : Nat, k2 ≤ 2 ∧ v37 = .int .i64 (k2 : Int) ∧ Aside0 (Below W8.heap.size W8 wr)) (fun v37 _ => 2 - (intOf v37).toNat)
   case atStart => exact ⟨0, by omega, rfl, ⟨Below.refl _ _⟩⟩
   case round =>
    obtain ⟨k2, hk2, rfl, LB⟩ := hrel
    have B5l : Aside0 (Below W5.heap.size W5 wr) := ⟨B8.out.trans (LB.out.mono B8.out.size)⟩
    by_cases hlt2 : k2 < 2
    ·obtain ⟨AP, nP, cP, lP, cp, CP', hnP⟩ := HG.out.below LB.out k2 hlt2
     have CP := Aside0.mk CP'
     clear CP'
     obtain ⟨z1, hz1⟩ : ∃ z, z = (valP yc lP).1 := ⟨_, rfl⟩
     obtain ⟨f1, hf1⟩ : ∃ z, z = (valP yc lP).2 := ⟨_, rfl⟩
     obtain ⟨d1, hd1⟩ : ∃ z, z = (cosP yc lP).1 := ⟨_, rfl⟩
     have VP : Aside0 ((z1, f1) = valP yc lP) := ⟨by rw [hz1, hf1]⟩
     have KP : Aside0 ((d1, f1) = cosP yc lP) := ⟨by rw [hd1, hf1]; rfl⟩
     obtain ⟨fb, hfb⟩ : ∃ b, b = feaP yc lP := ⟨_, rfl⟩
     have FB := Aside0.mk hfb
     clear hz1 hf1 hd1 hfb
     obtain ⟨e0, e1, e2, e3, e4, e5, _⟩ := six Q5.out.1 B5l.out
     go_wp2_with fail
     clear e0 e1 e2 e3 e4 e5 cp
     refine (value_any wr yc _ (IC5.out.below B5l.out) CO.out AP nP cP lP CP.out (by omega) z1 f1 VP.out).mono ?_
     rintro _ U1 ⟨rfl, HU1⟩
     have L1 : Aside0 (Below wr.heap.size wr U1) := ⟨HU1.out⟩
     clear HU1
     obtain ⟨e0, e1, e2, e3, e4, e5, _⟩ := six Q5.out.2 (B5l.out.trans (L1.out.mono B5l.out.size))
     go_wp2_with fail
     clear e0 e1 e2 e3 e4 e5
     refine (rvalue_any U1 yc _ (ID5.out.below (B5l.out.trans (L1.out.mono B5l.out.size))) CO.out AP nP cP lP (Kd.C_below CP.out L1.out) (by omega) z1 f1 VP.out).mono ?_
     rintro _ U2 ⟨rfl, HU2⟩
     have L2 : Aside0 (Below wr.heap.size wr U2) := ⟨L1.out.trans (HU2.out.mono L1.out.size)⟩
     clear HU2 L1
     obtain ⟨e0, e1, e2, e3, e4, e5, _⟩ := six Q5.out.1 (B5l.out.trans (L2.out.mono B5l.out.size))
     go_wp2_with fail
     clear e0 e1 e2 e3 e4 e5
     refine (cost_any U2 yc _ (IC5.out.below (B5l.out.trans (L2.out.mono B5l.out.size))) CO.out AP nP cP lP (Kd.C_below CP.out L2.out) (by omega) d1 f1 KP.out).mono ?_
     rintro _ U3 ⟨rfl, HU3⟩
     have L3 : Aside0 (Below wr.heap.size wr U3) := ⟨L2.out.trans (HU3.out.mono L2.out.size)⟩
     clear HU3 L2
     obtain ⟨e0, e1, e2, e3, e4, e5, _⟩ := six Q5.out.2 (B5l.out.trans (L3.out.mono B5l.out.size))
     go_wp2_with fail
     clear e0 e1 e2 e3 e4 e5
     refine (rcost_any U3 yc _ (ID5.out.below (B5l.out.trans (L3.out.mono B5l.out.size))) CO.out AP nP cP lP (Kd.C_below CP.out L3.out) (by omega) d1 f1 KP.out).mono ?_
     rintro _ U4 ⟨rfl, HU4⟩
     have L4 : Aside0 (Below wr.heap.size wr U4) := ⟨L3.out.trans (HU4.out.mono L3.out.size)⟩
     have B5u : Aside0 (Below W5.heap.size W5 U4) := ⟨B5l.out.trans (L4.out.mono B5l.out.size)⟩
     clear HU4 L3
     go_upto_region 12 with fail
     have B5d : Aside0 (Below W5.heap.size W5 U4.drew) := ⟨below_drew B5u.out⟩
     have CPu := Aside0.mk (Kd.C_below CP.out L4.out)
     have FA := Aside0.mk (fun W (hb : Below U4.heap.size U4 W) => feas_any W yc _ (IC5.out.below (B5u.out.trans (hb.mono B5u.out.size))) CO.out AP nP cP lP (Kd.C_below CPu.out hb) (by omega) fb FB.out)
     have FR := Aside0.mk (fun W (hb : Below U4.heap.size U4 W) => rfeas_all W yc _ (ID5.out.below (B5u.out.trans (hb.mono B5u.out.size))) CO.out AP nP cP lP (Kd.C_below CPu.out hb) (by omega) fb FB.out)
     obtain ⟨e0, e1, e2, e3, e4, e5, _⟩ := six Q5.out.1 B5d.out
     obtain ⟨d0', d1', d2', d3', d4', d5', _⟩ := six Q5.out.2 B5d.out
     have g1 : (fb != fb) = false := by simp
     have g2 : (z1 != z1) = false := by simp
     have g3 : (f1 != f1) = false := by simp
     have g4 : (d1 != d1) = false := by simp
     have hbu : Aside0 (Below U4.heap.size U4 U4.drew) := ⟨below_drew (Below.refl _ _)⟩
     have SQ : p5 + 1 < U4.heap.size := Nat.lt_of_lt_of_le (Array.getElem?_eq_some_iff.1 Q5.out.2).1 B5u.out.size
     have SP : p5 < U4.heap.size := by omega
     go_region_held3 (fun w' => (w'.cell? ⟨p5, 0, none⟩ = some (.int .i64 yc.kind) ∧ w'.cell? ⟨p5, 1, none⟩ = some (.int .i64 yc.cap) ∧ w'.cell? ⟨p5, 2, none⟩ = some (.slice A2c yc.items.length c2c) ∧ w'.cell? ⟨p5, 3, none⟩ = some (.slice A3c yc.cost.length c3c) ∧ w'.cell? ⟨p5, 4, none⟩ = some (.int .i64 yc.size) ∧ w'.cell? ⟨p5, 5, none⟩ = some (.slice A5c yc.sets.length c5c)) ∧ (w'.cell? ⟨p5 + 1, 0, none⟩ = some (.int .i64 yc.kind) ∧ w'.cell? ⟨p5 + 1, 1, none⟩ = some (.int .i64 yc.cap) ∧ w'.cell? ⟨p5 + 1, 2, none⟩ = some (.slice A2d yc.items.length c2d) ∧ w'.cell? ⟨p5 + 1, 3, none⟩ = some (.slice A3d yc.cost.length c3d) ∧ w'.cell? ⟨p5 + 1, 4, none⟩ = some (.int .i64 yc.size) ∧ w'.cell? ⟨p5 + 1, 5, none⟩ = some (.slice A5d yc.sets.length c5d)) ∧ Aside0 (Below U4.heap.size U4 w'))
      (first | exact ⟨⟨e0, e1, e2, e3, e4, e5⟩, ⟨d0', d1', d2', d3', d4', d5'⟩, hbu⟩ | (go_split_ands; exact dozen_keep (by assumption) (by assumption) (by assumption) (by assumption) (by assumption) (by assumption) (by assumption) (by assumption) (by assumption) (by assumption) (by assumption) (by assumption) (by assumption) SP SQ hbq))
      (first
       | (go_at_call 14; go_split_ands; refine (FA.out _ (Aside0.out (by assumption))).mono ?_; rintro e w' ⟨rfl, hbq⟩)
       | (go_at_call 15; go_split_ands; refine (FR.out _ (Aside0.out (by assumption))).mono ?_; rintro e w' ⟨rfl, hbq⟩))
     go_wp2_with fail
     go_split_ands
     rename Aside0 (Below U4.heap.size U4 _) => cB
     exact ⟨⟨k2 + 1, by omega, by go_num, ⟨LB.out.trans ((L4.out.trans (cB.out.mono L4.out.size)).mono LB.out.size)⟩⟩, by simp [intOf]; omega⟩
    ·obtain rfl : k2 = 2 := by omega
     go_wp2_with fail
     exact ⟨⟨i + 1, by omega, by go_num, ⟨B25.out.trans (B5l.out.mono B25.out.size)⟩⟩, by simp [intOf]; omega⟩
  ·obtain rfl : i = 2 := by omega
   go_wp2_with fail
   refine (wakes_any wr).mono ?_
   rintro _ W9 ⟨rfl, B9'⟩
   have B9 := Aside0.mk (B2.out.trans ((BR.out.trans (B9'.mono BR.out.size)).mono B2.out.size))
   clear B9'
   go_wp2_with fail
   go_ret
   exact ⟨rfl, B9.out⟩
end Go.Proofs.YtlilfgfkedlbcaaDoor.Hand
end
section
namespace Go.Proofs.YtlilfgfkedlbcaaDoor.Hand
open Go.Joins Go.ChangeShapes Go.WideShapes Go.ChangeAt Go.RowKit Go.Deep Go.Proofs.YtlilfgfkedlbcaaDoorW.PrintWords Go.Proofs.YtlilfgfkedlbcaaDoor.PEvalBetter
section
variable {H : Type} {enc : TypeId × Value → H} {P : Program} {w : World} {base : Nat} {spare : Nat → Bool} {held : Bool}
theorem open_agg6 {r : Reach} {b0 : Nat} {t : TypeId} {f0 f1 f2 f3 f4 f5 : Field} {v : Value} {d : DataW H} {p : List MemPlace} (hs : P.underlying t = some (.struct #[f0, f1, f2, f3, f4, f5])) (hone : oneCellFields P #[f0, f1, f2, f3, f4, f5] = true) (hC : P.cellsOf t = 6)
  (hv : Value.okWide P w r b0 t v) (h : DataW.Trod enc P w base spare held t v d p) :
  ∃ (v0 v1 v2 v3 v4 v5 : Value) (y0 y1 y2 y3 y4 y5 : DataW H × List MemPlace) (n : Nat), v = .agg #[v0, v1, v2, v3, v4, v5] ∧ d = .agg [y0.1, y1.1, y2.1, y3.1, y4.1, y5.1] ∧ p = y0.2 ++ (y1.2 ++ (y2.2 ++ (y3.2 ++ (y4.2 ++ y5.2)))) ∧
   DataW.trod enc P w base spare held n f0.type [v0] = some y0 ∧ DataW.trod enc P w base spare held n f1.type [v1] = some y1 ∧ DataW.trod enc P w base spare held n f2.type [v2] = some y2 ∧ DataW.trod enc P w base spare held n f3.type [v3] = some y3 ∧ DataW.trod enc P w base spare held n f4.type [v4] = some y4 ∧ DataW.trod enc P w base spare held n f5.type [v5] = some y5 := by
 obtain ⟨cs, rfl, hsz⟩ := okWide_struct hs hv
 obtain ⟨l⟩ := cs
 match l, hsz.trans hC with
 | [c0, c1, c2, c3, c4, c5], _ =>
  obtain ⟨fuel, hf⟩ := h
  obtain ⟨xs, n, _, hx, _, hlen, hg⟩ := DataW.trod_struct hs hf
  obtain ⟨o0, k0⟩ := hone_of hone 0 f0 rfl
  obtain ⟨o1, k1⟩ := hone_of hone 1 f1 rfl
  obtain ⟨o2, k2⟩ := hone_of hone 2 f2 rfl
  obtain ⟨o3, k3⟩ := hone_of hone 3 f3 rfl
  obtain ⟨o4, k4⟩ := hone_of hone 4 f4 rfl
  obtain ⟨o5, k5⟩ := hone_of hone 5 f5 rfl
  match xs, hlen with
  | [y0, y1, y2, y3, y4, y5], _ =>
   simp only [Prod.mk.injEq] at hx
   exact ⟨c0, c1, c2, c3, c4, c5, y0, y1, y2, y3, y4, y5, n, rfl, by simpa using hx.1, by simpa using hx.2, by simpa [Value.cells, o0, k0] using hg 0 f0 rfl, by simpa [Value.cells, o1, k1] using hg 1 f1 rfl, by simpa [Value.cells, o2, k2] using hg 2 f2 rfl, by simpa [Value.cells, o3, k3] using hg 3 f3 rfl, by simpa [Value.cells, o4, k4] using hg 4 f4 rfl, by simpa [Value.cells, o5, k5] using hg 5 f5 rfl⟩
end
section
variable {H : Type} {enc : TypeId × Value → H} {w : World} {spare : Nat → Bool} {held : Bool}
theorem int_at {t : TypeId} {k : IntKind} {n : Nat} {v : Value} {y : DataW H × List MemPlace} (ht : Tryd.prog.underlying t = some (.int k)) (h : DataW.trod enc Tryd.prog w 0 spare held n t [v] = some y) : ∃ x, v = .int k x ∧ (Lit.int k x).wf = true := by
 obtain ⟨x, hx, _, hw⟩ := DataW.trod_int ht h
 simp at hx
 exact ⟨x, hx, hw⟩
theorem row_at {t e : TypeId} {k : IntKind} {n : Nat} {v : Value} {y : DataW H × List MemPlace} (ht : Tryd.prog.underlying t = some (.slice e)) (he : Tryd.prog.underlying e = some (.int k)) (hc : Tryd.prog.cellsOf e = 1)
  (h : DataW.trod enc Tryd.prog w 0 spare held n t [v] = some y) : ∃ (A : Option Addr) (c : Nat) (l : List Int), v = .slice A l.length c ∧ l.length ≤ c ∧ Kd.C (Kd.int k) w A l.length l ∧
   (∀ x ∈ l, (Lit.int k x).wf = true) ∧ ∀ B, Tryd.prog.bytesOf e = B → (∀ m ∈ y.1.weights Tryd.prog t, m ≤ reachBytes) → l.length * B ≤ reachBytes := by
 rcases open_ints ht he hc h with ⟨hcs, hy⟩ | ⟨a, len, cap, zs, hcs, _, hl, hm, hz, hy, hcell, hwf⟩
 ·simp at hcs
  subst hcs
  refine ⟨none, 0, [], rfl, Nat.le_refl _, Kd.C_nil _ _, by simp, fun B _ _ => by simp⟩
 ·simp at hcs
  subst hcs
  have hlz : len ≤ zs.length := by rw [hz]; split <;> omega
  have hlen : (zs.take len).length = len := by rw [List.length_take]; omega
  refine ⟨some a, cap, zs.take len, by rw [hlen], by rw [hlen]; exact hl, ?_, fun x hx => hwf x (List.mem_of_mem_take hx), ?_⟩
  ·refine Kd.C_of_reads (d := (0 : Int)) (h1 := fun _ => rfl) (show ReadsInt w k _ _ _ from ⟨rfl, by have hmx : maxLen = 9223372036854775807 := rfl; rw [hlen]; omega, fun _ => ⟨_, rfl, fun j hj => ?_⟩⟩)
   rw [hlen] at hj
   rw [hcell j (by omega)]
   have e : zs.getD j 0 = (zs.take len).getD j 0 := by
    rw [List.getD_eq_getElem?_getD, List.getD_eq_getElem?_getD, List.getElem?_take_of_lt hj]
   rw [e]
  ·intro B hB hw
   subst hy
   have h1 : (lits (H := H) k (zs.take len)).length + (lits (H := H) k (zs.drop len)).length = zs.length := by
    simp [lits]
    omega
   have z := hw (zs.length * B) (by
    simp only [DataW.weights, ht, hB]
    rw [h1]
    exact List.mem_cons_self ..)
   rw [hlen]
   exact Nat.le_trans (Nat.mul_le_mul_right _ hlz) z
end
theorem mem_all {H : Type} {P : Program} {e : TypeId} {d : DataW H} {m : Nat} (hm : m ∈ d.weights P e) : ∀ {l : List (DataW H)}, d ∈ l → m ∈ DataW.weightsAll P e l
 | [], h => by cases h
 | x :: l, h => by
  simp only [DataW.weightsAll, List.mem_append]
  rcases List.mem_cons.1 h with rfl | h
  ·exact .inl hm
  ·exact .inr (mem_all hm h)
theorem list_of {α : Type} {Q : Nat → α → Prop} : ∀ (n : Nat), (∀ i, i < n → ∃ x, Q i x) → ∃ l : List α, l.length = n ∧ ∀ i x, l[i]? = some x → Q i x
 | 0, _ => ⟨[], rfl, fun i x h => by simp at h⟩
 | n + 1, h => by
  obtain ⟨l, hl, hq⟩ := list_of n (fun i hi => h i (Nat.lt_succ_of_lt hi))
  obtain ⟨x, hx⟩ := h n (Nat.lt_succ_self n)
  refine ⟨l ++ [x], by simp [hl], fun i y hy => ?_⟩
  rcases Nat.lt_or_ge i l.length with h1 | h1
  ·rw [List.getElem?_append_left h1] at hy
   exact hq i y hy
  ·rw [List.getElem?_append_right h1] at hy
   have h2 : i - l.length = 0 := by
    have := (List.getElem?_eq_some_iff.1 hy).1
    simpa using this
   rw [h2] at hy
   simp at hy
   subst hy
   have : i = n := by omega
   rw [this]
   exact hx
section
variable {H : Type} {enc : TypeId × Value → H} {w : World} {spare : Nat → Bool} {held : Bool}
theorem slice_at {α : Type} (d : Kd α) {Ok : α → Prop} {t e B : TypeId} {n : Nat} {v : Value} {y : DataW H × List MemPlace} (ht : Tryd.prog.underlying t = some (.slice e)) (hC : Tryd.prog.cellsOf e = d.sz) (hb : Tryd.prog.bytesOf e = B)
  (hel : ∀ (n : Nat) (cs : List Value) (z : DataW H × List MemPlace), cs.length = d.sz → DataW.trod enc Tryd.prog w 0 spare held n e cs = some z → (∀ m ∈ z.1.weights Tryd.prog e, m ≤ reachBytes) → ∃ x, d.K w x cs ∧ Ok x)
  (h : DataW.trod enc Tryd.prog w 0 spare held n t [v] = some y) (hw : ∀ m ∈ y.1.weights Tryd.prog t, m ≤ reachBytes) :
  ∃ (A : Option Addr) (c : Nat) (l : List α), v = .slice A l.length c ∧ l.length ≤ c ∧ d.C w A l.length l ∧ (∀ x ∈ l, Ok x) ∧ l.length * B ≤ reachBytes := by
 rcases open_slice ht h with ⟨hcs, hy⟩ | ⟨a, len, cap, m, n', D, Pl, hcs, _, hl, hm, hmm, hx, hi⟩
 ·simp at hcs
  subst hcs
  exact ⟨none, 0, [], rfl, Nat.le_refl _, Kd.C_nil _ _, by simp, by simp⟩
 ·simp at hcs
  subst hcs
  have hlm : len ≤ m := by rw [hmm]; split <;> omega
  subst hx
  have hwlen : len * B ≤ reachBytes := by
   have z := hw ((((List.range len).map D).length + ((List.range (m - len)).map fun j => D (len + j)).length) * B) (by
    simp only [DataW.weights, ht, hb]
    exact List.mem_cons_self ..)
   refine Nat.le_trans (Nat.mul_le_mul_right _ ?_) z
   simp
  have hwall : ∀ i, i < len → ∀ q ∈ (D i).weights Tryd.prog e, q ≤ reachBytes := fun i hi q hq => hw q (by
   simp only [DataW.weights, ht]
   refine List.mem_cons_of_mem _ (List.mem_append_left _ (mem_all hq ?_))
   exact List.mem_map.2 ⟨i, List.mem_range.2 hi, rfl⟩)
  obtain ⟨l, hlen, hq⟩ := list_of (α := α) (Q := fun i x => Ok x ∧ ∃ cs : List Value, cs.length = d.sz ∧ d.K w x cs ∧ ∀ j u, cs[j]? = some u → w.cell? (a.add (i * d.sz + j)) = some u) len (fun i hi' => by
   obtain ⟨cs', hc, ht'⟩ := hi i (by omega)
   rw [hC] at hc
   obtain ⟨_, hcl, hat⟩ := World.cells?_some hc
   obtain ⟨x, hK, hok⟩ := hel _ cs' _ hcl ht' (hwall i hi')
   refine ⟨x, hok, cs', hcl, hK, fun j u hu => ?_⟩
   have hj : j < d.sz := by
    have := (List.getElem?_eq_some_iff.1 hu).1
    omega
   rw [← Go.Deep.add_add, hat j hj, hu])
  have hmx : maxLen = 9223372036854775807 := rfl
  refine ⟨some a, cap, l, by rw [hlen], by rw [hlen]; exact hl, ⟨rfl, by omega, fun _ => ⟨a, rfl, fun j p hp => ?_⟩⟩, fun x hx => ?_, by rw [hlen]; exact hwlen⟩
  ·obtain ⟨_, cs, h6, hK, hcell⟩ := hq j p hp
   exact ⟨cs, h6, hK, hcell⟩
  ·obtain ⟨i, hi⟩ := List.getElem?_of_mem hx
   exact (hq i x hi).1
set_option maxRecDepth 100000 in
theorem items_at {n : Nat} {v : Value} {y : DataW H × List MemPlace} (h : DataW.trod enc Tryd.prog w 0 spare held n 22 [v] = some y) (hw : ∀ m ∈ y.1.weights Tryd.prog 22, m ≤ reachBytes) :
  ∃ (A : Option Addr) (c : Nat) (l : List S55), v = .slice A l.length c ∧ l.length ≤ c ∧ k55.C w A l.length l ∧ (∀ _x ∈ l, True) ∧ l.length * 16 ≤ reachBytes := by
 refine slice_at k55 (Ok := fun _ => True) Tryd.underlying22 (by kernel_rfl) (by kernel_rfl) (fun m cs z hcl ht _ => ?_) h hw
 match cs, hcl with
 | [c0, c1], _ =>
  obtain ⟨xs, m', _, hx, _, hlen, hg⟩ := DataW.trod_array Tryd.underlying53 ht
  match xs, hlen with
  | [y0, y1], _ =>
   have g0 := hg 0 (by omega)
   have g1 := hg 1 (by omega)
   have hc : Tryd.prog.cellsOf 2 = 1 := by kernel_rfl
   rw [hc] at g0 g1
   have g0' : DataW.trod enc Tryd.prog w 0 spare held m' 2 [c0] = some y0 := g0
   have g1' : DataW.trod enc Tryd.prog w 0 spare held m' 2 [c1] = some y1 := g1
   obtain ⟨x0, e0, _, _⟩ := DataW.trod_int Tryd.underlying2 g0'
   obtain ⟨x1, e1, _, _⟩ := DataW.trod_int Tryd.underlying2 g1'
   simp at e0 e1
   subst e0 e1
   exact ⟨⟨x0, x1⟩, k55_mk w _, trivial⟩
set_option maxRecDepth 100000 in
theorem cost_at {n : Nat} {v : Value} {y : DataW H × List MemPlace} (h : DataW.trod enc Tryd.prog w 0 spare held n 23 [v] = some y) (hw : ∀ m ∈ y.1.weights Tryd.prog 23, m ≤ reachBytes) :
  ∃ (A : Option Addr) (c : Nat) (l : List (List Int)), v = .slice A l.length c ∧ l.length ≤ c ∧ (Kd.slice 2 (Kd.int .i64)).C w A l.length l ∧ (∀ r ∈ l, r.length ≤ 17592186044416) ∧ l.length * 24 ≤ reachBytes := by
 refine slice_at (Kd.slice 2 (Kd.int .i64)) (Ok := fun r => r.length ≤ 17592186044416) Tryd.underlying23 (by kernel_rfl) (by kernel_rfl) (fun m cs z hcl ht hz => ?_) h hw
 match cs, hcl with
 | [c0], _ =>
  obtain ⟨A, c, l, rfl, hl, hC, _, hB⟩ := row_at Tryd.underlying56 Tryd.underlying2 (by kernel_rfl) ht
  have z := hB 8 (by kernel_rfl) hz
  have hr : reachBytes = 140737488355328 - 4096 := rfl
  exact ⟨l, ⟨A, c, rfl, hl, hC⟩, by omega⟩
set_option maxRecDepth 100000 in
theorem sets_at {n : Nat} {v : Value} {y : DataW H × List MemPlace} (h : DataW.trod enc Tryd.prog w 0 spare held n 24 [v] = some y) (hw : ∀ m ∈ y.1.weights Tryd.prog 24, m ≤ reachBytes) :
  ∃ (A : Option Addr) (c : Nat) (l : List S59), v = .slice A l.length c ∧ l.length ≤ c ∧ k59.C w A l.length l ∧ (∀ s ∈ l, s.f1.length ≤ 17592186044416) ∧ l.length * 32 ≤ reachBytes := by
 refine slice_at k59 (Ok := fun s => s.f1.length ≤ 17592186044416) Tryd.underlying24 (by kernel_rfl) (by kernel_rfl) (fun m cs z hcl ht hz => ?_) h hw
 match cs, hcl with
 | [c0, c1], _ =>
  obtain ⟨ys, n', _, hy, _, hyl, hf⟩ := DataW.trod_struct Tryd.underlying58 ht
  match ys, hyl with
  | [y0, y1], _ =>
   have t0 : DataW.trod enc Tryd.prog w 0 spare held n' 2 [c0] = some y0 := hf 0 _ rfl
   have t1 : DataW.trod enc Tryd.prog w 0 spare held n' 27 [c1] = some y1 := hf 1 _ rfl
   obtain ⟨u, rfl, _⟩ := int_at Tryd.underlying2 t0
   obtain ⟨A, c, l, rfl, hl, hC, _, hB⟩ := row_at Tryd.underlying27 Tryd.underlying3 (by kernel_rfl) t1
   have z := hB 8 (by kernel_rfl) (fun m hm => hz m (by
    rw [congrArg Prod.fst hy]
    simp only [DataW.weights, Tryd.underlying58, DataW.weightsEach, List.map_cons, List.map_nil, List.mem_append]
    exact .inr (.inl hm)))
   have hr : reachBytes = 140737488355328 - 4096 := rfl
   exact ⟨⟨u, l⟩, k59_mk w ⟨u, l⟩ hl hC, by show l.length ≤ _; omega⟩
set_option maxRecDepth 100000 in
theorem inst_at {r : Reach} {b0 : Nat} {v : Value} {d : DataW H} {p : List MemPlace} (hv : Value.okWide Tryd.prog w r b0 26 v) (h : DataW.Trod enc Tryd.prog w 0 spare held 26 v d p) (hw : ∀ m ∈ d.weights Tryd.prog 26, m ≤ reachBytes) : ∃ x : PI, InstC w x v ∧ PIok x := by
 obtain ⟨x0, x1, x2, x3, x4, x5, y0, y1, y2, y3, y4, y5, n, rfl, rfl, rfl, g0, g1, g2, g3, g4, g5⟩ := open_agg6 Tryd.underlying26 (by kernel_rfl) (by kernel_rfl) hv h
 obtain ⟨k, rfl, _⟩ := int_at Tryd.underlying3 g0
 obtain ⟨cp, rfl, _⟩ := int_at Tryd.underlying2 g1
 obtain ⟨A2, c2, l2, rfl, b2, C2, _, w2⟩ := items_at g2 (fun m hm => hw m (by
  simp only [DataW.weights, Tryd.underlying26, DataW.weightsEach, List.map_cons, List.map_nil, List.mem_append]
  exact .inr (.inr (.inl hm))))
 obtain ⟨A3, c3, l3, rfl, b3, C3, r3, w3⟩ := cost_at g3 (fun m hm => hw m (by
  simp only [DataW.weights, Tryd.underlying26, DataW.weightsEach, List.map_cons, List.map_nil, List.mem_append]
  exact .inr (.inr (.inr (.inl hm)))))
 obtain ⟨sz, rfl, _⟩ := int_at Tryd.underlying3 g4
 obtain ⟨A5, c5, l5, rfl, b5, C5, r5, w5⟩ := sets_at g5 (fun m hm => hw m (by
  simp only [DataW.weights, Tryd.underlying26, DataW.weightsEach, List.map_cons, List.map_nil, List.mem_append]
  exact .inr (.inr (.inr (.inr (.inr (.inl hm)))))))
 have hr : reachBytes = 140737488355328 - 4096 := rfl
 exact ⟨⟨k, cp, l2, l3, sz, l5⟩, ⟨A2, c2, A3, c3, A5, c5, rfl, C2, b2, C3, b3, C5, b5⟩, by show l2.length ≤ _; omega, by show l3.length ≤ _; omega, by show l5.length ≤ _; omega, r3, r5⟩
end
end Go.Proofs.YtlilfgfkedlbcaaDoor.Hand
end
