/- Texts Dg Mj Dv Mk Dx, cut to what is used. -/
import Derived.WalkKit
import Derived.ProofKit
import Derived.OpenShut
import Derived.ShutString
import Derived.ChangeOld
import Derived.Below
import Derived.SizedLaws
import Derived.Lib.SmallJoins
import Derived.ChangeSame
import Derived.Deep.Slices
import Derived.Deep.Fields
import Derived.Test.YtelabmhhnpfegaaZa0
import Derived.Test.YtelabmhhnpfegaaZa3
import Derived.Test.YtelabmhhnpfegaaZa6
import Derived.Test.YtelabmhhnpfegaaZc6
import Derived.Test.YtelabmhhnpfegaaZc8
set_option linter.unusedVariables false
set_option linter.unusedSimpArgs false
section
namespace Go.Proofs.Ytelabmhhnpfegaa.Hand
open Go.RowKit Go.Proofs.YtelabmhhnpfegaaW.PrintWords Go.Proofs.YtelabmhhnpfegaaW.PrintLast Go.Proofs.YtelabmhhnpfegaaW.PrintMore Go.Proofs.Ytelabmhhnpfegaa.PDynCells
attribute [local go_sem] max2_int min2_int
theorem fin_R2 {α : Type} {d : Kd α} {e base base' q : Nat} {wr : World} {v : Value} {xs : List α} {cs : Array Value} (h : d.R e wr base (fun _ => True) v xs) (hb : base' ≤ base) (h2 : wr.heap[q]? = some (.cells cs 47 (0, 0))) (ht : 47 ∉ e :: d.E) (v0 v1 v2 v3 v4 v5 : Value) :
  d.R e ((((((wr.setCell ⟨q, 0, none⟩ v0).setCell ⟨q, 1, none⟩ v1).setCell ⟨q, 2, none⟩ v2).setCell ⟨q, 3, none⟩ v3).setCell ⟨q, 4, none⟩ v4).setCell ⟨q, 5, none⟩ v5) base' (fun _ => True) v xs :=
 fin_R (N := wr.heap.size) (Kd.R_mono (Kd.R_bound h) (fun _ hk => hk.2.2.1)) hb h2 ht v0 v1 v2 v3 v4 v5
structure LightP (most : Nat) (k : Int) (x : PI) : Prop where
 t : TameP most k x
 l : ∀ s ∈ x.items, s.f1 < 40
set_option maxHeartbeats 4000000 in
set_option maxRecDepth 100000 in
theorem light_any (w : World) (x : PI) (v : Value) (most : Nat) (h : InstC w x v) (hx : PIok x) (hm : 1 ≤ most) (hm2 : most ≤ 64) : Calls Try.prog 20 #[v, .int .i64 most] w fun e w' => ∃ va, e = .returned va ∧ Aside0 (∃ x', InstO w.heap.size w' x' va ∧ LightP most x.kind x' ∧ Below w.heap.size w w') := by
 obtain ⟨AA, ca, AB, cb, AC, cc, rfl, h2, l2, h3, l3, h5, l5⟩ := id h
 have HI := Aside0.mk h
 clear h h2 h3 h5
 have hu44 := Try.underlying44
 have hu47 := Try.underlying47
 have hu68 := Try.underlying68
 go_enter Try.func20, Try.ntmps20
 go_wp2_with fail
 clear l2 l3 l5
 obtain ⟨W2, hW2⟩ : ∃ W, W = (w.alloc (.cells #[.int .i64 x.kind, .int .i64 x.cap, .slice AA x.items.length ca, .slice AB x.cost.length cb, .int .i64 x.size, .slice AC x.sets.length cc] 47)).alloc (.cells #[.int .i64 0, .int .i64 0, .slice none 0 0, .slice none 0 0, .int .i64 0, .slice none 0 0] 47) := ⟨_, rfl⟩
 rw [← hW2]
 have B2 : Aside0 (Below w.heap.size w W2) := ⟨by rw [hW2]; exact below_alloc (below_alloc (Below.refl _ _) _) _⟩
 have Z2 : Aside0 (W2.heap.size = w.heap.size + 2) := ⟨by rw [hW2]; simp only [al_size]⟩
 have Q2 : Aside0 (W2.heap[w.heap.size + 1]? = some (.cells #[.int .i64 0, .int .i64 0, .slice none 0 0, .slice none 0 0, .int .i64 0, .slice none 0 0] 47 (0, 0))) := ⟨by rw [hW2]; simp only [al_get, al_size]; repeat (first | rw [if_pos trivial] | rw [if_neg (by omega)])⟩
 clear hW2
 refine (tame_any W2 x _ most (InstC.below HI.out B2.out) hx hm hm2).mono ?_
 rintro _ w1 ⟨va, rfl, ⟨x1, O1, T1, B1⟩⟩
 obtain ⟨A2, n2, c2, A3, n3, c3, A5, n5, c5, rfl, o2, o3, o5⟩ := O1
 have TT := Aside0.mk T1
 have hn2 : x1.items.length = n2 := (R_C o2).2.1
 have hnc : n2 ≤ c2 := (R_C o2).2.2
 have h64 : n2 ≤ 64 := by
  have := T1.items.1
  omega
 have BB := Aside0.mk B1
 have O2 := Aside0.mk o2
 have O3 := Aside0.mk o3
 have O5 := Aside0.mk o5
 have HN := Aside0.mk hn2
 clear T1 o2 o3 o5 B1 hn2
 obtain ⟨k1, hk1⟩ : ∃ z, z = x1.kind := ⟨_, rfl⟩
 obtain ⟨cp1, hcp1⟩ : ∃ z, z = x1.cap := ⟨_, rfl⟩
 obtain ⟨sz1, hsz1⟩ : ∃ z, z = x1.size := ⟨_, rfl⟩
 rw [← hk1, ← hcp1, ← hsz1]
 have HX := Aside0.mk (And.intro hk1 (And.intro hcp1 hsz1))
 clear hk1 hcp1 hsz1
 go_wp2_with fail
 obtain ⟨W5, hW5⟩ : ∃ W, W = w1.alloc (.cells #[.int .i64 k1, .int .i64 cp1, .slice A2 n2 c2, .slice A3 n3 c3, .int .i64 sz1, .slice A5 n5 c5] 47) := ⟨_, rfl⟩
 rw [← hW5]
 have B5 : Aside0 (Below w1.heap.size w1 W5) := ⟨by rw [hW5]; exact below_alloc (Below.refl _ _) _⟩
 have Q5 : Aside0 (W5.heap[w1.heap.size]? = some (.cells #[.int .i64 k1, .int .i64 cp1, .slice A2 n2 c2, .slice A3 n3 c3, .int .i64 sz1, .slice A5 n5 c5] 47 (0, 0))) := ⟨by rw [hW5]; exact heap_alloc_new _ _⟩
 clear hW5
 obtain ⟨p5, hp5⟩ : ∃ p, p = w1.heap.size := ⟨_, rfl⟩
 rw [← hp5] at Q5 ⊢
 have HP := Aside0.mk hp5
 clear hp5
 obtain ⟨p1, hp1⟩ : ∃ p, p = w.heap.size := ⟨_, rfl⟩
 rw [← hp1] at Q2 ⊢
 have HP1 := Aside0.mk hp1
 clear hp1
 have K0 : Aside0 (∃ its : List S101, k101.R 68 W5 W2.heap.size (fun _ => True) (.slice A2 n2 c2) its ∧ its.length = n2 ∧ (∀ s ∈ its, (0 ≤ s.f0 ∧ s.f0 ≤ 2147483648) ∧ 0 ≤ s.f1 ∧ s.f1 ≤ 2147483648) ∧ (∀ s ∈ its.take 0, s.f1 < 40) ∧ Chg (fun k => some k = (Value.slice A2 n2 c2).ownBlock) W5 W5) := ⟨x1.items, Kd.R_below O2.out B5.out, HN.out, TT.out.items.2, by simp, Chg.refl _ _⟩
 go_loopw [13] (fun v wr => ∃ i : Nat, i ≤ n2 ∧ v = .int .i64 i ∧ Aside0 (∃ its : List S101, k101.R 68 wr W2.heap.size (fun _ => True) (.slice A2 n2 c2) its ∧ its.length = n2 ∧ (∀ s ∈ its, (0 ≤ s.f0 ∧ s.f0 ≤ 2147483648) ∧ 0 ≤ s.f1 ∧ s.f1 ≤ 2147483648) ∧ (∀ s ∈ its.take i, s.f1 < 40) ∧ Chg (fun k => some k = (Value.slice A2 n2 c2).ownBlock) W5 wr)) (fun v _ => n2 - (intOf v).toNat)
 case atStart => exact ⟨0, Nat.zero_le _, rfl, K0⟩
 case round =>
  clear K0
  obtain ⟨i, hi, rfl, ⟨its, r1, r2, r3, r4, r5⟩⟩ := hrel
  have KK := Aside0.mk (And.intro r1 (And.intro r2 (And.intro r3 (And.intro r4 r5))))
  clear r1 r2 r3 r4 r5
  by_cases hlt : i < n2
  ·obtain ⟨g, e, hg1, hg2⟩ : ∃ g, A2 = some ⟨g, 0, none⟩ ∧ W2.heap.size ≤ g ∧ g < wr.heap.size ∧ ∃ cells, wr.heap[g]? = some (.cells cells 68 (0, 0)) := by
    obtain ⟨g, cap, e, h1, h2, h3⟩ := Kd.R_form KK.out.1 (by rw [KK.out.2.1]; omega)
    injection e with e _ _
    exact ⟨g, e, h1, h2, h3⟩
   subst e
   obtain ⟨s, hs⟩ : ∃ s, s = rd_T101 its (i : Int) := ⟨_, rfl⟩
   have hC := (R_C KK.out.1).1
   obtain ⟨ad, e, a0, a1⟩ := at_T101 hC (i : Int) (by omega) (by omega)
   injection e with e
   subst e
   rw [Int.toNat_natCast, ← hs] at a0 a1
   have hadd : (⟨g, 0, none⟩ : Addr).add (i * 2) = ⟨g, i * 2, none⟩ := by unfold Addr.add; split <;> simp_all
   rw [hadd] at a0 a1
   obtain ⟨cells, hcells⟩ := hg2.2
   have GC := Aside0.mk hcells
   have G2 := Aside0.mk (And.intro hg1 hg2.1)
   have P5 : Aside0 (wr.heap[p5]? = some (.cells #[.int .i64 k1, .int .i64 cp1, .slice (some ⟨g, 0, none⟩) n2 c2, .slice A3 n3 c3, .int .i64 sz1, .slice A5 n5 c5] 47 (0, 0))) := ⟨KK.out.2.2.2.2.blk Q5.out (by
    intro e
    have e' : p5 = g := by simpa [Value.ownBlock] using e
    have h1 := O2.out
    have := Kd.R_lt h1 g (by simp [Value.ownBlock])
    have := HP.out
    omega)⟩
   have SI : Aside0 (s ∈ its) := ⟨by
    rw [hs]
    unfold rd_T101
    rw [Int.toNat_natCast, List.getD_eq_getElem?_getD, List.getElem?_eq_getElem (by rw [KK.out.2.1]; exact hlt)]
    exact List.getElem_mem _⟩
   have HS := Aside0.mk hs
   clear hs hC hcells hg1 hg2
   go_wp2_with fail
   have A0 := Aside0.mk a0
   clear a0
   have hZ : s.f1.tmod 40 = s.f1.tmod 40 := rfl
   obtain ⟨z, hz⟩ : ∃ z, z = s.f1.tmod 40 := ⟨_, rfl⟩
   have zb : Aside0 (0 ≤ z ∧ z < 40) := ⟨by
    have h0 := (KK.out.2.2.1 s SI.out).2.1
    have h1 := Int.tmod_nonneg 40 h0
    have h2 := Int.tmod_lt_of_pos s.f1 (b := 40) (by omega)
    omega⟩
   have ez := hz.symm
   clear hZ hz
   have A1 := Aside0.mk a1
   have q0 : wr.drew.cell? ⟨p5, 2, none⟩ = some (.slice (some ⟨g, 0, none⟩) n2 c2) := (blk_cell P5.out 2).trans rfl
   have q1 : wr.drew.cell? ⟨g, i * 2 + 1, none⟩ = some (.int .i64 s.f1) := a1
   refine start_ (n := 10) (S := fun w' => w'.cell? ⟨p5, 2, none⟩ = some (.slice (some ⟨g, 0, none⟩) n2 c2) ∧ w'.cell? ⟨g, i * 2 + 1, none⟩ = some (.int .i64 s.f1)) (ds := [9]) #[false, false, false, false, false, false, false, false, false, false] (by kernel_rfl) rfl rfl ⟨q0, q1⟩ (fun hHeld => ?_)
   clear q0 q1
   refine puU 0 (some 16) ?_ rfl rfl (by kernel_rfl) (fun _ _ _ h => h) (Or.inl ⟨by rfl, ?_⟩) ?_ ?_ ?_
   rotate_left
   ·intro w'
    go_simp
    with_reducible rfl
   rotate_left
   ·simp only [Act.put, lsA, lsB, lsC]
    rfl
   refine taU 1 (some 17) ?_ rfl rfl (by kernel_rfl) (fun _ _ _ h => h) (Or.inl ⟨by rfl, ?_⟩) hHeld ?_ ?_ ?_
   rotate_left
   ·rintro w' ⟨s0, s1⟩
    go_simp
    with_reducible rfl
   rotate_left
   ·simp only [Act.put, lsA, lsB, lsC]
    rfl
   refine puU 2 (some 18) ?_ rfl rfl (by kernel_rfl) (fun _ _ _ h => h) (Or.inl ⟨by rfl, ?_⟩) ?_ ?_ ?_
   rotate_left
   ·intro w'
    go_simp
    with_reducible rfl
   rotate_left
   ·simp only [Act.put, lsA, lsB, lsC]
    rfl
   refine puU 3 (some 19) ?_ rfl rfl (by kernel_rfl) (fun _ _ _ h => h) (Or.inl ⟨by rfl, ?_⟩) ?_ ?_ ?_
   rotate_left
   ·intro w'
    go_simp
    with_reducible rfl
   rotate_left
   ·simp only [Act.put, lsA, lsB, lsC]
    rfl
   refine puU 4 (some 20) ?_ rfl rfl (by kernel_rfl) (fun _ _ _ h => h) (Or.inl ⟨by rfl, ?_⟩) ?_ ?_ ?_
   rotate_left
   ·intro w'
    go_simp
    with_reducible rfl
   rotate_left
   ·simp only [Act.put, lsA, lsB, lsC]
    rfl
   refine taU 5 (some 21) ?_ rfl rfl (by kernel_rfl) (fun _ _ _ h => h) (Or.inl ⟨by rfl, ?_⟩) hHeld ?_ ?_ ?_
   rotate_left
   ·rintro w' ⟨s0, s1⟩
    go_simp
    with_reducible rfl
   rotate_left
   ·simp only [Act.put, lsA, lsB, lsC]
    rfl
   refine puU 6 (some 22) ?_ rfl rfl (by kernel_rfl) (fun _ _ _ h => h) (Or.inl ⟨by rfl, ?_⟩) ?_ ?_ ?_
   rotate_left
   ·intro w'
    go_simp
    with_reducible rfl
   rotate_left
   ·simp only [Act.put, lsA, lsB, lsC]
    rfl
   refine puU 7 (some 23) ?_ rfl rfl (by kernel_rfl) (fun _ _ _ h => h) (Or.inl ⟨by rfl, ?_⟩) ?_ ?_ ?_
   rotate_left
   ·intro w'
    go_simp
    with_reducible rfl
   rotate_left
   ·simp only [Act.put, lsA, lsB, lsC]
    rfl
   refine puU 8 (some 24) ?_ rfl rfl (by kernel_rfl) (fun _ _ _ h => h) (Or.inl ⟨by rfl, ?_⟩) ?_ ?_ ?_
   rotate_left
   ·intro w'
    go_simp
    with_reducible rfl
   rotate_left
   ·simp only [Act.put, lsA, lsB, lsC]
    rfl
   refine last_ (i := 9) (N := none) #[true, true, true, true, true, true, true, true, true, true] rfl rfl (by kernel_rfl) (by decide) (fun K hK => ?_)
   have h0 := a1
   have h1 := blk_frozen GC.out (i * 2 + 1)
   refine skip_ (w1 := ?_) (by rfl) rfl ?_ ?_
   rotate_left
   ·go_simp
    rfl
   refine hK.out _ _ ?_
   clear hK K h0 h1
   refine done_ (by kernel_rfl) ?_
   clear hHeld ez a1
   have hsg := (Kd.R_seg (okp := fun _ => False) (x' := (⟨s.f0, z⟩ : S101)) (seg := [.int .i64 z]) (c := [.int .i64 s.f0, .int .i64 s.f1]) (j := 1) (Kd.R_drew KK.out.1) (i : Int) (by omega) (by omega) rfl (fun j u hu => by
    show wr.drew.cell? ⟨g, (i : Int).toNat * 2 + j, none⟩ = some u
    rw [Int.toNat_natCast]
    match j, hu with
    | 0, hu => exact A0.out.trans hu
    | 1, hu => exact A1.out.trans hu) (by show 1 + 1 ≤ 2; omega) (k101_mkM _ _ _ ⟨s.f0, z⟩) (fun _ h => h.elim)).1
   have hsg' : k101.R 68 (wr.drew.setCell ⟨g, i * 2 + 1, none⟩ (.int .i64 z)) W2.heap.size (fun _ => True) (.slice (some ⟨g, 0, none⟩) n2 c2) (its.set i ⟨s.f0, z⟩) := by
    have e : (i : Int).toNat * k101.sz + 1 = i * 2 + 1 := by
     show (i : Int).toNat * 2 + 1 = i * 2 + 1
     rw [Int.toNat_natCast]
    rw [e, Int.toNat_natCast] at hsg
    exact hsg
   have N9 : Aside0 (∃ its : List S101, k101.R 68 (wr.drew.setCell ⟨g, i * 2 + 1, none⟩ (.int .i64 z)) W2.heap.size (fun _ => True) (.slice (some ⟨g, 0, none⟩) n2 c2) its ∧ its.length = n2 ∧ (∀ s ∈ its, (0 ≤ s.f0 ∧ s.f0 ≤ 2147483648) ∧ 0 ≤ s.f1 ∧ s.f1 ≤ 2147483648) ∧ (∀ s ∈ its.take (i + 1), s.f1 < 40) ∧ Chg (fun k => some k = (Value.slice (some ⟨g, 0, none⟩) n2 c2).ownBlock) W5 (wr.drew.setCell ⟨g, i * 2 + 1, none⟩ (.int .i64 z))) := ⟨its.set i ⟨s.f0, z⟩, hsg', by rw [List.length_set]; exact KK.out.2.1, fun t ht => by
    rcases List.mem_or_eq_of_mem_set ht with ht | ht
    ·exact KK.out.2.2.1 t ht
    ·have h1 := KK.out.2.2.1 s SI.out
     have h2 := zb.out
     rw [ht]
     exact ⟨h1.1, h2.1, by show z ≤ 2147483648; omega⟩, (fun t ht => by
    obtain ⟨k, hk⟩ := List.mem_iff_getElem?.1 ht
    rw [List.getElem?_take] at hk
    split at hk
    ·rename_i hlk
     rw [List.getElem?_set] at hk
     by_cases hik : i = k
     ·rw [if_pos hik] at hk
      split at hk
      ·injection hk with hk
       rw [← hk]
       exact zb.out.2
      ·cases hk
     ·rw [if_neg hik] at hk
      exact KK.out.2.2.2.1 t (List.mem_iff_getElem?.2 ⟨k, by rw [List.getElem?_take, if_pos (by omega)]; exact hk⟩)
    ·cases hk), KK.out.2.2.2.2.drew.setCell (p := ⟨g, i * 2 + 1, none⟩) (.inl rfl) _⟩
   clear hsg hsg'
   go_wp2_with fail
   go_roundw
   case measure => simp [intOf]; omega
   case rel => exact ⟨i + 1, by omega, by go_num, N9⟩
  ·obtain rfl : n2 = i := by omega
   clear hlt hi
   have hne5 : some p5 ≠ (Value.slice A2 n2 c2).ownBlock := fun e => by
    have := Kd.R_lt O2.out p5 e.symm
    have := HP.out
    omega
   have hne1 : some (p1 + 1) ≠ (Value.slice A2 n2 c2).ownBlock := fun e => by
    have := Kd.R_base O2.out (p1 + 1) e.symm
    have := HP1.out
    have := Z2.out
    omega
   have E6 : Aside0 (wr.heap[p5]? = some (.cells #[.int .i64 k1, .int .i64 cp1, .slice A2 n2 c2, .slice A3 n3 c3, .int .i64 sz1, .slice A5 n5 c5] 47 (0, 0))) := ⟨KK.out.2.2.2.2.blk Q5.out hne5⟩
   have E2 : Aside0 (wr.heap[p1 + 1]? = some (.cells #[.int .i64 0, .int .i64 0, .slice none 0 0, .slice none 0 0, .int .i64 0, .slice none 0 0] 47 (0, 0))) := ⟨KK.out.2.2.2.2.blk (blk_below (blk_below Q2.out BB.out) B5.out) hne1⟩
   clear hne5 hne1
   have r0 : wr.cell? ⟨p5, 0, none⟩ = some (.int .i64 k1) := (blk_cell E6.out 0).trans rfl
   have r1 : wr.cell? ⟨p5, 1, none⟩ = some (.int .i64 cp1) := (blk_cell E6.out 1).trans rfl
   have r2 : wr.cell? ⟨p5, 2, none⟩ = some (.slice A2 n2 c2) := (blk_cell E6.out 2).trans rfl
   have r3 : wr.cell? ⟨p5, 3, none⟩ = some (.slice A3 n3 c3) := (blk_cell E6.out 3).trans rfl
   have r4 : wr.cell? ⟨p5, 4, none⟩ = some (.int .i64 sz1) := (blk_cell E6.out 4).trans rfl
   have r5 : wr.cell? ⟨p5, 5, none⟩ = some (.slice A5 n5 c5) := (blk_cell E6.out 5).trans rfl
   have h0 : wr.cell? ⟨p1 + 1, 0, none⟩ = some (.int .i64 0) := (blk_cell E2.out 0).trans rfl
   have h1 : wr.cell? ⟨p1 + 1, 1, none⟩ = some (.int .i64 0) := (blk_cell E2.out 1).trans rfl
   have h2 : wr.cell? ⟨p1 + 1, 2, none⟩ = some (.slice none 0 0) := (blk_cell E2.out 2).trans rfl
   have h3 : wr.cell? ⟨p1 + 1, 3, none⟩ = some (.slice none 0 0) := (blk_cell E2.out 3).trans rfl
   have h4 : wr.cell? ⟨p1 + 1, 4, none⟩ = some (.int .i64 0) := (blk_cell E2.out 4).trans rfl
   have h5 : wr.cell? ⟨p1 + 1, 5, none⟩ = some (.slice none 0 0) := (blk_cell E2.out 5).trans rfl
   have hz : ∀ j, wr.frozen? ⟨p1 + 1, j, none⟩ = false := blk_frozen E2.out
   go_upto_region 7 with fail
   go_wp2_with fail
   clear r0 r1 r2 r3 r4 r5 h0 h1 h2 h3 h4 h5 hz
   obtain ⟨Wz, hWz⟩ : ∃ W, W = ((((((wr).setCell ⟨p1 + 1, 0, none⟩ (.int .i64 k1)).setCell ⟨p1 + 1, 1, none⟩ (.int .i64 cp1)).setCell ⟨p1 + 1, 2, none⟩ (.slice A2 n2 c2)).setCell ⟨p1 + 1, 3, none⟩ (.slice A3 n3 c3)).setCell ⟨p1 + 1, 4, none⟩ (.int .i64 sz1)).setCell ⟨p1 + 1, 5, none⟩ (.slice A5 n5 c5) := ⟨_, rfl⟩
   rw [← hWz]
   have HWz := Aside0.mk hWz
   clear hWz
   have EZ : Aside0 (Wz.heap[p1 + 1]? = some (.cells #[.int .i64 k1, .int .i64 cp1, .slice A2 n2 c2, .slice A3 n3 c3, .int .i64 sz1, .slice A5 n5 c5] 47 (0, 0))) := ⟨by rw [HWz.out]; exact put6 E2.out (.int .i64 k1) (.int .i64 cp1) (.slice A2 n2 c2) (.slice A3 n3 c3) (.int .i64 sz1) (.slice A5 n5 c5)⟩
   have r0 : Wz.cell? ⟨p1 + 1, 0, none⟩ = some (.int .i64 k1) := (blk_cell EZ.out 0).trans rfl
   have r1 : Wz.cell? ⟨p1 + 1, 1, none⟩ = some (.int .i64 cp1) := (blk_cell EZ.out 1).trans rfl
   have r2 : Wz.cell? ⟨p1 + 1, 2, none⟩ = some (.slice A2 n2 c2) := (blk_cell EZ.out 2).trans rfl
   have r3 : Wz.cell? ⟨p1 + 1, 3, none⟩ = some (.slice A3 n3 c3) := (blk_cell EZ.out 3).trans rfl
   have r4 : Wz.cell? ⟨p1 + 1, 4, none⟩ = some (.int .i64 sz1) := (blk_cell EZ.out 4).trans rfl
   have r5 : Wz.cell? ⟨p1 + 1, 5, none⟩ = some (.slice A5 n5 c5) := (blk_cell EZ.out 5).trans rfl
   refine bodyPost_ret (v := .agg #[.int .i64 k1, .int .i64 cp1, .slice A2 n2 c2, .slice A3 n3 c3, .int .i64 sz1, .slice A5 n5 c5]) (by simp [results, Try.results20, go_sem, r0, r1, r2, r3, r4, r5]) rfl ?_
   clear r0 r1 r2 r3 r4 r5
   rw [HWz.out]
   obtain ⟨hk1, hcp1, hsz1⟩ := HX.out
   have hll := KK.out.2.1
   have hT := TT.out
   refine ⟨_, rfl, ⟨(⟨k1, cp1, its, x1.cost, sz1, x1.sets⟩ : PI), ⟨_, _, _, _, _, _, _, _, _, rfl, fin_R2 KK.out.1 (by have := Z2.out; omega) E2.out (by decide) (.int .i64 k1) (.int .i64 cp1) (.slice A2 n2 c2) (.slice A3 n3 c3) (.int .i64 sz1) (.slice A5 n5 c5), fin_R2 (R_final (Kd.R_below O3.out B5.out) ?_) (by have := Z2.out; omega) E2.out (by decide) (.int .i64 k1) (.int .i64 cp1) (.slice A2 n2 c2) (.slice A3 n3 c3) (.int .i64 sz1) (.slice A5 n5 c5), fin_R2 (R_final (Kd.R_below O5.out B5.out) ?_) (by have := Z2.out; omega) E2.out (by decide) (.int .i64 k1) (.int .i64 cp1) (.slice A2 n2 c2) (.slice A3 n3 c3) (.int .i64 sz1) (.slice A5 n5 c5)⟩, ⟨?_, ?_⟩, ?_⟩⟩
   ·intro k q cells hq hc
    exact KK.out.2.2.2.2.blk hc (fun e => by
     obtain ⟨cells', hc'⟩ := own_typed (Kd.R_own (Kd.R_below O2.out B5.out)).choose_spec k e.symm
     exact ty_ne hc hc' (fun e' => by rw [e'] at hq; revert hq; decide) rfl)
   ·intro k q cells hq hc
    exact KK.out.2.2.2.2.blk hc (fun e => by
     obtain ⟨cells', hc'⟩ := own_typed (Kd.R_own (Kd.R_below O2.out B5.out)).choose_spec k e.symm
     exact ty_ne hc hc' (fun e' => by rw [e'] at hq; revert hq; decide) rfl)
   ·subst hk1 hcp1 hsz1
    exact ⟨hT.kind, hT.cap, ⟨by show its.length ≤ most; rw [hll, ← HN.out]; exact hT.items.1, KK.out.2.2.1⟩, hT.size, hT.sets, hT.cost, hT.diag, hT.k0, fun h => by
     have h3 := hT.k3 h
     exact ⟨h3.1, List.eq_nil_of_length_eq_zero (by rw [hll, ← HN.out, h3.2.1]; rfl), h3.2.2⟩, fun h h' => by
     have h3 := hT.k1 h h'
     exact ⟨h3.1, List.eq_nil_of_length_eq_zero (by rw [hll, ← HN.out, h3.2.1]; rfl), h3.2.2⟩⟩
   ·intro s hs
    exact KK.out.2.2.2.1 s (by rw [List.take_of_length_le (by rw [hll]; exact Nat.le_refl _)]; exact hs)
   ·have hp : w.heap.size ≤ p1 + 1 := by have := HP1.out; omega
    refine fin_B ?_ hp (.int .i64 k1) (.int .i64 cp1) (.slice A2 n2 c2) (.slice A3 n3 c3) (.int .i64 sz1) (.slice A5 n5 c5)
    exact chg_below ((B2.out.trans (BB.out.mono B2.out.size)).trans (B5.out.mono (Nat.le_trans B2.out.size BB.out.size))) KK.out.2.2.2.2 (fun k hk => by
     have := Kd.R_base O2.out k hk.symm
     have := B2.out.size
     omega)
end Go.Proofs.Ytelabmhhnpfegaa.Hand
end
section
namespace Go.Proofs.Ytelabmhhnpfegaa.Hand
open Go.RowKit Go.Proofs.YtelabmhhnpfegaaW.PrintWords Go.Proofs.YtelabmhhnpfegaaW.PrintLast Go.Proofs.YtelabmhhnpfegaaW.PrintMore Go.Proofs.Ytelabmhhnpfegaa.PDynCells
theorem kindT_bd (k : Int) : 0 ≤ kindT k ∧ kindT k ≤ 3 := by
 unfold kindT
 have h1 := Int.tmod_lt_of_pos k (show (0 : Int) < 4 by decide)
 have h2 : -4 < k.tmod 4 := Int.lt_tmod_of_pos k (by decide)
 rw [Int.tmod_eq_emod_of_nonneg (a := k.tmod 4 + 4) (by omega)]
 omega
theorem tame_asc {size : Int} : ∀ (l : List Int) (a : Int), l.Pairwise (· < ·) → (∀ e ∈ l, a < e ∧ e < size) → ascB size a l = true
 | [], _, _, _ => rfl
 | e :: t, a, hp, hb => by
  have h1 := hb e List.mem_cons_self
  rw [ascB, if_neg (by omega), if_neg (by omega)]
  exact tame_asc t e hp.tail (fun y hy => ⟨(List.pairwise_cons.1 hp).1 y hy, (hb y (List.mem_cons_of_mem _ hy)).2⟩)
theorem tame_iok {most : Nat} {k : Int} {y : PI} (t : TameP most k y) (hm : most ≤ 64) : IOk y := by
 have hk := kindT_bd k
 rw [← t.kind] at hk
 have h1 := t.items.1
 have h2 := t.cost.1
 have h3 := t.sets.1
 refine ⟨⟨hk.1, by omega⟩, fun h => ?_, fun h => ?_, fun h => ?_, fun h => ?_, by omega, by omega, ⟨t.size.1, by have := t.size.2; omega⟩, fun r hr => (t.cost.2 r hr).1, fun s hs => ?_, t.cap, t.items.2, fun r hr => (t.cost.2 r hr).2, fun s hs => (t.sets.2 s hs).1, t.diag⟩
 ·by_cases h3 : y.kind = 3
  ·exact ⟨(t.k3 h3).2.2, (t.k3 h3).2.1⟩
  ·exact ⟨(t.k1 h h3).2.2.2.1, (t.k1 h h3).2.1⟩
 ·by_cases h0 : y.kind = 0
  ·exact (t.k0 h0).1
  ·exact (t.k3 (by omega)).1
 ·by_cases h0 : y.kind = 0
  ·exact ⟨(t.k0 h0).2.2, (t.k0 h0).2.1⟩
  ·exact ⟨(t.k1 h0 h).2.2.2.2, (t.k1 h0 h).2.2.1⟩
 ·exact ⟨(t.k1 (by omega) (by omega)).1, by omega⟩
 ·exact tame_asc _ _ (t.sets.2 s hs).2.1 (fun e he => by have := (t.sets.2 s hs).2.2 e he; omega)
theorem asc_le {size : Int} {l : List Int} (h : ascB size (-1) l = true) : (l.length : Int) ≤ max 0 size := by
 have := (asc_bd l (-1) (by omega) h).2
 rcases this with rfl | h
 ·simp; omega
 ·omega
theorem tame_els {most : Nat} {k : Int} {y : PI} (t : TameP most k y) : ∀ s ∈ y.sets, s.f1.length ≤ 8 := fun s hs => by
 have h := asc_le (tame_asc _ (-1) (t.sets.2 s hs).2.1 (fun e he => by have := (t.sets.2 s hs).2.2 e he; omega : ∀ e ∈ s.f1, -1 < e ∧ e < y.size))
 have := t.size
 omega
theorem tame_pok {most : Nat} {k : Int} {y : PI} (t : TameP most k y) (hm : most ≤ 64) : PIok y := by
 have h1 := t.items.1
 have h2 := t.cost.1
 have h3 := t.sets.1
 refine ⟨by omega, by omega, by omega, fun r hr => ?_, fun s hs => ?_⟩
 ·have := (t.cost.2 r hr).1
  omega
 ·have := tame_els t s hs
  omega
theorem cut_tame {most : Nat} {k : Int} {y : PI} (t : TameP most k y) (hm : most ≤ 40) : cutI y = y := by
 have h1 := t.items.1
 have h2 := t.cost.1
 have h3 := t.sets.1
 have e1 : (y.cost.take 70).map (·.take 70) = y.cost := by
  rw [List.take_of_length_le (by omega)]
  refine (List.map_congr_left (g := id) (fun r hr => ?_)).trans (List.map_id _)
  exact List.take_of_length_le (by have := (t.cost.2 r hr).1; omega)
 have e2 : (y.sets.take 40).map cutS = y.sets := by
  rw [List.take_of_length_le (by omega)]
  refine (List.map_congr_left (g := id) (fun r hr => ?_)).trans (List.map_id _)
  unfold cutS
  rw [List.take_of_length_le (by have := tame_els t r hr; omega)]
  rfl
 unfold cutI
 rw [e1, e2, List.take_of_length_le (by omega)]
theorem wsum_le {c : Int} : ∀ (l : List S101), (∀ s ∈ l, s.f1 ≤ c) → wsum l ≤ c * l.length
 | [], _ => by simp [wsum]
 | s :: t, h => by
  have ih := wsum_le t (fun s hs => h s (List.mem_cons_of_mem _ hs))
  have h0 := h s List.mem_cons_self
  have e : wsum (s :: t) = s.f1 + wsum t := by simp [wsum]
  have e2 : c * ((t.length : Int) + 1) = c * t.length + c := by rw [Int.mul_add, Int.mul_one]
  rw [e, List.length_cons, Int.natCast_add]
  show s.f1 + wsum t ≤ c * ((t.length : Int) + 1)
  omega
theorem light_cells {k : Int} {y : PI} (l : LightP 7 k y) : (cellsP y).2 = 0 := by
 have t := l.t
 have hi := tame_iok t (by omega)
 unfold cellsP
 rw [if_pos (iok.2 hi)]
 have h1 := t.items.1
 have h2 := t.cost.1
 have h3 := t.sets.1
 have hk := hi.kind
 have pw : ∀ n : Nat, n ≤ 8 → (2 : Int) ^ n ≤ 256 ∧ 0 ≤ (2 : Int) ^ n := fun n hn => by
  have h8 : 2 ^ n ≤ 256 := Nat.pow_le_pow_right (n := 2) (by omega) hn
  have e : (2 : Int) ^ n = ((2 ^ n : Nat) : Int) := by rw [Int.natCast_pow]; rfl
  obtain ⟨P, hP⟩ : ∃ P : Nat, P = 2 ^ n := ⟨_, rfl⟩
  rw [e]
  rw [← hP] at h8 ⊢
  omega
 have hq : qP y ≤ 1048576 := by
  by_cases k0 : y.kind = 0
  ·have hw := wsum_le (c := 39) y.items (fun s hs => by have := l.l s hs; omega)
   have hr : roomP y ≤ 273 := by
    unfold roomP
    split <;> omega
   have hr0 := (room_bd hi).1
   have : qP y = ((y.items.length : Int) + 1) * (roomP y + 1) * 2 ^ 0 := by
    unfold qP aP tP
    rw [if_pos k0, if_pos k0]
   rw [this]
   have := Int.mul_le_mul (a := (y.items.length : Int) + 1) (b := roomP y + 1) (c := 8) (d := 274) (by omega) (by omega) (by omega) (by omega)
   show ((y.items.length : Int) + 1) * (roomP y + 1) * 1 ≤ 1048576
   omega
  ·have ha : 0 ≤ aP y ∧ aP y ≤ 8 := by
    unfold aP nP
    rw [if_neg k0, if_neg k0]
    by_cases k3 : y.kind = 3
    ·rw [if_pos k3]
     omega
    ·rw [if_neg k3]
     have := (t.k1 k0 k3).1
     by_cases k1 : y.kind = 1
     ·rw [if_pos k1]
      omega
     ·rw [if_neg k1, if_pos (by omega)]
      omega
   have ht : tP y ≤ 8 := by
    unfold tP nP
    rw [if_neg k0]
    have := t.size
    by_cases k3 : y.kind = 3
    ·rw [if_pos k3]
     omega
    ·rw [if_neg k3, if_neg k0]
     by_cases k1 : y.kind = 1
     ·rw [if_pos k1]
      omega
     ·rw [if_neg k1, if_pos (by omega)]
      omega
   obtain ⟨p1, p2⟩ := pw (tP y) ht
   have := Int.mul_le_mul (a := aP y) (b := 2 ^ tP y) (c := 8) (d := 256) (by omega) (by omega) (by omega) (by omega)
   unfold qP
   omega
 rw [if_neg (by omega)]
theorem light_n {k : Int} {y : PI} (l : LightP 7 k y) : ∃ n : Nat, nP y = (n : Int) ∧ n ≤ 7 := by
 have t := l.t
 have h1 := t.items.1
 have h2 := t.cost.1
 have h3 := t.sets.1
 have key : 0 ≤ nP y ∧ nP y ≤ 7 := by
  unfold nP
  by_cases k0 : y.kind = 0
  ·rw [if_pos k0]
   omega
  ·rw [if_neg k0]
   by_cases k3 : y.kind = 3
   ·rw [if_neg (by omega), if_neg (by omega)]
    omega
   ·have := (t.k1 k0 k3).1
    by_cases k1 : y.kind = 1
    ·rw [if_pos k1]
     omega
    ·rw [if_neg k1]
     split <;> omega
 exact ⟨(nP y).toNat, by omega, by omega⟩
theorem all_any {x : PI} (hc : chk x = 0) {y : List Int} (h : mayP x y = true) : y ∈ allP x := by
 have hk := (iok.1 hc).kind
 by_cases k0 : x.kind = 0
 ·exact all_0 k0 h
 ·by_cases k1 : x.kind = 1
  ·exact all_1 k1 h
  ·by_cases k2 : x.kind = 2
   ·exact all_2 hc k2 h
   ·exact all_3 (by omega) h
theorem Answ.short {x : PI} (hi : IOk x) {f : Bool} {z : Int} {l : List Int} (h : Answ x f z l) : l.length ≤ 17592186044416 := by
 cases f with
 | false => rw [(h.no rfl).1]; exact Nat.zero_le _
 | true =>
  have hm := (h.yes rfl).1
  have hk := hi.kind
  have h1 := hi.nitems
  have h2 := hi.nsets
  have ho : ∀ {n : Nat}, ordB l n = true → l.length = n := fun h => by
   unfold ordB at h
   simp only [Bool.and_eq_true, decide_eq_true_eq, beq_iff_eq] at h
   exact h.1
  by_cases k0 : x.kind = 0
  ·have := (asc_len ((may_0 k0).1 hm).1).1
   omega
  ·by_cases k1 : x.kind = 1
   ·rw [may_1 k1] at hm
    have := ho hm
    have := (hi.side (.inl k1)).2
    omega
   ·by_cases k2 : x.kind = 2
    ·have := ho ((may_2 k2).1 hm).1
     have := (hi.side (.inr k2)).2
     omega
    ·have := (asc_len ((may_3 (by omega)).1 hm).1).1
     omega
def FullQ (w : World) (x : PI) (vr : Value) (z : Int) (f : Bool) (w' : World) : Prop := ∃ A m c l, vr = .slice A m c ∧ (Kd.int .i64).C w' A m l ∧ m ≤ 17592186044416 ∧ m = l.length ∧ Answ x f z l ∧ Below w.heap.size w w'
theorem full_end {w w' : World} {x : PI} (hi : IOk x) {vr : Value} {z : Int} {f : Bool} (h : ∃ W wz, Below w.heap.size w W ∧ (∃ l, (Kd.int .i64).R 3 wz W.heap.size (fun _ => True) vr l ∧ Answ x f z l) ∧ Below w.heap.size w wz ∧ wz.heap = w'.heap ∧ Below w.heap.size w w') : FullQ w x vr z f w' := by
 obtain ⟨W, wz, b1, ⟨l, hr, ha⟩, b2, e, b3⟩ := h
 obtain ⟨A, c, rfl⟩ := Kd.R_slice hr
 exact ⟨A, _, c, l, rfl, (R_C (Kd.R_step hr (fun k _ _ => by rw [e]))).1, ha.short hi, rfl, ha, b3⟩
theorem full_any (w : World) (x : PI) (v : Value) (h : InstC w x v) (hx : PIok x) (he : (cellsP x).2 = 0) (hc9 : x.cost.length ≤ 9) (hs8 : x.size ≤ 8) (hs : x.sets.length ≤ 64) :
  Calls Try.prog 27 #[v] w fun e w' => ∃ vr z f, e = .returned (.tuple #[vr, .int .i64 z, .bool f, .int .i64 0]) ∧ Aside0 (FullQ w x vr z f w') := by
 have hi := (cells_ok he).1
 have hc := iok.2 hi
 have hk := hi.kind
 by_cases k0 : x.kind = 0
 ·refine (best_call0 w x v h hx he k0 _ _ (fun vr W w' => ∃ l, (Kd.int .i64).R 3 w' W.heap.size (fun _ => True) vr l ∧ Answ x true _ l) (fun W hb => (knapsack_any W x v (h.below hb) hi (room_small he k0)).mono (fun _ _ ⟨vr, e, H⟩ => ⟨vr, e, ⟨⟨_, H.out.1, answ_0 hc k0⟩, H.out.2⟩⟩))).mono ?_
  rintro _ w' ⟨vr, e, H⟩
  exact ⟨vr, _, _, e, ⟨full_end hi H.out⟩⟩
 ·by_cases k1 : x.kind = 1
  ·obtain ⟨z, hz⟩ := least_is x hc9
   refine (best_call1 w x v h hx he k1 z true (fun vr W w' => ∃ l, (Kd.int .i64).R 3 w' W.heap.size (fun _ => True) vr l ∧ Answ x true z l) (fun W hb => (assignment_any W x v (h.below hb) hc9 hi.rows hi.cost z hz).mono (fun _ _ ⟨vr, e, H⟩ => ⟨vr, e, ⟨?_, H.out.2⟩⟩))).mono ?_
   ·obtain ⟨⟨σ, s1, s2, s3⟩, _⟩ := H.out
    exact ⟨_, s3, answ_1 hc k1 hz s1 s2⟩
   rintro _ w' ⟨vr, e, H⟩
   exact ⟨vr, _, _, e, ⟨full_end hi H.out⟩⟩
  ·by_cases k2 : x.kind = 2
   ·obtain ⟨n, hn⟩ : ∃ n, x.cost.length = n + 1 := ⟨x.cost.length - 1, by have := (hi.side (.inr k2)).1; omega⟩
    obtain ⟨z, ⟨σ0, z1, z2⟩, z3⟩ := tour_is (costA_bd hi.cost) n
    by_cases hn0 : n = 0
    ·subst hn0
     have hz0 : z = 0 := by
      rw [← z2]
      rfl
     subst hz0
     refine (best_call2 w x v h hx he k2 0 true (fun vr W w' => ∃ l, (Kd.int .i64).R 3 w' W.heap.size (fun _ => True) vr l ∧ Answ x true 0 l) (fun W hb => (tour_0 W x v (h.below hb) hn).mono (fun _ _ ⟨vr, e, H⟩ => ⟨vr, e, ⟨⟨_, H.out.1, ?_⟩, H.out.2⟩⟩))).mono ?_
     ·exact answ_2 hc k2 hn z1 z2.symm z3
     rintro _ w' ⟨vr, e, H⟩
     exact ⟨vr, _, _, e, ⟨full_end hi H.out⟩⟩
    ·refine (best_call2 w x v h hx he k2 z true (fun vr W w' => ∃ l, (Kd.int .i64).R 3 w' W.heap.size (fun _ => True) vr l ∧ Answ x true z l) (fun W hb => (tour_any W x v (h.below hb) n hn (by omega) (by omega) hi.rows hi.cost).mono ?_)).mono ?_
     ·rintro _ w' ⟨vr, z', e, H⟩
      obtain ⟨⟨σ, s1, s2, s3⟩, s4, s5⟩ := H.out
      have hzz : z' = z := by
       have h1 := s4 σ0 z1
       have h2 := z3 σ s1
       omega
      subst hzz
      exact ⟨vr, e, ⟨⟨_, s3, answ_2 hc k2 hn s1 s2 z3⟩, s5⟩⟩
     rintro _ w' ⟨vr, e, H⟩
     exact ⟨vr, _, _, e, ⟨full_end hi H.out⟩⟩
   ·have k3 : x.kind = 3 := by omega
    obtain ⟨o, ho⟩ := leastC_is hi
    refine (best_call3 w x v h hx he k3 (o.getD 0) o.isSome (fun vr W w' => ∃ l, (Kd.int .i64).R 3 w' W.heap.size (fun _ => True) vr l ∧ Answ x o.isSome (o.getD 0) l) (fun W hb => (cover_any W x v (h.below hb) hi hx hs8 hs o ho).mono (fun _ _ ⟨vr, e, H⟩ => ⟨vr, e, ⟨?_, H.out.2⟩⟩))).mono ?_
    ·obtain ⟨⟨l, s1, s2, s3⟩, _⟩ := H.out
     exact ⟨l, s1, answ_3 hc k3 ho s2 s3⟩
    rintro _ w' ⟨vr, e, H⟩
    exact ⟨vr, _, _, e, ⟨full_end hi H.out⟩⟩
end Go.Proofs.Ytelabmhhnpfegaa.Hand
end
section
namespace Go.Proofs.Ytelabmhhnpfegaa.Hand
open Go.RowKit Go.Proofs.YtelabmhhnpfegaaW.PrintWords Go.Proofs.YtelabmhhnpfegaaW.PrintLast Go.Proofs.YtelabmhhnpfegaaW.PrintMore Go.Proofs.Ytelabmhhnpfegaa.PDynCells
def wkP : PI := ⟨0, 5, [⟨6, 3⟩, ⟨5, 4⟩], [], 0, []⟩
theorem wk_ok : PIok wkP := ⟨by decide, by decide, by decide, fun r hr => absurd hr List.not_mem_nil, fun s hs => absurd hs List.not_mem_nil⟩
theorem wk_iok : IOk wkP := by
 refine ⟨by decide, fun h => absurd rfl h, fun _ => rfl, fun _ => ⟨rfl, rfl⟩, fun h => ?_, by decide, by decide, by decide, fun r hr => absurd hr List.not_mem_nil, fun s hs => absurd hs List.not_mem_nil, by decide, ?_, fun r hr => absurd hr List.not_mem_nil, fun s hs => absurd hs List.not_mem_nil, fun h => ?_⟩
 ·rcases h with h | h <;> cases h
 ·intro s hs
  simp only [wkP, List.mem_cons, List.not_mem_nil, or_false] at hs
  rcases hs with rfl | rfl <;> decide
 ·cases h
theorem wk_room : roomP wkP = 5 := by decide
theorem wk_cells : cellsP wkP = (18, 0) := by
 unfold cellsP
 rw [if_pos (iok.2 wk_iok)]
 decide
theorem wk_row : rowK 6 wkP.items 2 = [0, 0, 0, 6, 6, 6] := by decide
theorem wk_tb : (tbk 6 wkP.items 2 5).reverse = [0] := by decide
set_option maxHeartbeats 1000000 in
set_option maxRecDepth 100000 in
theorem wakes_any (w : World) : Calls Try.prog 24 #[] w fun e w' => e = .returned (.bool true) ∧ Below w.heap.size w w' := by
 have hu54 := Try.underlying54
 have hu101 := Try.underlying101
 go_enter Try.func24, Try.ntmps24
 go_upto_region 2 with fail
 obtain ⟨W0, hW0⟩ : ∃ W, W = w.alloc (.cells #[.int .i64 6, .int .i64 3, .int .i64 5, .int .i64 4] 101) := ⟨_, rfl⟩
 have RI : Aside0 (k101.R 101 W0 w.heap.size (fun _ => True) (.slice (some ⟨w.heap.size, 0, none⟩) 2 2) wkP.items) := ⟨by
  rw [hW0]
  exact R_litw k101 w w.heap.size 101 (xs := wkP.items) (inner := [.int .i64 6, .int .i64 3, .int .i64 5, .int .i64 4]) (ok := fun _ => True) (okp := fun _ => True) (Reps.front (k101_mkM _ _ _ ⟨6, 3⟩) rfl (Reps.front (k101_mkM _ _ _ ⟨5, 4⟩) rfl (Reps.none _ _) rfl) rfl) (fun _ h => h) trivial (Nat.le_refl _) (by decide)⟩
 rw [← hW0]
 obtain ⟨W1, hW1⟩ : ∃ W, W = W0.alloc (.cells #[.int .i64 0, .int .i64 5, .slice (some ⟨w.heap.size, 0, none⟩) 2 2, .slice none 0 0, .int .i64 0, .slice none 0 0] 54) := ⟨_, rfl⟩
 rw [← hW1]
 have B1 : Aside0 (Below w.heap.size w W1) := ⟨by rw [hW1, hW0]; exact below_alloc (below_alloc (Below.refl _ _) _) _⟩
 have Q1 : Aside0 (W1.heap[w.heap.size + 1]? = some (.cells #[.int .i64 0, .int .i64 5, .slice (some ⟨w.heap.size, 0, none⟩) 2 2, .slice none 0 0, .int .i64 0, .slice none 0 0] 54 (0, 0))) := ⟨by
  rw [hW1, hW0]
  simp only [al_get, al_size]
  rw [if_pos trivial]⟩
 have IC : Aside0 (InstC W1 wkP (.agg #[.int .i64 0, .int .i64 5, .slice (some ⟨w.heap.size, 0, none⟩) 2 2, .slice none 0 0, .int .i64 0, .slice none 0 0])) := ⟨by
  have hr := (R_C RI.out).1
  refine ⟨_, 2, none, 0, none, 0, rfl, ?_, by decide, Kd.C_nil _ _, Nat.le_refl _, Kd.C_nil _ _, Nat.le_refl _⟩
  rw [hW1]
  exact Kd.C_alloc hr _⟩
 obtain ⟨p1, hp1⟩ : ∃ p, p = w.heap.size + 1 := ⟨_, rfl⟩
 obtain ⟨p0, hp0⟩ : ∃ p, p = w.heap.size := ⟨_, rfl⟩
 rw [← hp0] at IC Q1 ⊢
 rw [show p0 + 1 = p1 by omega] at Q1 ⊢
 clear hW0 hW1 hp0 hp1 RI
 have q0 : W1.cell? ⟨p1, 0, none⟩ = some (.int .i64 0) := (blk_cell Q1.out 0).trans rfl
 have q1 : W1.cell? ⟨p1, 1, none⟩ = some (.int .i64 5) := (blk_cell Q1.out 1).trans rfl
 have q2 : W1.cell? ⟨p1, 2, none⟩ = some (.slice (some ⟨p0, 0, none⟩) 2 2) := (blk_cell Q1.out 2).trans rfl
 have q3 : W1.cell? ⟨p1, 3, none⟩ = some (.slice none 0 0) := (blk_cell Q1.out 3).trans rfl
 have q4 : W1.cell? ⟨p1, 4, none⟩ = some (.int .i64 0) := (blk_cell Q1.out 4).trans rfl
 have q5 : W1.cell? ⟨p1, 5, none⟩ = some (.slice none 0 0) := (blk_cell Q1.out 5).trans rfl
 go_wp2_with fail
 clear q0 q1 q2 q3 q4 q5
 refine (cells_any W1 wkP _ IC.out wk_ok).mono ?_
 rintro _ W2 ⟨rfl, B2'⟩
 have B2 := Aside0.mk B2'
 clear B2'
 rw [wk_cells]
 have Q2 : Aside0 (W2.heap[p1]? = some (.cells #[.int .i64 0, .int .i64 5, .slice (some ⟨p0, 0, none⟩) 2 2, .slice none 0 0, .int .i64 0, .slice none 0 0] 54 (0, 0))) := ⟨blk_below Q1.out B2.out⟩
 have q0 : W2.cell? ⟨p1, 0, none⟩ = some (.int .i64 0) := (blk_cell Q2.out 0).trans rfl
 have q1 : W2.cell? ⟨p1, 1, none⟩ = some (.int .i64 5) := (blk_cell Q2.out 1).trans rfl
 have q2 : W2.cell? ⟨p1, 2, none⟩ = some (.slice (some ⟨p0, 0, none⟩) 2 2) := (blk_cell Q2.out 2).trans rfl
 have q3 : W2.cell? ⟨p1, 3, none⟩ = some (.slice none 0 0) := (blk_cell Q2.out 3).trans rfl
 have q4 : W2.cell? ⟨p1, 4, none⟩ = some (.int .i64 0) := (blk_cell Q2.out 4).trans rfl
 have q5 : W2.cell? ⟨p1, 5, none⟩ = some (.slice none 0 0) := (blk_cell Q2.out 5).trans rfl
 go_wp2_with fail
 clear q0 q1 q2 q3 q4 q5
 have hb := best_0 W2 wkP _ (IC.out.below B2.out) wk_ok (by rw [wk_cells]) rfl
 rw [wk_room, show ((5 : Int) + 1).toNat = 6 from rfl, show (5 : Int).toNat = 5 from rfl, show wkP.items.length = 2 from rfl, wk_row, wk_tb] at hb
 refine hb.mono ?_
 clear hb
 rintro _ W3 ⟨v3, rfl, ⟨⟨A3, n3, c3, e3, C3⟩, B3'⟩⟩
 subst e3
 have hl3 : 1 = n3 := C3.1
 subst hl3
 have B3 := Aside0.mk B3'
 obtain ⟨a3, e, x3⟩ := at_Int C3 0 (by omega)
 subst e
 have X3 : Aside0 (W3.cell? a3 = some (.int .i64 0)) := ⟨x3⟩
 clear x3 B3' C3
 have Q3 : Aside0 (W3.heap[p1]? = some (.cells #[.int .i64 0, .int .i64 5, .slice (some ⟨p0, 0, none⟩) 2 2, .slice none 0 0, .int .i64 0, .slice none 0 0] 54 (0, 0))) := ⟨blk_below Q2.out B3.out⟩
 have q0 : W3.cell? ⟨p1, 0, none⟩ = some (.int .i64 0) := (blk_cell Q3.out 0).trans rfl
 have q1 : W3.cell? ⟨p1, 1, none⟩ = some (.int .i64 5) := (blk_cell Q3.out 1).trans rfl
 have q2 : W3.cell? ⟨p1, 2, none⟩ = some (.slice (some ⟨p0, 0, none⟩) 2 2) := (blk_cell Q3.out 2).trans rfl
 have q3 : W3.cell? ⟨p1, 3, none⟩ = some (.slice none 0 0) := (blk_cell Q3.out 3).trans rfl
 have q4 : W3.cell? ⟨p1, 4, none⟩ = some (.int .i64 0) := (blk_cell Q3.out 4).trans rfl
 have q5 : W3.cell? ⟨p1, 5, none⟩ = some (.slice none 0 0) := (blk_cell Q3.out 5).trans rfl
 go_wp2_with fail
 clear q0 q1 q2 q3 q4 q5
 have hf := front_ok W3 wkP _ ((IC.out.below B2.out).below B3.out) wk_ok (by rw [wk_cells]) rfl
 rw [wk_room, show ((5 : Int) + 1).toNat = 6 from rfl, show wkP.items.length = 2 from rfl, wk_row] at hf
 refine hf.mono ?_
 clear hf
 rintro _ W4 ⟨a4, c4, rfl, ⟨C4, B4'⟩⟩
 have B4 := Aside0.mk B4'
 obtain ⟨ae, e, x2⟩ := at_Int C4 2 (by omega)
 injection e with e
 subst e
 obtain ⟨ae, e, x3⟩ := at_Int C4 3 (by omega)
 injection e with e
 subst e
 have y2 : W4.cell? ⟨a4.block, a4.off + 2, none⟩ = some (.int .i64 0) := x2
 have y3 : W4.cell? ⟨a4.block, a4.off + 3, none⟩ = some (.int .i64 6) := x3
 have y0 := pw_cell_below B4.out X3.out
 clear x2 x3 C4 B4'
 go_wp2_with fail
 go_ret
 exact ⟨rfl, B1.out.trans ((B2.out.trans ((B3.out.trans (B4.out.mono B3.out.size)).mono B2.out.size)).mono B1.out.size)⟩
end Go.Proofs.Ytelabmhhnpfegaa.Hand
end
section
namespace Go.Proofs.Ytelabmhhnpfegaa.Hand
open Go.RowKit Go.Proofs.YtelabmhhnpfegaaW.PrintWords Go.Proofs.YtelabmhhnpfegaaW.PrintLast Go.Proofs.YtelabmhhnpfegaaW.PrintMore Go.Proofs.Ytelabmhhnpfegaa.PDynCells
set_option maxHeartbeats 1000000 in
set_option maxRecDepth 100000 in
theorem dynbest_law (w : World) (x : PI) (v : Value) (h : InstC w x v) (hx : PIok x) : Calls Try.prog 9 #[v] w fun e w' => e = .returned (.bool true) ∧ Below w.heap.size w w' := by
 have HI := Aside0.mk h
 have HX := Aside0.mk hx
 obtain ⟨A2x, c2x, A3x, c3x, A5x, c5x, rfl, h2, l2, h3, l3, h5, l5⟩ := h
 clear h2 h3 h5 l2 l3 l5 hx
 have hu47 := Try.underlying47
 have hu54 := Try.underlying54
 have hu57 := Try.underlying57
 go_enter Try.func9, Try.ntmps9
 go_upto_region 1 with fail
 obtain ⟨W1, hW1⟩ : ∃ W, W = w.alloc (.cells #[.int .i64 x.kind, .int .i64 x.cap, .slice A2x x.items.length c2x, .slice A3x x.cost.length c3x, .int .i64 x.size, .slice A5x x.sets.length c5x] 47) := ⟨_, rfl⟩
 rw [← hW1]
 have B1 : Aside0 (Below w.heap.size w W1) := ⟨by rw [hW1]; exact below_alloc (Below.refl _ _) _⟩
 obtain ⟨p1, hp1⟩ : ∃ p, p = w.heap.size := ⟨_, rfl⟩
 rw [← hp1]
 have Q1 : Aside0 (W1.heap[p1]? = some (.cells #[.int .i64 x.kind, .int .i64 x.cap, .slice A2x x.items.length c2x, .slice A3x x.cost.length c3x, .int .i64 x.size, .slice A5x x.sets.length c5x] 47 (0, 0))) := ⟨by rw [hW1, hp1]; exact heap_alloc_new _ _⟩
 clear hW1 hp1
 obtain ⟨e0, e1, e2, e3, e4, e5, _⟩ := six Q1.out (Below.refl _ _)
 go_wp2_with fail
 clear e0 e1 e2 e3 e4 e5
 refine (light_any W1 x _ 7 (HI.out.below B1.out) HX.out (by decide) (by decide)).mono ?_
 rintro _ W3 ⟨va, rfl, ⟨y, iy, LP', B3'⟩⟩
 have B3 := Aside0.mk (B1.out.trans (B3'.mono B1.out.size))
 have IY := Aside0.mk iy.c
 have YI := Aside0.mk (tame_iok LP'.t (by omega))
 have YO := Aside0.mk (tame_pok LP'.t (by omega))
 have YC := Aside0.mk (light_cells LP')
 have YN := Aside0.mk (light_n LP')
 have CUT := Aside0.mk (cut_tame LP'.t (by omega))
 have YS : Aside0 (y.cost.length ≤ 9 ∧ y.size ≤ 8 ∧ y.sets.length ≤ 64) := ⟨by
  have h1 := LP'.t.cost.1
  have h2 := LP'.t.size.2
  have h3 := LP'.t.sets.1
  refine ⟨by omega, h2, by omega⟩⟩
 clear B3' LP' iy
 go_wp2_with fail
 refine (insts_any W3 y _ IY.out YO.out).mono ?_
 rintro _ W4 ⟨vc, vd, rfl, ⟨ic, id_, B4'⟩⟩
 have B4 := Aside0.mk (B3.out.trans (B4'.mono B3.out.size))
 rw [CUT.out] at ic id_
 have IC := Aside0.mk ic
 have ID := Aside0.mk id_
 clear B4'
 obtain ⟨A2c, c2c, A3c, c3c, A5c, c5c, rfl, _⟩ := ic
 obtain ⟨A2d, c2d, A3d, c3d, A5d, c5d, rfl, _⟩ := id_
 go_upto_region 2 with fail
 have B5 : Aside0 (Below W4.heap.size W4 ((W4.alloc (.cells #[.int .i64 y.kind, .int .i64 y.cap, .slice A2c y.items.length c2c, .slice A3c y.cost.length c3c, .int .i64 y.size, .slice A5c y.sets.length c5c] 54)).alloc (.cells #[.int .i64 y.kind, .int .i64 y.cap, .slice A2d y.items.length c2d, .slice A3d y.cost.length c3d, .int .i64 y.size, .slice A5d y.sets.length c5d] 57))) := ⟨below_alloc (below_alloc (Below.refl _ _) _) _⟩
 obtain ⟨W5, hW5⟩ : ∃ W, W = (W4.alloc (.cells #[.int .i64 y.kind, .int .i64 y.cap, .slice A2c y.items.length c2c, .slice A3c y.cost.length c3c, .int .i64 y.size, .slice A5c y.sets.length c5c] 54)).alloc (.cells #[.int .i64 y.kind, .int .i64 y.cap, .slice A2d y.items.length c2d, .slice A3d y.cost.length c3d, .int .i64 y.size, .slice A5d y.sets.length c5d] 57) := ⟨_, rfl⟩
 rw [← hW5] at B5 ⊢
 obtain ⟨p5, hp5⟩ : ∃ p, p = W4.heap.size := ⟨_, rfl⟩
 rw [← hp5]
 have Q5 : Aside0 (W5.heap[p5]? = some (.cells #[.int .i64 y.kind, .int .i64 y.cap, .slice A2c y.items.length c2c, .slice A3c y.cost.length c3c, .int .i64 y.size, .slice A5c y.sets.length c5c] 54 (0, 0)) ∧ W5.heap[p5 + 1]? = some (.cells #[.int .i64 y.kind, .int .i64 y.cap, .slice A2d y.items.length c2d, .slice A3d y.cost.length c3d, .int .i64 y.size, .slice A5d y.sets.length c5d] 57 (0, 0))) := ⟨by
  rw [hW5, hp5]
  constructor
  all_goals
   simp only [al_get, al_size]
   repeat (first | rw [if_pos trivial] | rw [if_neg (by omega)])⟩
 have B25 := Aside0.mk (B4.out.trans (B5.out.mono B4.out.size))
 have IC5 := Aside0.mk (IC.out.below B5.out)
 have ID5 := Aside0.mk (ID.out.below B5.out)
 clear hW5 hp5 B5
 obtain ⟨e0, e1, e2, e3, e4, e5, _⟩ := six Q5.out.1 (Below.refl _ _)
 go_wp2_with fail
 clear e0 e1 e2 e3 e4 e5
 refine (full_any W5 y _ IC5.out YO.out YC.out YS.out.1 YS.out.2.1 YS.out.2.2).mono ?_
 rintro _ W6 ⟨vr, z, f, rfl, FQ⟩
 obtain ⟨A, m, c, l, rfl, hC, hm, hml, ha, hb⟩ := FQ.out
 clear FQ
 have LC := Aside0.mk hC
 have LM := Aside0.mk (And.intro hm hml)
 have AN := Aside0.mk ha
 have B6 := Aside0.mk hb
 clear hC hm hml ha hb
 obtain ⟨e0, e1, e2, e3, e4, e5, _⟩ := six Q5.out.2 B6.out
 go_wp2_with fail
 clear e0 e1 e2 e3 e4 e5
 obtain ⟨n, hn1, hn2⟩ := YN.out
 refine (rbest_any W6 y _ (ID5.out.below B6.out) YI.out YO.out n hn1 hn2).mono ?_
 clear hn1 hn2
 rintro _ W7 ⟨vb, z', f', rfl, HB⟩
 obtain ⟨hff, hzz⟩ := AN.out.same (iok.2 YI.out) (fun _ h => all_any (iok.2 YI.out) h) HB.out.1
 subst hff
 subst hzz
 have B7 : Aside0 (Below W5.heap.size W5 W7) := ⟨B6.out.trans (HB.out.2.mono B6.out.size)⟩
 have LC7 := Aside0.mk (Kd.C_below LC.out HB.out.2)
 clear HB LC
 obtain ⟨e0, e1, e2, e3, e4, e5, _⟩ := six Q5.out.2 B7.out
 go_wp2_with fail
 clear e0 e1 e2 e3 e4 e5
 refine (rcells_any' W7 y _ (ID5.out.below B7.out) YO.out (cellsP y).1 0 ⟨Prod.ext rfl YC.out⟩).mono ?_
 rintro _ W8 ⟨rfl, B8'⟩
 have B8 : Aside0 (Below W5.heap.size W5 W8) := ⟨B7.out.trans (B8'.mono B7.out.size)⟩
 have LC8 := Aside0.mk (Kd.C_below LC7.out B8')
 clear B8' LC7
 obtain ⟨r1, hr1⟩ : ∃ r, r = (cellsP y).1 := ⟨_, rfl⟩
 rw [← hr1]
 clear hr1
 have gf : (f != f) = false := by simp
 have gz : (z != z) = false := by simp
 go_wp2_with fail
 refine (wakes_any W8).mono ?_
 rintro _ W9 ⟨rfl, B9'⟩
 have B9 : Aside0 (Below W5.heap.size W5 W9) := ⟨B8.out.trans (B9'.mono B8.out.size)⟩
 have LC9 := Aside0.mk (Kd.C_below LC8.out B9')
 clear B9' LC8
 obtain ⟨e0, e1, e2, e3, e4, e5, _⟩ := six Q5.out.1 B9.out
 go_wp2_with fail
 clear e0 e1 e2 e3 e4 e5
 refine (cost_any W9 y _ (IC5.out.below B9.out) YO.out A m c l LC9.out LM.out.1 (cosP y l).1 (cosP y l).2 rfl).mono ?_
 rintro _ W10 ⟨rfl, HE⟩
 have BE : Aside0 (Below w.heap.size w W10) := ⟨B25.out.trans ((B9.out.trans (HE.out.mono B9.out.size)).mono B25.out.size)⟩
 clear HE
 cases f with
 | true =>
  have hz := (AN.out.yes rfl).2.1
  rw [hz]
  clear hz
  have ge : (z == z) = true := by simp
  go_wp2_with fail
  go_ret
  exact ⟨rfl, BE.out⟩
 | false =>
  obtain rfl : m = 0 := by
   rw [LM.out.2, (AN.out.no rfl).1]
   rfl
  obtain ⟨d, hd⟩ : ∃ d, d = (cosP y l).1 := ⟨_, rfl⟩
  obtain ⟨er, her⟩ : ∃ d, d = (cosP y l).2 := ⟨_, rfl⟩
  rw [← hd, ← her]
  clear hd her
  go_wp2_with fail
  go_ret
  exact ⟨rfl, BE.out⟩
end Go.Proofs.Ytelabmhhnpfegaa.Hand
end
section
namespace Go.Proofs.Ytelabmhhnpfegaa.Hand
open Go.Joins Go.ChangeShapes Go.WideShapes Go.ChangeAt Go.RowKit Go.Deep Go.Proofs.YtelabmhhnpfegaaW.PrintWords Go.Proofs.Ytelabmhhnpfegaa.PDynCells
section
variable {H : Type} {enc : TypeId × Value → H} {P : Program} {w : World} {base : Nat} {spare : Nat → Bool} {held : Bool}
theorem open_agg6 {r : Reach} {b0 : Nat} {t : TypeId} {f0 f1 f2 f3 f4 f5 : Field} {v : Value} {d : DataW H} {p : List MemPlace} (hs : P.underlying t = some (.struct #[f0, f1, f2, f3, f4, f5])) (hone : oneCellFields P #[f0, f1, f2, f3, f4, f5] = true) (hC : P.cellsOf t = 6)
  (hv : Value.okWide P w r b0 t v) (h : DataW.Trod enc P w base spare held t v d p) :
  ∃ (v0 v1 v2 v3 v4 v5 : Value) (y0 y1 y2 y3 y4 y5 : DataW H × List MemPlace) (n : Nat), v = .agg #[v0, v1, v2, v3, v4, v5] ∧ d = .agg [y0.1, y1.1, y2.1, y3.1, y4.1, y5.1] ∧ p = y0.2 ++ (y1.2 ++ (y2.2 ++ (y3.2 ++ (y4.2 ++ y5.2)))) ∧
   DataW.trod enc P w base spare held n f0.type [v0] = some y0 ∧ DataW.trod enc P w base spare held n f1.type [v1] = some y1 ∧ DataW.trod enc P w base spare held n f2.type [v2] = some y2 ∧ DataW.trod enc P w base spare held n f3.type [v3] = some y3 ∧ DataW.trod enc P w base spare held n f4.type [v4] = some y4 ∧ DataW.trod enc P w base spare held n f5.type [v5] = some y5 := by
 obtain ⟨cs, rfl, hsz⟩ := okWide_struct hs hv
 obtain ⟨l⟩ := cs
 match l, hsz.trans hC with
 | [c0, c1, c2, c3, c4, c5], _ =>
  obtain ⟨fuel, hf⟩ := h
  obtain ⟨xs, n, _, hx, _, hlen, hg⟩ := DataW.trod_struct hs hf
  obtain ⟨o0, k0⟩ := hone_of hone 0 f0 rfl
  obtain ⟨o1, k1⟩ := hone_of hone 1 f1 rfl
  obtain ⟨o2, k2⟩ := hone_of hone 2 f2 rfl
  obtain ⟨o3, k3⟩ := hone_of hone 3 f3 rfl
  obtain ⟨o4, k4⟩ := hone_of hone 4 f4 rfl
  obtain ⟨o5, k5⟩ := hone_of hone 5 f5 rfl
  match xs, hlen with
  | [y0, y1, y2, y3, y4, y5], _ =>
   simp only [Prod.mk.injEq] at hx
   exact ⟨c0, c1, c2, c3, c4, c5, y0, y1, y2, y3, y4, y5, n, rfl, by simpa using hx.1, by simpa using hx.2, by simpa [Value.cells, o0, k0] using hg 0 f0 rfl, by simpa [Value.cells, o1, k1] using hg 1 f1 rfl, by simpa [Value.cells, o2, k2] using hg 2 f2 rfl, by simpa [Value.cells, o3, k3] using hg 3 f3 rfl, by simpa [Value.cells, o4, k4] using hg 4 f4 rfl, by simpa [Value.cells, o5, k5] using hg 5 f5 rfl⟩
end
section
variable {H : Type} {enc : TypeId × Value → H} {w : World} {spare : Nat → Bool} {held : Bool}
theorem int_at {t : TypeId} {k : IntKind} {n : Nat} {v : Value} {y : DataW H × List MemPlace} (ht : Try.prog.underlying t = some (.int k)) (h : DataW.trod enc Try.prog w 0 spare held n t [v] = some y) : ∃ x, v = .int k x ∧ (Lit.int k x).wf = true := by
 obtain ⟨x, hx, _, hw⟩ := DataW.trod_int ht h
 simp at hx
 exact ⟨x, hx, hw⟩
theorem row_at {t e : TypeId} {k : IntKind} {n : Nat} {v : Value} {y : DataW H × List MemPlace} (ht : Try.prog.underlying t = some (.slice e)) (he : Try.prog.underlying e = some (.int k)) (hc : Try.prog.cellsOf e = 1)
  (h : DataW.trod enc Try.prog w 0 spare held n t [v] = some y) : ∃ (A : Option Addr) (c : Nat) (l : List Int), v = .slice A l.length c ∧ l.length ≤ c ∧ Kd.C (Kd.int k) w A l.length l ∧
   (∀ x ∈ l, (Lit.int k x).wf = true) ∧ ∀ B, Try.prog.bytesOf e = B → (∀ m ∈ y.1.weights Try.prog t, m ≤ reachBytes) → l.length * B ≤ reachBytes := by
 rcases open_ints ht he hc h with ⟨hcs, hy⟩ | ⟨a, len, cap, zs, hcs, _, hl, hm, hz, hy, hcell, hwf⟩
 ·simp at hcs
  subst hcs
  refine ⟨none, 0, [], rfl, Nat.le_refl _, Kd.C_nil _ _, by simp, fun B _ _ => by simp⟩
 ·simp at hcs
  subst hcs
  have hlz : len ≤ zs.length := by rw [hz]; split <;> omega
  have hlen : (zs.take len).length = len := by rw [List.length_take]; omega
  refine ⟨some a, cap, zs.take len, by rw [hlen], by rw [hlen]; exact hl, ?_, fun x hx => hwf x (List.mem_of_mem_take hx), ?_⟩
  ·refine Kd.C_of_reads (d := (0 : Int)) (h1 := fun _ => rfl) (show ReadsInt w k _ _ _ from ⟨rfl, by have hmx : maxLen = 9223372036854775807 := rfl; rw [hlen]; omega, fun _ => ⟨_, rfl, fun j hj => ?_⟩⟩)
   rw [hlen] at hj
   rw [hcell j (by omega)]
   have e : zs.getD j 0 = (zs.take len).getD j 0 := by
    rw [List.getD_eq_getElem?_getD, List.getD_eq_getElem?_getD, List.getElem?_take_of_lt hj]
   rw [e]
  ·intro B hB hw
   subst hy
   have h1 : (lits (H := H) k (zs.take len)).length + (lits (H := H) k (zs.drop len)).length = zs.length := by
    simp [lits]
    omega
   have z := hw (zs.length * B) (by
    simp only [DataW.weights, ht, hB]
    rw [h1]
    exact List.mem_cons_self ..)
   rw [hlen]
   exact Nat.le_trans (Nat.mul_le_mul_right _ hlz) z
end
theorem mem_all {H : Type} {P : Program} {e : TypeId} {d : DataW H} {m : Nat} (hm : m ∈ d.weights P e) : ∀ {l : List (DataW H)}, d ∈ l → m ∈ DataW.weightsAll P e l
 | [], h => by cases h
 | x :: l, h => by
  simp only [DataW.weightsAll, List.mem_append]
  rcases List.mem_cons.1 h with rfl | h
  ·exact .inl hm
  ·exact .inr (mem_all hm h)
theorem list_of {α : Type} {Q : Nat → α → Prop} : ∀ (n : Nat), (∀ i, i < n → ∃ x, Q i x) → ∃ l : List α, l.length = n ∧ ∀ i x, l[i]? = some x → Q i x
 | 0, _ => ⟨[], rfl, fun i x h => by simp at h⟩
 | n + 1, h => by
  obtain ⟨l, hl, hq⟩ := list_of n (fun i hi => h i (Nat.lt_succ_of_lt hi))
  obtain ⟨x, hx⟩ := h n (Nat.lt_succ_self n)
  refine ⟨l ++ [x], by simp [hl], fun i y hy => ?_⟩
  rcases Nat.lt_or_ge i l.length with h1 | h1
  ·rw [List.getElem?_append_left h1] at hy
   exact hq i y hy
  ·rw [List.getElem?_append_right h1] at hy
   have h2 : i - l.length = 0 := by
    have := (List.getElem?_eq_some_iff.1 hy).1
    simpa using this
   rw [h2] at hy
   simp at hy
   subst hy
   have : i = n := by omega
   rw [this]
   exact hx
section
variable {H : Type} {enc : TypeId × Value → H} {w : World} {spare : Nat → Bool} {held : Bool}
theorem slice_at {α : Type} (d : Kd α) {Ok : α → Prop} {t e B : TypeId} {n : Nat} {v : Value} {y : DataW H × List MemPlace} (ht : Try.prog.underlying t = some (.slice e)) (hC : Try.prog.cellsOf e = d.sz) (hb : Try.prog.bytesOf e = B)
  (hel : ∀ (n : Nat) (cs : List Value) (z : DataW H × List MemPlace), cs.length = d.sz → DataW.trod enc Try.prog w 0 spare held n e cs = some z → (∀ m ∈ z.1.weights Try.prog e, m ≤ reachBytes) → ∃ x, d.K w x cs ∧ Ok x)
  (h : DataW.trod enc Try.prog w 0 spare held n t [v] = some y) (hw : ∀ m ∈ y.1.weights Try.prog t, m ≤ reachBytes) :
  ∃ (A : Option Addr) (c : Nat) (l : List α), v = .slice A l.length c ∧ l.length ≤ c ∧ d.C w A l.length l ∧ (∀ x ∈ l, Ok x) ∧ l.length * B ≤ reachBytes := by
 rcases open_slice ht h with ⟨hcs, hy⟩ | ⟨a, len, cap, m, n', D, Pl, hcs, _, hl, hm, hmm, hx, hi⟩
 ·simp at hcs
  subst hcs
  exact ⟨none, 0, [], rfl, Nat.le_refl _, Kd.C_nil _ _, by simp, by simp⟩
 ·simp at hcs
  subst hcs
  have hlm : len ≤ m := by rw [hmm]; split <;> omega
  subst hx
  have hwlen : len * B ≤ reachBytes := by
   have z := hw ((((List.range len).map D).length + ((List.range (m - len)).map fun j => D (len + j)).length) * B) (by
    simp only [DataW.weights, ht, hb]
    exact List.mem_cons_self ..)
   refine Nat.le_trans (Nat.mul_le_mul_right _ ?_) z
   simp
  have hwall : ∀ i, i < len → ∀ q ∈ (D i).weights Try.prog e, q ≤ reachBytes := fun i hi q hq => hw q (by
   simp only [DataW.weights, ht]
   refine List.mem_cons_of_mem _ (List.mem_append_left _ (mem_all hq ?_))
   exact List.mem_map.2 ⟨i, List.mem_range.2 hi, rfl⟩)
  obtain ⟨l, hlen, hq⟩ := list_of (α := α) (Q := fun i x => Ok x ∧ ∃ cs : List Value, cs.length = d.sz ∧ d.K w x cs ∧ ∀ j u, cs[j]? = some u → w.cell? (a.add (i * d.sz + j)) = some u) len (fun i hi' => by
   obtain ⟨cs', hc, ht'⟩ := hi i (by omega)
   rw [hC] at hc
   obtain ⟨_, hcl, hat⟩ := World.cells?_some hc
   obtain ⟨x, hK, hok⟩ := hel _ cs' _ hcl ht' (hwall i hi')
   refine ⟨x, hok, cs', hcl, hK, fun j u hu => ?_⟩
   have hj : j < d.sz := by
    have := (List.getElem?_eq_some_iff.1 hu).1
    omega
   rw [← Go.Deep.add_add, hat j hj, hu])
  have hmx : maxLen = 9223372036854775807 := rfl
  refine ⟨some a, cap, l, by rw [hlen], by rw [hlen]; exact hl, ⟨rfl, by omega, fun _ => ⟨a, rfl, fun j p hp => ?_⟩⟩, fun x hx => ?_, by rw [hlen]; exact hwlen⟩
  ·obtain ⟨_, cs, h6, hK, hcell⟩ := hq j p hp
   exact ⟨cs, h6, hK, hcell⟩
  ·obtain ⟨i, hi⟩ := List.getElem?_of_mem hx
   exact (hq i x hi).1
set_option maxRecDepth 100000 in
theorem items_at {n : Nat} {v : Value} {y : DataW H × List MemPlace} (h : DataW.trod enc Try.prog w 0 spare held n 44 [v] = some y) (hw : ∀ m ∈ y.1.weights Try.prog 44, m ≤ reachBytes) :
  ∃ (A : Option Addr) (c : Nat) (l : List S101), v = .slice A l.length c ∧ l.length ≤ c ∧ k101.C w A l.length l ∧ (∀ _x ∈ l, True) ∧ l.length * 16 ≤ reachBytes := by
 refine slice_at k101 (Ok := fun _ => True) Try.underlying44 (by kernel_rfl) (by kernel_rfl) (fun m cs z hcl ht _ => ?_) h hw
 match cs, hcl with
 | [c0, c1], _ =>
  obtain ⟨xs, m', _, hx, _, hlen, hg⟩ := DataW.trod_array Try.underlying68 ht
  match xs, hlen with
  | [y0, y1], _ =>
   have g0 := hg 0 (by omega)
   have g1 := hg 1 (by omega)
   have hc : Try.prog.cellsOf 2 = 1 := by kernel_rfl
   rw [hc] at g0 g1
   have g0' : DataW.trod enc Try.prog w 0 spare held m' 2 [c0] = some y0 := g0
   have g1' : DataW.trod enc Try.prog w 0 spare held m' 2 [c1] = some y1 := g1
   obtain ⟨x0, e0, _, _⟩ := DataW.trod_int Try.underlying2 g0'
   obtain ⟨x1, e1, _, _⟩ := DataW.trod_int Try.underlying2 g1'
   simp at e0 e1
   subst e0 e1
   exact ⟨⟨x0, x1⟩, k101_mk w _, trivial⟩
set_option maxRecDepth 100000 in
theorem cost_at {n : Nat} {v : Value} {y : DataW H × List MemPlace} (h : DataW.trod enc Try.prog w 0 spare held n 22 [v] = some y) (hw : ∀ m ∈ y.1.weights Try.prog 22, m ≤ reachBytes) :
  ∃ (A : Option Addr) (c : Nat) (l : List (List Int)), v = .slice A l.length c ∧ l.length ≤ c ∧ (Kd.slice 2 (Kd.int .i64)).C w A l.length l ∧ (∀ r ∈ l, r.length ≤ 17592186044416) ∧ l.length * 24 ≤ reachBytes := by
 refine slice_at (Kd.slice 2 (Kd.int .i64)) (Ok := fun r => r.length ≤ 17592186044416) Try.underlying22 (by kernel_rfl) (by kernel_rfl) (fun m cs z hcl ht hz => ?_) h hw
 match cs, hcl with
 | [c0], _ =>
  obtain ⟨A, c, l, rfl, hl, hC, _, hB⟩ := row_at Try.underlying30 Try.underlying2 (by kernel_rfl) ht
  have z := hB 8 (by kernel_rfl) hz
  have hr : reachBytes = 140737488355328 - 4096 := rfl
  exact ⟨l, ⟨A, c, rfl, hl, hC⟩, by omega⟩
set_option maxRecDepth 100000 in
theorem sets_at {n : Nat} {v : Value} {y : DataW H × List MemPlace} (h : DataW.trod enc Try.prog w 0 spare held n 45 [v] = some y) (hw : ∀ m ∈ y.1.weights Try.prog 45, m ≤ reachBytes) :
  ∃ (A : Option Addr) (c : Nat) (l : List S102), v = .slice A l.length c ∧ l.length ≤ c ∧ k102.C w A l.length l ∧ (∀ s ∈ l, s.f1.length ≤ 17592186044416) ∧ l.length * 32 ≤ reachBytes := by
 refine slice_at k102 (Ok := fun s => s.f1.length ≤ 17592186044416) Try.underlying45 (by kernel_rfl) (by kernel_rfl) (fun m cs z hcl ht hz => ?_) h hw
 match cs, hcl with
 | [c0, c1], _ =>
  obtain ⟨ys, n', _, hy, _, hyl, hf⟩ := DataW.trod_struct Try.underlying99 ht
  match ys, hyl with
  | [y0, y1], _ =>
   have t0 : DataW.trod enc Try.prog w 0 spare held n' 2 [c0] = some y0 := hf 0 _ rfl
   have t1 : DataW.trod enc Try.prog w 0 spare held n' 29 [c1] = some y1 := hf 1 _ rfl
   obtain ⟨u, rfl, _⟩ := int_at Try.underlying2 t0
   obtain ⟨A, c, l, rfl, hl, hC, _, hB⟩ := row_at Try.underlying29 Try.underlying3 (by kernel_rfl) t1
   have z := hB 8 (by kernel_rfl) (fun m hm => hz m (by
    rw [congrArg Prod.fst hy]
    simp only [DataW.weights, Try.underlying99, DataW.weightsEach, List.map_cons, List.map_nil, List.mem_append]
    exact .inr (.inl hm)))
   have hr : reachBytes = 140737488355328 - 4096 := rfl
   exact ⟨⟨u, l⟩, k102_mk w ⟨u, l⟩ hl hC, by show l.length ≤ _; omega⟩
set_option maxRecDepth 100000 in
theorem inst_at {r : Reach} {b0 : Nat} {v : Value} {d : DataW H} {p : List MemPlace} (hv : Value.okWide Try.prog w r b0 47 v) (h : DataW.Trod enc Try.prog w 0 spare held 47 v d p) (hw : ∀ m ∈ d.weights Try.prog 47, m ≤ reachBytes) : ∃ x : PI, InstC w x v ∧ PIok x := by
 obtain ⟨x0, x1, x2, x3, x4, x5, y0, y1, y2, y3, y4, y5, n, rfl, rfl, rfl, g0, g1, g2, g3, g4, g5⟩ := open_agg6 Try.underlying47 (by kernel_rfl) (by kernel_rfl) hv h
 obtain ⟨k, rfl, _⟩ := int_at Try.underlying3 g0
 obtain ⟨cp, rfl, _⟩ := int_at Try.underlying2 g1
 obtain ⟨A2, c2, l2, rfl, b2, C2, _, w2⟩ := items_at g2 (fun m hm => hw m (by
  simp only [DataW.weights, Try.underlying47, DataW.weightsEach, List.map_cons, List.map_nil, List.mem_append]
  exact .inr (.inr (.inl hm))))
 obtain ⟨A3, c3, l3, rfl, b3, C3, r3, w3⟩ := cost_at g3 (fun m hm => hw m (by
  simp only [DataW.weights, Try.underlying47, DataW.weightsEach, List.map_cons, List.map_nil, List.mem_append]
  exact .inr (.inr (.inr (.inl hm)))))
 obtain ⟨sz, rfl, _⟩ := int_at Try.underlying3 g4
 obtain ⟨A5, c5, l5, rfl, b5, C5, r5, w5⟩ := sets_at g5 (fun m hm => hw m (by
  simp only [DataW.weights, Try.underlying47, DataW.weightsEach, List.map_cons, List.map_nil, List.mem_append]
  exact .inr (.inr (.inr (.inr (.inr (.inl hm)))))))
 have hr : reachBytes = 140737488355328 - 4096 := rfl
 exact ⟨⟨k, cp, l2, l3, sz, l5⟩, ⟨A2, c2, A3, c3, A5, c5, rfl, C2, b2, C3, b3, C5, b5⟩, by show l2.length ≤ _; omega, by show l3.length ≤ _; omega, by show l5.length ≤ _; omega, r3, r5⟩
end
end Go.Proofs.Ytelabmhhnpfegaa.Hand
end
