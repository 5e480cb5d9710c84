/- Texts Dg Mj Dv Qa Qc Qd Qe Qf Qg Qh, cut to what is used. -/
import Derived.Test.YtelabmhhnpfegaaYa0
import Derived.Test.YtelabmhhnpfegaaYa6
import Derived.Test.YtelabmhhnpfegaaYa8
import Derived.Test.YtelabmhhnpfegaaYb4
set_option linter.unusedVariables false
set_option linter.unusedSimpArgs false
section
namespace Go.Proofs.Ytelabmhhnpfegaa.Hand
open Go.RowKit Go.Proofs.YtelabmhhnpfegaaW.PrintWords Go.Proofs.YtelabmhhnpfegaaW.PrintLast Go.Proofs.YtelabmhhnpfegaaW.PrintMore Go.Proofs.Ytelabmhhnpfegaa.PDynCells
attribute [local go_sem] max2_int min2_int
theorem fin_R2 {α : Type} {d : Kd α} {e base base' q : Nat} {wr : World} {v : Value} {xs : List α} {cs : Array Value} (h : d.R e wr base (fun _ => True) v xs) (hb : base' ≤ base) (h2 : wr.heap[q]? = some (.cells cs 47 (0, 0))) (ht : 47 ∉ e :: d.E) (v0 v1 v2 v3 v4 v5 : Value) :
  d.R e ((((((wr.setCell ⟨q, 0, none⟩ v0).setCell ⟨q, 1, none⟩ v1).setCell ⟨q, 2, none⟩ v2).setCell ⟨q, 3, none⟩ v3).setCell ⟨q, 4, none⟩ v4).setCell ⟨q, 5, none⟩ v5) base' (fun _ => True) v xs :=
 fin_R (N := wr.heap.size) (Kd.R_mono (Kd.R_bound h) (fun _ hk => hk.2.2.1)) hb h2 ht v0 v1 v2 v3 v4 v5
structure LightP (most : Nat) (k : Int) (x : PI) : Prop where
 t : TameP most k x
 l : ∀ s ∈ x.items, s.f1 < 40
set_option maxHeartbeats 4000000 in
set_option maxRecDepth 100000 in
theorem light_any (w : World) (x : PI) (v : Value) (most : Nat) (h : InstC w x v) (hx : PIok x) (hm : 1 ≤ most) (hm2 : most ≤ 64) : Calls Try.prog 20 #[v, .int .i64 most] w fun e w' => ∃ va, e = .returned va ∧ Aside0 (∃ x', InstO w.heap.size w' x' va ∧ LightP most x.kind x' ∧ Below w.heap.size w w') := by
 obtain ⟨AA, ca, AB, cb, AC, cc, rfl, h2, l2, h3, l3, h5, l5⟩ := id h
 have HI := Aside0.mk h
 clear h h2 h3 h5
 have hu44 := Try.underlying44
 have hu47 := Try.underlying47
 have hu68 := Try.underlying68
 go_enter Try.func20, Try.ntmps20
 go_wp2_with fail
 clear l2 l3 l5
 obtain ⟨W2, hW2⟩ : ∃ W, W = (w.alloc (.cells #[.int .i64 x.kind, .int .i64 x.cap, .slice AA x.items.length ca, .slice AB x.cost.length cb, .int .i64 x.size, .slice AC x.sets.length cc] 47)).alloc (.cells #[.int .i64 0, .int .i64 0, .slice none 0 0, .slice none 0 0, .int .i64 0, .slice none 0 0] 47) := ⟨_, rfl⟩
 rw [← hW2]
 have B2 : Aside0 (Below w.heap.size w W2) := ⟨by rw [hW2]; exact below_alloc (below_alloc (Below.refl _ _) _) _⟩
 have Z2 : Aside0 (W2.heap.size = w.heap.size + 2) := ⟨by rw [hW2]; simp only [al_size]⟩
 have Q2 : Aside0 (W2.heap[w.heap.size + 1]? = some (.cells #[.int .i64 0, .int .i64 0, .slice none 0 0, .slice none 0 0, .int .i64 0, .slice none 0 0] 47 (0, 0))) := ⟨by rw [hW2]; simp only [al_get, al_size]; repeat (first | rw [if_pos trivial] | rw [if_neg (by omega)])⟩
 clear hW2
 refine (tame_any W2 x _ most (InstC.below HI.out B2.out) hx hm hm2).mono ?_
 rintro _ w1 ⟨va, rfl, ⟨x1, O1, T1, B1⟩⟩
 obtain ⟨A2, n2, c2, A3, n3, c3, A5, n5, c5, rfl, o2, o3, o5⟩ := O1
 have TT := Aside0.mk T1
 have hn2 : x1.items.length = n2 := (R_C o2).2.1
 have hnc : n2 ≤ c2 := (R_C o2).2.2
 have h64 : n2 ≤ 64 := by
  have := T1.items.1
  omega
 have BB := Aside0.mk B1
 have O2 := Aside0.mk o2
 have O3 := Aside0.mk o3
 have O5 := Aside0.mk o5
 have HN := Aside0.mk hn2
 clear T1 o2 o3 o5 B1 hn2
 obtain ⟨k1, hk1⟩ : ∃ z, z = x1.kind := ⟨_, rfl⟩
 obtain ⟨cp1, hcp1⟩ : ∃ z, z = x1.cap := ⟨_, rfl⟩
 obtain ⟨sz1, hsz1⟩ : ∃ z, z = x1.size := ⟨_, rfl⟩
 rw [← hk1, ← hcp1, ← hsz1]
 have HX := Aside0.mk (And.intro hk1 (And.intro hcp1 hsz1))
 clear hk1 hcp1 hsz1
 go_wp2_with fail
 obtain ⟨W5, hW5⟩ : ∃ W, W = w1.alloc (.cells #[.int .i64 k1, .int .i64 cp1, .slice A2 n2 c2, .slice A3 n3 c3, .int .i64 sz1, .slice A5 n5 c5] 47) := ⟨_, rfl⟩
 rw [← hW5]
 have B5 : Aside0 (Below w1.heap.size w1 W5) := ⟨by rw [hW5]; exact below_alloc (Below.refl _ _) _⟩
 have Q5 : Aside0 (W5.heap[w1.heap.size]? = some (.cells #[.int .i64 k1, .int .i64 cp1, .slice A2 n2 c2, .slice A3 n3 c3, .int .i64 sz1, .slice A5 n5 c5] 47 (0, 0))) := ⟨by rw [hW5]; exact heap_alloc_new _ _⟩
 clear hW5
 obtain ⟨p5, hp5⟩ : ∃ p, p = w1.heap.size := ⟨_, rfl⟩
 rw [← hp5] at Q5 ⊢
 have HP := Aside0.mk hp5
 clear hp5
 obtain ⟨p1, hp1⟩ : ∃ p, p = w.heap.size := ⟨_, rfl⟩
 rw [← hp1] at Q2 ⊢
 have HP1 := Aside0.mk hp1
 clear hp1
 have K0 : Aside0 (∃ its : List S101, k101.R 68 W5 W2.heap.size (fun _ => True) (.slice A2 n2 c2) its ∧ its.length = n2 ∧ (∀ s ∈ its, (0 ≤ s.f0 ∧ s.f0 ≤ 2147483648) ∧ 0 ≤ s.f1 ∧ s.f1 ≤ 2147483648) ∧ (∀ s ∈ its.take 0, s.f1 < 40) ∧ Chg (fun k => some k = (Value.slice A2 n2 c2).ownBlock) W5 W5) := ⟨x1.items, Kd.R_below O2.out B5.out, HN.out, TT.out.items.2, by simp, Chg.refl _ _⟩
 go_loopw [13] (fun v wr => ∃ i : Nat, i ≤ n2 ∧ v = .int .i64 i ∧ Aside0 (∃ its : List S101, k101.R 68 wr W2.heap.size (fun _ => True) (.slice A2 n2 c2) its ∧ its.length = n2 ∧ (∀ s ∈ its, (0 ≤ s.f0 ∧ s.f0 ≤ 2147483648) ∧ 0 ≤ s.f1 ∧ s.f1 ≤ 2147483648) ∧ (∀ s ∈ its.take i, s.f1 < 40) ∧ Chg (fun k => some k = (Value.slice A2 n2 c2).ownBlock) W5 wr)) (fun v _ => n2 - (intOf v).toNat)
 case atStart => exact ⟨0, Nat.zero_le _, rfl, K0⟩
 case round =>
  clear K0
  obtain ⟨i, hi, rfl, ⟨its, r1, r2, r3, r4, r5⟩⟩ := hrel
  have KK := Aside0.mk (And.intro r1 (And.intro r2 (And.intro r3 (And.intro r4 r5))))
  clear r1 r2 r3 r4 r5
  by_cases hlt : i < n2
  ·obtain ⟨g, e, hg1, hg2⟩ : ∃ g, A2 = some ⟨g, 0, none⟩ ∧ W2.heap.size ≤ g ∧ g < wr.heap.size ∧ ∃ cells, wr.heap[g]? = some (.cells cells 68 (0, 0)) := by
    obtain ⟨g, cap, e, h1, h2, h3⟩ := Kd.R_form KK.out.1 (by rw [KK.out.2.1]; omega)
    injection e with e _ _
    exact ⟨g, e, h1, h2, h3⟩
   subst e
   obtain ⟨s, hs⟩ : ∃ s, s = rd_T101 its (i : Int) := ⟨_, rfl⟩
   have hC := (R_C KK.out.1).1
   obtain ⟨ad, e, a0, a1⟩ := at_T101 hC (i : Int) (by omega) (by omega)
   injection e with e
   subst e
   rw [Int.toNat_natCast, ← hs] at a0 a1
   have hadd : (⟨g, 0, none⟩ : Addr).add (i * 2) = ⟨g, i * 2, none⟩ := by unfold Addr.add; split <;> simp_all
   rw [hadd] at a0 a1
   obtain ⟨cells, hcells⟩ := hg2.2
   have GC := Aside0.mk hcells
   have G2 := Aside0.mk (And.intro hg1 hg2.1)
   have P5 : Aside0 (wr.heap[p5]? = some (.cells #[.int .i64 k1, .int .i64 cp1, .slice (some ⟨g, 0, none⟩) n2 c2, .slice A3 n3 c3, .int .i64 sz1, .slice A5 n5 c5] 47 (0, 0))) := ⟨KK.out.2.2.2.2.blk Q5.out (by
    intro e
    have e' : p5 = g := by simpa [Value.ownBlock] using e
    have h1 := O2.out
    have := Kd.R_lt h1 g (by simp [Value.ownBlock])
    have := HP.out
    omega)⟩
   have SI : Aside0 (s ∈ its) := ⟨by
    rw [hs]
    unfold rd_T101
    rw [Int.toNat_natCast, List.getD_eq_getElem?_getD, List.getElem?_eq_getElem (by rw [KK.out.2.1]; exact hlt)]
    exact List.getElem_mem _⟩
   have HS := Aside0.mk hs
   clear hs hC hcells hg1 hg2
   go_wp2_with fail
   have A0 := Aside0.mk a0
   clear a0
   have hZ : s.f1.tmod 40 = s.f1.tmod 40 := rfl
   obtain ⟨z, hz⟩ : ∃ z, z = s.f1.tmod 40 := ⟨_, rfl⟩
   have zb : Aside0 (0 ≤ z ∧ z < 40) := ⟨by
    have h0 := (KK.out.2.2.1 s SI.out).2.1
    have h1 := Int.tmod_nonneg 40 h0
    have h2 := Int.tmod_lt_of_pos s.f1 (b := 40) (by omega)
    omega⟩
   have ez := hz.symm
   clear hZ hz
   have A1 := Aside0.mk a1
   have q0 : wr.drew.cell? ⟨p5, 2, none⟩ = some (.slice (some ⟨g, 0, none⟩) n2 c2) := (blk_cell P5.out 2).trans rfl
   have q1 : wr.drew.cell? ⟨g, i * 2 + 1, none⟩ = some (.int .i64 s.f1) := a1
   refine start_ (n := 10) (S := fun w' => w'.cell? ⟨p5, 2, none⟩ = some (.slice (some ⟨g, 0, none⟩) n2 c2) ∧ w'.cell? ⟨g, i * 2 + 1, none⟩ = some (.int .i64 s.f1)) (ds := [9]) #[false, false, false, false, false, false, false, false, false, false] (by kernel_rfl) rfl rfl ⟨q0, q1⟩ (fun hHeld => ?_)
   clear q0 q1
   refine puU 0 (some 16) ?_ rfl rfl (by kernel_rfl) (fun _ _ _ h => h) (Or.inl ⟨by rfl, ?_⟩) ?_ ?_ ?_
   rotate_left
   ·intro w'
    go_simp
    with_reducible rfl
   rotate_left
   ·simp only [Act.put, lsA, lsB, lsC]
    rfl
   refine taU 1 (some 17) ?_ rfl rfl (by kernel_rfl) (fun _ _ _ h => h) (Or.inl ⟨by rfl, ?_⟩) hHeld ?_ ?_ ?_
   rotate_left
   ·rintro w' ⟨s0, s1⟩
    go_simp
    with_reducible rfl
   rotate_left
   ·simp only [Act.put, lsA, lsB, lsC]
    rfl
   refine puU 2 (some 18) ?_ rfl rfl (by kernel_rfl) (fun _ _ _ h => h) (Or.inl ⟨by rfl, ?_⟩) ?_ ?_ ?_
   rotate_left
   ·intro w'
    go_simp
    with_reducible rfl
   rotate_left
   ·simp only [Act.put, lsA, lsB, lsC]
    rfl
   refine puU 3 (some 19) ?_ rfl rfl (by kernel_rfl) (fun _ _ _ h => h) (Or.inl ⟨by rfl, ?_⟩) ?_ ?_ ?_
   rotate_left
   ·intro w'
    go_simp
    with_reducible rfl
   rotate_left
   ·simp only [Act.put, lsA, lsB, lsC]
    rfl
   refine puU 4 (some 20) ?_ rfl rfl (by kernel_rfl) (fun _ _ _ h => h) (Or.inl ⟨by rfl, ?_⟩) ?_ ?_ ?_
   rotate_left
   ·intro w'
    go_simp
    with_reducible rfl
   rotate_left
   ·simp only [Act.put, lsA, lsB, lsC]
    rfl
   refine taU 5 (some 21) ?_ rfl rfl (by kernel_rfl) (fun _ _ _ h => h) (Or.inl ⟨by rfl, ?_⟩) hHeld ?_ ?_ ?_
   rotate_left
   ·rintro w' ⟨s0, s1⟩
    go_simp
    with_reducible rfl
   rotate_left
   ·simp only [Act.put, lsA, lsB, lsC]
    rfl
   refine puU 6 (some 22) ?_ rfl rfl (by kernel_rfl) (fun _ _ _ h => h) (Or.inl ⟨by rfl, ?_⟩) ?_ ?_ ?_
   rotate_left
   ·intro w'
    go_simp
    with_reducible rfl
   rotate_left
   ·simp only [Act.put, lsA, lsB, lsC]
    rfl
   refine puU 7 (some 23) ?_ rfl rfl (by kernel_rfl) (fun _ _ _ h => h) (Or.inl ⟨by rfl, ?_⟩) ?_ ?_ ?_
   rotate_left
   ·intro w'
    go_simp
    with_reducible rfl
   rotate_left
   ·simp only [Act.put, lsA, lsB, lsC]
    rfl
   refine puU 8 (some 24) ?_ rfl rfl (by kernel_rfl) (fun _ _ _ h => h) (Or.inl ⟨by rfl, ?_⟩) ?_ ?_ ?_
   rotate_left
   ·intro w'
    go_simp
    with_reducible rfl
   rotate_left
   ·simp only [Act.put, lsA, lsB, lsC]
    rfl
   refine last_ (i := 9) (N := none) #[true, true, true, true, true, true, true, true, true, true] rfl rfl (by kernel_rfl) (by decide) (fun K hK => ?_)
   have h0 := a1
   have h1 := blk_frozen GC.out (i * 2 + 1)
   refine skip_ (w1 := ?_) (by rfl) rfl ?_ ?_
   rotate_left
   ·go_simp
    rfl
   refine hK.out _ _ ?_
   clear hK K h0 h1
   refine done_ (by kernel_rfl) ?_
   clear hHeld ez a1
   have hsg := (Kd.R_seg (okp := fun _ => False) (x' := (⟨s.f0, z⟩ : S101)) (seg := [.int .i64 z]) (c := [.int .i64 s.f0, .int .i64 s.f1]) (j := 1) (Kd.R_drew KK.out.1) (i : Int) (by omega) (by omega) rfl (fun j u hu => by
    show wr.drew.cell? ⟨g, (i : Int).toNat * 2 + j, none⟩ = some u
    rw [Int.toNat_natCast]
    match j, hu with
    | 0, hu => exact A0.out.trans hu
    | 1, hu => exact A1.out.trans hu) (by show 1 + 1 ≤ 2; omega) (k101_mkM _ _ _ ⟨s.f0, z⟩) (fun _ h => h.elim)).1
   have hsg' : k101.R 68 (wr.drew.setCell ⟨g, i * 2 + 1, none⟩ (.int .i64 z)) W2.heap.size (fun _ => True) (.slice (some ⟨g, 0, none⟩) n2 c2) (its.set i ⟨s.f0, z⟩) := by
    have e : (i : Int).toNat * k101.sz + 1 = i * 2 + 1 := by
     show (i : Int).toNat * 2 + 1 = i * 2 + 1
     rw [Int.toNat_natCast]
    rw [e, Int.toNat_natCast] at hsg
    exact hsg
   have N9 : Aside0 (∃ its : List S101, k101.R 68 (wr.drew.setCell ⟨g, i * 2 + 1, none⟩ (.int .i64 z)) W2.heap.size (fun _ => True) (.slice (some ⟨g, 0, none⟩) n2 c2) its ∧ its.length = n2 ∧ (∀ s ∈ its, (0 ≤ s.f0 ∧ s.f0 ≤ 2147483648) ∧ 0 ≤ s.f1 ∧ s.f1 ≤ 2147483648) ∧ (∀ s ∈ its.take (i + 1), s.f1 < 40) ∧ Chg (fun k => some k = (Value.slice (some ⟨g, 0, none⟩) n2 c2).ownBlock) W5 (wr.drew.setCell ⟨g, i * 2 + 1, none⟩ (.int .i64 z))) := ⟨its.set i ⟨s.f0, z⟩, hsg', by rw [List.length_set]; exact KK.out.2.1, fun t ht => by
    rcases List.mem_or_eq_of_mem_set ht with ht | ht
    ·exact KK.out.2.2.1 t ht
    ·have h1 := KK.out.2.2.1 s SI.out
     have h2 := zb.out
     rw [ht]
     exact ⟨h1.1, h2.1, by show z ≤ 2147483648; omega⟩, (fun t ht => by
    obtain ⟨k, hk⟩ := List.mem_iff_getElem?.1 ht
    rw [List.getElem?_take] at hk
    split at hk
    ·rename_i hlk
     rw [List.getElem?_set] at hk
     by_cases hik : i = k
     ·rw [if_pos hik] at hk
      split at hk
      ·injection hk with hk
       rw [← hk]
       exact zb.out.2
      ·cases hk
     ·rw [if_neg hik] at hk
      exact KK.out.2.2.2.1 t (List.mem_iff_getElem?.2 ⟨k, by rw [List.getElem?_take, if_pos (by omega)]; exact hk⟩)
    ·cases hk), KK.out.2.2.2.2.drew.setCell (p := ⟨g, i * 2 + 1, none⟩) (.inl rfl) _⟩
   clear hsg hsg'
   go_wp2_with fail
   go_roundw
   case measure => simp [intOf]; omega
   case rel => exact ⟨i + 1, by omega, by go_num, N9⟩
  ·obtain rfl : n2 = i := by omega
   clear hlt hi
   have hne5 : some p5 ≠ (Value.slice A2 n2 c2).ownBlock := fun e => by
    have := Kd.R_lt O2.out p5 e.symm
    have := HP.out
    omega
   have hne1 : some (p1 + 1) ≠ (Value.slice A2 n2 c2).ownBlock := fun e => by
    have := Kd.R_base O2.out (p1 + 1) e.symm
    have := HP1.out
    have := Z2.out
    omega
   have E6 : Aside0 (wr.heap[p5]? = some (.cells #[.int .i64 k1, .int .i64 cp1, .slice A2 n2 c2, .slice A3 n3 c3, .int .i64 sz1, .slice A5 n5 c5] 47 (0, 0))) := ⟨KK.out.2.2.2.2.blk Q5.out hne5⟩
   have E2 : Aside0 (wr.heap[p1 + 1]? = some (.cells #[.int .i64 0, .int .i64 0, .slice none 0 0, .slice none 0 0, .int .i64 0, .slice none 0 0] 47 (0, 0))) := ⟨KK.out.2.2.2.2.blk (blk_below (blk_below Q2.out BB.out) B5.out) hne1⟩
   clear hne5 hne1
   have r0 : wr.cell? ⟨p5, 0, none⟩ = some (.int .i64 k1) := (blk_cell E6.out 0).trans rfl
   have r1 : wr.cell? ⟨p5, 1, none⟩ = some (.int .i64 cp1) := (blk_cell E6.out 1).trans rfl
   have r2 : wr.cell? ⟨p5, 2, none⟩ = some (.slice A2 n2 c2) := (blk_cell E6.out 2).trans rfl
   have r3 : wr.cell? ⟨p5, 3, none⟩ = some (.slice A3 n3 c3) := (blk_cell E6.out 3).trans rfl
   have r4 : wr.cell? ⟨p5, 4, none⟩ = some (.int .i64 sz1) := (blk_cell E6.out 4).trans rfl
   have r5 : wr.cell? ⟨p5, 5, none⟩ = some (.slice A5 n5 c5) := (blk_cell E6.out 5).trans rfl
   have h0 : wr.cell? ⟨p1 + 1, 0, none⟩ = some (.int .i64 0) := (blk_cell E2.out 0).trans rfl
   have h1 : wr.cell? ⟨p1 + 1, 1, none⟩ = some (.int .i64 0) := (blk_cell E2.out 1).trans rfl
   have h2 : wr.cell? ⟨p1 + 1, 2, none⟩ = some (.slice none 0 0) := (blk_cell E2.out 2).trans rfl
   have h3 : wr.cell? ⟨p1 + 1, 3, none⟩ = some (.slice none 0 0) := (blk_cell E2.out 3).trans rfl
   have h4 : wr.cell? ⟨p1 + 1, 4, none⟩ = some (.int .i64 0) := (blk_cell E2.out 4).trans rfl
   have h5 : wr.cell? ⟨p1 + 1, 5, none⟩ = some (.slice none 0 0) := (blk_cell E2.out 5).trans rfl
   have hz : ∀ j, wr.frozen? ⟨p1 + 1, j, none⟩ = false := blk_frozen E2.out
   go_upto_region 7 with fail
   go_wp2_with fail
   clear r0 r1 r2 r3 r4 r5 h0 h1 h2 h3 h4 h5 hz
   obtain ⟨Wz, hWz⟩ : ∃ W, W = ((((((wr).setCell ⟨p1 + 1, 0, none⟩ (.int .i64 k1)).setCell ⟨p1 + 1, 1, none⟩ (.int .i64 cp1)).setCell ⟨p1 + 1, 2, none⟩ (.slice A2 n2 c2)).setCell ⟨p1 + 1, 3, none⟩ (.slice A3 n3 c3)).setCell ⟨p1 + 1, 4, none⟩ (.int .i64 sz1)).setCell ⟨p1 + 1, 5, none⟩ (.slice A5 n5 c5) := ⟨_, rfl⟩
   rw [← hWz]
   have HWz := Aside0.mk hWz
   clear hWz
   have EZ : Aside0 (Wz.heap[p1 + 1]? = some (.cells #[.int .i64 k1, .int .i64 cp1, .slice A2 n2 c2, .slice A3 n3 c3, .int .i64 sz1, .slice A5 n5 c5] 47 (0, 0))) := ⟨by rw [HWz.out]; exact put6 E2.out (.int .i64 k1) (.int .i64 cp1) (.slice A2 n2 c2) (.slice A3 n3 c3) (.int .i64 sz1) (.slice A5 n5 c5)⟩
   have r0 : Wz.cell? ⟨p1 + 1, 0, none⟩ = some (.int .i64 k1) := (blk_cell EZ.out 0).trans rfl
   have r1 : Wz.cell? ⟨p1 + 1, 1, none⟩ = some (.int .i64 cp1) := (blk_cell EZ.out 1).trans rfl
   have r2 : Wz.cell? ⟨p1 + 1, 2, none⟩ = some (.slice A2 n2 c2) := (blk_cell EZ.out 2).trans rfl
   have r3 : Wz.cell? ⟨p1 + 1, 3, none⟩ = some (.slice A3 n3 c3) := (blk_cell EZ.out 3).trans rfl
   have r4 : Wz.cell? ⟨p1 + 1, 4, none⟩ = some (.int .i64 sz1) := (blk_cell EZ.out 4).trans rfl
   have r5 : Wz.cell? ⟨p1 + 1, 5, none⟩ = some (.slice A5 n5 c5) := (blk_cell EZ.out 5).trans rfl
   refine bodyPost_ret (v := .agg #[.int .i64 k1, .int .i64 cp1, .slice A2 n2 c2, .slice A3 n3 c3, .int .i64 sz1, .slice A5 n5 c5]) (by simp [results, Try.results20, go_sem, r0, r1, r2, r3, r4, r5]) rfl ?_
   clear r0 r1 r2 r3 r4 r5
   rw [HWz.out]
   obtain ⟨hk1, hcp1, hsz1⟩ := HX.out
   have hll := KK.out.2.1
   have hT := TT.out
   refine ⟨_, rfl, ⟨(⟨k1, cp1, its, x1.cost, sz1, x1.sets⟩ : PI), ⟨_, _, _, _, _, _, _, _, _, rfl, fin_R2 KK.out.1 (by have := Z2.out; omega) E2.out (by decide) (.int .i64 k1) (.int .i64 cp1) (.slice A2 n2 c2) (.slice A3 n3 c3) (.int .i64 sz1) (.slice A5 n5 c5), fin_R2 (R_final (Kd.R_below O3.out B5.out) ?_) (by have := Z2.out; omega) E2.out (by decide) (.int .i64 k1) (.int .i64 cp1) (.slice A2 n2 c2) (.slice A3 n3 c3) (.int .i64 sz1) (.slice A5 n5 c5), fin_R2 (R_final (Kd.R_below O5.out B5.out) ?_) (by have := Z2.out; omega) E2.out (by decide) (.int .i64 k1) (.int .i64 cp1) (.slice A2 n2 c2) (.slice A3 n3 c3) (.int .i64 sz1) (.slice A5 n5 c5)⟩, ⟨?_, ?_⟩, ?_⟩⟩
   ·intro k q cells hq hc
    exact KK.out.2.2.2.2.blk hc (fun e => by
     obtain ⟨cells', hc'⟩ := own_typed (Kd.R_own (Kd.R_below O2.out B5.out)).choose_spec k e.symm
     exact ty_ne hc hc' (fun e' => by rw [e'] at hq; revert hq; decide) rfl)
   ·intro k q cells hq hc
    exact KK.out.2.2.2.2.blk hc (fun e => by
     obtain ⟨cells', hc'⟩ := own_typed (Kd.R_own (Kd.R_below O2.out B5.out)).choose_spec k e.symm
     exact ty_ne hc hc' (fun e' => by rw [e'] at hq; revert hq; decide) rfl)
   ·subst hk1 hcp1 hsz1
    exact ⟨hT.kind, hT.cap, ⟨by show its.length ≤ most; rw [hll, ← HN.out]; exact hT.items.1, KK.out.2.2.1⟩, hT.size, hT.sets, hT.cost, hT.diag, hT.k0, fun h => by
     have h3 := hT.k3 h
     exact ⟨h3.1, List.eq_nil_of_length_eq_zero (by rw [hll, ← HN.out, h3.2.1]; rfl), h3.2.2⟩, fun h h' => by
     have h3 := hT.k1 h h'
     exact ⟨h3.1, List.eq_nil_of_length_eq_zero (by rw [hll, ← HN.out, h3.2.1]; rfl), h3.2.2⟩⟩
   ·intro s hs
    exact KK.out.2.2.2.1 s (by rw [List.take_of_length_le (by rw [hll]; exact Nat.le_refl _)]; exact hs)
   ·have hp : w.heap.size ≤ p1 + 1 := by have := HP1.out; omega
    refine fin_B ?_ hp (.int .i64 k1) (.int .i64 cp1) (.slice A2 n2 c2) (.slice A3 n3 c3) (.int .i64 sz1) (.slice A5 n5 c5)
    exact chg_below ((B2.out.trans (BB.out.mono B2.out.size)).trans (B5.out.mono (Nat.le_trans B2.out.size BB.out.size))) KK.out.2.2.2.2 (fun k hk => by
     have := Kd.R_base O2.out k hk.symm
     have := B2.out.size
     omega)
end Go.Proofs.Ytelabmhhnpfegaa.Hand
end
section
namespace Go.Proofs.Ytelabmhhnpfegaa.Hand
open Go.RowKit Go.Proofs.YtelabmhhnpfegaaW.PrintWords Go.Proofs.YtelabmhhnpfegaaW.PrintLast Go.Proofs.YtelabmhhnpfegaaW.PrintMore Go.Proofs.Ytelabmhhnpfegaa.PDynCells
theorem kindT_bd (k : Int) : 0 ≤ kindT k ∧ kindT k ≤ 3 := by
 unfold kindT
 have h1 := Int.tmod_lt_of_pos k (show (0 : Int) < 4 by decide)
 have h2 : -4 < k.tmod 4 := Int.lt_tmod_of_pos k (by decide)
 rw [Int.tmod_eq_emod_of_nonneg (a := k.tmod 4 + 4) (by omega)]
 omega
theorem tame_asc {size : Int} : ∀ (l : List Int) (a : Int), l.Pairwise (· < ·) → (∀ e ∈ l, a < e ∧ e < size) → ascB size a l = true
 | [], _, _, _ => rfl
 | e :: t, a, hp, hb => by
  have h1 := hb e List.mem_cons_self
  rw [ascB, if_neg (by omega), if_neg (by omega)]
  exact tame_asc t e hp.tail (fun y hy => ⟨(List.pairwise_cons.1 hp).1 y hy, (hb y (List.mem_cons_of_mem _ hy)).2⟩)
theorem tame_iok {most : Nat} {k : Int} {y : PI} (t : TameP most k y) (hm : most ≤ 64) : IOk y := by
 have hk := kindT_bd k
 rw [← t.kind] at hk
 have h1 := t.items.1
 have h2 := t.cost.1
 have h3 := t.sets.1
 refine ⟨⟨hk.1, by omega⟩, fun h => ?_, fun h => ?_, fun h => ?_, fun h => ?_, by omega, by omega, ⟨t.size.1, by have := t.size.2; omega⟩, fun r hr => (t.cost.2 r hr).1, fun s hs => ?_, t.cap, t.items.2, fun r hr => (t.cost.2 r hr).2, fun s hs => (t.sets.2 s hs).1, t.diag⟩
 ·by_cases h3 : y.kind = 3
  ·exact ⟨(t.k3 h3).2.2, (t.k3 h3).2.1⟩
  ·exact ⟨(t.k1 h h3).2.2.2.1, (t.k1 h h3).2.1⟩
 ·by_cases h0 : y.kind = 0
  ·exact (t.k0 h0).1
  ·exact (t.k3 (by omega)).1
 ·by_cases h0 : y.kind = 0
  ·exact ⟨(t.k0 h0).2.2, (t.k0 h0).2.1⟩
  ·exact ⟨(t.k1 h0 h).2.2.2.2, (t.k1 h0 h).2.2.1⟩
 ·exact ⟨(t.k1 (by omega) (by omega)).1, by omega⟩
 ·exact tame_asc _ _ (t.sets.2 s hs).2.1 (fun e he => by have := (t.sets.2 s hs).2.2 e he; omega)
theorem asc_le {size : Int} {l : List Int} (h : ascB size (-1) l = true) : (l.length : Int) ≤ max 0 size := by
 have := (asc_bd l (-1) (by omega) h).2
 rcases this with rfl | h
 ·simp; omega
 ·omega
theorem tame_els {most : Nat} {k : Int} {y : PI} (t : TameP most k y) : ∀ s ∈ y.sets, s.f1.length ≤ 8 := fun s hs => by
 have h := asc_le (tame_asc _ (-1) (t.sets.2 s hs).2.1 (fun e he => by have := (t.sets.2 s hs).2.2 e he; omega : ∀ e ∈ s.f1, -1 < e ∧ e < y.size))
 have := t.size
 omega
theorem tame_pok {most : Nat} {k : Int} {y : PI} (t : TameP most k y) (hm : most ≤ 64) : PIok y := by
 have h1 := t.items.1
 have h2 := t.cost.1
 have h3 := t.sets.1
 refine ⟨by omega, by omega, by omega, fun r hr => ?_, fun s hs => ?_⟩
 ·have := (t.cost.2 r hr).1
  omega
 ·have := tame_els t s hs
  omega
theorem cut_tame {most : Nat} {k : Int} {y : PI} (t : TameP most k y) (hm : most ≤ 40) : cutI y = y := by
 have h1 := t.items.1
 have h2 := t.cost.1
 have h3 := t.sets.1
 have e1 : (y.cost.take 70).map (·.take 70) = y.cost := by
  rw [List.take_of_length_le (by omega)]
  refine (List.map_congr_left (g := id) (fun r hr => ?_)).trans (List.map_id _)
  exact List.take_of_length_le (by have := (t.cost.2 r hr).1; omega)
 have e2 : (y.sets.take 40).map cutS = y.sets := by
  rw [List.take_of_length_le (by omega)]
  refine (List.map_congr_left (g := id) (fun r hr => ?_)).trans (List.map_id _)
  unfold cutS
  rw [List.take_of_length_le (by have := tame_els t r hr; omega)]
  rfl
 unfold cutI
 rw [e1, e2, List.take_of_length_le (by omega)]
theorem wsum_le {c : Int} : ∀ (l : List S101), (∀ s ∈ l, s.f1 ≤ c) → wsum l ≤ c * l.length
 | [], _ => by simp [wsum]
 | s :: t, h => by
  have ih := wsum_le t (fun s hs => h s (List.mem_cons_of_mem _ hs))
  have h0 := h s List.mem_cons_self
  have e : wsum (s :: t) = s.f1 + wsum t := by simp [wsum]
  have e2 : c * ((t.length : Int) + 1) = c * t.length + c := by rw [Int.mul_add, Int.mul_one]
  rw [e, List.length_cons, Int.natCast_add]
  show s.f1 + wsum t ≤ c * ((t.length : Int) + 1)
  omega
end Go.Proofs.Ytelabmhhnpfegaa.Hand
end
section
namespace Go.Proofs.Ytelabmhhnpfegaa.Hand
open Go.RowKit Go.Proofs.YtelabmhhnpfegaaW.PrintWords Go.Proofs.YtelabmhhnpfegaaW.PrintLast Go.Proofs.YtelabmhhnpfegaaW.PrintMore Go.Proofs.Ytelabmhhnpfegaa.PDynCells
def wkP : PI := ⟨0, 5, [⟨6, 3⟩, ⟨5, 4⟩], [], 0, []⟩
theorem wk_ok : PIok wkP := ⟨by decide, by decide, by decide, fun r hr => absurd hr List.not_mem_nil, fun s hs => absurd hs List.not_mem_nil⟩
theorem wk_iok : IOk wkP := by
 refine ⟨by decide, fun h => absurd rfl h, fun _ => rfl, fun _ => ⟨rfl, rfl⟩, fun h => ?_, by decide, by decide, by decide, fun r hr => absurd hr List.not_mem_nil, fun s hs => absurd hs List.not_mem_nil, by decide, ?_, fun r hr => absurd hr List.not_mem_nil, fun s hs => absurd hs List.not_mem_nil, fun h => ?_⟩
 ·rcases h with h | h <;> cases h
 ·intro s hs
  simp only [wkP, List.mem_cons, List.not_mem_nil, or_false] at hs
  rcases hs with rfl | rfl <;> decide
 ·cases h
theorem wk_room : roomP wkP = 5 := by decide
theorem wk_cells : cellsP wkP = (18, 0) := by
 unfold cellsP
 rw [if_pos (iok.2 wk_iok)]
 decide
theorem wk_row : rowK 6 wkP.items 2 = [0, 0, 0, 6, 6, 6] := by decide
theorem wk_tb : (tbk 6 wkP.items 2 5).reverse = [0] := by decide
set_option maxHeartbeats 1000000 in
set_option maxRecDepth 100000 in
theorem wakes_any (w : World) : Calls Try.prog 24 #[] w fun e w' => e = .returned (.bool true) ∧ Below w.heap.size w w' := by
 have hu54 := Try.underlying54
 have hu101 := Try.underlying101
 go_enter Try.func24, Try.ntmps24
 go_upto_region 2 with fail
 obtain ⟨W0, hW0⟩ : ∃ W, W = w.alloc (.cells #[.int .i64 6, .int .i64 3, .int .i64 5, .int .i64 4] 101) := ⟨_, rfl⟩
 have RI : Aside0 (k101.R 101 W0 w.heap.size (fun _ => True) (.slice (some ⟨w.heap.size, 0, none⟩) 2 2) wkP.items) := ⟨by
  rw [hW0]
  exact R_litw k101 w w.heap.size 101 (xs := wkP.items) (inner := [.int .i64 6, .int .i64 3, .int .i64 5, .int .i64 4]) (ok := fun _ => True) (okp := fun _ => True) (Reps.front (k101_mkM _ _ _ ⟨6, 3⟩) rfl (Reps.front (k101_mkM _ _ _ ⟨5, 4⟩) rfl (Reps.none _ _) rfl) rfl) (fun _ h => h) trivial (Nat.le_refl _) (by decide)⟩
 rw [← hW0]
 obtain ⟨W1, hW1⟩ : ∃ W, W = W0.alloc (.cells #[.int .i64 0, .int .i64 5, .slice (some ⟨w.heap.size, 0, none⟩) 2 2, .slice none 0 0, .int .i64 0, .slice none 0 0] 54) := ⟨_, rfl⟩
 rw [← hW1]
 have B1 : Aside0 (Below w.heap.size w W1) := ⟨by rw [hW1, hW0]; exact below_alloc (below_alloc (Below.refl _ _) _) _⟩
 have Q1 : Aside0 (W1.heap[w.heap.size + 1]? = some (.cells #[.int .i64 0, .int .i64 5, .slice (some ⟨w.heap.size, 0, none⟩) 2 2, .slice none 0 0, .int .i64 0, .slice none 0 0] 54 (0, 0))) := ⟨by
  rw [hW1, hW0]
  simp only [al_get, al_size]
  rw [if_pos trivial]⟩
 have IC : Aside0 (InstC W1 wkP (.agg #[.int .i64 0, .int .i64 5, .slice (some ⟨w.heap.size, 0, none⟩) 2 2, .slice none 0 0, .int .i64 0, .slice none 0 0])) := ⟨by
  have hr := (R_C RI.out).1
  refine ⟨_, 2, none, 0, none, 0, rfl, ?_, by decide, Kd.C_nil _ _, Nat.le_refl _, Kd.C_nil _ _, Nat.le_refl _⟩
  rw [hW1]
  exact Kd.C_alloc hr _⟩
 obtain ⟨p1, hp1⟩ : ∃ p, p = w.heap.size + 1 := ⟨_, rfl⟩
 obtain ⟨p0, hp0⟩ : ∃ p, p = w.heap.size := ⟨_, rfl⟩
 rw [← hp0] at IC Q1 ⊢
 rw [show p0 + 1 = p1 by omega] at Q1 ⊢
 clear hW0 hW1 hp0 hp1 RI
 have q0 : W1.cell? ⟨p1, 0, none⟩ = some (.int .i64 0) := (blk_cell Q1.out 0).trans rfl
 have q1 : W1.cell? ⟨p1, 1, none⟩ = some (.int .i64 5) := (blk_cell Q1.out 1).trans rfl
 have q2 : W1.cell? ⟨p1, 2, none⟩ = some (.slice (some ⟨p0, 0, none⟩) 2 2) := (blk_cell Q1.out 2).trans rfl
 have q3 : W1.cell? ⟨p1, 3, none⟩ = some (.slice none 0 0) := (blk_cell Q1.out 3).trans rfl
 have q4 : W1.cell? ⟨p1, 4, none⟩ = some (.int .i64 0) := (blk_cell Q1.out 4).trans rfl
 have q5 : W1.cell? ⟨p1, 5, none⟩ = some (.slice none 0 0) := (blk_cell Q1.out 5).trans rfl
 go_wp2_with fail
 clear q0 q1 q2 q3 q4 q5
 refine (cells_any W1 wkP _ IC.out wk_ok).mono ?_
 rintro _ W2 ⟨rfl, B2'⟩
 have B2 := Aside0.mk B2'
 clear B2'
 rw [wk_cells]
 have Q2 : Aside0 (W2.heap[p1]? = some (.cells #[.int .i64 0, .int .i64 5, .slice (some ⟨p0, 0, none⟩) 2 2, .slice none 0 0, .int .i64 0, .slice none 0 0] 54 (0, 0))) := ⟨blk_below Q1.out B2.out⟩
 have q0 : W2.cell? ⟨p1, 0, none⟩ = some (.int .i64 0) := (blk_cell Q2.out 0).trans rfl
 have q1 : W2.cell? ⟨p1, 1, none⟩ = some (.int .i64 5) := (blk_cell Q2.out 1).trans rfl
 have q2 : W2.cell? ⟨p1, 2, none⟩ = some (.slice (some ⟨p0, 0, none⟩) 2 2) := (blk_cell Q2.out 2).trans rfl
 have q3 : W2.cell? ⟨p1, 3, none⟩ = some (.slice none 0 0) := (blk_cell Q2.out 3).trans rfl
 have q4 : W2.cell? ⟨p1, 4, none⟩ = some (.int .i64 0) := (blk_cell Q2.out 4).trans rfl
 have q5 : W2.cell? ⟨p1, 5, none⟩ = some (.slice none 0 0) := (blk_cell Q2.out 5).trans rfl
 go_wp2_with fail
 clear q0 q1 q2 q3 q4 q5
 have hb := best_0 W2 wkP _ (IC.out.below B2.out) wk_ok (by rw [wk_cells]) rfl
 rw [wk_room, show ((5 : Int) + 1).toNat = 6 from rfl, show (5 : Int).toNat = 5 from rfl, show wkP.items.length = 2 from rfl, wk_row, wk_tb] at hb
 refine hb.mono ?_
 clear hb
 rintro _ W3 ⟨v3, rfl, ⟨⟨A3, n3, c3, e3, C3⟩, B3'⟩⟩
 subst e3
 have hl3 : 1 = n3 := C3.1
 subst hl3
 have B3 := Aside0.mk B3'
 obtain ⟨a3, e, x3⟩ := at_Int C3 0 (by omega)
 subst e
 have X3 : Aside0 (W3.cell? a3 = some (.int .i64 0)) := ⟨x3⟩
 clear x3 B3' C3
 have Q3 : Aside0 (W3.heap[p1]? = some (.cells #[.int .i64 0, .int .i64 5, .slice (some ⟨p0, 0, none⟩) 2 2, .slice none 0 0, .int .i64 0, .slice none 0 0] 54 (0, 0))) := ⟨blk_below Q2.out B3.out⟩
 have q0 : W3.cell? ⟨p1, 0, none⟩ = some (.int .i64 0) := (blk_cell Q3.out 0).trans rfl
 have q1 : W3.cell? ⟨p1, 1, none⟩ = some (.int .i64 5) := (blk_cell Q3.out 1).trans rfl
 have q2 : W3.cell? ⟨p1, 2, none⟩ = some (.slice (some ⟨p0, 0, none⟩) 2 2) := (blk_cell Q3.out 2).trans rfl
 have q3 : W3.cell? ⟨p1, 3, none⟩ = some (.slice none 0 0) := (blk_cell Q3.out 3).trans rfl
 have q4 : W3.cell? ⟨p1, 4, none⟩ = some (.int .i64 0) := (blk_cell Q3.out 4).trans rfl
 have q5 : W3.cell? ⟨p1, 5, none⟩ = some (.slice none 0 0) := (blk_cell Q3.out 5).trans rfl
 go_wp2_with fail
 clear q0 q1 q2 q3 q4 q5
 have hf := front_ok W3 wkP _ ((IC.out.below B2.out).below B3.out) wk_ok (by rw [wk_cells]) rfl
 rw [wk_room, show ((5 : Int) + 1).toNat = 6 from rfl, show wkP.items.length = 2 from rfl, wk_row] at hf
 refine hf.mono ?_
 clear hf
 rintro _ W4 ⟨a4, c4, rfl, ⟨C4, B4'⟩⟩
 have B4 := Aside0.mk B4'
 obtain ⟨ae, e, x2⟩ := at_Int C4 2 (by omega)
 injection e with e
 subst e
 obtain ⟨ae, e, x3⟩ := at_Int C4 3 (by omega)
 injection e with e
 subst e
 have y2 : W4.cell? ⟨a4.block, a4.off + 2, none⟩ = some (.int .i64 0) := x2
 have y3 : W4.cell? ⟨a4.block, a4.off + 3, none⟩ = some (.int .i64 6) := x3
 have y0 := pw_cell_below B4.out X3.out
 clear x2 x3 C4 B4'
 go_wp2_with fail
 go_ret
 exact ⟨rfl, B1.out.trans ((B2.out.trans ((B3.out.trans (B4.out.mono B3.out.size)).mono B2.out.size)).mono B1.out.size)⟩
end Go.Proofs.Ytelabmhhnpfegaa.Hand
end
section
namespace Go.Proofs.Ytelabmhhnpfegaa.Hand
def vs (f : Nat → Int) (γ : Nat → Bool) : List Nat → Int
 | [] => 0
 | k :: t => (if γ k = true then f k else 0) + vs f γ t
def vall (f : Nat → Int) (l : List Nat) : Int := vs f (fun _ => true) l
theorem vall_cons (f : Nat → Int) (k : Nat) (t : List Nat) : vall f (k :: t) = f k + vall f t := rfl
theorem vs_app (f : Nat → Int) (γ : Nat → Bool) : ∀ a b : List Nat, vs f γ (a ++ b) = vs f γ a + vs f γ b
 | [], b => by rw [List.nil_append, vs, Int.zero_add]
 | k :: t, b => by
  rw [List.cons_append, vs, vs, vs_app f γ t b]
  omega
theorem vs_perm (f : Nat → Int) (γ : Nat → Bool) {a b : List Nat} (h : a.Perm b) : vs f γ a = vs f γ b := by
 induction h with
 | nil => rfl
 | cons x _ ih => rw [vs, vs, ih]
 | swap x y l => rw [vs, vs, vs, vs]; omega
 | trans _ _ i1 i2 => exact i1.trans i2
theorem vs_low {f : Nat → Int} (γ : Nat → Bool) : ∀ l : List Nat, (∀ k ∈ l, f k ≤ 0) → vs f γ l ≤ 0
 | [], _ => Int.le_refl _
 | k :: t, h => by
  have ih := vs_low γ t (fun j hj => h j (List.mem_cons_of_mem _ hj))
  have h0 := h k List.mem_cons_self
  rw [vs]
  split <;> omega
theorem vs_high {f : Nat → Int} (γ : Nat → Bool) : ∀ l : List Nat, (∀ k ∈ l, 0 ≤ f k) → vs f γ l ≤ vall f l
 | [], _ => Int.le_refl _
 | k :: t, h => by
  have ih := vs_high γ t (fun j hj => h j (List.mem_cons_of_mem _ hj))
  have h0 := h k List.mem_cons_self
  rw [vs, vall_cons]
  split <;> omega
theorem vs_lin (f g : Nat → Int) (a b : Int) (γ : Nat → Bool) : ∀ l : List Nat, vs (fun j => f j * a - b * g j) γ l = vs f γ l * a - b * vs g γ l
 | [] => by simp [vs]
 | k :: t => by
  rw [vs, vs, vs, vs_lin f g a b γ t]
  split
  ·rw [Int.add_mul, Int.mul_add]
   omega
  ·rw [Int.zero_add, Int.zero_add, Int.zero_add]
def relx (v w : Nat → Int) : List Nat → Int → Int → Int
 | [], _, sum => sum
 | k :: t, room, sum => if room < w k then sum + v k * room / w k else relx v w t (room - w k) (sum + v k)
theorem relx_split (v w : Nat → Int) : ∀ (o : List Nat) (room sum : Int), 0 ≤ room → (relx v w o room sum = sum + vall v o) ∨ ∃ T k t, o = T ++ k :: t ∧ 0 ≤ room - vall w T ∧ room - vall w T < w k ∧ relx v w o room sum = sum + vall v T + v k * (room - vall w T) / w k
 | [], room, sum, _ => .inl (by rw [relx]; show sum = sum + 0; omega)
 | k :: t, room, sum, h => by
  rw [relx]
  by_cases hk : room < w k
  ·rw [if_pos hk]
   refine .inr ⟨[], k, t, rfl, ?_, ?_, ?_⟩
   ·show 0 ≤ room - 0
    omega
   ·show room - 0 < w k
    omega
   ·show _ = sum + 0 + v k * (room - 0) / w k
    rw [Int.sub_zero, Int.add_zero]
  ·rw [if_neg hk]
   rcases relx_split v w t (room - w k) (sum + v k) (by omega) with h1 | ⟨T, j, t', e, h1, h2, h3⟩
   ·left
    rw [h1, vall_cons]
    omega
   ·refine .inr ⟨k :: T, j, t', by rw [e]; rfl, ?_, ?_, ?_⟩
    ·rw [vall_cons]; omega
    ·rw [vall_cons]; omega
    ·rw [h3, vall_cons, vall_cons]
     have : room - w k - vall w T = room - (w k + vall w T) := by omega
     rw [this]
     omega
theorem relx_ge {v w : Nat → Int} {o : List Nat} (hv : ∀ k, 0 ≤ v k) (ho : o.Pairwise fun a b => v b * w a ≤ v a * w b) (room : Int) (γ : Nat → Bool) (hf : vs w γ o ≤ room) (h0 : 0 ≤ room) : vs v γ o ≤ relx v w o room 0 := by
 rcases relx_split v w o room 0 h0 with h | ⟨T, k, t, rfl, h1, h2, h3⟩
 ·rw [h, Int.zero_add]
  exact vs_high γ o (fun k _ => hv k)
 ·rw [h3, Int.zero_add]
  rw [List.pairwise_append] at ho
  obtain ⟨_, p2, p3⟩ := ho
  have p4 := (List.pairwise_cons.1 p2).1
  have e1 := vs_lin v w (w k) (v k) γ (T ++ k :: t)
  have e2 := vs_lin v w (w k) (v k) (fun _ => true) T
  have a1 := vs_app (fun j => v j * w k - v k * w j) γ T (k :: t)
  have b1 : vs (fun j => v j * w k - v k * w j) γ T ≤ vall (fun j => v j * w k - v k * w j) T := vs_high γ T (fun j hj => by
   have := p3 j hj k List.mem_cons_self
   show 0 ≤ v j * w k - v k * w j
   omega)
  have b2 : vs (fun j => v j * w k - v k * w j) γ (k :: t) ≤ 0 := vs_low γ _ (fun j hj => by
   show v j * w k - v k * w j ≤ 0
   rcases List.mem_cons.1 hj with rfl | hj
   ·omega
   ·have := p4 j hj
    omega)
  have hwk : 0 < w k := by omega
  have key : vs v γ (T ++ k :: t) * w k ≤ vall v T * w k + v k * (room - vall w T) := by
   have m1 : v k * vs w γ (T ++ k :: t) ≤ v k * room := Int.mul_le_mul_of_nonneg_left hf (hv k)
   have m2 : v k * (room - vall w T) = v k * room - v k * vall w T := Int.mul_sub ..
   unfold vall at *
   omega
  have hd : (vs v γ (T ++ k :: t) - vall v T) * w k ≤ v k * (room - vall w T) := by
   rw [Int.sub_mul]
   omega
  have := (Int.le_ediv_iff_mul_le hwk).2 hd
  omega
end Go.Proofs.Ytelabmhhnpfegaa.Hand
end
section
namespace Go.Proofs.Ytelabmhhnpfegaa.Hand
def leW (v w : Nat → Int) (a b : Nat) : Prop := w a = 0 ∨ (0 < w b ∧ v b * w a ≤ v a * w b)
theorem leW_trans {v w : Nat → Int} (hv : ∀ k, 0 ≤ v k) (hw : ∀ k, 0 ≤ w k) {a b c : Nat} (h1 : leW v w a b) (h2 : leW v w b c) : leW v w a c := by
 rcases h1 with h1 | ⟨p1, q1⟩
 ·exact .inl h1
 ·rcases h2 with h2 | ⟨p2, q2⟩
  ·omega
  ·refine .inr ⟨p2, ?_⟩
   have m1 : v b * w a * w c ≤ v a * w b * w c := Int.mul_le_mul_of_nonneg_right q1 (hw c)
   have m2 : v c * w b * w a ≤ v b * w c * w a := Int.mul_le_mul_of_nonneg_right q2 (hw a)
   have e1 : v b * w a * w c = v b * w c * w a := by rw [Int.mul_assoc, Int.mul_comm (w a), ← Int.mul_assoc]
   have e2 : v c * w b * w a = v c * w a * w b := by rw [Int.mul_assoc, Int.mul_comm (w b), ← Int.mul_assoc]
   have e3 : v a * w b * w c = v a * w c * w b := by rw [Int.mul_assoc, Int.mul_comm (w b), ← Int.mul_assoc]
   have : v c * w a * w b ≤ v a * w c * w b := by omega
   exact Int.le_of_mul_le_mul_right this p1
theorem leW_pair {v w : Nat → Int} (hv : ∀ k, 0 ≤ v k) (hw : ∀ k, 0 ≤ w k) {a b : Nat} (h : leW v w a b) : v b * w a ≤ v a * w b := by
 rcases h with h | h
 ·rw [h, Int.mul_zero]
  exact Int.mul_nonneg (hv a) (hw b)
 ·exact h.2
def InO (v w : Nat → Int) (X : Nat → Nat) (i : Nat) : Prop := ∀ a b, a < b → b < i → leW v w (X a) (X b)
structure Mid (v w : Nat → Int) (X : Nat → Nat) (i j : Nat) : Prop where
 le : j ≤ i
 rest : ∀ a b, a < b → b ≤ i → a ≠ j → b ≠ j → leW v w (X a) (X b)
 one : ∀ b, j < b → b ≤ i → leW v w (X j) (X b)
def swp (X : Nat → Nat) (j : Nat) (k : Nat) : Nat := if k = j then X (j - 1) else if k = j - 1 then X j else X k
theorem Mid.start {v w : Nat → Int} {X : Nat → Nat} {i : Nat} (h : InO v w X i) : Mid v w X i i :=
 ⟨Nat.le_refl _, fun a b hab hb ha hj => h a b hab (by omega), fun b h1 h2 => by omega⟩
theorem Mid.step {v w : Nat → Int} {X : Nat → Nat} {i j : Nat} (h : Mid v w X i j) (hj : 0 < j) (hl : leW v w (X j) (X (j - 1))) : Mid v w (swp X j) i (j - 1) := by
 have hle := h.le
 refine ⟨by omega, fun a b hab hb ha hbj => ?_, fun b h1 h2 => ?_⟩
 ·unfold swp
  rw [if_neg ha, if_neg hbj]
  by_cases e1 : a = j
  ·rw [if_pos e1, if_neg (by omega)]
   exact h.rest _ _ (by omega) hb (by omega) (by omega)
  ·rw [if_neg e1]
   by_cases e2 : b = j
   ·rw [if_pos e2]
    exact h.rest _ _ (by omega) (by omega) (by omega) (by omega)
   ·rw [if_neg e2]
    exact h.rest _ _ hab hb e1 e2
 ·unfold swp
  rw [if_neg (by omega), if_pos rfl]
  by_cases e2 : b = j
  ·rw [if_pos e2]
   exact hl
  ·rw [if_neg e2, if_neg (by omega)]
   exact h.one _ (by omega) h2
theorem Mid.done {v w : Nat → Int} (hv : ∀ k, 0 ≤ v k) (hw : ∀ k, 0 ≤ w k) {X : Nat → Nat} {i j : Nat} (h : Mid v w X i j) (hl : j = 0 ∨ leW v w (X (j - 1)) (X j)) : InO v w X (i + 1) := fun a b hab hb => by
 have hle := h.le
 by_cases e1 : a = j
 ·subst e1
  exact h.one _ hab (by omega)
 ·by_cases e2 : b = j
  ·subst e2
   rcases hl with hl | hl
   ·omega
   ·by_cases e3 : a = b - 1
    ·rw [e3]; exact hl
    ·exact leW_trans hv hw (h.rest a (b - 1) (by omega) (by omega) (by omega) (by omega)) hl
  ·exact h.rest _ _ hab (by omega) e1 e2
end Go.Proofs.Ytelabmhhnpfegaa.Hand
end
section
namespace Go.Proofs.Ytelabmhhnpfegaa.Hand
theorem swp_perm (X : Nat → Nat) {j n : Nat} (hj : 0 < j) (hn : j < n) : ((List.range n).map (swp X j)).Perm ((List.range n).map X) := by
 have e : List.range n = List.range (j - 1) ++ ([j - 1, j] ++ (List.range' (j + 1) (n - (j + 1)))) := by
  apply List.ext_getElem
  ·simp
   omega
  ·intro i h1 h2
   rw [List.getElem_range]
   by_cases a : i < j - 1
   ·rw [List.getElem_append_left (by simpa using a), List.getElem_range]
   ·rw [List.getElem_append_right (by simp; omega)]
    simp only [List.length_range]
    by_cases b : i = j - 1
    ·subst b
     simp
    ·by_cases c : i = j
     ·subst c
      have : i - (i - 1) = 1 := by omega
      simp [this]
     ·rw [List.getElem_append_right (by simp; omega)]
      simp
      omega
 have f1 : ∀ l : List Nat, (∀ k ∈ l, k ≠ j ∧ k ≠ j - 1) → l.map (swp X j) = l.map X := fun l h => List.map_congr_left (fun k hk => by
  unfold swp
  rw [if_neg (h k hk).1, if_neg (h k hk).2])
 rw [e, List.map_append, List.map_append, List.map_append, List.map_append, f1 (List.range (j - 1)) (fun k hk => by have := List.mem_range.1 hk; omega), f1 (List.range' _ _) (fun k hk => by have := (List.mem_range'_1.1 hk); omega)]
 refine List.Perm.append_left _ (List.Perm.append_right _ ?_)
 have g1 : swp X j (j - 1) = X j := by
  unfold swp
  rw [if_neg (by omega), if_pos rfl]
 have g2 : swp X j j = X (j - 1) := by
  unfold swp
  rw [if_pos rfl]
 simp only [List.map_cons, List.map_nil, g1, g2]
 exact List.Perm.swap _ _ _
end Go.Proofs.Ytelabmhhnpfegaa.Hand
end
section
namespace Go.Proofs.Ytelabmhhnpfegaa.Hand
open Go.RowKit Go.Proofs.YtelabmhhnpfegaaW.PrintWords Go.Proofs.YtelabmhhnpfegaaW.PrintLast Go.Proofs.YtelabmhhnpfegaaW.PrintMore Go.Proofs.Ytelabmhhnpfegaa.PDynCells
theorem kwithin_any (w : World) (z : Int) (h0 : 0 ≤ z) (h1 : z ≤ 2147483648) : Calls Try.prog 108 #[.int .i64 z] w fun e w' => e = .returned (.bool true) ∧ Below w.heap.size w w' := by
 go_enter Try.func108, Try.ntmps108
 go_wp2_with fail
 go_ret
 exact ⟨rfl, Below.refl _ _⟩
theorem kbad_any (w : World) (s : S101) (h : (0 ≤ s.f0 ∧ s.f0 ≤ 2147483648) ∧ 0 ≤ s.f1 ∧ s.f1 ≤ 2147483648) : Calls Try.prog 107 #[.agg #[.int .i64 s.f0, .int .i64 s.f1]] w fun e w' => e = .returned (.bool false) ∧ Below w.heap.size w w' := by
 have HS := Aside0.mk h
 obtain ⟨a, ha⟩ : ∃ a, a = s.f0 := ⟨_, rfl⟩
 obtain ⟨b, hb⟩ : ∃ a, a = s.f1 := ⟨_, rfl⟩
 rw [← ha, ← hb] at HS ⊢
 clear ha hb h
 have hu101 := Try.underlying101
 go_enter Try.func107, Try.ntmps107
 go_upto_region 1 with fail
 obtain ⟨W1, hW1⟩ : ∃ W, W = w.alloc (.cells #[.int .i64 a, .int .i64 b] 101) := ⟨_, rfl⟩
 rw [← hW1]
 obtain ⟨p1, hp1⟩ : ∃ p, p = w.heap.size := ⟨_, rfl⟩
 have B1 : Aside0 (Below w.heap.size w W1) := ⟨by rw [hW1]; exact below_alloc (Below.refl _ _) _⟩
 have Q1 : Aside0 (W1.heap[p1]? = some (.cells #[.int .i64 a, .int .i64 b] 101 (0, 0))) := ⟨by rw [hW1, hp1]; exact heap_alloc_new _ _⟩
 rw [← hp1]
 clear hW1 hp1
 have e0 : W1.cell? ⟨p1, 0, none⟩ = some (.int .i64 a) := (blk_cell Q1.out 0).trans rfl
 go_wp2_with fail
 clear e0
 refine (kwithin_any W1 a HS.out.1.1 HS.out.1.2).mono ?_
 rintro _ W2 ⟨rfl, B2'⟩
 have B2 := Aside0.mk B2'
 clear B2'
 have e1 : W2.cell? ⟨p1, 1, none⟩ = some (.int .i64 b) := pw_cell_below B2.out ((blk_cell Q1.out 1).trans rfl)
 go_wp2_with fail
 clear e1
 refine (kwithin_any W2 b HS.out.2.1 HS.out.2.2).mono ?_
 rintro _ W3 ⟨rfl, B3'⟩
 have B3 := Aside0.mk (B1.out.trans ((B2.out.trans (B3'.mono B2.out.size)).mono B1.out.size))
 clear B3'
 go_wp2_with fail
 go_ret
 exact ⟨rfl, B3.out⟩
end Go.Proofs.Ytelabmhhnpfegaa.Hand
end
section
namespace Go.Proofs.Ytelabmhhnpfegaa.Hand
open Go.RowKit Go.Proofs.YtelabmhhnpfegaaW.PrintWords Go.Proofs.YtelabmhhnpfegaaW.PrintLast Go.Proofs.YtelabmhhnpfegaaW.PrintMore Go.Proofs.Ytelabmhhnpfegaa.PDynCells
set_option maxHeartbeats 400000 in
theorem kindex_any (w : World) (A : Option Addr) (n c : Nat) (l : List S101) (hC : k101.C w A n l) (hn : n ≤ 4096) (hg : ∀ s ∈ l, (0 ≤ s.f0 ∧ s.f0 ≤ 2147483648) ∧ 0 ≤ s.f1 ∧ s.f1 ≤ 2147483648) :
  Calls Try.prog 137 #[.slice A n c, .func (.func 107) #[] #[]] w fun e w' => e = .returned (.int .i64 (-1)) ∧ Below w.heap.size w w' := by
 have HC := Aside0.mk hC
 have HL : Aside0 (l.length = n) := ⟨hC.1⟩
 have HG := Aside0.mk hg
 clear hC hg
 have hu101 := Try.underlying101
 have K0 : Aside0 (Below w.heap.size w w) := ⟨Below.refl _ _⟩
 go_enter Try.func137, Try.ntmps137
 go_wp2_with fail
 go_loopw [8] (fun v8 wr => ∃ k : Nat, k ≤ n ∧ v8 = .int .i64 k ∧ Aside0 (Below w.heap.size w wr)) (fun v8 _ => n - (intOf v8).toNat)
 case atStart => exact ⟨0, Nat.zero_le _, rfl, K0⟩
 case round =>
  clear K0
  obtain ⟨k, hk, rfl, BW⟩ := hrel
  by_cases hlt : k < n
  ·obtain ⟨ad, rfl, a0', a1'⟩ := at_T101 HC.out (k : Int) (by omega) (by omega)
   have a0 := pw_cell_below BW.out a0'
   have a1 := pw_cell_below BW.out a1'
   rw [Int.toNat_natCast] at a0 a1
   have GS : Aside0 ((0 ≤ (rd_T101 l (k : Int)).f0 ∧ (rd_T101 l (k : Int)).f0 ≤ 2147483648) ∧ 0 ≤ (rd_T101 l (k : Int)).f1 ∧ (rd_T101 l (k : Int)).f1 ≤ 2147483648) := ⟨HG.out _ (by
    have h1 : k < l.length := by rw [HL.out]; exact hlt
    unfold rd_T101
    rw [Int.toNat_natCast, List.getD_eq_getElem?_getD, List.getElem?_eq_getElem h1, Option.getD_some]
    exact List.getElem_mem h1)⟩
   obtain ⟨s, hs⟩ : ∃ s, s = rd_T101 l (k : Int) := ⟨_, rfl⟩
   rw [← hs] at a0 a1 GS
   clear hs a0' a1'
   go_wp2_with (go_at_call 107; refine (kbad_any wr s GS.out).mono ?_; rintro _ W2 ⟨rfl, B2⟩)
   exact ⟨⟨k + 1, by omega, by go_num, ⟨BW.out.trans (B2.mono BW.out.size)⟩⟩, by simp [intOf]; omega⟩
  ·obtain rfl : k = n := by omega
   go_wp2_with fail
   go_ret
   exact ⟨rfl, BW.out⟩
theorem khas_any (w : World) (A : Option Addr) (n c : Nat) (l : List S101) (hC : k101.C w A n l) (hn : n ≤ 4096) (hg : ∀ s ∈ l, (0 ≤ s.f0 ∧ s.f0 ≤ 2147483648) ∧ 0 ≤ s.f1 ∧ s.f1 ≤ 2147483648) :
  Calls Try.prog 109 #[.slice A n c, .func (.func 107) #[] #[]] w fun e w' => e = .returned (.bool false) ∧ Below w.heap.size w w' := by
 have HC := Aside0.mk hC
 have HG := Aside0.mk hg
 clear hC hg
 go_enter Try.func109, Try.ntmps109
 go_wp2_with fail
 refine (kindex_any w A n c l HC.out hn HG.out).mono ?_
 rintro _ W2 ⟨rfl, B2⟩
 go_wp2_with fail
 go_ret
 exact ⟨rfl, B2⟩
end Go.Proofs.Ytelabmhhnpfegaa.Hand
namespace Go.Proofs.Ytelabmhhnpfegaa.Hand
open Go.RowKit Go.Proofs.YtelabmhhnpfegaaW.PrintWords Go.Proofs.YtelabmhhnpfegaaW.PrintLast Go.Proofs.YtelabmhhnpfegaaW.PrintMore Go.Proofs.Ytelabmhhnpfegaa.PDynCells
theorem kmay_any (w : World) (A : Option Addr) (n c : Nat) (l : List S101) (z : Int) (hC : k101.C w A n l) (hn : n ≤ 4096) (hg : ∀ s ∈ l, (0 ≤ s.f0 ∧ s.f0 ≤ 2147483648) ∧ 0 ≤ s.f1 ∧ s.f1 ≤ 2147483648) (h0 : 0 ≤ z) (h1 : z ≤ 2147483648) :
  Calls Try.prog 66 #[.slice A n c, .int .i64 z] w fun e w' => e = .returned (.bool true) ∧ Below w.heap.size w w' := by
 have HC := Aside0.mk hC
 have HG := Aside0.mk hg
 have HZ := Aside0.mk (And.intro h0 h1)
 clear hC hg h0 h1
 go_enter Try.func66, Try.ntmps66
 go_wp2_with fail
 refine (kwithin_any w z HZ.out.1 HZ.out.2).mono ?_
 rintro _ W1 ⟨rfl, B1'⟩
 have B1 := Aside0.mk B1'
 clear B1'
 go_wp2_with fail
 refine (khas_any W1 A n c l (Kd.C_below HC.out B1.out) hn HG.out).mono ?_
 rintro _ W2 ⟨rfl, B2⟩
 have BB := Aside0.mk (B1.out.trans (B2.mono B1.out.size))
 clear B2
 go_wp2_with fail
 go_ret
 exact ⟨rfl, BB.out⟩
end Go.Proofs.Ytelabmhhnpfegaa.Hand
end
section
namespace Go.Proofs.Ytelabmhhnpfegaa.Hand
open Go.RowKit Go.Proofs.YtelabmhhnpfegaaW.PrintWords Go.Proofs.YtelabmhhnpfegaaW.PrintLast Go.Proofs.YtelabmhhnpfegaaW.PrintMore Go.Proofs.Ytelabmhhnpfegaa.PDynCells
theorem class_any (w : World) (a b : Int) (z : Int) (hz : z = if b = 0 then 0 else 1) : Calls Try.prog 139 #[.agg #[.int .i64 a, .int .i64 b]] w fun e w' => e = .returned (.int .i64 z) ∧ Below w.heap.size w w' := by
 have hu101 := Try.underlying101
 by_cases hb : b = 0
 ·rw [if_pos hb] at hz
  subst hz hb
  go_enter Try.func139, Try.ntmps139
  go_upto_region 1 with fail
  obtain ⟨W1, hW1⟩ : ∃ W, W = w.alloc (.cells #[.int .i64 a, .int .i64 0] 101) := ⟨_, rfl⟩
  rw [← hW1]
  obtain ⟨p1, hp1⟩ : ∃ p, p = w.heap.size := ⟨_, rfl⟩
  have B1 : Aside0 (Below w.heap.size w W1) := ⟨by rw [hW1]; exact below_alloc (Below.refl _ _) _⟩
  have e1 : W1.cell? ⟨p1, 1, none⟩ = some (.int .i64 0) := (blk_cell (by rw [hW1, hp1]; exact heap_alloc_new _ _) 1).trans rfl
  rw [← hp1]
  clear hW1 hp1
  go_wp2_with fail
  go_ret
  exact ⟨rfl, B1.out⟩
 ·rw [if_neg hb] at hz
  subst hz
  have hb' : (b == 0) = false := by simpa using hb
  go_enter Try.func139, Try.ntmps139
  go_upto_region 1 with fail
  obtain ⟨W1, hW1⟩ : ∃ W, W = w.alloc (.cells #[.int .i64 a, .int .i64 b] 101) := ⟨_, rfl⟩
  rw [← hW1]
  obtain ⟨p1, hp1⟩ : ∃ p, p = w.heap.size := ⟨_, rfl⟩
  have B1 : Aside0 (Below w.heap.size w W1) := ⟨by rw [hW1]; exact below_alloc (Below.refl _ _) _⟩
  have e1 : W1.cell? ⟨p1, 1, none⟩ = some (.int .i64 b) := (blk_cell (by rw [hW1, hp1]; exact heap_alloc_new _ _) 1).trans rfl
  rw [← hp1]
  clear hW1 hp1
  go_wp2_with fail
  go_ret
  exact ⟨rfl, B1.out⟩
theorem nanI_any (w : World) (a : Int) : Calls Try.prog 155 #[.int .i64 a] w fun e w' => e = .returned (.bool false) ∧ w = w' := by
 have g : (a != a) = false := by simp
 go_enter Try.func155, Try.ntmps155
 go_wp2_with fail
 go_ret
 exact ⟨rfl, rfl⟩
def cmpP (a b : Int) : Int := if a < b then -1 else if b < a then 1 else 0
theorem compare_any (w : World) (a b z : Int) (hz : z = cmpP a b) : Calls Try.prog 140 #[.int .i64 a, .int .i64 b] w fun e w' => e = .returned (.int .i64 z) ∧ w = w' := by
 unfold cmpP at hz
 by_cases h1 : a < b
 ·rw [if_pos h1] at hz
  subst hz
  go_enter Try.func140, Try.ntmps140
  go_wp2_with fail
  refine (nanI_any w a).mono ?_
  rintro _ _ ⟨rfl, rfl⟩
  go_wp2_with fail
  refine (nanI_any w b).mono ?_
  rintro _ _ ⟨rfl, rfl⟩
  go_wp2_with fail
  go_ret
  exact ⟨rfl, rfl⟩
 ·rw [if_neg h1] at hz
  by_cases h2 : b < a
  ·rw [if_pos h2] at hz
   subst hz
   go_enter Try.func140, Try.ntmps140
   go_wp2_with fail
   refine (nanI_any w a).mono ?_
   rintro _ _ ⟨rfl, rfl⟩
   go_wp2_with fail
   refine (nanI_any w b).mono ?_
   rintro _ _ ⟨rfl, rfl⟩
   go_wp2_with fail
   go_ret
   exact ⟨rfl, rfl⟩
  ·rw [if_neg h2] at hz
   subst hz
   go_enter Try.func140, Try.ntmps140
   go_wp2_with fail
   refine (nanI_any w a).mono ?_
   rintro _ _ ⟨rfl, rfl⟩
   go_wp2_with fail
   refine (nanI_any w b).mono ?_
   rintro _ _ ⟨rfl, rfl⟩
   go_wp2_with fail
   go_ret
   exact ⟨rfl, rfl⟩
end Go.Proofs.Ytelabmhhnpfegaa.Hand
end
section
namespace Go.Proofs.Ytelabmhhnpfegaa.Hand
open Go.RowKit Go.Proofs.YtelabmhhnpfegaaW.PrintWords Go.Proofs.YtelabmhhnpfegaaW.PrintLast Go.Proofs.YtelabmhhnpfegaaW.PrintMore Go.Proofs.Ytelabmhhnpfegaa.PDynCells
theorem bits_and32 (x : Int) (h0 : 0 ≤ x) (h : x < 4294967296) : Go.bits .and .u64 x 4294967295 = x := by
 have := bits_mask .u64 64 (by decide) wraps_u64 32 (by decide) x h0 (by omega)
 rw [show (4294967295 : Int) = 2 ^ 32 - 1 from rfl, this]
 omega
set_option maxHeartbeats 1000000 in
theorem mul64_any (x y : Int) (hx : 0 ≤ x) (hx1 : x ≤ 2147483648) (hy : 0 ≤ y) (hy1 : y ≤ 2147483648) (w : World) :
  Calls Try.prog 165 #[.int .u64 x, .int .u64 y] w fun e w' => e = .returned (.tuple #[.int .u64 0, .int .u64 (x * y)]) ∧ w = w' := by
 have b1 := bits_and32 x hx (by omega)
 have b2 := bits_and32 y hy (by omega)
 have d1 : x / 4294967296 = 0 := by omega
 have d2 : y / 4294967296 = 0 := by omega
 have m0 : 0 ≤ x * y := Int.mul_nonneg hx hy
 have m1 : x * y ≤ 2147483648 * 2147483648 := Int.mul_le_mul hx1 hy1 hy (by decide)
 obtain ⟨p, hp⟩ : ∃ p, x * y = p := ⟨_, rfl⟩
 rw [hp] at m0 m1
 have m2 : p ≤ 4611686018427387904 := m1
 have u1 : IntKind.u64.wrap p = p := u64_wrap_id p m0 (by omega)
 obtain ⟨q, hq⟩ : ∃ q, p / 4294967296 = q := ⟨_, rfl⟩
 have q0 : 0 ≤ q := by omega
 have q1 : q < 4294967296 := by omega
 have b3 := bits_and32 q q0 q1
 have d3 : q / 4294967296 = 0 := by omega
 have u2 : IntKind.u64.wrap q = q := u64_wrap_id q q0 (by omega)
 have HP := Aside0.mk hp
 rw [hp]
 clear m1 m2 q0 q1 m0
 go_enter Try.func165, Try.ntmps165
 go_wp2_with fail
 go_ret2
 exact ⟨rfl, rfl⟩
set_option maxHeartbeats 1000000 in
theorem times_any (a b p : Int) (hp : p = a * b) (ha : 0 ≤ a) (ha1 : a ≤ 2147483648) (hb : 0 ≤ b) (hb1 : b ≤ 2147483648) (w : World) :
  Calls Try.prog 156 #[.int .i64 a, .int .i64 b] w fun e w' => e = .returned (.agg #[.bool false, .int .u64 0, .int .u64 p]) ∧ Below w.heap.size w w' := by
 have hu := Try.underlying179
 have S1 := Aside0.mk (size_any a ⟨by omega, by omega⟩)
 have S2 := Aside0.mk (size_any b ⟨by omega, by omega⟩)
 have M := Aside0.mk (mul64_any a b ha ha1 hb hb1)
 rw [ab_pos (show ¬ a < 0 by omega)] at S1
 rw [ab_pos (show ¬ b < 0 by omega)] at S2
 rw [← hp] at M
 have g1 : decide (a < 0) = false := decide_eq_false (by omega)
 have g2 : decide (b < 0) = false := decide_eq_false (by omega)
 clear ha ha1 hb hb1 hp
 go_enter Try.func156, Try.ntmps156
 go_wp2_with fail
 refine (S1.out _).mono ?_
 rintro _ _ ⟨rfl, rfl⟩
 go_wp2_with fail
 refine (S2.out _).mono ?_
 rintro _ _ ⟨rfl, rfl⟩
 go_wp2_with fail
 refine (M.out _).mono ?_
 rintro _ _ ⟨rfl, rfl⟩
 go_wp2_with fail
 refine bodyPost_ret (v := .agg #[.bool false, .int .u64 0, .int .u64 p]) (by simp [results, Try.results156, go_sem]) rfl ?_
 exact ⟨rfl, below_alloc (Below.refl _ _) _⟩
set_option maxHeartbeats 1000000 in
theorem cross_any (a b c d p q : Int) (hp : p = a * d) (hq : q = c * b) (ha : 0 ≤ a) (ha1 : a ≤ 2147483648) (hb : 0 ≤ b) (hb1 : b ≤ 2147483648) (hc : 0 ≤ c) (hc1 : c ≤ 2147483648) (hd : 0 ≤ d) (hd1 : d ≤ 2147483648) (w : World) :
  Calls Try.prog 141 #[.int .i64 a, .int .i64 b, .int .i64 c, .int .i64 d] w fun e w' => e = .returned (.int .i64 (cmpU p q)) ∧ Below w.heap.size w w' := by
 have hu := Try.underlying179
 have T1 := Aside0.mk (times_any a d p hp ha ha1 hd hd1)
 have T2 := Aside0.mk (times_any c b q hq hc hc1 hb hb1)
 clear ha ha1 hb hb1 hc hc1 hd hd1 hp hq
 go_enter Try.func141, Try.ntmps141
 go_wp2_with fail
 refine (T1.out _).mono ?_
 rintro _ W1 ⟨rfl, B1'⟩
 have B1 := Aside0.mk B1'
 clear B1'
 go_wp2_with fail
 refine (T2.out _).mono ?_
 rintro _ W2 ⟨rfl, B2'⟩
 have B2 := Aside0.mk (B1.out.trans (B2'.mono B1.out.size))
 clear B2' B1
 go_wp2_with fail
 refine (dist_any false false p q _).mono ?_
 rintro _ W3 ⟨rfl, B3'⟩
 have B3 := Aside0.mk (B2.out.trans ((below_alloc (below_alloc (Below.refl _ _) _) _).trans (B3'.mono (by simp; omega)) |>.mono B2.out.size))
 clear B3'
 go_wp2_with fail
 go_ret
 exact ⟨rfl, B3.out⟩
end Go.Proofs.Ytelabmhhnpfegaa.Hand
end
