/- light: walked. -/
import Derived.Test.YtelabmhhnpfegaaDf
namespace Go.Proofs.Ytelabmhhnpfegaa.Hand
open Go.RowKit Go.Proofs.YtelabmhhnpfegaaW.PrintWords Go.Proofs.YtelabmhhnpfegaaW.PrintLast Go.Proofs.YtelabmhhnpfegaaW.PrintMore Go.Proofs.Ytelabmhhnpfegaa.PDynCells
attribute [local go_sem] max2_int min2_int
theorem fin_R2 {α : Type} {d : Kd α} {e base base' q : Nat} {wr : World} {v : Value} {xs : List α} {cs : Array Value} (h : d.R e wr base (fun _ => True) v xs) (hb : base' ≤ base) (h2 : wr.heap[q]? = some (.cells cs 47 (0, 0))) (ht : 47 ∉ e :: d.E) (v0 v1 v2 v3 v4 v5 : Value) :
    d.R e ((((((wr.setCell ⟨q, 0, none⟩ v0).setCell ⟨q, 1, none⟩ v1).setCell ⟨q, 2, none⟩ v2).setCell ⟨q, 3, none⟩ v3).setCell ⟨q, 4, none⟩ v4).setCell ⟨q, 5, none⟩ v5) base' (fun _ => True) v xs :=
  fin_R (N := wr.heap.size) (Kd.R_mono (Kd.R_bound h) (fun _ hk => hk.2.2.1)) hb h2 ht v0 v1 v2 v3 v4 v5
/-- What light makes sure of. -/
structure LightP (most : Nat) (k : Int) (x : PI) : Prop where
  t : TameP most k x
  l : ∀ s ∈ x.items, s.f1 < 40
set_option maxHeartbeats 4000000 in
set_option maxRecDepth 100000 in
theorem light_any (w : World) (x : PI) (v : Value) (most : Nat) (h : InstC w x v) (hx : PIok x) (hm : 1 ≤ most) (hm2 : most ≤ 64) : Calls Try.prog 20 #[v, .int .i64 most] w fun e w' => ∃ va, e = .returned va ∧ Aside0 (∃ x', InstO w.heap.size w' x' va ∧ LightP most x.kind x' ∧ Below w.heap.size w w') := by
  obtain ⟨AA, ca, AB, cb, AC, cc, rfl, h2, l2, h3, l3, h5, l5⟩ := id h
  have HI := Aside0.mk h
  clear h h2 h3 h5
  have hu44 := Try.underlying44
  have hu47 := Try.underlying47
  have hu68 := Try.underlying68
  go_enter Try.func20, Try.ntmps20
  go_wp2_with fail
  clear l2 l3 l5
  obtain ⟨W2, hW2⟩ : ∃ W, W = (w.alloc (.cells #[.int .i64 x.kind, .int .i64 x.cap, .slice AA x.items.length ca, .slice AB x.cost.length cb, .int .i64 x.size, .slice AC x.sets.length cc] 47)).alloc (.cells #[.int .i64 0, .int .i64 0, .slice none 0 0, .slice none 0 0, .int .i64 0, .slice none 0 0] 47) := ⟨_, rfl⟩
  rw [← hW2]
  have B2 : Aside0 (Below w.heap.size w W2) := ⟨by rw [hW2]; exact below_alloc (below_alloc (Below.refl _ _) _) _⟩
  have Z2 : Aside0 (W2.heap.size = w.heap.size + 2) := ⟨by rw [hW2]; simp only [al_size]⟩
  have Q2 : Aside0 (W2.heap[w.heap.size + 1]? = some (.cells #[.int .i64 0, .int .i64 0, .slice none 0 0, .slice none 0 0, .int .i64 0, .slice none 0 0] 47 (0, 0))) := ⟨by rw [hW2]; simp only [al_get, al_size]; repeat (first | rw [if_pos trivial] | rw [if_neg (by omega)])⟩
  clear hW2
  refine (tame_any W2 x _ most (InstC.below HI.out B2.out) hx hm hm2).mono ?_
  rintro _ w1 ⟨va, rfl, ⟨x1, O1, T1, B1⟩⟩
  obtain ⟨A2, n2, c2, A3, n3, c3, A5, n5, c5, rfl, o2, o3, o5⟩ := O1
  have TT := Aside0.mk T1
  have hn2 : x1.items.length = n2 := (R_C o2).2.1
  have hnc : n2 ≤ c2 := (R_C o2).2.2
  have h64 : n2 ≤ 64 := by
    have := T1.items.1
    omega
  have BB := Aside0.mk B1
  have O2 := Aside0.mk o2
  have O3 := Aside0.mk o3
  have O5 := Aside0.mk o5
  have HN := Aside0.mk hn2
  clear T1 o2 o3 o5 B1 hn2
  obtain ⟨k1, hk1⟩ : ∃ z, z = x1.kind := ⟨_, rfl⟩
  obtain ⟨cp1, hcp1⟩ : ∃ z, z = x1.cap := ⟨_, rfl⟩
  obtain ⟨sz1, hsz1⟩ : ∃ z, z = x1.size := ⟨_, rfl⟩
  rw [← hk1, ← hcp1, ← hsz1]
  have HX := Aside0.mk (And.intro hk1 (And.intro hcp1 hsz1))
  clear hk1 hcp1 hsz1
  go_wp2_with fail
  obtain ⟨W5, hW5⟩ : ∃ W, W = w1.alloc (.cells #[.int .i64 k1, .int .i64 cp1, .slice A2 n2 c2, .slice A3 n3 c3, .int .i64 sz1, .slice A5 n5 c5] 47) := ⟨_, rfl⟩
  rw [← hW5]
  have B5 : Aside0 (Below w1.heap.size w1 W5) := ⟨by rw [hW5]; exact below_alloc (Below.refl _ _) _⟩
  have Q5 : Aside0 (W5.heap[w1.heap.size]? = some (.cells #[.int .i64 k1, .int .i64 cp1, .slice A2 n2 c2, .slice A3 n3 c3, .int .i64 sz1, .slice A5 n5 c5] 47 (0, 0))) := ⟨by rw [hW5]; exact heap_alloc_new _ _⟩
  clear hW5
  obtain ⟨p5, hp5⟩ : ∃ p, p = w1.heap.size := ⟨_, rfl⟩
  rw [← hp5] at Q5 ⊢
  have HP := Aside0.mk hp5
  clear hp5
  obtain ⟨p1, hp1⟩ : ∃ p, p = w.heap.size := ⟨_, rfl⟩
  rw [← hp1] at Q2 ⊢
  have HP1 := Aside0.mk hp1
  clear hp1
  have K0 : Aside0 (∃ its : List S101, k101.R 68 W5 W2.heap.size (fun _ => True) (.slice A2 n2 c2) its ∧ its.length = n2 ∧ (∀ s ∈ its, (0 ≤ s.f0 ∧ s.f0 ≤ 2147483648) ∧ 0 ≤ s.f1 ∧ s.f1 ≤ 2147483648) ∧ (∀ s ∈ its.take 0, s.f1 < 40) ∧ Chg (fun k => some k = (Value.slice A2 n2 c2).ownBlock) W5 W5) := ⟨x1.items, Kd.R_below O2.out B5.out, HN.out, TT.out.items.2, by simp, Chg.refl _ _⟩
  go_loopw [13] (fun v wr => ∃ i : Nat, i ≤ n2 ∧ v = .int .i64 i ∧ Aside0 (∃ its : List S101, k101.R 68 wr W2.heap.size (fun _ => True) (.slice A2 n2 c2) its ∧ its.length = n2 ∧ (∀ s ∈ its, (0 ≤ s.f0 ∧ s.f0 ≤ 2147483648) ∧ 0 ≤ s.f1 ∧ s.f1 ≤ 2147483648) ∧ (∀ s ∈ its.take i, s.f1 < 40) ∧ Chg (fun k => some k = (Value.slice A2 n2 c2).ownBlock) W5 wr)) (fun v _ => n2 - (intOf v).toNat)
  case atStart => exact ⟨0, Nat.zero_le _, rfl, K0⟩
  case round =>
    clear K0
    obtain ⟨i, hi, rfl, ⟨its, r1, r2, r3, r4, r5⟩⟩ := hrel
    have KK := Aside0.mk (And.intro r1 (And.intro r2 (And.intro r3 (And.intro r4 r5))))
    clear r1 r2 r3 r4 r5
    by_cases hlt : i < n2
    · obtain ⟨g, e, hg1, hg2⟩ : ∃ g, A2 = some ⟨g, 0, none⟩ ∧ W2.heap.size ≤ g ∧ g < wr.heap.size ∧ ∃ cells, wr.heap[g]? = some (.cells cells 68 (0, 0)) := by
        obtain ⟨g, cap, e, h1, h2, h3⟩ := Kd.R_form KK.out.1 (by rw [KK.out.2.1]; omega)
        injection e with e _ _
        exact ⟨g, e, h1, h2, h3⟩
      subst e
      obtain ⟨s, hs⟩ : ∃ s, s = rd_T101 its (i : Int) := ⟨_, rfl⟩
      have hC := (R_C KK.out.1).1
      obtain ⟨ad, e, a0, a1⟩ := at_T101 hC (i : Int) (by omega) (by omega)
      injection e with e
      subst e
      rw [Int.toNat_natCast, ← hs] at a0 a1
      have hadd : (⟨g, 0, none⟩ : Addr).add (i * 2) = ⟨g, i * 2, none⟩ := by unfold Addr.add; split <;> simp_all
      rw [hadd] at a0 a1
      obtain ⟨cells, hcells⟩ := hg2.2
      have GC := Aside0.mk hcells
      have G2 := Aside0.mk (And.intro hg1 hg2.1)
      have P5 : Aside0 (wr.heap[p5]? = some (.cells #[.int .i64 k1, .int .i64 cp1, .slice (some ⟨g, 0, none⟩) n2 c2, .slice A3 n3 c3, .int .i64 sz1, .slice A5 n5 c5] 47 (0, 0))) := ⟨KK.out.2.2.2.2.blk Q5.out (by
        intro e
        have e' : p5 = g := by simpa [Value.ownBlock] using e
        have h1 := O2.out
        have := Kd.R_lt h1 g (by simp [Value.ownBlock])
        have := HP.out
        omega)⟩
      have SI : Aside0 (s ∈ its) := ⟨by
        rw [hs]
        unfold rd_T101
        rw [Int.toNat_natCast, List.getD_eq_getElem?_getD, List.getElem?_eq_getElem (by rw [KK.out.2.1]; exact hlt)]
        exact List.getElem_mem _⟩
      have HS := Aside0.mk hs
      clear hs hC hcells hg1 hg2
      go_wp2_with fail
      have A0 := Aside0.mk a0
      clear a0
      have hZ : s.f1.tmod 40 = s.f1.tmod 40 := rfl
      obtain ⟨z, hz⟩ : ∃ z, z = s.f1.tmod 40 := ⟨_, rfl⟩
      have zb : Aside0 (0 ≤ z ∧ z < 40) := ⟨by
        have h0 := (KK.out.2.2.1 s SI.out).2.1
        have h1 := Int.tmod_nonneg 40 h0
        have h2 := Int.tmod_lt_of_pos s.f1 (b := 40) (by omega)
        omega⟩
      have ez := hz.symm
      clear hZ hz
      have A1 := Aside0.mk a1
      have q0 : wr.drew.cell? ⟨p5, 2, none⟩ = some (.slice (some ⟨g, 0, none⟩) n2 c2) := (blk_cell P5.out 2).trans rfl
      have q1 : wr.drew.cell? ⟨g, i * 2 + 1, none⟩ = some (.int .i64 s.f1) := a1
      refine start_ (n := 10) (S := fun w' => w'.cell? ⟨p5, 2, none⟩ = some (.slice (some ⟨g, 0, none⟩) n2 c2) ∧ w'.cell? ⟨g, i * 2 + 1, none⟩ = some (.int .i64 s.f1)) (ds := [9]) #[false, false, false, false, false, false, false, false, false, false] (by kernel_rfl) rfl rfl ⟨q0, q1⟩ (fun hHeld => ?_)
      clear q0 q1
      refine pure_ (i := 0) (N := some 16) (v := ?_) (a' := ?_) #[true, false, false, false, false, false, false, false, false, false] rfl rfl (by kernel_rfl) (fun _ _ _ h => h) (Or.inl ⟨by rfl, ?_⟩) ?_ ?_
      rotate_left
      · intro w'
        go_simp
        with_reducible rfl
      rotate_left
      · simp only [Act.put, List.setIfInBounds_toArray, List.set_cons_zero, List.set_cons_succ]
        rfl
      refine take_ (i := 1) (N := some 17) (v := ?_) (a' := ?_) #[true, true, false, false, false, false, false, false, false, false] rfl rfl (by kernel_rfl) (fun _ _ _ h => h) (Or.inl ⟨by rfl, ?_⟩) hHeld ?_ ?_
      rotate_left
      · rintro w' ⟨s0, s1⟩
        go_simp
        with_reducible rfl
      rotate_left
      · simp only [Act.put, List.setIfInBounds_toArray, List.set_cons_zero, List.set_cons_succ]
        rfl
      refine pure_ (i := 2) (N := some 18) (v := ?_) (a' := ?_) #[true, true, true, false, false, false, false, false, false, false] rfl rfl (by kernel_rfl) (fun _ _ _ h => h) (Or.inl ⟨by rfl, ?_⟩) ?_ ?_
      rotate_left
      · intro w'
        go_simp
        with_reducible rfl
      rotate_left
      · simp only [Act.put, List.setIfInBounds_toArray, List.set_cons_zero, List.set_cons_succ]
        rfl
      refine pure_ (i := 3) (N := some 19) (v := ?_) (a' := ?_) #[true, true, true, true, false, false, false, false, false, false] rfl rfl (by kernel_rfl) (fun _ _ _ h => h) (Or.inl ⟨by rfl, ?_⟩) ?_ ?_
      rotate_left
      · intro w'
        go_simp
        with_reducible rfl
      rotate_left
      · simp only [Act.put, List.setIfInBounds_toArray, List.set_cons_zero, List.set_cons_succ]
        rfl
      refine pure_ (i := 4) (N := some 20) (v := ?_) (a' := ?_) #[true, true, true, true, true, false, false, false, false, false] rfl rfl (by kernel_rfl) (fun _ _ _ h => h) (Or.inl ⟨by rfl, ?_⟩) ?_ ?_
      rotate_left
      · intro w'
        go_simp
        with_reducible rfl
      rotate_left
      · simp only [Act.put, List.setIfInBounds_toArray, List.set_cons_zero, List.set_cons_succ]
        rfl
      refine take_ (i := 5) (N := some 21) (v := ?_) (a' := ?_) #[true, true, true, true, true, true, false, false, false, false] rfl rfl (by kernel_rfl) (fun _ _ _ h => h) (Or.inl ⟨by rfl, ?_⟩) hHeld ?_ ?_
      rotate_left
      · rintro w' ⟨s0, s1⟩
        go_simp
        with_reducible rfl
      rotate_left
      · simp only [Act.put, List.setIfInBounds_toArray, List.set_cons_zero, List.set_cons_succ]
        rfl
      refine pure_ (i := 6) (N := some 22) (v := ?_) (a' := ?_) #[true, true, true, true, true, true, true, false, false, false] rfl rfl (by kernel_rfl) (fun _ _ _ h => h) (Or.inl ⟨by rfl, ?_⟩) ?_ ?_
      rotate_left
      · intro w'
        go_simp
        with_reducible rfl
      rotate_left
      · simp only [Act.put, List.setIfInBounds_toArray, List.set_cons_zero, List.set_cons_succ]
        rfl
      refine pure_ (i := 7) (N := some 23) (v := ?_) (a' := ?_) #[true, true, true, true, true, true, true, true, false, false] rfl rfl (by kernel_rfl) (fun _ _ _ h => h) (Or.inl ⟨by rfl, ?_⟩) ?_ ?_
      rotate_left
      · intro w'
        go_simp
        with_reducible rfl
      rotate_left
      · simp only [Act.put, List.setIfInBounds_toArray, List.set_cons_zero, List.set_cons_succ]
        rfl
      refine pure_ (i := 8) (N := some 24) (v := ?_) (a' := ?_) #[true, true, true, true, true, true, true, true, true, false] rfl rfl (by kernel_rfl) (fun _ _ _ h => h) (Or.inl ⟨by rfl, ?_⟩) ?_ ?_
      rotate_left
      · intro w'
        go_simp
        with_reducible rfl
      rotate_left
      · simp only [Act.put, List.setIfInBounds_toArray, List.set_cons_zero, List.set_cons_succ]
        rfl
      refine last_ (i := 9) (N := none) #[true, true, true, true, true, true, true, true, true, true] rfl rfl (by kernel_rfl) (by decide) (fun K hK => ?_)
      have h0 := a1
      have h1 := blk_frozen GC.out (i * 2 + 1)
      refine skip_ (w1 := ?_) (by rfl) rfl ?_ ?_
      rotate_left
      · go_simp
        rfl
      refine hK.out _ _ ?_
      clear hK K h0 h1
      refine done_ (by kernel_rfl) ?_
      clear hHeld ez a1
      have hsg := (Kd.R_seg (okp := fun _ => False) (x' := (⟨s.f0, z⟩ : S101)) (seg := [.int .i64 z]) (c := [.int .i64 s.f0, .int .i64 s.f1]) (j := 1) (Kd.R_drew KK.out.1) (i : Int) (by omega) (by omega) rfl (fun j u hu => by
        show wr.drew.cell? ⟨g, (i : Int).toNat * 2 + j, none⟩ = some u
        rw [Int.toNat_natCast]
        match j, hu with
        | 0, hu => exact A0.out.trans hu
        | 1, hu => exact A1.out.trans hu) (by show 1 + 1 ≤ 2; omega) (k101_mkM _ _ _ ⟨s.f0, z⟩) (fun _ h => h.elim)).1
      have hsg' : k101.R 68 (wr.drew.setCell ⟨g, i * 2 + 1, none⟩ (.int .i64 z)) W2.heap.size (fun _ => True) (.slice (some ⟨g, 0, none⟩) n2 c2) (its.set i ⟨s.f0, z⟩) := by
        have e : (i : Int).toNat * k101.sz + 1 = i * 2 + 1 := by
          show (i : Int).toNat * 2 + 1 = i * 2 + 1
          rw [Int.toNat_natCast]
        rw [e, Int.toNat_natCast] at hsg
        exact hsg
      have N9 : Aside0 (∃ its : List S101, k101.R 68 (wr.drew.setCell ⟨g, i * 2 + 1, none⟩ (.int .i64 z)) W2.heap.size (fun _ => True) (.slice (some ⟨g, 0, none⟩) n2 c2) its ∧ its.length = n2 ∧ (∀ s ∈ its, (0 ≤ s.f0 ∧ s.f0 ≤ 2147483648) ∧ 0 ≤ s.f1 ∧ s.f1 ≤ 2147483648) ∧ (∀ s ∈ its.take (i + 1), s.f1 < 40) ∧ Chg (fun k => some k = (Value.slice (some ⟨g, 0, none⟩) n2 c2).ownBlock) W5 (wr.drew.setCell ⟨g, i * 2 + 1, none⟩ (.int .i64 z))) := ⟨its.set i ⟨s.f0, z⟩, hsg', by rw [List.length_set]; exact KK.out.2.1, fun t ht => by
        rcases List.mem_or_eq_of_mem_set ht with ht | ht
        · exact KK.out.2.2.1 t ht
        · have h1 := KK.out.2.2.1 s SI.out
          have h2 := zb.out
          rw [ht]
          exact ⟨h1.1, h2.1, by show z ≤ 2147483648; omega⟩, (fun t ht => by
        obtain ⟨k, hk⟩ := List.mem_iff_getElem?.1 ht
        rw [List.getElem?_take] at hk
        split at hk
        · rename_i hlk
          rw [List.getElem?_set] at hk
          by_cases hik : i = k
          · rw [if_pos hik] at hk
            split at hk
            · injection hk with hk
              rw [← hk]
              exact zb.out.2
            · cases hk
          · rw [if_neg hik] at hk
            exact KK.out.2.2.2.1 t (List.mem_iff_getElem?.2 ⟨k, by rw [List.getElem?_take, if_pos (by omega)]; exact hk⟩)
        · cases hk), KK.out.2.2.2.2.drew.setCell (p := ⟨g, i * 2 + 1, none⟩) (.inl rfl) _⟩
      clear hsg hsg'
      go_wp2_with fail
      go_roundw
      case measure => simp [intOf]; omega
      case rel => exact ⟨i + 1, by omega, by go_num, N9⟩
    · obtain rfl : n2 = i := by omega
      clear hlt hi
      have hne5 : some p5 ≠ (Value.slice A2 n2 c2).ownBlock := fun e => by
        have := Kd.R_lt O2.out p5 e.symm
        have := HP.out
        omega
      have hne1 : some (p1 + 1) ≠ (Value.slice A2 n2 c2).ownBlock := fun e => by
        have := Kd.R_base O2.out (p1 + 1) e.symm
        have := HP1.out
        have := Z2.out
        omega
      have E6 : Aside0 (wr.heap[p5]? = some (.cells #[.int .i64 k1, .int .i64 cp1, .slice A2 n2 c2, .slice A3 n3 c3, .int .i64 sz1, .slice A5 n5 c5] 47 (0, 0))) := ⟨KK.out.2.2.2.2.blk Q5.out hne5⟩
      have E2 : Aside0 (wr.heap[p1 + 1]? = some (.cells #[.int .i64 0, .int .i64 0, .slice none 0 0, .slice none 0 0, .int .i64 0, .slice none 0 0] 47 (0, 0))) := ⟨KK.out.2.2.2.2.blk (blk_below (blk_below Q2.out BB.out) B5.out) hne1⟩
      clear hne5 hne1
      have r0 : wr.cell? ⟨p5, 0, none⟩ = some (.int .i64 k1) := (blk_cell E6.out 0).trans rfl
      have r1 : wr.cell? ⟨p5, 1, none⟩ = some (.int .i64 cp1) := (blk_cell E6.out 1).trans rfl
      have r2 : wr.cell? ⟨p5, 2, none⟩ = some (.slice A2 n2 c2) := (blk_cell E6.out 2).trans rfl
      have r3 : wr.cell? ⟨p5, 3, none⟩ = some (.slice A3 n3 c3) := (blk_cell E6.out 3).trans rfl
      have r4 : wr.cell? ⟨p5, 4, none⟩ = some (.int .i64 sz1) := (blk_cell E6.out 4).trans rfl
      have r5 : wr.cell? ⟨p5, 5, none⟩ = some (.slice A5 n5 c5) := (blk_cell E6.out 5).trans rfl
      have h0 : wr.cell? ⟨p1 + 1, 0, none⟩ = some (.int .i64 0) := (blk_cell E2.out 0).trans rfl
      have h1 : wr.cell? ⟨p1 + 1, 1, none⟩ = some (.int .i64 0) := (blk_cell E2.out 1).trans rfl
      have h2 : wr.cell? ⟨p1 + 1, 2, none⟩ = some (.slice none 0 0) := (blk_cell E2.out 2).trans rfl
      have h3 : wr.cell? ⟨p1 + 1, 3, none⟩ = some (.slice none 0 0) := (blk_cell E2.out 3).trans rfl
      have h4 : wr.cell? ⟨p1 + 1, 4, none⟩ = some (.int .i64 0) := (blk_cell E2.out 4).trans rfl
      have h5 : wr.cell? ⟨p1 + 1, 5, none⟩ = some (.slice none 0 0) := (blk_cell E2.out 5).trans rfl
      have hz : ∀ j, wr.frozen? ⟨p1 + 1, j, none⟩ = false := blk_frozen E2.out
      go_upto_region 7 with fail
      go_wp2_with fail
      clear r0 r1 r2 r3 r4 r5 h0 h1 h2 h3 h4 h5 hz
      obtain ⟨Wz, hWz⟩ : ∃ W, W = ((((((wr).setCell ⟨p1 + 1, 0, none⟩ (.int .i64 k1)).setCell ⟨p1 + 1, 1, none⟩ (.int .i64 cp1)).setCell ⟨p1 + 1, 2, none⟩ (.slice A2 n2 c2)).setCell ⟨p1 + 1, 3, none⟩ (.slice A3 n3 c3)).setCell ⟨p1 + 1, 4, none⟩ (.int .i64 sz1)).setCell ⟨p1 + 1, 5, none⟩ (.slice A5 n5 c5) := ⟨_, rfl⟩
      rw [← hWz]
      have HWz := Aside0.mk hWz
      clear hWz
      have EZ : Aside0 (Wz.heap[p1 + 1]? = some (.cells #[.int .i64 k1, .int .i64 cp1, .slice A2 n2 c2, .slice A3 n3 c3, .int .i64 sz1, .slice A5 n5 c5] 47 (0, 0))) := ⟨by rw [HWz.out]; exact put6 E2.out (.int .i64 k1) (.int .i64 cp1) (.slice A2 n2 c2) (.slice A3 n3 c3) (.int .i64 sz1) (.slice A5 n5 c5)⟩
      have r0 : Wz.cell? ⟨p1 + 1, 0, none⟩ = some (.int .i64 k1) := (blk_cell EZ.out 0).trans rfl
      have r1 : Wz.cell? ⟨p1 + 1, 1, none⟩ = some (.int .i64 cp1) := (blk_cell EZ.out 1).trans rfl
      have r2 : Wz.cell? ⟨p1 + 1, 2, none⟩ = some (.slice A2 n2 c2) := (blk_cell EZ.out 2).trans rfl
      have r3 : Wz.cell? ⟨p1 + 1, 3, none⟩ = some (.slice A3 n3 c3) := (blk_cell EZ.out 3).trans rfl
      have r4 : Wz.cell? ⟨p1 + 1, 4, none⟩ = some (.int .i64 sz1) := (blk_cell EZ.out 4).trans rfl
      have r5 : Wz.cell? ⟨p1 + 1, 5, none⟩ = some (.slice A5 n5 c5) := (blk_cell EZ.out 5).trans rfl
      refine bodyPost_ret (v := .agg #[.int .i64 k1, .int .i64 cp1, .slice A2 n2 c2, .slice A3 n3 c3, .int .i64 sz1, .slice A5 n5 c5]) (by simp [results, Try.results20, go_sem, r0, r1, r2, r3, r4, r5]) rfl ?_
      clear r0 r1 r2 r3 r4 r5
      rw [HWz.out]
      obtain ⟨hk1, hcp1, hsz1⟩ := HX.out
      have hll := KK.out.2.1
      have hT := TT.out
      refine ⟨_, rfl, ⟨(⟨k1, cp1, its, x1.cost, sz1, x1.sets⟩ : PI), ⟨_, _, _, _, _, _, _, _, _, rfl, fin_R2 KK.out.1 (by have := Z2.out; omega) E2.out (by decide) (.int .i64 k1) (.int .i64 cp1) (.slice A2 n2 c2) (.slice A3 n3 c3) (.int .i64 sz1) (.slice A5 n5 c5), fin_R2 (R_final (Kd.R_below O3.out B5.out) ?_) (by have := Z2.out; omega) E2.out (by decide) (.int .i64 k1) (.int .i64 cp1) (.slice A2 n2 c2) (.slice A3 n3 c3) (.int .i64 sz1) (.slice A5 n5 c5), fin_R2 (R_final (Kd.R_below O5.out B5.out) ?_) (by have := Z2.out; omega) E2.out (by decide) (.int .i64 k1) (.int .i64 cp1) (.slice A2 n2 c2) (.slice A3 n3 c3) (.int .i64 sz1) (.slice A5 n5 c5)⟩, ⟨?_, ?_⟩, ?_⟩⟩
      · intro k q cells hq hc
        exact KK.out.2.2.2.2.blk hc (fun e => by
          obtain ⟨cells', hc'⟩ := own_typed (Kd.R_own (Kd.R_below O2.out B5.out)).choose_spec k e.symm
          exact ty_ne hc hc' (fun e' => by rw [e'] at hq; revert hq; decide) rfl)
      · intro k q cells hq hc
        exact KK.out.2.2.2.2.blk hc (fun e => by
          obtain ⟨cells', hc'⟩ := own_typed (Kd.R_own (Kd.R_below O2.out B5.out)).choose_spec k e.symm
          exact ty_ne hc hc' (fun e' => by rw [e'] at hq; revert hq; decide) rfl)
      · subst hk1 hcp1 hsz1
        exact ⟨hT.kind, hT.cap, ⟨by show its.length ≤ most; rw [hll, ← HN.out]; exact hT.items.1, KK.out.2.2.1⟩, hT.size, hT.sets, hT.cost, hT.diag, hT.k0, fun h => by
          have h3 := hT.k3 h
          exact ⟨h3.1, List.eq_nil_of_length_eq_zero (by rw [hll, ← HN.out, h3.2.1]; rfl), h3.2.2⟩, fun h h' => by
          have h3 := hT.k1 h h'
          exact ⟨h3.1, List.eq_nil_of_length_eq_zero (by rw [hll, ← HN.out, h3.2.1]; rfl), h3.2.2⟩⟩
      · intro s hs
        exact KK.out.2.2.2.1 s (by rw [List.take_of_length_le (by rw [hll]; exact Nat.le_refl _)]; exact hs)
      · have hp : w.heap.size ≤ p1 + 1 := by have := HP1.out; omega
        refine fin_B ?_ hp (.int .i64 k1) (.int .i64 cp1) (.slice A2 n2 c2) (.slice A3 n3 c3) (.int .i64 sz1) (.slice A5 n5 c5)
        exact chg_below ((B2.out.trans (BB.out.mono B2.out.size)).trans (B5.out.mono (Nat.le_trans B2.out.size BB.out.size))) KK.out.2.2.2.2 (fun k hk => by
          have := Kd.R_base O2.out k hk.symm
          have := B2.out.size
          omega)
end Go.Proofs.Ytelabmhhnpfegaa.Hand
