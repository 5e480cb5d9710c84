/- The answer of signs, by the program: walked. -/
import Derived.RangeFuncBox
import Derived.Maps.AppendAt
import Derived.OwnWalkIn
import Derived.TacticsInMore
import Derived.Test.YtofomlpdklhigaaGreatDoorSf
import Derived.Test.YtofomlpdklhigaaGreatDoorSe
namespace Go.Proofs.YtofomlpdklhigaaGreatDoor.Hand
open Go.RowKit Go.Shelf Go.Proofs.YtofomlpdklhigaaGreatDoorW.PrintWords Go.Proofs.YtofomlpdklhigaaGreatDoorW.PrintLast Go.Proofs.YtofomlpdklhigaaGreatDoorW.PrintMore
set_option linter.unusedVariables false
set_option linter.unusedSimpArgs false
attribute [local go_sem] Oper.semAt_some
theorem spl_len : ∀ (l : List UInt8), ∀ w ∈ spl l, w.length ≤ l.length
  | [], w, h => by
    rw [spl, List.mem_singleton] at h
    rw [h]
    exact Nat.le_refl _
  | c :: r, w, h => by
    have ih := spl_len r
    unfold spl at h
    split at h
    · rcases List.mem_cons.1 h with h | h
      · rw [h]; exact Nat.zero_le _
      · exact Nat.le_trans (ih w h) (by simp)
    · split at h
      · rw [List.mem_singleton.1 h]
        simp
      · rename_i v vs hv
        rcases List.mem_cons.1 h with h | h
        · rw [h, List.length_cons, List.length_cons]
          have := ih v (by rw [hv]; exact List.mem_cons_self)
          omega
        · exact Nat.le_trans (ih w (by rw [hv]; exact List.mem_cons_of_mem _ h)) (by simp)
theorem spl_count : ∀ (l : List UInt8), (spl l).length ≤ l.length + 1
  | [] => by simp [spl]
  | c :: r => by
    have ih := spl_count r
    unfold spl
    split
    · rw [List.length_cons, List.length_cons]; omega
    · split
      · simp
      · rename_i v vs hv
        rw [hv] at ih
        rw [List.length_cons] at ih ⊢
        rw [List.length_cons]
        omega
theorem allW_snoc (f : List UInt8 → Option Int) : ∀ (ws : List (List UInt8)) (w : List UInt8), allW f (ws ++ [w]) = match allW f ws with
    | none => none
    | some ns => match f w with
      | none => none
      | some n => some (ns ++ [n])
  | [], w => by
    simp only [List.nil_append, allW]
    cases f w <;> rfl
  | a :: ws, w => by
    rw [List.cons_append, allW, allW, allW_snoc f ws w]
    cases f a with
    | none => rfl
    | some n =>
      cases allW f ws with
      | none => rfl
      | some ns =>
        cases f w <;> rfl
theorem allW_pre (f : List UInt8 → Option Int) (t : List (List UInt8)) : ∀ (ws : List (List UInt8)), allW f ws = none → allW f (ws ++ t) = none
  | [], h => by cases h
  | a :: ws, h => by
    rw [List.cons_append, allW]
    rw [allW] at h
    cases hf : f a with
    | none => rfl
    | some n =>
      rw [hf] at h
      simp only at h ⊢
      cases hw : allW f ws with
      | none => rw [allW_pre f t ws hw]
      | some ns => rw [hw] at h; cases h
theorem blk_set_ne {w : World} {g : Nat} {o : Obj} (h : w.heap[g]? = some o) {p : Addr} (hp : g ≠ p.block) (u : Value) : (w.setCell p u).heap[g]? = some o := (Below.heap_setCell _ _ _ _ hp).trans h
theorem keeps_below {W W' : World} (h : Below W.heap.size W W') : KeepsOthers W W' := ⟨h.size, fun k o hk _ => (h.block k (Array.getElem?_eq_some_iff.1 hk).1).trans hk⟩
/-- Between two rounds: what has come are numbers, in a row of one's own. -/
def PI1 (w : World) (base p2 p3 p4 : Nat) (pre : List (List UInt8)) (W : World) : Prop := ∃ (v : Value) (ns : List Int), allW atoO pre = some ns ∧ W.heap[p4]? = some (.cells #[v] 22 (0, 0)) ∧ W.ownsRow base 3 1 v ns.length (nums .i64 ns) ∧
  W.heap[p2]? = some (.cells #[.slice none 0 0] 22 (0, 0)) ∧ W.heap[p3]? = some (.cells #[.int .i64 0] 23 (0, 0)) ∧ Below w.heap.size w W
/-- A word was no number. -/
def PX1 (w : World) (p2 p3 : Nat) (pre : List (List UInt8)) (W : World) : Prop := allW atoO pre = none ∧ W.heap[p2]? = some (.cells #[.slice none 0 0] 22 (0, 0)) ∧ W.heap[p3]? = some (.cells #[.int .i64 4] 23 (0, 0)) ∧ Below w.heap.size w W
theorem res8 (tmps : Array Value) (W : World) (p2 p3 : Nat) (A : Option Addr) (n c : Nat) (z : Int) (h2 : tmps[2]?.getD undef = .pointer (some ⟨p2, 0, none⟩)) (h3 : tmps[3]?.getD undef = .pointer (some ⟨p3, 0, none⟩))
    (c2 : W.cell? ⟨p2, 0, none⟩ = some (.slice A n c)) (c3 : W.cell? ⟨p3, 0, none⟩ = some (.int .i64 z)) : (results Tryz.f8 tmps).run Tryz.prog W = .ok (.tuple #[.slice A n c, .int .i64 z]) W := by
  have hu22 := Tryz.underlying22
  have hu23 := Tryz.underlying23
  simp [results, Tryz.results8, go_sem, h2, h3, c2, c3]
theorem own_ge {w : World} {base n size : Nat} {e : TypeId} {v : Value} {xs : List Value} (h : w.ownsRow base e size v n xs) {k : Nat} (hk : v.ownBlock = some k) : base ≤ k := by
  rcases h.2 with ⟨rfl, _⟩ | ⟨g, cap, cur, rfl, hb, _⟩
  · cases hk
  · cases hk
    exact hb
set_option maxHeartbeats 2000000 in
set_option maxRecDepth 100000 in
theorem parse_any (w : World) (l : List UInt8) (hl : l.length ≤ 1048576) {B : Nat} (hLd : Ld B w) :
    Calls Tryz.prog 8 #[.string (sB l)] w fun e w' => ∃ A c, e = .returned (.tuple #[.slice A (proP l).1.length c, .int .i64 (proP l).2]) ∧ Aside0 ((Kd.int .i64).C w' A (proP l).1.length (proP l).1 ∧ Below w.heap.size w w') := by
  have HD := Aside0.mk hLd
  refine (callsIn_wide (n := 9)).1 (callsIn_of_wp_marks Tryz.func8 rfl trivial ?_ rfl)
  simp only [Tryz.ntmps8, List.size_toArray, List.length_cons, List.length_nil, Nat.reduceAdd, Nat.reduceSub, Array.replicate_succ, Array.replicate_zero, List.push_toArray, List.append_toArray, List.nil_append, List.cons_append]
  have hcmp : ((sB l).toList == [45]) = decide (l = [45]) := sB_eqL l [45]
  gi_upto_region 1 with fail
  obtain ⟨W1, hW1⟩ : ∃ W, W = (w.alloc (.cells #[.slice none 0 0] 22)).alloc (.cells #[.int .i64 0] 23) := ⟨_, rfl⟩
  rw [← hW1]
  obtain ⟨p3, hp3⟩ : ∃ b, b = w.heap.size + 1 := ⟨_, rfl⟩
  obtain ⟨p2, hp2⟩ : ∃ b, b = w.heap.size := ⟨_, rfl⟩
  have BX : Aside0 (W1.heap[p2]? = some (.cells #[.slice none 0 0] 22 (0, 0)) ∧ W1.heap[p3]? = some (.cells #[.int .i64 0] 23 (0, 0)) ∧ Below w.heap.size w W1 ∧ w.heap.size ≤ p2 ∧ p2 < p3 ∧ p3 < W1.heap.size) := ⟨by
    rw [hW1, hp2, hp3]
    refine ⟨?_, ?_, below_alloc (below_alloc (Below.refl _ _) _) _, Nat.le_refl _, Nat.lt_succ_self _, by simp⟩
    all_goals
      simp only [al_get, al_size]
      repeat (first | rw [if_pos trivial] | rw [if_neg (by omega)])⟩
  rw [← hp3, ← hp2]
  clear hW1 hp2 hp3
  have f22 : Fence.wide.fn 22 := trivial
  have f23 : Fence.wide.fn 23 := trivial
  have f11 : Fence.wide.fn 11 := trivial
  have f24 : Fence.wide.fn 24 := trivial
  by_cases h45 : l = [45]
  · have HP : Aside0 (proP l = ([], 0)) := ⟨by unfold proP; rw [if_pos h45]⟩
    have hcmp2 : decide (l = [45]) = true := by simpa using h45
    rw [hcmp2] at hcmp
    clear hcmp2 h45
    have c2 : W1.cell? ⟨p2, 0, none⟩ = some (.slice none 0 0) := (blk_cell BX.out.1 0).trans rfl
    have c3 : W1.cell? ⟨p3, 0, none⟩ = some (.int .i64 0) := (blk_cell BX.out.2.1 0).trans rfl
    have z2 : W1.frozen? ⟨p2, 0, none⟩ = false := blk_frozen BX.out.1 0
    have z3 : W1.frozen? ⟨p3, 0, none⟩ = false := blk_frozen BX.out.2.1 0
    have x3 : ∀ u : Value, (W1.setCell ⟨p2, 0, none⟩ u).cell? ⟨p3, 0, none⟩ = some (.int .i64 0) := fun u => (blk_cell (blk_set_ne BX.out.2.1 (by have := BX.out; show p3 ≠ p2; omega) u) 0).trans rfl
    gi_wp2
    refine ⟨_, res8 _ _ p2 p3 none 0 0 0 rfl rfl ?_ ?_, ?_⟩
    · exact (blk_cell (blk_set_ne (blk_put BX.out.1 0 _ rfl) (by have := BX.out; show p2 ≠ p3; omega) _) 0).trans rfl
    · exact (blk_cell (blk_put (blk_set_ne BX.out.2.1 (by have := BX.out; show p3 ≠ p2; omega) _) 0 _ rfl) 0).trans rfl
    · refine ⟨none, 0, by rw [HP.out]; rfl, ?_⟩
      rw [HP.out]
      exact ⟨Kd.C_nil _ _, (BX.out.2.2.1.setCell (by have := BX.out; show w.heap.size ≤ p2; omega) _).setCell (by have := BX.out; show w.heap.size ≤ p3; omega) _⟩
  · have HP : Aside0 ((allW atoO (spl l) = none → proP l = ([], 4)) ∧ ∀ ns, allW atoO (spl l) = some ns → proP l = if textP ns = l ∧ 0 ≤ Lib.minOf ns then (ns, 0) else ([], 4)) := ⟨by
      unfold proP
      rw [if_neg h45]
      exact ⟨fun h => by rw [h], fun ns h => by rw [h]⟩⟩
    have hcmp2 : decide (l = [45]) = false := by simpa using h45
    rw [hcmp2] at hcmp
    clear hcmp2 h45
    gi_upto_region 4 with fail
    clear hcmp
    obtain ⟨W2, hW2⟩ : ∃ W, W = W1.alloc (.cells #[.slice none 0 0] 22) := ⟨_, rfl⟩
    rw [← hW2]
    obtain ⟨p4, hp4⟩ : ∃ b, b = W1.heap.size := ⟨_, rfl⟩
    have BY : Aside0 (W2.heap[p2]? = some (.cells #[.slice none 0 0] 22 (0, 0)) ∧ W2.heap[p3]? = some (.cells #[.int .i64 0] 23 (0, 0)) ∧ W2.heap[p4]? = some (.cells #[.slice none 0 0] 22 (0, 0)) ∧ Below w.heap.size w W2 ∧ w.heap.size ≤ p2 ∧ p2 < p3 ∧ p3 < p4 ∧ p4 < W2.heap.size) := ⟨by
      have hb := below_alloc (Below.refl W1.heap.size W1) (.cells #[.slice none 0 0] 22)
      rw [hW2, hp4]
      exact ⟨blk_below BX.out.1 hb, blk_below BX.out.2.1 hb, heap_alloc_new _ _, BX.out.2.2.1.trans (hb.mono BX.out.2.2.1.size), BX.out.2.2.2.1, BX.out.2.2.2.2.1, BX.out.2.2.2.2.2, by simp⟩⟩
    rw [← hp4]
    clear hW2 hp4 BX
    gi_wp2
    refine (callsIn_wide.2 (split_new W2 l)).mono ?_
    rintro e W3 ⟨b, rfl, HS⟩
    gi_wp2
    have BZ : Aside0 (W3.heap[p2]? = some (.cells #[.slice none 0 0] 22 (0, 0)) ∧ W3.heap[p3]? = some (.cells #[.int .i64 0] 23 (0, 0)) ∧ W3.heap[p4]? = some (.cells #[.slice none 0 0] 22 (0, 0)) ∧ Below w.heap.size w W3) := ⟨blk_below BY.out.1 HS.out.2.2.2, blk_below BY.out.2.1 HS.out.2.2.2, blk_below BY.out.2.2.1 HS.out.2.2.2, BY.out.2.2.2.1.trans (HS.out.2.2.2.mono BY.out.2.2.2.1.size)⟩
    have PZ : Aside0 (w.heap.size ≤ p2 ∧ p2 < p3 ∧ p3 < p4 ∧ p4 < b ∧ b + 2 < W3.heap.size) := ⟨by
      have h1 := BY.out.2.2.2.2
      have h2 := HS.out.2
      omega⟩
    refine range_ret rfl (by omega) (gf := 80) (lb := #[.pointer (some ⟨b + 1, 0, none⟩), .pointer (some ⟨b, 0, none⟩), .pointer (some ⟨b + 2, 0, none⟩)]) rfl trivial (enters_of Tryz.func80 (by kernel_rfl) rfl)
      (split_gives _ W3 b l (by omega) HS.out.1) (fun k hk => by have := PZ.out; omega) (Below.refl _ _) rfl
      (PI1 w (W3.heap.size + 2) p2 p3 p4) (PX1 w p2 p3) ?hI ?hIx ?h0 (fun x => { tmps := List.toArray ((.string (sB l)) :: undef :: (.pointer (some ⟨p2, 0, none⟩)) :: (.pointer (some ⟨p3, 0, none⟩)) :: (.pointer (some ⟨p4, 0, none⟩)) :: (.string (sB x)) :: undef :: undef :: (.string (sB l)) :: (.bool false) :: (.string (sB l)) :: (.func (.func 80) #[] #[.pointer (some ⟨b + 1, 0, none⟩), .pointer (some ⟨b, 0, none⟩), .pointer (some ⟨b + 2, 0, none⟩)]) :: (.string (sB x)) :: undef :: undef :: undef :: undef :: undef :: undef :: undef :: undef :: undef :: undef :: undef :: undef :: undef :: undef :: undef :: undef :: undef :: undef :: undef :: undef :: undef :: []), defers := [] }) ?assign ?body ?done ?stop
    case h0 => exact ⟨_, [], rfl, BZ.out.2.2.1, World.ownsRow_nil _ _ _ _, BZ.out.1, BZ.out.2.1, BZ.out.2.2.2⟩
    case hI =>
      rintro s X Y ⟨v, ns, i1, i2, i3, i4, i5, i6⟩ hc
      have hp := PZ.out
      refine ⟨v, ns, i1, hc.blk i2 (by omega), hc.own i3 (fun k hk h => by have := own_ge i3 hk; omega), hc.blk i4 (by omega), hc.blk i5 (by omega), i6.trans ⟨hc.os, hc.tape, hc.output, hc.size, fun k hk => hc.block k (by have := i6.size; omega) (by omega)⟩⟩
    case hIx =>
      rintro s X Y ⟨i1, i4, i5, i6⟩ hc
      have hp := PZ.out
      refine ⟨i1, hc.blk i4 (by omega), hc.blk i5 (by omega), i6.trans ⟨hc.os, hc.tape, hc.output, hc.size, fun k hk => hc.block k (by have := i6.size; omega) (by omega)⟩⟩
    case assign =>
      intro y x W K hK
      gi_wp2
      exact hK
    case body =>
      rintro y pre x W hsz ⟨v, ns, i1, i2, i3, i4, i5, i6⟩ ⟨t, hpn⟩ hlen
      have hxl : x.length ≤ 281474976710656 := by
        have := spl_len l x (by rw [hpn]; simp)
        omega
      have AT := Aside0.mk (atoi_any x hxl W (HD.out.to i6))
      have HA := Aside0.mk i1
      have H4 := Aside0.mk i2
      have HO := Aside0.mk i3
      have H2 := Aside0.mk i4
      have H3 := Aside0.mk i5
      have HB := Aside0.mk i6
      have HPN : Aside0 ((pre ++ [x]).length ≤ l.length + 1) := ⟨by
        have := spl_count l
        rw [hpn] at this
        simp at this ⊢
        omega⟩
      clear hxl i1 i2 i3 i4 i5 i6 hpn hlen
      gi_wp2
      refine (CallsIn.inRound y (callsIn_wide.2 AT.out)).mono ?_
      rintro e W4 ⟨z, er, rfl, HZ, hb4⟩
      have B4 := Aside0.mk hb4
      have J4 := Aside0.mk (blk_below H4.out hb4)
      have JO := Aside0.mk (pw_own_below HO.out hb4)
      have J2 := Aside0.mk (blk_below H2.out hb4)
      have J3 := Aside0.mk (blk_below H3.out hb4)
      have JB : Aside0 (Below w.heap.size w W4) := ⟨HB.out.trans (hb4.mono HB.out.size)⟩
      have hp := PZ.out
      have P2 := Aside0.mk hp
      have HSZ : Aside0 (W3.heap.size + 2 ≤ W4.heap.size) := ⟨Nat.le_trans hsz hb4.size⟩
      clear hb4 AT H4 HO H2 H3 HB hsz
      rcases HZ with ⟨ha, rfl⟩ | ⟨ha, NN, rfl⟩
      · have AN : Aside0 (allW atoO (pre ++ [x]) = some (ns ++ [z])) := ⟨by rw [allW_snoc, HA.out, ha]⟩
        have NL := Aside0.mk (allW_len _ _ _ HA.out)
        clear ha HA hp
        have k4 : W4.cell? ⟨p4, 0, none⟩ = some v := (blk_cell J4.out 0).trans rfl
        obtain ⟨i0, hi0, hz0, hz1, hz2⟩ := info_parts infoR3
        have HX1 : Aside0 (ns.length + 1 ≤ maxLen) := ⟨by
          have h1 := HPN.out
          have h2 := NL.out
          rw [List.length_append] at h1
          have : maxLen = 9223372036854775807 := rfl
          omega⟩
        have HX2 : Aside0 ((ns.length + 1) * 8 ≤ 140737488355328) := ⟨by
          have h1 := HPN.out
          have h2 := NL.out
          rw [List.length_append] at h1
          omega⟩
        have HX3 : Aside0 (W3.heap.size + 2 ≤ (W4.alloc (.cells #[.int .i64 z] 3)).heap.size) := ⟨by have := HSZ.out; simp; omega⟩
        have B5 : Aside0 (Below W4.heap.size W4 (W4.alloc (.cells #[.int .i64 z] 3))) := ⟨below_alloc (Below.refl _ _) _⟩
        have NEW : Aside0 (∀ w6 : World, (W4.alloc (.cells #[.int .i64 z] 3)).grownBy w6 v.ownBlock → Chg (fun k => W3.heap.size + 2 ≤ k) W4 w6) := ⟨fun w6 hg => (Chg.of_below B5.out).trans ((Chg.of_grown hg).mono fun k _ hk => own_ge JO.out hk.symm)⟩
        have KEP : Aside0 (∀ w6 : World, (W4.alloc (.cells #[.int .i64 z] 3)).grownBy w6 v.ownBlock → KeepsOthers W4 w6) := ⟨fun w6 hg => (KeepsOthers.alloc _ _).trans (KeepsOthers.of_grownBy hg (fun j o ej hj => by
          rcases JO.out.2 with ⟨rfl, _⟩ | ⟨g, cap, cur, rfl, _, hcur, _⟩
          · cases ej
          · cases ej
            have h1 : (W4.alloc (.cells #[.int .i64 z] 3)).heap[g]? = W4.heap[g]? := B5.out.block g (Array.getElem?_eq_some_iff.1 hcur).1
            rw [h1, hcur] at hj
            cases hj
            rfl))⟩
        gi_wp2_with (gi_at_builtin; refine wpListIn_append_own _ rfl _ _ 22 rfl (W3.heap.size + 2) 3 i0 (.int .i64 0) 1 8 Tryz.underlying22 hi0 hz0 hz1 hz2 rfl (by decide) _ _ _ rfl (JO.out.alloc _) ⟨W4.heap.size, 0, none⟩ 1 1 [.int .i64 z] rfl rfl (cell_one_new _ _ _) (by simp [Value.oneCell']) HX1.out HX2.out HX3.out ?_; intro v' w6 hown' hgrow _; obtain ⟨g', cap', rfl⟩ := ownsRow_succ hown'; have N6 := Aside0.mk (NEW.out w6 hgrow); have K6 := Aside0.mk (KEP.out w6 hgrow); have O6 := Aside0.mk hown'; have q4 : w6.cell? ⟨p4, 0, none⟩ = some v := (blk_cell (N6.out.blk J4.out (by have := P2.out; omega)) 0).trans rfl; have y4 : w6.frozen? ⟨p4, 0, none⟩ = false := blk_frozen (N6.out.blk J4.out (by have := P2.out; omega)) 0; clear hown' hgrow)
        have hp := P2.out
        have G4 := N6.out.blk J4.out (show ¬ W3.heap.size + 2 ≤ p4 by omega)
        have G2 := N6.out.blk J2.out (show ¬ W3.heap.size + 2 ≤ p2 by omega)
        have G3 := N6.out.blk J3.out (show ¬ W3.heap.size + 2 ≤ p3 by omega)
        have BB : Below w.heap.size w w6 := JB.out.trans ⟨N6.out.os, N6.out.tape, N6.out.output, N6.out.size, fun k hk => N6.out.block k (by have := JB.out.size; omega) (by omega)⟩
        have OO : w6.ownsRow (W3.heap.size + 2) 3 1 (.slice (some ⟨g', 0, none⟩) (ns.length + 1) cap') (ns ++ [z]).length (nums .i64 (ns ++ [z])) := by
          have h1 := O6.out
          have e1 : (ns ++ [z]).length = ns.length + 1 := by simp
          have e2 : nums .i64 (ns ++ [z]) = nums .i64 ns ++ [.int .i64 z] := by simp [nums]
          rw [e1, e2]
          exact h1
        have CC : Chg (fun k => k = p4) w6 (w6.setCell ⟨p4, 0, none⟩ (.slice (some ⟨g', 0, none⟩) (ns.length + 1) cap')) := (Chg.refl (fun k : Nat => k = p4) w6).setCell (p := ⟨p4, 0, none⟩) (.inl rfl) _
        refine ⟨(keeps_below B4.out).trans (K6.out.trans (KeepsOthers.setCell _ _ _)), ?_, _, ns ++ [z], AN.out, blk_put G4 0 _ rfl, CC.own OO (fun k hk h => by have := own_ge OO hk; omega), blk_set_ne G2 (by show p2 ≠ p4; omega) _, blk_set_ne G3 (by show p3 ≠ p4; omega) _, BB.setCell (by show w.heap.size ≤ p4; omega) _⟩
        exact ((Chg.of_below B4.out).trans (N6.out.mono fun k _ h => by show ¬ (b ≤ k ∧ k ≤ b + 2); omega)).setCell (.inl (by show ¬ (b ≤ p4 ∧ p4 ≤ b + 2); omega)) _
      · have AN : Aside0 (allW atoO (pre ++ [x]) = none) := ⟨by rw [allW_snoc, HA.out, ha]⟩
        clear ha HA
        have k2 : W4.cell? ⟨p2, 0, none⟩ = some (.slice none 0 0) := (blk_cell J2.out 0).trans rfl
        have z2 : W4.frozen? ⟨p2, 0, none⟩ = false := blk_frozen J2.out 0
        have z3 : W4.frozen? ⟨p3, 0, none⟩ = false := blk_frozen J3.out 0
        have x3 : ∀ u : Value, (W4.setCell ⟨p2, 0, none⟩ u).cell? ⟨p3, 0, none⟩ = some (.int .i64 0) := fun u => (blk_cell (blk_set_ne J3.out (by show p3 ≠ p2; omega) u) 0).trans rfl
        clear hp
        gi_wp2
        have hp := P2.out
        refine ⟨((keeps_below B4.out).trans (KeepsOthers.setCell _ _ _)).trans (KeepsOthers.setCell _ _ _), AN.out, ?_, ?_, ?_⟩
        · exact blk_set_ne (blk_put J2.out 0 _ rfl) (by show p2 ≠ p3; omega) _
        · exact blk_put (blk_set_ne J3.out (by show p3 ≠ p2; omega) _) 0 _ rfl
        · exact (JB.out.setCell (by show w.heap.size ≤ p2; omega) _).setCell (by show w.heap.size ≤ p3; omega) _
    case done =>
      rintro D xs W hD rfl ⟨v, ns, i1, i2, i3, i4, i5, i6⟩ hK
      have hp := PZ.out
      have PP := Aside0.mk (HP.out.2 ns i1)
      have hlen := allW_len _ _ _ i1
      have hne : ns ≠ [] := by
        rintro rfl
        exact spl_ne l (List.length_eq_zero_iff.1 hlen.symm)
      have hpos : 0 < ns.length := List.length_pos_iff.2 hne
      have hcnt := spl_count l
      have hbd : ∀ n ∈ ns, -9223372036854775808 ≤ n ∧ n ≤ 9223372036854775807 := fun n hn => by
        obtain ⟨_, _, h⟩ := allW_get _ _ _ i1 n hn
        exact atoO_bd h
      have hkd : ∀ k, v.ownBlock = some k → W3.heap.size + 2 ≤ k ∧ W.heap[k]? ≠ some (.deferred (some [])) := fun k hk => by
        refine ⟨own_ge i3 hk, ?_⟩
        rcases i3.2 with ⟨rfl, _⟩ | ⟨g, cap, cur, rfl, _, hcur, _⟩
        · cases hk
        · cases hk
          rw [hcur]
          intro h
          cases h
      obtain ⟨g, cp, rfl⟩ : ∃ g cp, v = .slice (some ⟨g, 0, none⟩) ns.length cp := by
        rcases i3.2 with ⟨rfl, h0⟩ | ⟨g, cap, cur, rfl, _⟩
        · omega
        · exact ⟨g, cap, rfl⟩
      have hC : (Kd.int .i64).C W (some ⟨g, 0, none⟩) ns.length ns := by
        obtain ⟨A, c, e, hr⟩ := own_reads i3
        injection e with e1
        subst e1
        exact Kd.C_of_reads (readsInt_of.1 hr)
      have GNE : Aside0 (W3.heap.size + 2 ≤ g ∧ g ≠ D) := ⟨by
        have h := hkd g rfl
        refine ⟨h.1, ?_⟩
        rintro rfl
        exact h.2 hK⟩
      clear hkd
      have TX := Aside0.mk (text_any W _ ns.length cp ns hC (by omega) hbd (HD.out.to i6))
      have H4 := Aside0.mk i2
      have HCC := Aside0.mk hC
      have H2 := Aside0.mk i4
      have H3 := Aside0.mk i5
      have HB := Aside0.mk i6
      have HK := Aside0.mk hK
      have HDD := Aside0.mk hD
      have k4 : W.cell? ⟨p4, 0, none⟩ = some (.slice (some ⟨g, 0, none⟩) ns.length cp) := (blk_cell i2 0).trans rfl
      have HPZ := Aside0.mk hp
      clear i1 i2 i3 i4 i5 i6 hK hD hlen hbd hC hcnt hp
      gi_wp2
      refine (callsIn_wide.2 TX.out).mono ?_
      rintro e W5 ⟨rfl, hb5⟩
      have J4 := Aside0.mk (blk_below H4.out hb5)
      have J2 := Aside0.mk (blk_below H2.out hb5)
      have J3 := Aside0.mk (blk_below H3.out hb5)
      have JK := Aside0.mk (blk_below HK.out hb5)
      have JC := Aside0.mk (Kd.C_below HCC.out hb5)
      have JB : Aside0 (Below w.heap.size w W5) := ⟨HB.out.trans (hb5.mono HB.out.size)⟩
      have MN := Aside0.mk (Tryz.slices_Min_int g 0 ns.length cp ns W5 hpos (Nat.le_refl _) (by have := JC.out.2.1; have e : maxLen = 9223372036854775807 := rfl; omega) (fun j hj => by
        obtain ⟨ad, e, hc⟩ := at_Int JC.out j hj
        cases e
        rw [Nat.zero_add]
        have ea : (⟨g, 0, none⟩ : Addr).add j = ⟨g, j, none⟩ := by
          cases j with
          | zero => rfl
          | succ j => simp [Addr.add]
        rw [ea] at hc
        exact hc))
      have q4 : W5.cell? ⟨p4, 0, none⟩ = some (.slice (some ⟨g, 0, none⟩) ns.length cp) := (blk_cell J4.out 0).trans rfl
      have q2 : W5.cell? ⟨p2, 0, none⟩ = some (.slice none 0 0) := (blk_cell J2.out 0).trans rfl
      have y2 : W5.frozen? ⟨p2, 0, none⟩ = false := blk_frozen J2.out 0
      have y3 : W5.frozen? ⟨p3, 0, none⟩ = false := blk_frozen J3.out 0
      have x3 : ∀ u : Value, (W5.setCell ⟨p2, 0, none⟩ u).cell? ⟨p3, 0, none⟩ = some (.int .i64 0) := fun u => (blk_cell (blk_set_ne J3.out (by have := HPZ.out; show p3 ≠ p2; omega) u) 0).trans rfl
      have FIN : Aside0 (∀ (tmps : Array Value) (A : Option Addr) (n c : Nat) (z : Int), tmps[2]?.getD undef = .pointer (some ⟨p2, 0, none⟩) → tmps[3]?.getD undef = .pointer (some ⟨p3, 0, none⟩) → (proP l = ([], 4) ∧ A = none ∧ n = 0 ∧ c = 0 ∧ z = 4 ∨ proP l = (ns, 0) ∧ A = some ⟨g, 0, none⟩ ∧ n = ns.length ∧ c = cp ∧ z = 0) →
          LeavesInM Fence.wide 9 Tryz.prog Tryz.f8 tmps (fun e w' => ∃ A c, e = .returned (.tuple #[.slice A (proP l).1.length c, .int .i64 (proP l).2]) ∧ Aside0 ((Kd.int .i64).C w' A (proP l).1.length (proP l).1 ∧ Below w.heap.size w w')) [{ target := .collected D, args := #[] }] .returning ((W5.setCell ⟨p2, 0, none⟩ (.slice A n c)).setCell ⟨p3, 0, none⟩ (.int .i64 z))) := ⟨by
        intro tmps A n c z h2 h3 h
        have hp := HPZ.out
        have hD := HDD.out
        obtain ⟨W7, hW7⟩ : ∃ W7, W7 = (W5.setCell ⟨p2, 0, none⟩ (.slice A n c)).setCell ⟨p3, 0, none⟩ (.int .i64 z) := ⟨_, rfl⟩
        have K7 : W7.heap[D]? = some (.deferred (some [])) := by rw [hW7]; exact blk_set_ne (blk_set_ne JK.out (by show D ≠ p2; omega) _) (by show D ≠ p3; omega) _
        have E2 : W7.heap[p2]? = some (.cells #[.slice A n c] 22 (0, 0)) := by rw [hW7]; exact blk_set_ne (blk_put J2.out 0 _ rfl) (by show p2 ≠ p3; omega) _
        have E3 : W7.heap[p3]? = some (.cells #[.int .i64 z] 23 (0, 0)) := by rw [hW7]; exact blk_put (blk_set_ne J3.out (by show p3 ≠ p2; omega) _) 0 _ rfl
        have E5 : Chg (fun k => k = p2 ∨ k = p3) W5 W7 := by rw [hW7]; exact ((Chg.refl (fun k => k = p2 ∨ k = p3) W5).setCell (p := ⟨p2, 0, none⟩) (.inl (.inl rfl)) _).setCell (p := ⟨p3, 0, none⟩) (.inl (.inr rfl)) _
        have EB : Below w.heap.size w W7 := by rw [hW7]; exact (JB.out.setCell (by show w.heap.size ≤ p2; omega) _).setCell (by show w.heap.size ≤ p3; omega) _
        rw [← hW7]
        have hs : ∀ k, k ≠ D → (W7.putObj D (.deferred none)).heap[k]? = W7.heap[k]? := fun k hk => World.putObj_heap_other hk
        have EB2 : Below w.heap.size w (W7.putObj D (.deferred none)) := EB.trans ⟨rfl, rfl, rfl, by simp [World.putObj], fun k hk => World.putObj_heap_other (by omega)⟩
        refine ⟨by simp, .inl ⟨_, _, rfl, run_takeDeferred K7, ?_⟩⟩
        refine ⟨_, res8 _ _ p2 p3 A n c z h2 h3 ?_ ?_, ?_⟩
        · exact (blk_cell ((hs p2 (by omega)).trans E2) 0).trans rfl
        · exact (blk_cell ((hs p3 (by omega)).trans E3) 0).trans rfl
        · rcases h with ⟨h1, rfl, rfl, rfl, rfl⟩ | ⟨h1, rfl, rfl, rfl, rfl⟩
          · refine ⟨none, 0, by rw [h1]; rfl, ?_⟩
            rw [h1]
            exact ⟨Kd.C_nil _ _, EB2⟩
          · refine ⟨some ⟨g, 0, none⟩, c, by rw [h1], ?_⟩
            rw [h1]
            refine ⟨Kd.C_of_reads (d := (0 : Int)) ⟨rfl, JC.out.2.1, fun _ => ⟨_, rfl, fun j hj => ?_⟩⟩, EB2⟩
            obtain ⟨ad, e, hc⟩ := at_Int JC.out j hj
            cases e
            have ea : (⟨g, 0, none⟩ : Addr).add j = ⟨g, j, none⟩ := by
              cases j with
              | zero => rfl
              | succ j => simp [Addr.add]
            rw [ea] at hc ⊢
            have hgn := GNE.out
            have h4 : (W7.putObj D (.deferred none)).heap[g]? = W5.heap[g]? := (hs g (by omega)).trans (E5.block g (World.block_lt_of_cell? W5 _ hc) (by omega))
            have h5 : (W7.putObj D (.deferred none)).cell? ⟨g, j, none⟩ = W5.cell? ⟨g, j, none⟩ := World.cell?_of_block h4
            exact h5.trans hc⟩
      clear hb5 TX H4 H2 H3 HK HCC HB k4
      have hcmp := sB_eq (textP ns) l
      have PO := PP.out
      by_cases ht : textP ns = l
      · have hd : decide (textP ns = l) = true := by simpa using ht
        rw [hd] at hcmp
        have hmin : Lib.minOf (ns.take ns.length) = Lib.minOf ns := by rw [List.take_length]
        rw [hmin] at MN
        obtain ⟨mn, hmn⟩ : ∃ z, z = Lib.minOf ns := ⟨_, rfl⟩
        rw [← hmn] at MN PO
        by_cases hneg : mn < 0
        · have PB : Aside0 (proP l = ([], 4)) := ⟨by rw [PO, if_neg (fun h => by omega)]⟩
          clear hd ht hmin hmn PO
          gi_wp2
          refine (callsIn_wide.2 MN.out).mono ?_
          rintro e W6 ⟨rfl, h6⟩
          obtain rfl := h6.symm
          clear h6
          gi_wp2
          exact FIN.out _ none 0 0 4 rfl rfl (.inl ⟨PB.out, rfl, rfl, rfl, rfl⟩)
        · have PB : Aside0 (proP l = (ns, 0)) := ⟨by rw [PO, if_pos ⟨ht, by omega⟩]⟩
          clear hd ht hmin hmn PO
          gi_wp2
          refine (callsIn_wide.2 MN.out).mono ?_
          rintro e W6 ⟨rfl, h6⟩
          obtain rfl := h6.symm
          clear h6
          gi_wp2
          exact FIN.out _ (some ⟨g, 0, none⟩) ns.length cp 0 rfl rfl (.inr ⟨PB.out, rfl, rfl, rfl, rfl⟩)
      · have hd : decide (textP ns = l) = false := by simpa using ht
        rw [hd] at hcmp
        have PB : Aside0 (proP l = ([], 4)) := ⟨by rw [PO, if_neg (fun h => ht h.1)]⟩
        clear hd ht PO
        gi_wp2
        exact FIN.out _ none 0 0 4 rfl rfl (.inl ⟨PB.out, rfl, rfl, rfl, rfl⟩)
    case stop =>
      rintro D pre W hD ⟨t, ht⟩ ⟨i1, i4, i5, i6⟩ hK
      have BAD := Aside0.mk (HP.out.1 (by rw [ht]; exact allW_pre atoO t pre i1))
      gi_wp2
      have hs : ∀ k, k < W3.heap.size → (W.putObj D (.deferred none)).heap[k]? = W.heap[k]? := fun k hk => World.putObj_heap_other (by omega)
      have hp := PZ.out
      refine ⟨by simp, .inl ⟨_, _, rfl, run_takeDeferred hK, ?_⟩⟩
      refine ⟨_, res8 _ _ p2 p3 none 0 0 4 rfl rfl ?_ ?_, ?_⟩
      · exact (blk_cell ((hs p2 (by omega)).trans i4) 0).trans rfl
      · exact (blk_cell ((hs p3 (by omega)).trans i5) 0).trans rfl
      · refine ⟨none, 0, by rw [BAD.out]; rfl, ?_⟩
        rw [BAD.out]
        refine ⟨Kd.C_nil _ _, i6.trans ⟨rfl, rfl, rfl, by simp [World.putObj], fun k hk => World.putObj_heap_other (by have := BZ.out.2.2.2.size; omega)⟩⟩
end Go.Proofs.YtofomlpdklhigaaGreatDoor.Hand
