/- Sets of bits: copies, With, Count, New walked; OnesCount64. -/
import Derived.Test.YtofomlpdklhigaaGreatDoorKb
import Derived.StillTailTactics
import Derived.Lib.BufferMore
namespace Go.Proofs.YtofomlpdklhigaaGreatDoor.Hand
open Go.RowKit Go.Proofs.YtofomlpdklhigaaGreatDoorW.PrintWords Go.Proofs.YtofomlpdklhigaaGreatDoorW.PrintLast Go.Proofs.YtofomlpdklhigaaGreatDoorW.PrintMore Go.Proofs.YtofomlpdklhigaaGreatDoor.PSigns
set_option linter.unusedVariables false
set_option linter.unusedSimpArgs false
theorem info126 : (Tryz.prog.info? 126).map (fun i => (i.zero, i.size, i.bytes)) = some (some (.int .u64 0), 1, 8) := by kernel_rfl
set_option maxHeartbeats 400000 in
set_option maxRecDepth 100000 in
theorem cloneU_any (w : World) (a : Addr) (n c : Nat) (xs : List Int) (hC : (Kd.int .u64).C w (some a) n xs) (hn : n ≤ 4294967296) :
    Calls Tryz.prog 165 #[.slice (some a) n c] w fun e w' => ∃ g m, e = .returned (.slice (some ⟨g, 0, none⟩) n m) ∧ Aside0 (w'.ownsRow w.heap.size 126 1 (.slice (some ⟨g, 0, none⟩) n m) n (nums .u64 xs) ∧ Below w.heap.size w w' ∧ w.heap.size ≤ g) := by
  have HN : Aside0 (xs.length = n) := ⟨hC.1⟩
  have HC := Aside0.mk hC
  clear hC
  have hu := Tryz.underlying187
  have hnil : ∀ W, (binOp .eql 187 (.slice (some a) n c) (.slice none 0 0)).run Tryz.prog W = .ok (.bool false) W := fun W => Lib.run_eql_slice_some_nil W _ _ _ Tryz.underlying187
  go_enter Tryz.func165, Tryz.ntmps165
  go_upto_region 3 with fail
  have O0 : Aside0 ((Kd.int .u64).R 126 (w.alloc (.cells #[] 126)) w.heap.size (fun k => w.heap.size ≤ k) (.slice (some ⟨w.heap.size, 0, none⟩) 0 0) []) := ⟨⟨fun k hk => by
    have : w.heap.size = k := by simpa [Value.ownBlock] using hk
    omega, [], ⟨rfl, .inr ⟨w.heap.size, 0, #[], rfl, Nat.le_refl _, heap_alloc_new w _, Nat.le_refl _, Nat.zero_le _, rfl, rfl⟩⟩, Reps.none _ _⟩⟩
  have HL : Aside0 ((([] : List Int).length + n) * 8 ≤ 140737488355328) := ⟨by simp; omega⟩
  have CC : Aside0 ((∀ k, (w.alloc (.cells #[] 126)).heap.size ≤ k → w.heap.size ≤ k) ∧ (Kd.int .u64).C (w.alloc (.cells #[] 126)) (some a) n xs ∧ Below w.heap.size w (w.alloc (.cells #[] 126)) ∧ w.heap.size ≤ (w.alloc (.cells #[] 126)).heap.size) := ⟨fun k hk => by simp at hk; omega, Kd.C_below HC.out (below_alloc (Below.refl _ _) _), below_alloc (Below.refl _ _) _, by simp⟩
  go_wp2_with (at_builtin; refine Kd.R_append_row (Value.int .u64) (0 : Int) (w0 := w) w.heap.size rfl _ _ 187 126 (.int .u64 0) 8 rfl Tryz.underlying187 info126 rfl (by decide) (.slice (some ⟨w.heap.size, 0, none⟩) 0 0) [] xs (some a) n c (fun k => w.heap.size ≤ k) rfl rfl CC.out.1 O0.out CC.out.2.1 CC.out.2.2.1 CC.out.2.2.2 HL.out ?_; intro v7 w7 ho7 hb7 hg7 hn7; have N7 := Aside0.mk hn7; have O7 := Aside0.mk ho7; have B7 := Aside0.mk hb7; have G7 := Aside0.mk hg7; clear ho7 hb7 hg7 hn7)
  go_ret
  have h1 := O7.out
  rw [List.nil_append] at h1
  have h2 := Kd.own_of_R h1
  rw [HN.out] at h2
  rcases h2.2 with ⟨e, _⟩ | ⟨g, cap, cur, e, hg, _⟩
  · rw [e] at N7
    rcases N7.out with h | ⟨b, h, _⟩
    · simp [Value.ownBlock] at h
    · simp [Value.ownBlock] at h
  · rw [e] at h2
    exact ⟨g, cap, by rw [← e]; rfl, ⟨h2, B7.out, hg⟩⟩
theorem wu64 (n : Int) (h0 : 0 ≤ n) (h1 : n < 2 ^ 64) : IntKind.u64.wrap n = n := by
  rw [IntKind.wrap_u64]
  omega
theorem Wd.add {ws : List Int} {size k : Nat} {p : Nat → Bool} {m V : Nat} (h : Wd ws size p) (hk : k < size) (hm : ws.getD (k / 64) 0 = (m : Int)) (hm64 : m < 2 ^ 64) (hV : V = m ||| 2 ^ (k % 64)) : Wd (ws.set (k / 64) (V : Int)) size (fun j => p j || decide (j = k)) := by
  have hq : k / 64 < ws.length := by rw [h.len]; omega
  refine ⟨by rw [List.length_set]; exact h.len, fun j hj => ?_, fun i hi => ?_⟩
  · rw [h.out j hj, decide_eq_false (by omega)]
    rfl
  · rw [List.length_set] at hi
    obtain ⟨m', e', hm', ht⟩ := h.bit i hi
    by_cases hiq : i = k / 64
    · subst hiq
      have : m' = m := by
        rw [hm] at e'
        exact_mod_cast e'.symm
      subst this
      refine ⟨V, by rw [List.getD_eq_getElem?_getD, List.getElem?_set_self hq]; rfl, ?_, fun j hj => ?_⟩
      · rw [hV]
        exact Nat.or_lt_two_pow hm' (Nat.pow_lt_pow_right (by omega) (by omega))
      · rw [hV, Nat.testBit_or, ht j hj, Nat.testBit_two_pow]
        congr 1
        exact decide_eq_decide.2 (by omega)
    · refine ⟨m', ?_, hm', fun j hj => ?_⟩
      · rw [← e', List.getD_eq_getElem?_getD, List.getElem?_set_ne (by omega), List.getD_eq_getElem?_getD]
      · rw [ht j hj, decide_eq_false (by omega), Bool.or_false]
theorem own_lower {w : World} {base base' n size : Nat} {e : TypeId} {v : Value} {xs : List Value} (h : w.ownsRow base e size v n xs) (hb : base' ≤ base) : w.ownsRow base' e size v n xs := Kd.own_raise h (fun k hk => Nat.le_trans hb (own_base h k hk))
set_option maxHeartbeats 1000000 in
set_option maxRecDepth 100000 in
theorem copied_any (w : World) (size : Int) (a : Addr) (n c : Nat) (xs : List Int) (hC : (Kd.int .u64).C w (some a) n xs) (hn : n ≤ 4294967296) :
    Calls Tryz.prog 149 #[.agg #[.int .i64 size, .slice (some a) n c]] w fun e w' => ∃ g m, e = .returned (.agg #[.int .i64 size, .slice (some ⟨g, 0, none⟩) n m]) ∧ Aside0 (w'.ownsRow w.heap.size 126 1 (.slice (some ⟨g, 0, none⟩) n m) n (nums .u64 xs) ∧ Below w.heap.size w w' ∧ w.heap.size ≤ g) := by
  have HC := Aside0.mk hC
  clear hC
  have hu197 := Tryz.underlying189
  go_enter Tryz.func149, Tryz.ntmps149
  go_upto_region 1 with fail
  obtain ⟨W1, hW1⟩ : ∃ W, W = (w.alloc (.cells #[.int .i64 size, .slice (some a) n c] 189)).alloc (.cells #[.int .i64 0, .slice none 0 0] 189) := ⟨_, rfl⟩
  rw [← hW1]
  have B1 : Aside0 (Below w.heap.size w W1) := ⟨by rw [hW1]; exact below_alloc (below_alloc (Below.refl _ _) _) _⟩
  obtain ⟨p1, hp1⟩ : ∃ p, p = w.heap.size := ⟨_, rfl⟩
  have Q1 : Aside0 (W1.heap[p1]? = some (.cells #[.int .i64 size, .slice (some a) n c] 189 (0, 0))) := ⟨by rw [hW1, hp1]; simp only [al_get, al_size]; rw [if_neg (by omega), if_pos trivial]⟩
  have Q2 : Aside0 (W1.heap[p1 + 1]? = some (.cells #[.int .i64 0, .slice none 0 0] 189 (0, 0))) := ⟨by rw [hW1, hp1]; simp only [al_get, al_size]; rw [if_pos trivial]⟩
  have S1 : Aside0 (w.heap.size = p1 ∧ p1 + 1 < W1.heap.size) := ⟨hp1.symm, by rw [hW1]; simp only [al_size]; omega⟩
  rw [← hp1]
  clear hW1 hp1
  have z0 : W1.drew.cell? ⟨p1, 0, none⟩ = some (.int .i64 size) := (blk_cell Q1.out 0).trans rfl
  have z1 : W1.drew.cell? ⟨p1, 1, none⟩ = some (.slice (some a) n c) := (blk_cell Q1.out 1).trans rfl
  refine start_ (n := 7) (S := fun w' => w'.cell? ⟨p1, 0, none⟩ = some (.int .i64 size) ∧ w'.cell? ⟨p1, 1, none⟩ = some (.slice (some a) n c)) (ds := [6]) #[false, false, false, false, false, false, false] (by kernel_rfl) rfl rfl ⟨z0, z1⟩ (fun hHeld => ?_)
  clear z0 z1
  refine pure_ (i := 0) (N := some 3) (v := ?_) (a' := ?_) #[true, false, false, false, false, false, false] rfl rfl (by kernel_rfl) (fun _ _ _ h => h) (Or.inl ⟨by rfl, ?_⟩) ?_ ?_
  rotate_left
  · intro w'
    go_simp
    with_reducible rfl
  rotate_left
  · simp only [Act.put, List.setIfInBounds_toArray, List.set_cons_zero, List.set_cons_succ]
    rfl
  refine take_ (i := 1) (N := some 4) (v := ?_) (a' := ?_) #[true, true, false, false, false, false, false] rfl rfl (by kernel_rfl) (fun _ _ _ h => h) (Or.inl ⟨by rfl, ?_⟩) hHeld ?_ ?_
  rotate_left
  · rintro w' ⟨s0, s1⟩
    go_simp
    with_reducible rfl
  rotate_left
  · simp only [Act.put, List.setIfInBounds_toArray, List.set_cons_zero, List.set_cons_succ]
    rfl
  refine pure_ (i := 2) (N := some 5) (v := ?_) (a' := ?_) #[true, true, true, false, false, false, false] rfl rfl (by kernel_rfl) (fun _ _ _ h => h) (Or.inl ⟨by rfl, ?_⟩) ?_ ?_
  rotate_left
  · intro w'
    go_simp
    with_reducible rfl
  rotate_left
  · simp only [Act.put, List.setIfInBounds_toArray, List.set_cons_zero, List.set_cons_succ]
    rfl
  refine take_ (i := 3) (N := some 6) (v := ?_) (a' := ?_) #[true, true, true, true, false, false, false] rfl rfl (by kernel_rfl) (fun _ _ _ h => h) (Or.inl ⟨by rfl, ?_⟩) hHeld ?_ ?_
  rotate_left
  · rintro w' ⟨s0, s1⟩
    go_simp
    with_reducible rfl
  rotate_left
  · simp only [Act.put, List.setIfInBounds_toArray, List.set_cons_zero, List.set_cons_succ]
    rfl
  refine one_ (i := 4) (N := some 7) #[true, true, true, true, true, false, false] rfl rfl (by kernel_rfl) (by decide) (fun K hK => ?_)
  refine goes_ Tryz.func165 (by kernel_rfl) rfl #[.slice (some a) n c] (by rfl) rfl rfl (by (try simp only [List.map_toArray, List.map_cons, List.map_nil]); first | done | rfl) ?_
  refine (cloneU_any W1.drew a n c xs (Kd.C_below HC.out (below_drew B1.out)) hn).mono ?_
  rintro _ w2 ⟨g, m, rfl, H2⟩
  refine ⟨_, rfl, ?_⟩
  have B2 : Aside0 (Below W1.heap.size W1 w2) := ⟨(below_drew (Below.refl _ W1)).trans H2.out.2.1⟩
  refine hK.out _ _ ⟨(blk_cell (blk_below Q1.out B2.out) 0).trans rfl, (blk_cell (blk_below Q1.out B2.out) 1).trans rfl⟩ (fun _ => ?_)
  clear hK K
  refine norm_ (a' := ?_) ?_ ?_
  rotate_left
  · show Act.put _ (some 7) _ = _
    simp only [Act.put, List.setIfInBounds_toArray, List.set_cons_zero, List.set_cons_succ]
    rfl
  refine pure_ (i := 5) (N := some 8) (v := ?_) (a' := ?_) #[true, true, true, true, true, true, false] rfl rfl (by kernel_rfl) (fun _ _ _ h => h) (Or.inl ⟨by rfl, ?_⟩) ?_ ?_
  rotate_left
  · intro w'
    go_simp
    with_reducible rfl
  rotate_left
  · simp only [Act.put, List.setIfInBounds_toArray, List.set_cons_zero, List.set_cons_succ]
    rfl
  refine last_ (i := 6) (N := none) #[true, true, true, true, true, true, true] rfl rfl (by kernel_rfl) (by decide) (fun K hK => ?_)
  have h0 : w2.cell? ⟨p1 + 1, 0, none⟩ = some (.int .i64 0) := (blk_cell (blk_below Q2.out B2.out) 0).trans rfl
  have h1 : w2.cell? ⟨p1 + 1, 1, none⟩ = some (.slice none 0 0) := (blk_cell (blk_below Q2.out B2.out) 1).trans rfl
  have h2 : ∀ j, w2.frozen? ⟨p1 + 1, j, none⟩ = false := fun j => blk_frozen (blk_below Q2.out B2.out) j
  refine skip_ (w1 := ?_) (by rfl) rfl ?_ ?_
  rotate_left
  · go_simp
    rfl
  refine hK.out _ _ ?_
  clear hK K h0 h1 h2
  refine done_ (by kernel_rfl) ?_
  go_wp2_with fail
  obtain ⟨Wz, hWz⟩ : ∃ W, W = (w2.setCell ⟨p1 + 1, 0, none⟩ (Value.int .i64 size)).setCell ⟨p1 + 1, 1, none⟩ (Value.slice (some ⟨g, 0, none⟩) n m) := ⟨_, rfl⟩
  rw [← hWz]
  have QZ : Wz.heap[p1 + 1]? = some (.cells #[.int .i64 size, .slice (some ⟨g, 0, none⟩) n m] 189 (0, 0)) := by
    rw [hWz]
    exact blk_set (blk_set (blk_below Q2.out B2.out) 0 _) 1 _
  have hg : p1 + 1 < g := Nat.lt_of_lt_of_le S1.out.2 H2.out.2.2
  have OZ : Wz.ownsRow w.heap.size 126 1 (.slice (some ⟨g, 0, none⟩) n m) n (nums .u64 xs) := by
    rw [hWz]
    have hne : some (p1 + 1) ≠ (Value.slice (some ⟨g, 0, none⟩) n m).ownBlock := by
      intro h
      have : p1 + 1 = g := by simpa [Value.ownBlock] using h
      omega
    exact own_setCell (p := ⟨p1 + 1, 1, none⟩) (own_setCell (p := ⟨p1 + 1, 0, none⟩) (own_lower H2.out.1 B1.out.size) hne _) hne _
  have BZ : Below w.heap.size w Wz := by
    rw [hWz]
    have h1 : w.heap.size ≤ p1 + 1 := by rw [S1.out.1]; omega
    exact ((B1.out.trans (B2.out.mono B1.out.size)).setCell (p := ⟨p1 + 1, 0, none⟩) h1 _).setCell (p := ⟨p1 + 1, 1, none⟩) h1 _
  have hgw : w.heap.size ≤ g := by rw [S1.out.1]; omega
  have r0 : Wz.cell? ⟨p1 + 1, 0, none⟩ = some (.int .i64 size) := (blk_cell QZ 0).trans rfl
  have r1 : Wz.cell? ⟨p1 + 1, 1, none⟩ = some (.slice (some ⟨g, 0, none⟩) n m) := (blk_cell QZ 1).trans rfl
  refine bodyPost_ret (v := .agg #[.int .i64 size, .slice (some ⟨g, 0, none⟩) n m]) (by simp [results, Tryz.results149, go_sem, r0, r1]) rfl ?_
  exact ⟨g, m, rfl, ⟨OZ, BZ, hgw⟩⟩
set_option maxHeartbeats 1000000 in
set_option maxRecDepth 100000 in
theorem with_any (w : World) (v : Value) (size : Nat) (p : Nat → Bool) (h : BS w v size p) (hs : size ≤ 4096) (i : Int) : Calls Tryz.prog 129 #[v, .int .i64 i] w fun e w' => ∃ v', e = .returned v' ∧ Aside0 (BS w' v' size (fun k => p k || (decide (0 ≤ i) && decide (i < size) && decide (k = i.toNat))) ∧ Below w.heap.size w w') := by
  have HB := Aside0.mk h
  obtain ⟨g0, c, ws, rfl, hc, hw⟩ := h
  replace hc := C_own hc
  obtain ⟨a, ha⟩ : ∃ a : Addr, a = ⟨g0, 0, none⟩ := ⟨_, rfl⟩
  rw [← ha] at hc HB ⊢
  clear ha
  have hu197 := Tryz.underlying189
  have hu109 := Tryz.underlying187
  obtain ⟨n, hn⟩ : ∃ n, n = ws.length := ⟨_, rfl⟩
  rw [← hn] at hc HB ⊢
  have hl := hw.len
  have hn5 : n ≤ 64 := by omega
  have HC := Aside0.mk hc
  have HW := Aside0.mk hw
  have HN := Aside0.mk hn
  obtain ⟨W1, hW1⟩ : ∃ W, W = (w.alloc (.cells #[.int .i64 (size : Int), .slice (some a) n c] 189)).alloc (.cells #[.int .i64 0, .slice none 0 0] 189) := ⟨_, rfl⟩
  obtain ⟨p1, hp1⟩ : ∃ p, p = w.heap.size := ⟨_, rfl⟩
  have B1 : Aside0 (Below w.heap.size w W1) := ⟨by rw [hW1]; exact below_alloc (below_alloc (Below.refl _ _) _) _⟩
  have Q1 : Aside0 (W1.heap[p1]? = some (.cells #[.int .i64 (size : Int), .slice (some a) n c] 189 (0, 0))) := ⟨by rw [hW1, hp1]; simp only [al_get, al_size]; rw [if_neg (by omega), if_pos trivial]⟩
  have Q2 : Aside0 (W1.heap[p1 + 1]? = some (.cells #[.int .i64 0, .slice none 0 0] 189 (0, 0))) := ⟨by rw [hW1, hp1]; simp only [al_get, al_size]; rw [if_pos trivial]⟩
  have S1 : Aside0 (w.heap.size = p1 ∧ p1 + 1 < W1.heap.size) := ⟨hp1.symm, by rw [hW1]; simp only [al_size]; omega⟩
  have q0 : W1.cell? ⟨p1, 0, none⟩ = some (.int .i64 (size : Int)) := (blk_cell Q1.out 0).trans rfl
  have q1 : W1.cell? ⟨p1, 1, none⟩ = some (.slice (some a) n c) := (blk_cell Q1.out 1).trans rfl
  have HW1 := Aside0.mk (And.intro hW1 hp1)
  clear hc hw hn hW1 hp1 hl
  by_cases hr : 0 ≤ i ∧ i < size
  · have hd : (decide (0 ≤ i) && decide (i < (size : Int))) = true := by simp [hr]
    have HD := Aside0.mk hd
    obtain ⟨k, rfl⟩ := Int.eq_ofNat_of_zero_le hr.1
    obtain ⟨q, hq⟩ : ∃ q : Nat, q = k / 64 := ⟨_, rfl⟩
    obtain ⟨r, hr'⟩ : ∃ r : Nat, r = k % 64 := ⟨_, rfl⟩
    have hk : k < size := by omega
    have hqn : q < n := by have := HW.out.len; rw [← HN.out] at this; omega
    obtain ⟨m, hm, hm64, htb⟩ := HW.out.bit q (by rw [← HN.out]; exact hqn)
    have e1 : ((k : Int) / 64) = (q : Int) := by omega
    have e2 : ((k : Int) % 64) = (r : Int) := by omega
    have hr64 : r < 64 := by omega
    have hmin : min r 64 = r := by omega
    obtain ⟨P, hP⟩ : ∃ P : Nat, P = 2 ^ r := ⟨_, rfl⟩
    have hP64 : P < 2 ^ 64 := by rw [hP]; exact Nat.pow_lt_pow_right (by omega) hr64
    have e3 : ((2 : Int) ^ r) = (P : Int) := by rw [hP, Int.natCast_pow]; rfl
    have f1 : IntKind.u64.wrap ((2 : Int) ^ r) = (P : Int) := by rw [e3]; exact wu64 _ (by omega) (by exact_mod_cast hP64)
    have f3 : IntKind.u64.wrap ((2 : Int) ^ min r 64) = (P : Int) := by rw [hmin]; exact f1
    have f5 : IntKind.u64.wrap (1 * (2 : Int) ^ min r 64) = (P : Int) := by rw [Int.one_mul]; exact f3
    obtain ⟨V, hV⟩ : ∃ V : Nat, V = m ||| P := ⟨_, rfl⟩
    have hor : Go.bits .or .u64 (m : Int) (P : Int) = (V : Int) := by
      rw [hV]
      exact (bits_nat .u64 64 (by decide) (fun n h0 h1 => wu64 n h0 h1) m P hm64 hP64).2
    have FF := Aside0.mk (And.intro f1 (And.intro f3 (And.intro f5 (And.intro hor (And.intro e1 e2)))))
    have HQ : Aside0 (q = k / 64 ∧ r = k % 64 ∧ V = m ||| 2 ^ r ∧ ws.getD q 0 = (m : Int) ∧ m < 2 ^ 64) := ⟨hq, hr', by rw [hV, hP], hm, hm64⟩
    have HT := Aside0.mk htb
    clear hq hr' hm htb hP hV e3 f1 f3 f5 hor e1 e2 hd hP64 hm64
    go_enter Tryz.func129, Tryz.ntmps129
    go_upto_region 1 with fail
    rw [← HW1.out.1, ← HW1.out.2]
    go_wp2_with fail
    refine (within_any _ size _ _).mono ?_
    rintro _ w2 ⟨rfl, hb2⟩
    have B2 := Aside0.mk hb2
    rw [HD.out]
    clear q0 q1 hb2
    have d0 : w2.cell? ⟨p1, 0, none⟩ = some (.int .i64 (size : Int)) := (blk_cell (blk_below Q1.out B2.out) 0).trans rfl
    have d1 : w2.cell? ⟨p1, 1, none⟩ = some (.slice (some a) n c) := (blk_cell (blk_below Q1.out B2.out) 1).trans rfl
    go_wp2_with fail
    refine (copied_any w2 (size : Int) a n c ws (Kd.C_below HC.out (B1.out.trans (B2.out.mono B1.out.size))) (by omega)).mono ?_
    rintro _ w3 ⟨g, m', rfl, H3⟩
    clear d0 d1
    go_upto_region 4 with fail
    obtain ⟨W4, hW4⟩ : ∃ W, W = w3.alloc (.cells #[.int .i64 (size : Int), .slice (some ⟨g, 0, none⟩) n m'] 189) := ⟨_, rfl⟩
    rw [← hW4]
    obtain ⟨p5, hp5⟩ : ∃ p, p = w3.heap.size := ⟨_, rfl⟩
    have Q5 : Aside0 (W4.heap[p5]? = some (.cells #[.int .i64 (size : Int), .slice (some ⟨g, 0, none⟩) n m'] 189 (0, 0))) := ⟨by rw [hW4, hp5]; exact heap_alloc_new _ _⟩
    have B4 : Aside0 (Below w3.heap.size w3 W4) := ⟨by rw [hW4]; exact below_alloc (Below.refl _ _) _⟩
    have O4 : Aside0 (W4.ownsRow w2.heap.size 126 1 (.slice (some ⟨g, 0, none⟩) n m') n (nums .u64 ws)) := ⟨pw_own_below H3.out.1 B4.out⟩
    have G4 : Aside0 (p5 ≠ g ∧ p1 + 1 ≠ g ∧ p1 + 1 < W1.heap.size ∧ W1.heap.size ≤ w2.heap.size ∧ w2.heap.size ≤ g) := ⟨by
      refine ⟨fun e => ?_, ?_, S1.out.2, B2.out.size, H3.out.2.2⟩
      · have := own_lt H3.out.1 g rfl
        omega
      · have h1 := S1.out.2
        have h2 := B2.out.size
        have h3 := H3.out.2.2
        omega⟩
    rw [← hp5]
    clear hW4 hp5
    obtain ⟨f1, f3, f5, hor, e1, e2⟩ := FF.out
    have z0 : W4.drew.cell? ⟨p5, 1, none⟩ = some (.slice (some ⟨g, 0, none⟩) n m') := (blk_cell Q5.out 1).trans rfl
    have z2 := own_at O4.out (q : Int) (by omega) (by omega)
    rw [Int.toNat_natCast] at z2
    have z1 : W4.drew.cell? ⟨g, q, none⟩ = some (.int .u64 (m : Int)) := by
      rw [← HQ.out.2.2.2.1]
      have h1 := z2.1
      unfold rd at h1
      rw [Int.toNat_natCast] at h1
      exact h1
    have zf : W4.drew.frozen? ⟨g, q, none⟩ = false := z2.2
    have ZC := Aside0.mk (And.intro z1 zf)
    clear z2 zf
    have w1 : IntKind.i64.wrap (q : Int) = (q : Int) := by rw [i64_w]; unfold wrap64; omega
    have w2' : (k : Int).tmod 64 = (r : Int) := by rw [Int.tmod_eq_emod_of_nonneg (by omega)]; exact e2
    have w3' : (k : Int).tdiv 64 = (q : Int) := by rw [Int.tdiv_eq_ediv_of_nonneg (by omega)]; exact e1
    refine start_ (n := 12) (S := fun w' => w'.cell? ⟨p5, 1, none⟩ = some (.slice (some ⟨g, 0, none⟩) n m') ∧ w'.cell? ⟨g, q, none⟩ = some (.int .u64 (m : Int))) (ds := [11]) #[false, false, false, false, false, false, false, false, false, false, false, false] (by kernel_rfl) rfl rfl ⟨z0, z1⟩ (fun hHeld => ?_)
    clear z0 z1
    refine pure_ (i := 0) (N := some 13) (v := ?_) (a' := ?_) #[true, false, false, false, false, false, false, false, false, false, false, false] rfl rfl (by kernel_rfl) (fun _ _ _ h => h) (Or.inl ⟨by rfl, ?_⟩) ?_ ?_
    rotate_left
    · intro w'
      go_simp
      with_reducible rfl
    rotate_left
    · simp only [Act.put, List.setIfInBounds_toArray, List.set_cons_zero, List.set_cons_succ]
      rfl
    refine take_ (i := 1) (N := some 14) (v := ?_) (a' := ?_) #[true, true, false, false, false, false, false, false, false, false, false, false] rfl rfl (by kernel_rfl) (fun _ _ _ h => h) (Or.inl ⟨by rfl, ?_⟩) hHeld ?_ ?_
    rotate_left
    · rintro w' ⟨s0, s1⟩
      go_simp
      with_reducible rfl
    rotate_left
    · simp only [Act.put, List.setIfInBounds_toArray, List.set_cons_zero, List.set_cons_succ]
      rfl
    refine pure_ (i := 2) (N := some 15) (v := ?_) (a' := ?_) #[true, true, true, false, false, false, false, false, false, false, false, false] rfl rfl (by kernel_rfl) (fun _ _ _ h => h) (Or.inl ⟨by rfl, ?_⟩) ?_ ?_
    rotate_left
    · intro w'
      go_simp
      with_reducible rfl
    rotate_left
    · simp only [Act.put, List.setIfInBounds_toArray, List.set_cons_zero, List.set_cons_succ]
      rfl
    refine pure_ (i := 3) (N := some 16) (v := ?_) (a' := ?_) #[true, true, true, true, false, false, false, false, false, false, false, false] rfl rfl (by kernel_rfl) (fun _ _ _ h => h) (Or.inl ⟨by rfl, ?_⟩) ?_ ?_
    rotate_left
    · intro w'
      go_simp
      with_reducible rfl
    rotate_left
    · simp only [Act.put, List.setIfInBounds_toArray, List.set_cons_zero, List.set_cons_succ]
      rfl
    refine pure_ (i := 4) (N := some 17) (v := ?_) (a' := ?_) #[true, true, true, true, true, false, false, false, false, false, false, false] rfl rfl (by kernel_rfl) (fun _ _ _ h => h) (Or.inl ⟨by rfl, ?_⟩) ?_ ?_
    rotate_left
    · intro w'
      go_simp
      with_reducible rfl
    rotate_left
    · simp only [Act.put, List.setIfInBounds_toArray, List.set_cons_zero, List.set_cons_succ]
      rfl
    refine take_ (i := 5) (N := some 18) (v := ?_) (a' := ?_) #[true, true, true, true, true, true, false, false, false, false, false, false] rfl rfl (by kernel_rfl) (fun _ _ _ h => h) (Or.inl ⟨by rfl, ?_⟩) hHeld ?_ ?_
    rotate_left
    · rintro w' ⟨s0, s1⟩
      go_simp
      with_reducible rfl
    rotate_left
    · simp only [Act.put, List.setIfInBounds_toArray, List.set_cons_zero, List.set_cons_succ]
      rfl
    refine pure_ (i := 6) (N := some 19) (v := ?_) (a' := ?_) #[true, true, true, true, true, true, true, false, false, false, false, false] rfl rfl (by kernel_rfl) (fun _ _ _ h => h) (Or.inl ⟨by rfl, ?_⟩) ?_ ?_
    rotate_left
    · intro w'
      go_simp
      with_reducible rfl
    rotate_left
    · simp only [Act.put, List.setIfInBounds_toArray, List.set_cons_zero, List.set_cons_succ]
      rfl
    refine pure_ (i := 7) (N := some 20) (v := ?_) (a' := ?_) #[true, true, true, true, true, true, true, true, false, false, false, false] rfl rfl (by kernel_rfl) (fun _ _ _ h => h) (Or.inl ⟨by rfl, ?_⟩) ?_ ?_
    rotate_left
    · intro w'
      go_simp
      with_reducible rfl
    rotate_left
    · simp only [Act.put, List.setIfInBounds_toArray, List.set_cons_zero, List.set_cons_succ]
      rfl
    refine pure_ (i := 8) (N := some 21) (v := ?_) (a' := ?_) #[true, true, true, true, true, true, true, true, true, false, false, false] rfl rfl (by kernel_rfl) (fun _ _ _ h => h) (Or.inl ⟨by rfl, ?_⟩) ?_ ?_
    rotate_left
    · intro w'
      go_simp
      with_reducible rfl
    rotate_left
    · simp only [Act.put, List.setIfInBounds_toArray, List.set_cons_zero, List.set_cons_succ]
      rfl
    refine pure_ (i := 9) (N := some 22) (v := ?_) (a' := ?_) #[true, true, true, true, true, true, true, true, true, true, false, false] rfl rfl (by kernel_rfl) (fun _ _ _ h => h) (Or.inl ⟨by rfl, ?_⟩) ?_ ?_
    rotate_left
    · intro w'
      go_simp
      with_reducible rfl
    rotate_left
    · simp only [Act.put, List.setIfInBounds_toArray, List.set_cons_zero, List.set_cons_succ]
      rfl
    refine pure_ (i := 10) (N := some 23) (v := ?_) (a' := ?_) #[true, true, true, true, true, true, true, true, true, true, true, false] rfl rfl (by kernel_rfl) (fun _ _ _ h => h) (Or.inl ⟨by rfl, ?_⟩) ?_ ?_
    rotate_left
    · intro w'
      go_simp
      with_reducible rfl
    rotate_left
    · simp only [Act.put, List.setIfInBounds_toArray, List.set_cons_zero, List.set_cons_succ]
      rfl
    refine last_ (i := 11) (N := none) #[true, true, true, true, true, true, true, true, true, true, true, true] rfl rfl (by kernel_rfl) (by decide) (fun K hK => ?_)
    have h0 := ZC.out.1
    have h1 := ZC.out.2
    refine skip_ (w1 := ?_) (by rfl) rfl ?_ ?_
    rotate_left
    · go_simp
      rfl
    refine hK.out _ _ ?_
    clear hK K h0 h1
    refine done_ (by kernel_rfl) ?_
    obtain ⟨W5, hW5⟩ : ∃ W, W = (W4.setCell ⟨g, q, none⟩ (Value.int .u64 (V : Int))).drew := ⟨_, rfl⟩
    rw [← hW5]
    have B40 : Aside0 (Below w.heap.size w W4) := ⟨B1.out.trans ((B2.out.trans ((H3.out.2.1.trans (B4.out.mono H3.out.2.1.size)).mono B2.out.size)).mono B1.out.size)⟩
    have B5 : Aside0 (Below w.heap.size w W5) := ⟨by
      rw [hW5]
      exact below_drew (B40.out.setCell (p := ⟨g, q, none⟩) (show w.heap.size ≤ g by have h1 := G4.out; have h2 := B1.out.size; omega) _)⟩
    have O5 : Aside0 (W5.ownsRow w2.heap.size 126 1 (.slice (some ⟨g, 0, none⟩) n m') n (nums .u64 (ws.set q (V : Int)))) := ⟨by
      rw [hW5]
      have h1 := (own_store O4.out (q : Int) (V : Int)).1
      rw [Int.toNat_natCast] at h1
      exact pw_own_below h1 (below_drew (Below.refl _ _))⟩
    have Q5b : Aside0 (W5.heap[p5]? = some (.cells #[.int .i64 (size : Int), .slice (some ⟨g, 0, none⟩) n m'] 189 (0, 0))) := ⟨by rw [hW5]; exact blk_far Q5.out G4.out.1 _⟩
    have Q2b : Aside0 (W5.heap[p1 + 1]? = some (.cells #[.int .i64 0, .slice none 0 0] 189 (0, 0))) := ⟨by
      rw [hW5]
      exact blk_far (blk_below (blk_below (blk_below Q2.out B2.out) H3.out.2.1) B4.out) G4.out.2.1 _⟩
    clear hW5 hHeld f1 f3 f5 hor e1 e2 w1 w2' w3'
    have d0 : W5.cell? ⟨p5, 0, none⟩ = some (.int .i64 (size : Int)) := (blk_cell Q5b.out 0).trans rfl
    have d1 : W5.cell? ⟨p5, 1, none⟩ = some (.slice (some ⟨g, 0, none⟩) n m') := (blk_cell Q5b.out 1).trans rfl
    have d2 : W5.cell? ⟨p1 + 1, 0, none⟩ = some (.int .i64 0) := (blk_cell Q2b.out 0).trans rfl
    have d3 : W5.cell? ⟨p1 + 1, 1, none⟩ = some (.slice none 0 0) := (blk_cell Q2b.out 1).trans rfl
    have d4 : ∀ j, W5.frozen? ⟨p1 + 1, j, none⟩ = false := fun j => blk_frozen Q2b.out j
    go_wp2_with fail
    clear d0 d1 d2 d3 d4
    obtain ⟨Wz, hWz⟩ : ∃ W, W = (W5.setCell ⟨p1 + 1, 0, none⟩ (Value.int .i64 (size : Int))).setCell ⟨p1 + 1, 1, none⟩ (Value.slice (some ⟨g, 0, none⟩) n m') := ⟨_, rfl⟩
    rw [← hWz]
    have QZ : Wz.heap[p1 + 1]? = some (.cells #[.int .i64 (size : Int), .slice (some ⟨g, 0, none⟩) n m'] 189 (0, 0)) := by
      rw [hWz]
      exact blk_set (blk_set Q2b.out 0 _) 1 _
    have OZ : Wz.ownsRow w2.heap.size 126 1 (.slice (some ⟨g, 0, none⟩) n m') n (nums .u64 (ws.set q (V : Int))) := by
      rw [hWz]
      have hne : some (p1 + 1) ≠ (Value.slice (some ⟨g, 0, none⟩) n m').ownBlock := by
        intro h
        have h2 : p1 + 1 = g := by simpa [Value.ownBlock] using h
        exact G4.out.2.1 h2
      exact own_setCell (p := ⟨p1 + 1, 1, none⟩) (own_setCell (p := ⟨p1 + 1, 0, none⟩) O5.out hne _) hne _
    have BZ : Below w.heap.size w Wz := by
      rw [hWz]
      have h1 : w.heap.size ≤ p1 + 1 := by rw [S1.out.1]; omega
      exact (B5.out.setCell (p := ⟨p1 + 1, 0, none⟩) h1 _).setCell (p := ⟨p1 + 1, 1, none⟩) h1 _
    have r0 : Wz.cell? ⟨p1 + 1, 0, none⟩ = some (.int .i64 (size : Int)) := (blk_cell QZ 0).trans rfl
    have r1 : Wz.cell? ⟨p1 + 1, 1, none⟩ = some (.slice (some ⟨g, 0, none⟩) n m') := (blk_cell QZ 1).trans rfl
    refine bodyPost_ret (v := .agg #[.int .i64 (size : Int), .slice (some ⟨g, 0, none⟩) n m']) (by simp [results, Tryz.results129, go_sem, r0, r1]) rfl ?_
    have hq1 := HQ.out.1
    have hW2 : Wd (ws.set q (V : Int)) size (fun j => p j || decide (j = k)) := by
      rw [hq1]
      exact HW.out.add hk (by rw [← hq1]; exact HQ.out.2.2.2.1) HQ.out.2.2.2.2 (by rw [← HQ.out.2.1]; exact HQ.out.2.2.1)
    have hnl : (ws.set q (V : Int)).length = n := by rw [List.length_set]; exact HN.out.symm
    refine ⟨_, rfl, ⟨⟨g, m', ws.set q (V : Int), by rw [hnl], by rw [hnl]; exact own_lower OZ (Nat.zero_le _), ?_⟩, BZ⟩⟩
    rw [HD.out]
    simp only [Bool.true_and, Int.toNat_natCast]
    exact hW2
  · have hd : (decide (0 ≤ i) && decide (i < (size : Int))) = false := by
      by_cases h0 : 0 ≤ i
      · have : ¬ i < (size : Int) := fun h => hr ⟨h0, h⟩
        simp [this]
      · simp [h0]
    have HD := Aside0.mk hd
    clear hd hr
    go_enter Tryz.func129, Tryz.ntmps129
    go_upto_region 1 with fail
    rw [← HW1.out.1, ← HW1.out.2]
    go_wp2_with fail
    refine (within_any _ size _ _).mono ?_
    rintro _ w2 ⟨rfl, hb2⟩
    have B2 := Aside0.mk hb2
    rw [HD.out]
    clear q0 q1 hb2
    have d0 : w2.cell? ⟨p1, 0, none⟩ = some (.int .i64 (size : Int)) := (blk_cell (blk_below Q1.out B2.out) 0).trans rfl
    have d1 : w2.cell? ⟨p1, 1, none⟩ = some (.slice (some a) n c) := (blk_cell (blk_below Q1.out B2.out) 1).trans rfl
    have d2 : w2.cell? ⟨p1 + 1, 0, none⟩ = some (.int .i64 0) := (blk_cell (blk_below Q2.out B2.out) 0).trans rfl
    have d3 : w2.cell? ⟨p1 + 1, 1, none⟩ = some (.slice none 0 0) := (blk_cell (blk_below Q2.out B2.out) 1).trans rfl
    have d4 : ∀ j, w2.frozen? ⟨p1 + 1, j, none⟩ = false := fun j => blk_frozen (blk_below Q2.out B2.out) j
    go_wp2_with fail
    clear d0 d1 d2 d3 d4
    obtain ⟨Wz, hWz⟩ : ∃ W, W = (w2.setCell ⟨p1 + 1, 0, none⟩ (Value.int .i64 (size : Int))).setCell ⟨p1 + 1, 1, none⟩ (Value.slice (some a) n c) := ⟨_, rfl⟩
    rw [← hWz]
    have QZ : Wz.heap[p1 + 1]? = some (.cells #[.int .i64 (size : Int), .slice (some a) n c] 189 (0, 0)) := by
      rw [hWz]
      exact blk_set (blk_set (blk_below Q2.out B2.out) 0 _) 1 _
    have BZ : Below w.heap.size w Wz := by
      rw [hWz]
      have h1 : w.heap.size ≤ p1 + 1 := by rw [S1.out.1]; omega
      exact ((B1.out.trans (B2.out.mono B1.out.size)).setCell (p := ⟨p1 + 1, 0, none⟩) h1 _).setCell (p := ⟨p1 + 1, 1, none⟩) h1 _
    have r0 : Wz.cell? ⟨p1 + 1, 0, none⟩ = some (.int .i64 (size : Int)) := (blk_cell QZ 0).trans rfl
    have r1 : Wz.cell? ⟨p1 + 1, 1, none⟩ = some (.slice (some a) n c) := (blk_cell QZ 1).trans rfl
    refine bodyPost_ret (v := .agg #[.int .i64 (size : Int), .slice (some a) n c]) (by simp [results, Tryz.results129, go_sem, r0, r1]) rfl ?_
    refine ⟨_, rfl, ⟨?_, BZ⟩⟩
    rw [HD.out]
    simp only [Bool.false_and, Bool.or_false]
    exact HB.out.below BZ
end Go.Proofs.YtofomlpdklhigaaGreatDoor.Hand
