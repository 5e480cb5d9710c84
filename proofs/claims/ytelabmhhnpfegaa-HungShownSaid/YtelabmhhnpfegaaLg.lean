/- HungShown: walked. -/
import Derived.Test.YtelabmhhnpfegaaLh
import Derived.Test.YtelabmhhnpfegaaLk
namespace Go.Proofs.Ytelabmhhnpfegaa.Hand
open Go.RowKit Go.Proofs.YtelabmhhnpfegaaW.PrintWords Go.Proofs.YtelabmhhnpfegaaW.PrintLast Go.Proofs.YtelabmhhnpfegaaW.PrintMore
attribute [local go_sem] max2_int min2_int
/-- The places of one match are free, in the rows ahead of i. -/
def fF (no : Nat → Nat → Bool) (n s i : Nat) : Nat → Nat → Bool := fun a b => if a < i ∧ b = (a + s) % n then false else no a b
theorem fF_zero (no : Nat → Nat → Bool) (n s : Nat) : fF no n s 0 = no := by
  funext a b
  exact if_neg (by omega)
theorem fF_next (no : Nat → Nat → Bool) (n s i : Nat) : fF no n s (i + 1) = upd2 (fF no n s i) i ((i + s) % n) false := by
  funext a b
  unfold upd2 upd
  by_cases ha : a = i
  · subst ha
    rw [if_pos rfl]
    by_cases hb : b = (a + s) % n
    · rw [if_pos hb]
      exact if_pos ⟨Nat.lt_succ_self _, hb⟩
    · rw [if_neg hb]
      exact ite_iff ⟨fun x => absurd x.2 hb, fun x => absurd x.2 hb⟩
  · rw [if_neg ha]
    exact ite_iff ⟨fun x => ⟨by omega, x.2⟩, fun x => ⟨by omega, x.2⟩⟩
theorem fF_pm (no : Nat → Nat → Bool) (n s : Nat) (hs : s < n) : PM n (fF no n s n) (fun i => (i + s) % n) := by
  have md : ∀ i, i < n → (i + s) % n = if i + s < n then i + s else i + s - n := fun i hi => by
    split
    · exact Nat.mod_eq_of_lt (by assumption)
    · rw [Nat.mod_eq_sub_mod (by omega), Nat.mod_eq_of_lt (by omega)]
  refine ⟨⟨fun i hi => Nat.mod_lt _ (by omega), fun i j hi hj e => ?_⟩, fun i hi => if_pos ⟨hi, rfl⟩⟩
  have e' : (i + s) % n = (j + s) % n := e
  rw [md i hi, md j hj] at e'
  split at e' <;> split at e' <;> omega
set_option maxHeartbeats 2000000 in
set_option maxRecDepth 100000 in
theorem shown_law (w : World) (A B : Option Addr) (nc nn cA cB : Nat) (len mlen : Nat → Nat) (c : Nat → Nat → Int) (g : Nat → Nat → Bool) (s0 s1 : Int) (h : RawI w A nc len c) (hg : RawB w B nn mlen g) (h1 : nc ≤ 17592186044416) (h2 : nn ≤ 17592186044416) (hl : ∀ i, i < nc → len i ≤ 17592186044416) (hl2 : ∀ i, i < nn → mlen i ≤ 140737488355328)
    (hs0 : -9223372036854775808 ≤ s0 ∧ s0 ≤ 9223372036854775807) (hcA : nc ≤ cA) (hcB : nn ≤ cB) :
    Calls Try.prog 5 #[.slice A nc cA, .slice B nn cB, .agg #[.int .i64 s0, .int .i64 s1]] w fun e w' => e = .returned (.bool true) ∧ Below w.heap.size w w' := by
  have hu := Try.underlying27
  have hu2 := Try.underlying32
  obtain ⟨nr, hnr⟩ : ∃ m, m = min nc 70 := ⟨_, rfl⟩
  obtain ⟨mr, hmr⟩ : ∃ m, m = min nn 70 := ⟨_, rfl⟩
  have e1 : (if 70 < (nc : Int) then 70 else (nc : Int)) = (nr : Int) := by split <;> omega
  have e2 : (if 70 < (nn : Int) then 70 else (nn : Int)) = (mr : Int) := by split <;> omega
  have l1 : nr ≤ cA := by omega
  have l2 : mr ≤ cB := by omega
  obtain ⟨t, ht⟩ : ∃ t, t = cutT nc nn 64 len mlen c g := ⟨_, rfl⟩
  obtain ⟨n, hn⟩ : ∃ n, n = t.n := ⟨_, rfl⟩
  have hn64 : n ≤ 64 := by
    rw [hn, ht]
    show min nc 64 ≤ 64
    omega
  have TA := Aside0.mk (fun (W : World) (hb : Below w.heap.size w W) => table_sq cA cB h hg 64 (by omega) h1 h2 hl hl2 hb ht hn)
  have TO : Aside0 (TbOk ⟨n, t.c, t.no⟩) := ⟨by
    have := cutT_ok (nc := nc) (nn := nn) (most := 64) (len := len) (mlen := mlen) (c := c) (g := g) (by omega)
    rw [← ht] at this
    rw [hn]
    exact this⟩
  have RW : Aside0 (Raw w A nr B mr len mlen c) := ⟨⟨fun i hi => h i (by omega), fun i hi => by
    obtain ⟨ad, AR, cR, e, hc, _⟩ := hg i (by omega)
    exact ⟨ad, AR, cR, e, hc⟩⟩⟩
  have CR := Aside0.mk (fun (W : World) (hb : Below w.heap.size w W) => check_ref W A B nr mr cA cB len (fun i => if i < mr then mlen i else 0) c (by
    have r := RW.out.below hb
    exact ⟨r.cost, fun i hi => by
      obtain ⟨ad, AR, cR, e, hc⟩ := r.no i hi
      exact ⟨ad, AR, cR, e, by rw [if_pos hi]; exact hc⟩⟩) (fun i hi => hl i (by omega)) (fun i _ => by split; exact hl2 i (by omega); omega) (by omega) (by omega))
  have SN := Aside0.mk (fun (W : World) (hb : Below w.heap.size w W) (hno : ¬ TabMay nr mr len (fun i => if i < mr then mlen i else 0) c) => solve_not W A B nr mr cA cB len (fun i => if i < mr then mlen i else 0) c (by
    have r := RW.out.below hb
    exact ⟨r.cost, fun i hi => by
      obtain ⟨ad, AR, cR, e, hc⟩ := r.no i hi
      exact ⟨ad, AR, cR, e, by rw [if_pos hi]; exact hc⟩⟩) (fun i hi => hl i (by omega)) hno)
  clear hnr hmr ht hn h hg hl hl2 h1 h2 hcA hcB RW
  go_enter Try.func5, Try.ntmps5
  go_upto_region 1 with fail
  go_region
  obtain ⟨W0, hW0⟩ : ∃ W0, W0 = ((w.alloc (.cells #[.int .i64 s0, .int .i64 s1] 42)).alloc (.cells #[.slice A nr cA, .slice B mr cB] 27)).drew := ⟨_, rfl⟩
  try simp only [Int.toNat_natCast]
  rw [← hW0]
  have B0 : Aside0 (Below w.heap.size w W0) := ⟨by rw [hW0]; exact below_drew (below_alloc (below_alloc (Below.refl _ _) _) _)⟩
  have P5 : Aside0 (W0.heap[w.heap.size]? = some (.cells #[.int .i64 s0, .int .i64 s1] 42 (0, 0))) := ⟨by rw [hW0]; exact blk_alloc (heap_alloc_new _ _) _⟩
  have P7 : Aside0 (W0.heap[w.heap.size + 1]? = some (.cells #[.slice A nr cA, .slice B mr cB] 27 (0, 0))) := ⟨by
    rw [hW0]
    simp only [dr_heap, al_get, al_size]
    rw [if_pos trivial]⟩
  have z0 : Aside0 (W0.heap.size = w.heap.size + 2) := ⟨by rw [hW0]; show ((w.alloc _).alloc _).heap.size = _; rw [al_size, al_size]⟩
  clear hW0 e1 e2
  have f0 : W0.cell? ⟨w.heap.size + 1, 0, none⟩ = some (.slice A nr cA) := (blk_cell P7.out 0).trans rfl
  have f1 : W0.cell? ⟨w.heap.size + 1, 1, none⟩ = some (.slice B mr cB) := (blk_cell P7.out 1).trans rfl
  go_wp2_with fail
  refine (CR.out W0 B0.out).mono ?_
  rintro _ w1 ⟨⟨ok0, rfl, hok⟩, rfl⟩
  have HK := Aside0.mk hok
  clear hok
  cases ok0 with
  | true =>
    have b1 := B0
    have P51 := P5
    have z1 : Aside0 (w.heap.size + 2 ≤ w1.heap.size) := ⟨by have := z0.out; omega⟩
    clear B0 P5 z0 P7 CR SN HK
    go_wp2_with fail
    clear f0 f1
    refine (TA.out w1 b1.out).mono ?_
    rintro _ w3 ⟨AC, cC, AN, cN, B1, D1, rfl, Q1⟩
    by_cases hn0 : n = 0
    · have d1 : decide ((n : Int) > 0) = false := decide_eq_false (by omega)
      have d2 : decide (0 < n) = false := decide_eq_false (by omega)
      have PMX : Aside0 (∃ σ, PM n t.no σ) := ⟨fun i => i, ⟨fun i hi => by omega, fun i j hi => by omega⟩, fun i hi => by omega⟩
      clear hn0
      go_wp2_with fail
      have SQ : Aside0 (Sq (w3.alloc (.cells #[.slice AC n cC, .slice AN n cN] 27)) w1.heap.size w3.heap.size AC AN n t.c t.no B1 D1) := ⟨Q1.out.1.alloc (Nat.le_refl _) _⟩
      have BW : Aside0 (Below w.heap.size w (w3.alloc (.cells #[.slice AC n cC, .slice AN n cN] 27))) := ⟨below_alloc (b1.out.trans (Q1.out.2.mono b1.out.size)) _⟩
      have X10 := Aside0.mk (heap_alloc_new w3 (.cells #[.slice AC n cC, .slice AN n cN] 27))
      refine (solve_told _ AC AN cC cN ⟨n, t.c, t.no⟩ SQ.out.tabR ⟨TO.out.n64, TO.out.mag⟩).mono ?_
      rintro _ w4 ⟨a0, l0, c0, x, a2, l2, c2, a3, l3, c3, ok, rfl, R⟩
      obtain rfl : ok = true := by
        cases ok with
        | true => rfl
        | false =>
          obtain ⟨σ, hσ⟩ := PMX.out
          exact absurd hσ (R.out.2.1 σ)
      go_wp2_with fail
      obtain ⟨W4, hW4⟩ : ∃ W4, W4 = w4.alloc (.cells #[.slice a0 l0 c0, .int .i64 x, .slice a2 l2 c2, .slice a3 l3 c3] 32) := ⟨_, rfl⟩
      rw [← hW4]
      have b44 : Aside0 (Below w4.heap.size w4 W4) := ⟨by rw [hW4]; exact below_alloc (Below.refl _ _) _⟩
      have X13 : Aside0 (W4.heap[w4.heap.size]? = some (.cells #[.slice a0 l0 c0, .int .i64 x, .slice a2 l2 c2, .slice a3 l3 c3] 32 (0, 0))) := ⟨by rw [hW4]; exact heap_alloc_new _ _⟩
      have bw4 : Aside0 (Below w.heap.size w W4) := ⟨BW.out.trans ((R.out.1.trans (b44.out.mono R.out.1.size)).mono BW.out.size)⟩
      have X104 := Aside0.mk (blk_below (blk_below X10.out R.out.1) b44.out)
      clear hW4 SQ BW PMX X10
      refine (wakes_any W4).mono ?_
      rintro _ w5 ⟨rfl, b5⟩
      have bw5 : Aside0 (Below w.heap.size w w5) := ⟨bw4.out.trans (b5.mono bw4.out.size)⟩
      have SC := Aside0.mk (R.out.2.2.2 trivial w5 (b44.out.trans (b5.mono b44.out.size)))
      have X105 := Aside0.mk (blk_below X104.out b5)
      have X135 := Aside0.mk (blk_below X13.out b5)
      clear b5 bw4 b44 X104 X13 R
      have f0 : w5.cell? ⟨w3.heap.size, 0, none⟩ = some (.slice AC n cC) := (blk_cell X105.out 0).trans rfl
      have f1 : w5.cell? ⟨w3.heap.size, 1, none⟩ = some (.slice AN n cN) := (blk_cell X105.out 1).trans rfl
      have g0 : w5.cell? ⟨w4.heap.size, 0, none⟩ = some (.slice a0 l0 c0) := (blk_cell X135.out 0).trans rfl
      have g1 : w5.cell? ⟨w4.heap.size, 1, none⟩ = some (.int .i64 x) := (blk_cell X135.out 1).trans rfl
      have g2 : w5.cell? ⟨w4.heap.size, 2, none⟩ = some (.slice a2 l2 c2) := (blk_cell X135.out 2).trans rfl
      have g3 : w5.cell? ⟨w4.heap.size, 3, none⟩ = some (.slice a3 l3 c3) := (blk_cell X135.out 3).trans rfl
      go_wp2_with fail
      refine SC.out.mono ?_
      rintro _ w6 ⟨rfl, b6⟩
      have bw6 : Aside0 (Below w.heap.size w w6) := ⟨bw5.out.trans (b6.mono bw5.out.size)⟩
      clear b6 f0 f1 g0 g1 g2 g3
      go_wp2_with fail
      go_ret
      exact ⟨rfl, bw6.out⟩
    · have d1 : decide ((n : Int) > 0) = true := decide_eq_true (by omega)
      have d2 : decide (0 < n) = true := decide_eq_true (by omega)
      go_wp2_with fail
      obtain ⟨W3, hW3⟩ : ∃ W3, W3 = w3.alloc (.cells #[.slice AC n cC, .slice AN n cN] 27) := ⟨_, rfl⟩
      rw [← hW3]
      obtain ⟨s, hs⟩ : ∃ s, s = (max (0 : Int) s0).toNat % n := ⟨_, rfl⟩
      have hsn : s < n := by rw [hs]; exact Nat.mod_lt _ (by omega)
      have K0 : Aside0 (Sq W3 w1.heap.size w3.heap.size AC AN n t.c (fF t.no n s 0) B1 D1 ∧ W3.heap[w3.heap.size]? = some (.cells #[.slice AC n cC, .slice AN n cN] 27 (0, 0)) ∧ W3.heap[w.heap.size]? = some (.cells #[.int .i64 s0, .int .i64 s1] 42 (0, 0)) ∧ Below w.heap.size w W3) := ⟨by
        rw [hW3, fF_zero]
        exact ⟨Q1.out.1.alloc (Nat.le_refl _) _, heap_alloc_new _ _, blk_alloc (blk_below P51.out Q1.out.2) _, below_alloc (b1.out.trans (Q1.out.2.mono b1.out.size)) _⟩⟩
      have Z := Aside0.mk (And.intro z1.out Q1.out.2.size)
      have HS := Aside0.mk hs
      have L0 := Aside0.mk b1.out.size
      clear hW3 Q1 P51 b1 z1 hs d1 d2
      go_loopw [47] (fun v47 wr => ∃ i : Nat, i ≤ n ∧ v47 = .int .i64 i ∧ Aside0 (Sq wr w1.heap.size w3.heap.size AC AN n t.c (fF t.no n s i) B1 D1 ∧ wr.heap[w3.heap.size]? = some (.cells #[.slice AC n cC, .slice AN n cN] 27 (0, 0)) ∧ wr.heap[w.heap.size]? = some (.cells #[.int .i64 s0, .int .i64 s1] 42 (0, 0)) ∧ Below w.heap.size w wr)) (fun v _ => n - (intOf v).toNat)
      case atStart => exact ⟨0, Nat.zero_le _, rfl, K0⟩
      case round =>
        clear K0
        obtain ⟨i, hi, rfl, KK⟩ := hrel
        by_cases hlt : i < n
        · obtain ⟨gN, rfl, f2⟩ := KK.out.1.rowN hlt
          have f1 : wr.drew.cell? ⟨w3.heap.size, 1, none⟩ = some (.slice (some ⟨gN, 0, none⟩) n cN) := (blk_cell KK.out.2.1 1).trans rfl
          have f3 : wr.drew.cell? ⟨w.heap.size, 0, none⟩ = some (.int .i64 s0) := (blk_cell KK.out.2.2.1 0).trans rfl
          obtain ⟨q, hqd⟩ : ∃ q, q = (i + s) % n := ⟨_, rfl⟩
          have hq : q < n := by rw [hqd]; exact Nat.mod_lt _ (by omega)
          have HQ := Aside0.mk hqd
          have k1 : (if 0 < s0 then s0 else 0).tmod (n : Int) = (s : Int) := by
            have e : (if 0 < s0 then s0 else 0) = (((max (0 : Int) s0).toNat : Nat) : Int) := by split <;> omega
            rw [e, HS.out, Int.tmod_eq_emod_of_nonneg (Int.natCast_nonneg _)]
            rfl
          have k2 : IntKind.i64.wrap ((i : Int) + (s : Int)) = (i : Int) + (s : Int) := IntWalk.i64_in _ (by omega)
          have k3 : ((i : Int) + (s : Int)).tmod (n : Int) = (q : Int) := by
            rw [hqd, ← Int.natCast_add, Int.tmod_eq_emod_of_nonneg (Int.natCast_nonneg _)]
            rfl
          clear hqd
          go_upto_region 12 with fail
          refine start_ (n := 16) (S := fun w' => w'.cell? ⟨w3.heap.size, 1, none⟩ = some (.slice (some ⟨gN, 0, none⟩) n cN) ∧ w'.cell? ⟨gN, i, none⟩ = some (.slice (some ⟨D1 i, 0, none⟩) n n) ∧ w'.cell? ⟨w.heap.size, 0, none⟩ = some (.int .i64 s0)) (ds := [15]) #[false, false, false, false, false, false, false, false, false, false, false, false, false, false, false, false] (by kernel_rfl) rfl rfl ⟨f1, f2, f3⟩ (fun hHeld => ?_)
          clear f1 f2 f3
          refine pure_ (i := 0) (N := some 50) (v := ?_) (a' := ?_) #[true, false, false, false, false, false, false, false, false, false, false, false, false, false, false, false] rfl rfl (by kernel_rfl) (fun _ _ _ h => h) (Or.inl ⟨by rfl, ?_⟩) ?_ ?_
          rotate_left
          · intro w'
            go_simp
            with_reducible rfl
          rotate_left
          · simp only [Act.put, List.setIfInBounds_toArray, List.set_cons_zero, List.set_cons_succ]
            rfl
          refine take_ (i := 1) (N := some 51) (v := ?_) (a' := ?_) #[true, true, false, false, false, false, false, false, false, false, false, false, false, false, false, false] rfl rfl (by kernel_rfl) (fun _ _ _ h => h) (Or.inl ⟨by rfl, ?_⟩) hHeld ?_ ?_
          rotate_left
          · rintro w' ⟨s0, s1, s2⟩
            go_simp
            with_reducible rfl
          rotate_left
          · simp only [Act.put, List.setIfInBounds_toArray, List.set_cons_zero, List.set_cons_succ]
            rfl
          refine pure_ (i := 2) (N := some 52) (v := ?_) (a' := ?_) #[true, true, true, false, false, false, false, false, false, false, false, false, false, false, false, false] rfl rfl (by kernel_rfl) (fun _ _ _ h => h) (Or.inl ⟨by rfl, ?_⟩) ?_ ?_
          rotate_left
          · intro w'
            go_simp
            with_reducible rfl
          rotate_left
          · simp only [Act.put, List.setIfInBounds_toArray, List.set_cons_zero, List.set_cons_succ]
            rfl
          refine pure_ (i := 3) (N := some 53) (v := ?_) (a' := ?_) #[true, true, true, true, false, false, false, false, false, false, false, false, false, false, false, false] rfl rfl (by kernel_rfl) (fun _ _ _ h => h) (Or.inl ⟨by rfl, ?_⟩) ?_ ?_
          rotate_left
          · intro w'
            go_simp
            with_reducible rfl
          rotate_left
          · simp only [Act.put, List.setIfInBounds_toArray, List.set_cons_zero, List.set_cons_succ]
            rfl
          refine take_ (i := 4) (N := some 54) (v := ?_) (a' := ?_) #[true, true, true, true, true, false, false, false, false, false, false, false, false, false, false, false] rfl rfl (by kernel_rfl) (fun _ _ _ h => h) (Or.inl ⟨by rfl, ?_⟩) hHeld ?_ ?_
          rotate_left
          · rintro w' ⟨s0, s1, s2⟩
            go_simp
            with_reducible rfl
          rotate_left
          · simp only [Act.put, List.setIfInBounds_toArray, List.set_cons_zero, List.set_cons_succ]
            rfl
          refine pure_ (i := 5) (N := some 55) (v := ?_) (a' := ?_) #[true, true, true, true, true, true, false, false, false, false, false, false, false, false, false, false] rfl rfl (by kernel_rfl) (fun _ _ _ h => h) (Or.inl ⟨by rfl, ?_⟩) ?_ ?_
          rotate_left
          · intro w'
            go_simp
            with_reducible rfl
          rotate_left
          · simp only [Act.put, List.setIfInBounds_toArray, List.set_cons_zero, List.set_cons_succ]
            rfl
          refine pure_ (i := 6) (N := some 56) (v := ?_) (a' := ?_) #[true, true, true, true, true, true, true, false, false, false, false, false, false, false, false, false] rfl rfl (by kernel_rfl) (fun _ _ _ h => h) (Or.inl ⟨by rfl, ?_⟩) ?_ ?_
          rotate_left
          · intro w'
            go_simp
            with_reducible rfl
          rotate_left
          · simp only [Act.put, List.setIfInBounds_toArray, List.set_cons_zero, List.set_cons_succ]
            rfl
          refine take_ (i := 7) (N := some 57) (v := ?_) (a' := ?_) #[true, true, true, true, true, true, true, true, false, false, false, false, false, false, false, false] rfl rfl (by kernel_rfl) (fun _ _ _ h => h) (Or.inl ⟨by rfl, ?_⟩) hHeld ?_ ?_
          rotate_left
          · rintro w' ⟨s0, s1, s2⟩
            go_simp
            with_reducible rfl
          rotate_left
          · simp only [Act.put, List.setIfInBounds_toArray, List.set_cons_zero, List.set_cons_succ]
            rfl
          refine pure_ (i := 8) (N := some 58) (v := ?_) (a' := ?_) #[true, true, true, true, true, true, true, true, true, false, false, false, false, false, false, false] rfl rfl (by kernel_rfl) (fun _ _ _ h => h) (Or.inl ⟨by rfl, ?_⟩) ?_ ?_
          rotate_left
          · intro w'
            go_simp
            with_reducible rfl
          rotate_left
          · simp only [Act.put, List.setIfInBounds_toArray, List.set_cons_zero, List.set_cons_succ]
            rfl
          refine pure_ (i := 9) (N := some 59) (v := ?_) (a' := ?_) #[true, true, true, true, true, true, true, true, true, true, false, false, false, false, false, false] rfl rfl (by kernel_rfl) (fun _ _ _ h => h) (Or.inl ⟨by rfl, ?_⟩) ?_ ?_
          rotate_left
          · intro w'
            go_simp
            with_reducible rfl
          rotate_left
          · simp only [Act.put, List.setIfInBounds_toArray, List.set_cons_zero, List.set_cons_succ]
            rfl
          refine pure_ (i := 10) (N := some 60) (v := ?_) (a' := ?_) #[true, true, true, true, true, true, true, true, true, true, true, false, false, false, false, false] rfl rfl (by kernel_rfl) (fun _ _ _ h => h) (Or.inl ⟨by rfl, ?_⟩) ?_ ?_
          rotate_left
          · intro w'
            go_simp
            with_reducible rfl
          rotate_left
          · simp only [Act.put, List.setIfInBounds_toArray, List.set_cons_zero, List.set_cons_succ]
            rfl
          refine pure_ (i := 11) (N := some 61) (v := ?_) (a' := ?_) #[true, true, true, true, true, true, true, true, true, true, true, true, false, false, false, false] rfl rfl (by kernel_rfl) (fun _ _ _ h => h) (Or.inl ⟨by rfl, ?_⟩) ?_ ?_
          rotate_left
          · intro w'
            go_simp
            with_reducible rfl
          rotate_left
          · simp only [Act.put, List.setIfInBounds_toArray, List.set_cons_zero, List.set_cons_succ]
            rfl
          refine pure_ (i := 12) (N := some 62) (v := ?_) (a' := ?_) #[true, true, true, true, true, true, true, true, true, true, true, true, true, false, false, false] rfl rfl (by kernel_rfl) (fun _ _ _ h => h) (Or.inl ⟨by rfl, ?_⟩) ?_ ?_
          rotate_left
          · intro w'
            go_simp
            with_reducible rfl
          rotate_left
          · simp only [Act.put, List.setIfInBounds_toArray, List.set_cons_zero, List.set_cons_succ]
            rfl
          refine pure_ (i := 13) (N := some 63) (v := ?_) (a' := ?_) #[true, true, true, true, true, true, true, true, true, true, true, true, true, true, false, false] rfl rfl (by kernel_rfl) (fun _ _ _ h => h) (Or.inl ⟨by rfl, ?_⟩) ?_ ?_
          rotate_left
          · intro w'
            go_simp
            with_reducible rfl
          rotate_left
          · simp only [Act.put, List.setIfInBounds_toArray, List.set_cons_zero, List.set_cons_succ]
            rfl
          refine pure_ (i := 14) (N := some 64) (v := ?_) (a' := ?_) #[true, true, true, true, true, true, true, true, true, true, true, true, true, true, true, false] rfl rfl (by kernel_rfl) (fun _ _ _ h => h) (Or.inl ⟨by rfl, ?_⟩) ?_ ?_
          rotate_left
          · intro w'
            go_simp
            with_reducible rfl
          rotate_left
          · simp only [Act.put, List.setIfInBounds_toArray, List.set_cons_zero, List.set_cons_succ]
            rfl
          refine last_ (i := 15) (N := none) #[true, true, true, true, true, true, true, true, true, true, true, true, true, true, true, true] rfl rfl (by kernel_rfl) (by decide) (fun K hK => ?_)
          have h0 := (KK.out.1.bb i hlt).2.c hq
          have h1 := (KK.out.1.bb i hlt).2.z q
          refine skip_ (w1 := ?_) (by rfl) rfl ?_ ?_
          rotate_left
          · go_simp
            rfl
          refine hK.out _ _ ?_
          clear hK K h0 h1
          refine done_ (by kernel_rfl) ?_
          have KD := KK.out.1.bb i hlt
          have K2 : Aside0 (Sq (wr.setCell ⟨D1 i, q, none⟩ (.bool false)).drew w1.heap.size w3.heap.size AC (some ⟨gN, 0, none⟩) n t.c (fF t.no n s (i + 1)) B1 D1) := ⟨by rw [fF_next, ← HQ.out]; exact (KK.out.1.setN hlt q false).drew⟩
          go_wp2_with fail
          go_roundw
          case measure => simp [intOf]; omega
          case rel =>
            refine ⟨i + 1, by omega, by go_num, ⟨K2.out, ?_, ?_, ?_⟩⟩
            · exact blk_far KK.out.2.1 (fun e => by have e' : w3.heap.size = D1 i := e; have := KD.1.2; omega) _
            · exact blk_far KK.out.2.2.1 (fun e => by have e' : w.heap.size = D1 i := e; have := KD.1.1; have := Z.out.1; omega) _
            · exact (KK.out.2.2.2.setCell (by show w.heap.size ≤ D1 i; have := KD.1.1; have := L0.out; omega) _) |> below_drew
        · obtain rfl : n = i := by omega
          have SQ : Aside0 (Sq wr w1.heap.size w3.heap.size AC AN n t.c (fF t.no n s n) B1 D1) := ⟨KK.out.1⟩
          have X10 : Aside0 (wr.heap[w3.heap.size]? = some (.cells #[.slice AC n cC, .slice AN n cN] 27 (0, 0))) := ⟨KK.out.2.1⟩
          have BW : Aside0 (Below w.heap.size w wr) := ⟨KK.out.2.2.2⟩
          have PMX : Aside0 (∃ σ, PM n (fF t.no n s n) σ) := ⟨_, fF_pm t.no n s hsn⟩
          have u0 : wr.cell? ⟨w3.heap.size, 0, none⟩ = some (.slice AC n cC) := (blk_cell X10.out 0).trans rfl
          have u1 : wr.cell? ⟨w3.heap.size, 1, none⟩ = some (.slice AN n cN) := (blk_cell X10.out 1).trans rfl
          clear KK
          go_wp2_with fail
          clear u0 u1
          refine (solve_told wr AC AN cC cN ⟨n, t.c, fF t.no n s n⟩ SQ.out.tabR ⟨TO.out.n64, TO.out.mag⟩).mono ?_
          rintro _ w4 ⟨a0, l0, c0, x, a2, l2, c2, a3, l3, c3, ok, rfl, R⟩
          obtain rfl : ok = true := by
            cases ok with
            | true => rfl
            | false =>
              obtain ⟨σ, hσ⟩ := PMX.out
              exact absurd hσ (R.out.2.1 σ)
          go_wp2_with fail
          obtain ⟨W4, hW4⟩ : ∃ W4, W4 = w4.alloc (.cells #[.slice a0 l0 c0, .int .i64 x, .slice a2 l2 c2, .slice a3 l3 c3] 32) := ⟨_, rfl⟩
          rw [← hW4]
          have b44 : Aside0 (Below w4.heap.size w4 W4) := ⟨by rw [hW4]; exact below_alloc (Below.refl _ _) _⟩
          have X13 : Aside0 (W4.heap[w4.heap.size]? = some (.cells #[.slice a0 l0 c0, .int .i64 x, .slice a2 l2 c2, .slice a3 l3 c3] 32 (0, 0))) := ⟨by rw [hW4]; exact heap_alloc_new _ _⟩
          have bw4 : Aside0 (Below w.heap.size w W4) := ⟨BW.out.trans ((R.out.1.trans (b44.out.mono R.out.1.size)).mono BW.out.size)⟩
          have X104 := Aside0.mk (blk_below (blk_below X10.out R.out.1) b44.out)
          clear hW4 SQ BW PMX X10
          refine (wakes_any W4).mono ?_
          rintro _ w5 ⟨rfl, b5⟩
          have bw5 : Aside0 (Below w.heap.size w w5) := ⟨bw4.out.trans (b5.mono bw4.out.size)⟩
          have SC := Aside0.mk (R.out.2.2.2 trivial w5 (b44.out.trans (b5.mono b44.out.size)))
          have X105 := Aside0.mk (blk_below X104.out b5)
          have X135 := Aside0.mk (blk_below X13.out b5)
          clear b5 bw4 b44 X104 X13 R
          have f0 : w5.cell? ⟨w3.heap.size, 0, none⟩ = some (.slice AC n cC) := (blk_cell X105.out 0).trans rfl
          have f1 : w5.cell? ⟨w3.heap.size, 1, none⟩ = some (.slice AN n cN) := (blk_cell X105.out 1).trans rfl
          have g0 : w5.cell? ⟨w4.heap.size, 0, none⟩ = some (.slice a0 l0 c0) := (blk_cell X135.out 0).trans rfl
          have g1 : w5.cell? ⟨w4.heap.size, 1, none⟩ = some (.int .i64 x) := (blk_cell X135.out 1).trans rfl
          have g2 : w5.cell? ⟨w4.heap.size, 2, none⟩ = some (.slice a2 l2 c2) := (blk_cell X135.out 2).trans rfl
          have g3 : w5.cell? ⟨w4.heap.size, 3, none⟩ = some (.slice a3 l3 c3) := (blk_cell X135.out 3).trans rfl
          go_wp2_with fail
          refine SC.out.mono ?_
          rintro _ w6 ⟨rfl, b6⟩
          have bw6 : Aside0 (Below w.heap.size w w6) := ⟨bw5.out.trans (b6.mono bw5.out.size)⟩
          clear b6 f0 f1 g0 g1 g2 g3
          go_wp2_with fail
          go_ret
          exact ⟨rfl, bw6.out⟩
  | false =>
    have NO : ¬ TabMay nr mr len (fun i => if i < mr then mlen i else 0) c := fun x => by
      have := HK.out.2 x
      cases this
    have SN2 := Aside0.mk (SN.out w1 B0.out NO)
    clear NO HK
    go_wp2_with fail
    refine SN2.out.mono ?_
    rintro _ w2 ⟨rfl, b2⟩
    unfold noMatch
    clear SN2
    go_wp2_with fail
    obtain ⟨W2, hW2⟩ : ∃ W2, W2 = w2.alloc (.cells #[.slice none 0 0, .int .i64 0, .slice none 0 0, .slice none 0 0] 32) := ⟨_, rfl⟩
    rw [← hW2]
    have b3 : Aside0 (Below w1.heap.size w1 W2) := ⟨by rw [hW2]; exact below_alloc b2.out _⟩
    have b1 : Aside0 (Below w.heap.size w W2) := ⟨B0.out.trans (b3.out.mono B0.out.size)⟩
    have P51 := Aside0.mk (blk_below P5.out b3.out)
    have z1 : Aside0 (w.heap.size + 2 ≤ W2.heap.size) := ⟨by have := b3.out.size; have := z0.out; omega⟩
    clear B0 P5 z0 P7 CR SN b2 b3 hW2 f0 f1
    refine (TA.out W2 b1.out).mono ?_
    rintro _ w3 ⟨AC, cC, AN, cN, B1, D1, rfl, Q1⟩
    by_cases hn0 : n = 0
    · have d1 : decide ((n : Int) > 0) = false := decide_eq_false (by omega)
      have d2 : decide (0 < n) = false := decide_eq_false (by omega)
      have PMX : Aside0 (∃ σ, PM n t.no σ) := ⟨fun i => i, ⟨fun i hi => by omega, fun i j hi => by omega⟩, fun i hi => by omega⟩
      clear hn0
      go_wp2_with fail
      have SQ : Aside0 (Sq (w3.alloc (.cells #[.slice AC n cC, .slice AN n cN] 27)) W2.heap.size w3.heap.size AC AN n t.c t.no B1 D1) := ⟨Q1.out.1.alloc (Nat.le_refl _) _⟩
      have BW : Aside0 (Below w.heap.size w (w3.alloc (.cells #[.slice AC n cC, .slice AN n cN] 27))) := ⟨below_alloc (b1.out.trans (Q1.out.2.mono b1.out.size)) _⟩
      have X10 := Aside0.mk (heap_alloc_new w3 (.cells #[.slice AC n cC, .slice AN n cN] 27))
      refine (solve_told _ AC AN cC cN ⟨n, t.c, t.no⟩ SQ.out.tabR ⟨TO.out.n64, TO.out.mag⟩).mono ?_
      rintro _ w4 ⟨a0, l0, c0, x, a2, l2, c2, a3, l3, c3, ok, rfl, R⟩
      obtain rfl : ok = true := by
        cases ok with
        | true => rfl
        | false =>
          obtain ⟨σ, hσ⟩ := PMX.out
          exact absurd hσ (R.out.2.1 σ)
      go_wp2_with fail
      obtain ⟨W4, hW4⟩ : ∃ W4, W4 = w4.alloc (.cells #[.slice a0 l0 c0, .int .i64 x, .slice a2 l2 c2, .slice a3 l3 c3] 32) := ⟨_, rfl⟩
      rw [← hW4]
      have b44 : Aside0 (Below w4.heap.size w4 W4) := ⟨by rw [hW4]; exact below_alloc (Below.refl _ _) _⟩
      have X13 : Aside0 (W4.heap[w4.heap.size]? = some (.cells #[.slice a0 l0 c0, .int .i64 x, .slice a2 l2 c2, .slice a3 l3 c3] 32 (0, 0))) := ⟨by rw [hW4]; exact heap_alloc_new _ _⟩
      have bw4 : Aside0 (Below w.heap.size w W4) := ⟨BW.out.trans ((R.out.1.trans (b44.out.mono R.out.1.size)).mono BW.out.size)⟩
      have X104 := Aside0.mk (blk_below (blk_below X10.out R.out.1) b44.out)
      clear hW4 SQ BW PMX X10
      refine (wakes_any W4).mono ?_
      rintro _ w5 ⟨rfl, b5⟩
      have bw5 : Aside0 (Below w.heap.size w w5) := ⟨bw4.out.trans (b5.mono bw4.out.size)⟩
      have SC := Aside0.mk (R.out.2.2.2 trivial w5 (b44.out.trans (b5.mono b44.out.size)))
      have X105 := Aside0.mk (blk_below X104.out b5)
      have X135 := Aside0.mk (blk_below X13.out b5)
      clear b5 bw4 b44 X104 X13 R
      have f0 : w5.cell? ⟨w3.heap.size, 0, none⟩ = some (.slice AC n cC) := (blk_cell X105.out 0).trans rfl
      have f1 : w5.cell? ⟨w3.heap.size, 1, none⟩ = some (.slice AN n cN) := (blk_cell X105.out 1).trans rfl
      have g0 : w5.cell? ⟨w4.heap.size, 0, none⟩ = some (.slice a0 l0 c0) := (blk_cell X135.out 0).trans rfl
      have g1 : w5.cell? ⟨w4.heap.size, 1, none⟩ = some (.int .i64 x) := (blk_cell X135.out 1).trans rfl
      have g2 : w5.cell? ⟨w4.heap.size, 2, none⟩ = some (.slice a2 l2 c2) := (blk_cell X135.out 2).trans rfl
      have g3 : w5.cell? ⟨w4.heap.size, 3, none⟩ = some (.slice a3 l3 c3) := (blk_cell X135.out 3).trans rfl
      go_wp2_with fail
      refine SC.out.mono ?_
      rintro _ w6 ⟨rfl, b6⟩
      have bw6 : Aside0 (Below w.heap.size w w6) := ⟨bw5.out.trans (b6.mono bw5.out.size)⟩
      clear b6 f0 f1 g0 g1 g2 g3
      go_wp2_with fail
      go_ret
      exact ⟨rfl, bw6.out⟩
    · have d1 : decide ((n : Int) > 0) = true := decide_eq_true (by omega)
      have d2 : decide (0 < n) = true := decide_eq_true (by omega)
      go_wp2_with fail
      obtain ⟨W3, hW3⟩ : ∃ W3, W3 = w3.alloc (.cells #[.slice AC n cC, .slice AN n cN] 27) := ⟨_, rfl⟩
      rw [← hW3]
      obtain ⟨s, hs⟩ : ∃ s, s = (max (0 : Int) s0).toNat % n := ⟨_, rfl⟩
      have hsn : s < n := by rw [hs]; exact Nat.mod_lt _ (by omega)
      have K0 : Aside0 (Sq W3 W2.heap.size w3.heap.size AC AN n t.c (fF t.no n s 0) B1 D1 ∧ W3.heap[w3.heap.size]? = some (.cells #[.slice AC n cC, .slice AN n cN] 27 (0, 0)) ∧ W3.heap[w.heap.size]? = some (.cells #[.int .i64 s0, .int .i64 s1] 42 (0, 0)) ∧ Below w.heap.size w W3) := ⟨by
        rw [hW3, fF_zero]
        exact ⟨Q1.out.1.alloc (Nat.le_refl _) _, heap_alloc_new _ _, blk_alloc (blk_below P51.out Q1.out.2) _, below_alloc (b1.out.trans (Q1.out.2.mono b1.out.size)) _⟩⟩
      have Z := Aside0.mk (And.intro z1.out Q1.out.2.size)
      have HS := Aside0.mk hs
      have L0 := Aside0.mk b1.out.size
      clear hW3 Q1 P51 b1 z1 hs d1 d2
      go_loopw [47] (fun v47 wr => ∃ i : Nat, i ≤ n ∧ v47 = .int .i64 i ∧ Aside0 (Sq wr W2.heap.size w3.heap.size AC AN n t.c (fF t.no n s i) B1 D1 ∧ wr.heap[w3.heap.size]? = some (.cells #[.slice AC n cC, .slice AN n cN] 27 (0, 0)) ∧ wr.heap[w.heap.size]? = some (.cells #[.int .i64 s0, .int .i64 s1] 42 (0, 0)) ∧ Below w.heap.size w wr)) (fun v _ => n - (intOf v).toNat)
      case atStart => exact ⟨0, Nat.zero_le _, rfl, K0⟩
      case round =>
        clear K0
        obtain ⟨i, hi, rfl, KK⟩ := hrel
        by_cases hlt : i < n
        · obtain ⟨gN, rfl, f2⟩ := KK.out.1.rowN hlt
          have f1 : wr.drew.cell? ⟨w3.heap.size, 1, none⟩ = some (.slice (some ⟨gN, 0, none⟩) n cN) := (blk_cell KK.out.2.1 1).trans rfl
          have f3 : wr.drew.cell? ⟨w.heap.size, 0, none⟩ = some (.int .i64 s0) := (blk_cell KK.out.2.2.1 0).trans rfl
          obtain ⟨q, hqd⟩ : ∃ q, q = (i + s) % n := ⟨_, rfl⟩
          have hq : q < n := by rw [hqd]; exact Nat.mod_lt _ (by omega)
          have HQ := Aside0.mk hqd
          have k1 : (if 0 < s0 then s0 else 0).tmod (n : Int) = (s : Int) := by
            have e : (if 0 < s0 then s0 else 0) = (((max (0 : Int) s0).toNat : Nat) : Int) := by split <;> omega
            rw [e, HS.out, Int.tmod_eq_emod_of_nonneg (Int.natCast_nonneg _)]
            rfl
          have k2 : IntKind.i64.wrap ((i : Int) + (s : Int)) = (i : Int) + (s : Int) := IntWalk.i64_in _ (by omega)
          have k3 : ((i : Int) + (s : Int)).tmod (n : Int) = (q : Int) := by
            rw [hqd, ← Int.natCast_add, Int.tmod_eq_emod_of_nonneg (Int.natCast_nonneg _)]
            rfl
          clear hqd
          go_upto_region 12 with fail
          refine start_ (n := 16) (S := fun w' => w'.cell? ⟨w3.heap.size, 1, none⟩ = some (.slice (some ⟨gN, 0, none⟩) n cN) ∧ w'.cell? ⟨gN, i, none⟩ = some (.slice (some ⟨D1 i, 0, none⟩) n n) ∧ w'.cell? ⟨w.heap.size, 0, none⟩ = some (.int .i64 s0)) (ds := [15]) #[false, false, false, false, false, false, false, false, false, false, false, false, false, false, false, false] (by kernel_rfl) rfl rfl ⟨f1, f2, f3⟩ (fun hHeld => ?_)
          clear f1 f2 f3
          refine pure_ (i := 0) (N := some 50) (v := ?_) (a' := ?_) #[true, false, false, false, false, false, false, false, false, false, false, false, false, false, false, false] rfl rfl (by kernel_rfl) (fun _ _ _ h => h) (Or.inl ⟨by rfl, ?_⟩) ?_ ?_
          rotate_left
          · intro w'
            go_simp
            with_reducible rfl
          rotate_left
          · simp only [Act.put, List.setIfInBounds_toArray, List.set_cons_zero, List.set_cons_succ]
            rfl
          refine take_ (i := 1) (N := some 51) (v := ?_) (a' := ?_) #[true, true, false, false, false, false, false, false, false, false, false, false, false, false, false, false] rfl rfl (by kernel_rfl) (fun _ _ _ h => h) (Or.inl ⟨by rfl, ?_⟩) hHeld ?_ ?_
          rotate_left
          · rintro w' ⟨s0, s1, s2⟩
            go_simp
            with_reducible rfl
          rotate_left
          · simp only [Act.put, List.setIfInBounds_toArray, List.set_cons_zero, List.set_cons_succ]
            rfl
          refine pure_ (i := 2) (N := some 52) (v := ?_) (a' := ?_) #[true, true, true, false, false, false, false, false, false, false, false, false, false, false, false, false] rfl rfl (by kernel_rfl) (fun _ _ _ h => h) (Or.inl ⟨by rfl, ?_⟩) ?_ ?_
          rotate_left
          · intro w'
            go_simp
            with_reducible rfl
          rotate_left
          · simp only [Act.put, List.setIfInBounds_toArray, List.set_cons_zero, List.set_cons_succ]
            rfl
          refine pure_ (i := 3) (N := some 53) (v := ?_) (a' := ?_) #[true, true, true, true, false, false, false, false, false, false, false, false, false, false, false, false] rfl rfl (by kernel_rfl) (fun _ _ _ h => h) (Or.inl ⟨by rfl, ?_⟩) ?_ ?_
          rotate_left
          · intro w'
            go_simp
            with_reducible rfl
          rotate_left
          · simp only [Act.put, List.setIfInBounds_toArray, List.set_cons_zero, List.set_cons_succ]
            rfl
          refine take_ (i := 4) (N := some 54) (v := ?_) (a' := ?_) #[true, true, true, true, true, false, false, false, false, false, false, false, false, false, false, false] rfl rfl (by kernel_rfl) (fun _ _ _ h => h) (Or.inl ⟨by rfl, ?_⟩) hHeld ?_ ?_
          rotate_left
          · rintro w' ⟨s0, s1, s2⟩
            go_simp
            with_reducible rfl
          rotate_left
          · simp only [Act.put, List.setIfInBounds_toArray, List.set_cons_zero, List.set_cons_succ]
            rfl
          refine pure_ (i := 5) (N := some 55) (v := ?_) (a' := ?_) #[true, true, true, true, true, true, false, false, false, false, false, false, false, false, false, false] rfl rfl (by kernel_rfl) (fun _ _ _ h => h) (Or.inl ⟨by rfl, ?_⟩) ?_ ?_
          rotate_left
          · intro w'
            go_simp
            with_reducible rfl
          rotate_left
          · simp only [Act.put, List.setIfInBounds_toArray, List.set_cons_zero, List.set_cons_succ]
            rfl
          refine pure_ (i := 6) (N := some 56) (v := ?_) (a' := ?_) #[true, true, true, true, true, true, true, false, false, false, false, false, false, false, false, false] rfl rfl (by kernel_rfl) (fun _ _ _ h => h) (Or.inl ⟨by rfl, ?_⟩) ?_ ?_
          rotate_left
          · intro w'
            go_simp
            with_reducible rfl
          rotate_left
          · simp only [Act.put, List.setIfInBounds_toArray, List.set_cons_zero, List.set_cons_succ]
            rfl
          refine take_ (i := 7) (N := some 57) (v := ?_) (a' := ?_) #[true, true, true, true, true, true, true, true, false, false, false, false, false, false, false, false] rfl rfl (by kernel_rfl) (fun _ _ _ h => h) (Or.inl ⟨by rfl, ?_⟩) hHeld ?_ ?_
          rotate_left
          · rintro w' ⟨s0, s1, s2⟩
            go_simp
            with_reducible rfl
          rotate_left
          · simp only [Act.put, List.setIfInBounds_toArray, List.set_cons_zero, List.set_cons_succ]
            rfl
          refine pure_ (i := 8) (N := some 58) (v := ?_) (a' := ?_) #[true, true, true, true, true, true, true, true, true, false, false, false, false, false, false, false] rfl rfl (by kernel_rfl) (fun _ _ _ h => h) (Or.inl ⟨by rfl, ?_⟩) ?_ ?_
          rotate_left
          · intro w'
            go_simp
            with_reducible rfl
          rotate_left
          · simp only [Act.put, List.setIfInBounds_toArray, List.set_cons_zero, List.set_cons_succ]
            rfl
          refine pure_ (i := 9) (N := some 59) (v := ?_) (a' := ?_) #[true, true, true, true, true, true, true, true, true, true, false, false, false, false, false, false] rfl rfl (by kernel_rfl) (fun _ _ _ h => h) (Or.inl ⟨by rfl, ?_⟩) ?_ ?_
          rotate_left
          · intro w'
            go_simp
            with_reducible rfl
          rotate_left
          · simp only [Act.put, List.setIfInBounds_toArray, List.set_cons_zero, List.set_cons_succ]
            rfl
          refine pure_ (i := 10) (N := some 60) (v := ?_) (a' := ?_) #[true, true, true, true, true, true, true, true, true, true, true, false, false, false, false, false] rfl rfl (by kernel_rfl) (fun _ _ _ h => h) (Or.inl ⟨by rfl, ?_⟩) ?_ ?_
          rotate_left
          · intro w'
            go_simp
            with_reducible rfl
          rotate_left
          · simp only [Act.put, List.setIfInBounds_toArray, List.set_cons_zero, List.set_cons_succ]
            rfl
          refine pure_ (i := 11) (N := some 61) (v := ?_) (a' := ?_) #[true, true, true, true, true, true, true, true, true, true, true, true, false, false, false, false] rfl rfl (by kernel_rfl) (fun _ _ _ h => h) (Or.inl ⟨by rfl, ?_⟩) ?_ ?_
          rotate_left
          · intro w'
            go_simp
            with_reducible rfl
          rotate_left
          · simp only [Act.put, List.setIfInBounds_toArray, List.set_cons_zero, List.set_cons_succ]
            rfl
          refine pure_ (i := 12) (N := some 62) (v := ?_) (a' := ?_) #[true, true, true, true, true, true, true, true, true, true, true, true, true, false, false, false] rfl rfl (by kernel_rfl) (fun _ _ _ h => h) (Or.inl ⟨by rfl, ?_⟩) ?_ ?_
          rotate_left
          · intro w'
            go_simp
            with_reducible rfl
          rotate_left
          · simp only [Act.put, List.setIfInBounds_toArray, List.set_cons_zero, List.set_cons_succ]
            rfl
          refine pure_ (i := 13) (N := some 63) (v := ?_) (a' := ?_) #[true, true, true, true, true, true, true, true, true, true, true, true, true, true, false, false] rfl rfl (by kernel_rfl) (fun _ _ _ h => h) (Or.inl ⟨by rfl, ?_⟩) ?_ ?_
          rotate_left
          · intro w'
            go_simp
            with_reducible rfl
          rotate_left
          · simp only [Act.put, List.setIfInBounds_toArray, List.set_cons_zero, List.set_cons_succ]
            rfl
          refine pure_ (i := 14) (N := some 64) (v := ?_) (a' := ?_) #[true, true, true, true, true, true, true, true, true, true, true, true, true, true, true, false] rfl rfl (by kernel_rfl) (fun _ _ _ h => h) (Or.inl ⟨by rfl, ?_⟩) ?_ ?_
          rotate_left
          · intro w'
            go_simp
            with_reducible rfl
          rotate_left
          · simp only [Act.put, List.setIfInBounds_toArray, List.set_cons_zero, List.set_cons_succ]
            rfl
          refine last_ (i := 15) (N := none) #[true, true, true, true, true, true, true, true, true, true, true, true, true, true, true, true] rfl rfl (by kernel_rfl) (by decide) (fun K hK => ?_)
          have h0 := (KK.out.1.bb i hlt).2.c hq
          have h1 := (KK.out.1.bb i hlt).2.z q
          refine skip_ (w1 := ?_) (by rfl) rfl ?_ ?_
          rotate_left
          · go_simp
            rfl
          refine hK.out _ _ ?_
          clear hK K h0 h1
          refine done_ (by kernel_rfl) ?_
          have KD := KK.out.1.bb i hlt
          have K2 : Aside0 (Sq (wr.setCell ⟨D1 i, q, none⟩ (.bool false)).drew W2.heap.size w3.heap.size AC (some ⟨gN, 0, none⟩) n t.c (fF t.no n s (i + 1)) B1 D1) := ⟨by rw [fF_next, ← HQ.out]; exact (KK.out.1.setN hlt q false).drew⟩
          go_wp2_with fail
          go_roundw
          case measure => simp [intOf]; omega
          case rel =>
            refine ⟨i + 1, by omega, by go_num, ⟨K2.out, ?_, ?_, ?_⟩⟩
            · exact blk_far KK.out.2.1 (fun e => by have e' : w3.heap.size = D1 i := e; have := KD.1.2; omega) _
            · exact blk_far KK.out.2.2.1 (fun e => by have e' : w.heap.size = D1 i := e; have := KD.1.1; have := Z.out.1; omega) _
            · exact (KK.out.2.2.2.setCell (by show w.heap.size ≤ D1 i; have := KD.1.1; have := L0.out; omega) _) |> below_drew
        · obtain rfl : n = i := by omega
          have SQ : Aside0 (Sq wr W2.heap.size w3.heap.size AC AN n t.c (fF t.no n s n) B1 D1) := ⟨KK.out.1⟩
          have X10 : Aside0 (wr.heap[w3.heap.size]? = some (.cells #[.slice AC n cC, .slice AN n cN] 27 (0, 0))) := ⟨KK.out.2.1⟩
          have BW : Aside0 (Below w.heap.size w wr) := ⟨KK.out.2.2.2⟩
          have PMX : Aside0 (∃ σ, PM n (fF t.no n s n) σ) := ⟨_, fF_pm t.no n s hsn⟩
          have u0 : wr.cell? ⟨w3.heap.size, 0, none⟩ = some (.slice AC n cC) := (blk_cell X10.out 0).trans rfl
          have u1 : wr.cell? ⟨w3.heap.size, 1, none⟩ = some (.slice AN n cN) := (blk_cell X10.out 1).trans rfl
          clear KK
          go_wp2_with fail
          clear u0 u1
          refine (solve_told wr AC AN cC cN ⟨n, t.c, fF t.no n s n⟩ SQ.out.tabR ⟨TO.out.n64, TO.out.mag⟩).mono ?_
          rintro _ w4 ⟨a0, l0, c0, x, a2, l2, c2, a3, l3, c3, ok, rfl, R⟩
          obtain rfl : ok = true := by
            cases ok with
            | true => rfl
            | false =>
              obtain ⟨σ, hσ⟩ := PMX.out
              exact absurd hσ (R.out.2.1 σ)
          go_wp2_with fail
          obtain ⟨W4, hW4⟩ : ∃ W4, W4 = w4.alloc (.cells #[.slice a0 l0 c0, .int .i64 x, .slice a2 l2 c2, .slice a3 l3 c3] 32) := ⟨_, rfl⟩
          rw [← hW4]
          have b44 : Aside0 (Below w4.heap.size w4 W4) := ⟨by rw [hW4]; exact below_alloc (Below.refl _ _) _⟩
          have X13 : Aside0 (W4.heap[w4.heap.size]? = some (.cells #[.slice a0 l0 c0, .int .i64 x, .slice a2 l2 c2, .slice a3 l3 c3] 32 (0, 0))) := ⟨by rw [hW4]; exact heap_alloc_new _ _⟩
          have bw4 : Aside0 (Below w.heap.size w W4) := ⟨BW.out.trans ((R.out.1.trans (b44.out.mono R.out.1.size)).mono BW.out.size)⟩
          have X104 := Aside0.mk (blk_below (blk_below X10.out R.out.1) b44.out)
          clear hW4 SQ BW PMX X10
          refine (wakes_any W4).mono ?_
          rintro _ w5 ⟨rfl, b5⟩
          have bw5 : Aside0 (Below w.heap.size w w5) := ⟨bw4.out.trans (b5.mono bw4.out.size)⟩
          have SC := Aside0.mk (R.out.2.2.2 trivial w5 (b44.out.trans (b5.mono b44.out.size)))
          have X105 := Aside0.mk (blk_below X104.out b5)
          have X135 := Aside0.mk (blk_below X13.out b5)
          clear b5 bw4 b44 X104 X13 R
          have f0 : w5.cell? ⟨w3.heap.size, 0, none⟩ = some (.slice AC n cC) := (blk_cell X105.out 0).trans rfl
          have f1 : w5.cell? ⟨w3.heap.size, 1, none⟩ = some (.slice AN n cN) := (blk_cell X105.out 1).trans rfl
          have g0 : w5.cell? ⟨w4.heap.size, 0, none⟩ = some (.slice a0 l0 c0) := (blk_cell X135.out 0).trans rfl
          have g1 : w5.cell? ⟨w4.heap.size, 1, none⟩ = some (.int .i64 x) := (blk_cell X135.out 1).trans rfl
          have g2 : w5.cell? ⟨w4.heap.size, 2, none⟩ = some (.slice a2 l2 c2) := (blk_cell X135.out 2).trans rfl
          have g3 : w5.cell? ⟨w4.heap.size, 3, none⟩ = some (.slice a3 l3 c3) := (blk_cell X135.out 3).trans rfl
          go_wp2_with fail
          refine SC.out.mono ?_
          rintro _ w6 ⟨rfl, b6⟩
          have bw6 : Aside0 (Below w.heap.size w w6) := ⟨bw5.out.trans (b6.mono bw5.out.size)⟩
          clear b6 f0 f1 g0 g1 g2 g3
          go_wp2_with fail
          go_ret
          exact ⟨rfl, bw6.out⟩
end Go.Proofs.Ytelabmhhnpfegaa.Hand
