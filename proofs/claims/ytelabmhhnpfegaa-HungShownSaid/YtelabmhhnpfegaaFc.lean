/- Bound of fair prices: walked. -/
import Derived.Test.YtelabmhhnpfegaaFa
import Derived.Test.YtelabmhhnpfegaaNb
namespace Go.Proofs.Ytelabmhhnpfegaa.Hand
open Go.RowKit Go.Proofs.YtelabmhhnpfegaaW.PrintWords Go.Proofs.YtelabmhhnpfegaaW.PrintLast Go.Proofs.YtelabmhhnpfegaaW.PrintMore
def both (n : Nat) (u v : Nat → Int) : Nat → Int := fun i => if i < n then u i else v (i - n)
theorem sumTo_both (n : Nat) (u v : Nat → Int) : ∀ m, sumTo (n + m) (both n u v) = sumTo n u + sumTo m v
  | 0 => by
    rw [sumTo_zero, Nat.add_zero, Int.add_zero]
    exact sumTo_congr (fun i hi => if_pos hi)
  | m + 1 => by
    rw [show n + (m + 1) = (n + m) + 1 by omega, sumTo_succ, sumTo_succ, sumTo_both n u v m]
    have : both n u v (n + m) = v m := by
      unfold both
      rw [if_neg (by omega)]
      congr 1
      omega
    rw [this]
    omega
theorem own_both {w : World} {base n cp : Nat} {A : Option Addr} {u v : Nat → Int} (h : w.ownsRow base 2 1 (.slice A (n + n) cp) (n + n) (rowV n u ++ rowV n v)) : RowI w A (n + n) (both n u v) := fun k hk => by
  obtain ⟨g, cap, e, _, _⟩ := h.form (by omega)
  injection e with e1 _ _
  subst e1
  refine ⟨_, rfl, h.cells (g := g) rfl k _ ?_⟩
  unfold both
  by_cases hkn : k < n
  · rw [List.getElem?_append_left (by rw [rowV_len]; exact hkn), rowV_get hkn, if_pos hkn]
  · rw [List.getElem?_append_right (by rw [rowV_len]; omega), rowV_len, rowV_get (by omega), if_neg hkn]
theorem TbOk.may' {t : Tb} (ht : TbOk t) : TabMay t.n t.n (fun _ => t.n) (fun _ => t.n) t.c := ht.may
set_option maxHeartbeats 1000000 in
set_option maxRecDepth 100000 in
theorem bound_any (w : World) (AC AN : Option Addr) (cC cN : Nat) (t : Tb) (h : TabR w AC AN t) (ht : TbOk t) (r c : Nat) (u v : Nat → Int) (hr : IB w r 2 t.n u) (hc : IB w c 2 t.n v)
    (hu : ∀ i, i < t.n → -549755813888 ≤ u i ∧ u i ≤ 549755813888) (hv : ∀ i, i < t.n → -549755813888 ≤ v i ∧ v i ≤ 549755813888) (hf : Fair t.n t.c t.no u v) :
    Calls Try.prog 42 #[.agg #[.slice AC t.n cC, .slice AN t.n cN], .slice (some ⟨r, 0, none⟩) t.n t.n, .slice (some ⟨c, 0, none⟩) t.n t.n] w fun e w' => e = .returned (.tuple #[.int .i64 (sumTo t.n u + sumTo t.n v), .bool true]) ∧ Below w.heap.size w w' := by
  have hu27 := Try.underlying27
  have h64 := ht.n64
  have E1 := Aside0.mk (fun (W : World) (hb : Below w.heap.size w W) => check_any W AC AN t.n t.n cC cN (fun _ => t.n) (fun _ => t.n) t.c (h.below hb).raw (fun i _ => by omega))
  have E2 := Aside0.mk (fun (W : World) (hb : Below w.heap.size w W) => fair_any W AC AN cC cN t (h.below hb) h64 r c u v (blk_below hr hb) (blk_below hc hb) hu hv hf)
  have E3 := Aside0.mk (fun (W : World) (A : Option Addr) (cp : Nat) (hR : RowI W A (t.n + t.n) (both t.n u v)) => sum_any W A (t.n + t.n) cp (both t.n u v) hR (fun i hi => by unfold both; split; exact hu i (by omega); exact hv (i - t.n) (by omega)) (by omega))
  have E4 := Aside0.mk (fun (W : World) (A : Option Addr) (cp : Nat) (hR : RowI W A (t.n + t.n) (both t.n u v)) => containsw_any A (t.n + t.n) cp (both t.n u v) W hR (by omega))
  have FF : Aside0 (decide (0 ≤ firstFarW (t.n + t.n) (both t.n u v)) = false) := ⟨by
    rw [firstFarW_no (fun i hi => farW_ok (by unfold both; split; exact hu i (by omega); exact hv (i - t.n) (by omega)))]
    rfl⟩
  have MY := Aside0.mk ht.may
  have HR := Aside0.mk hr
  have HC := Aside0.mk hc
  have SB := Aside0.mk (sumTo_both t.n u v t.n)
  obtain ⟨n, hn1⟩ : ∃ n, n = t.n := ⟨_, rfl⟩
  rw [← hn1] at E1 E2 E3 E4 FF MY HR HC SB h64 ⊢
  clear h ht hr hc hu hv hf hn1
  go_enter Try.func42, Try.ntmps42
  go_wp2_with fail
  obtain ⟨W, hW⟩ : ∃ W, W = (w.alloc (.cells #[.slice AC n cC, .slice AN n cN] 27)).alloc (.cells #[.slice (some ⟨r, 0, none⟩) n n, .slice (some ⟨c, 0, none⟩) n n] 30) := ⟨_, rfl⟩
  have B0 : Aside0 (Below w.heap.size w W) := ⟨by rw [hW]; exact below_alloc (below_alloc (Below.refl _ _) _) _⟩
  have X0 : Aside0 (W.heap[w.heap.size]? = some (.cells #[.slice AC n cC, .slice AN n cN] 27 (0, 0))) := ⟨by rw [hW]; exact blk_alloc (heap_alloc_new _ _) _⟩
  have Y0 : Aside0 (W.heap[w.heap.size + 1]? = some (.cells #[.slice (some ⟨r, 0, none⟩) n n, .slice (some ⟨c, 0, none⟩) n n] 30 (0, 0))) := ⟨by
    rw [hW]
    simp only [al_get, al_size]
    rw [if_pos trivial]⟩
  rw [← hW]
  clear hW
  refine (concat_any W (w.heap.size + 1) r c n u v Y0.out (blk_below HR.out B0.out) (blk_below HC.out B0.out) h64).mono ?_
  rintro _ w1 ⟨A, cp, rfl, O⟩
  have B1 : Aside0 (Below w.heap.size w w1) := ⟨B0.out.trans (O.out.2.mono B0.out.size)⟩
  have X1 := Aside0.mk (blk_below X0.out O.out.2)
  have R1 := Aside0.mk (own_both O.out.1)
  have p0 : w1.cell? ⟨w.heap.size, 0, none⟩ = some (.slice AC n cC) := (blk_cell X1.out 0).trans rfl
  have p1 : w1.cell? ⟨w.heap.size, 1, none⟩ = some (.slice AN n cN) := (blk_cell X1.out 1).trans rfl
  clear B0 X0 Y0 O HR HC
  go_wp2_with fail
  refine (E1.out w1 B1.out).mono ?_
  rintro _ w2 ⟨ok, rfl, hok, b2⟩
  obtain rfl : ok = true := hok.2 MY.out
  have B2 : Aside0 (Below w.heap.size w w2) := ⟨B1.out.trans (b2.mono B1.out.size)⟩
  have X2 := Aside0.mk (blk_below X1.out b2)
  have R2 : Aside0 (RowI w2 A (n + n) (both n u v)) := ⟨fun k hk => by
    obtain ⟨ad, e, hc⟩ := R1.out k hk
    exact ⟨ad, e, pw_cell_below b2 hc⟩⟩
  clear p0 p1 hok b2 B1 X1 R1
  go_wp2_with fail
  refine (E4.out w2 A cp R2.out).mono ?_
  rintro _ w3 ⟨rfl, rfl⟩
  rw [FF.out]
  have p0 : w2.cell? ⟨w.heap.size, 0, none⟩ = some (.slice AC n cC) := (blk_cell X2.out 0).trans rfl
  have p1 : w2.cell? ⟨w.heap.size, 1, none⟩ = some (.slice AN n cN) := (blk_cell X2.out 1).trans rfl
  go_wp2_with fail
  refine (E2.out w2 B2.out).mono ?_
  rintro _ w3 ⟨rfl, b3⟩
  have B3 : Aside0 (Below w.heap.size w w3) := ⟨B2.out.trans (b3.mono B2.out.size)⟩
  have R3 : Aside0 (RowI w3 A (n + n) (both n u v)) := ⟨fun k hk => by
    obtain ⟨ad, e, hc⟩ := R2.out k hk
    exact ⟨ad, e, pw_cell_below b3 hc⟩⟩
  clear p0 p1 b3 B2 R2 X2
  go_wp2_with fail
  refine (E3.out w3 A cp R3.out).mono ?_
  rintro _ w4 ⟨rfl, b4⟩
  have B4 : Aside0 (Below w.heap.size w w4) := ⟨B3.out.trans (b4.mono B3.out.size)⟩
  rw [SB.out]
  clear b4
  go_wp2_with fail
  go_ret2
  exact ⟨rfl, B4.out⟩
end Go.Proofs.Ytelabmhhnpfegaa.Hand
/- A match is shown: walked. -/
namespace Go.Proofs.Ytelabmhhnpfegaa.Hand
open Go.RowKit Go.Proofs.YtelabmhhnpfegaaW.PrintWords Go.Proofs.YtelabmhhnpfegaaW.PrintLast Go.Proofs.YtelabmhhnpfegaaW.PrintMore
def usedF (σ : Nat → Nat) : Nat → Nat → Bool
  | 0 => fun _ => false
  | i + 1 => upd (usedF σ i) (σ i) true
theorem usedF_no {σ : Nat → Nat} {k : Nat} : ∀ (i : Nat), (∀ j, j < i → σ j ≠ k) → usedF σ i k = false
  | 0, _ => rfl
  | i + 1, h => by
    show upd (usedF σ i) (σ i) true k = false
    unfold upd
    rw [if_neg (fun e => h i (Nat.lt_succ_self i) e.symm)]
    exact usedF_no i (fun j hj => h j (by omega))
set_option maxHeartbeats 1000000 in
set_option maxRecDepth 100000 in
theorem shown_any (w : World) (AC AN : Option Addr) (cC cN : Nat) (t : Tb) (h : TabR w AC AN t) (ht : TbOk t) (σ : Nat → Nat) (u v of : Nat → Int) (hd : Done t u v of σ) (C r c : Nat) (hC : IB w C 3 t.n (fun i => (σ i : Int))) (hr : IB w r 2 t.n u) (hc : IB w c 2 t.n v) :
    Calls Try.prog 17 #[.agg #[.slice AC t.n cC, .slice AN t.n cN], .agg #[.slice (some ⟨C, 0, none⟩) t.n t.n, .int .i64 (cost t.n t.c σ), .slice (some ⟨r, 0, none⟩) t.n t.n, .slice (some ⟨c, 0, none⟩) t.n t.n]] w fun e w' => e = .returned (.bool true) ∧ Below w.heap.size w w' := by
  have hu27 := Try.underlying27
  have hu32 := Try.underlying32
  have h64 := ht.n64
  have H := Aside0.mk h
  have HD := Aside0.mk hd
  have TO := Aside0.mk ht
  have HC := Aside0.mk hC
  have hub := hd.ub
  have hvb := hd.vb
  have hM : (256 : Int) * M = 549755813888 := by unfold M; rfl
  rw [hM] at hub hvb
  have E1 := Aside0.mk (fun (W : World) (hb : Below w.heap.size w W) => bound_any W AC AN cC cN t (h.below hb) ht r c u v (blk_below hr hb) (blk_below hc hb) hub hvb hd.fair)
  rw [← hd.sum] at E1
  have hcb := sumTo_abs (n := t.n) (f := fun i => t.c i (σ i)) (B := 2147483648) (fun i hi => ht.mag i (σ i) hi (hd.pm.inj.lt i hi))
  obtain ⟨n, hn1⟩ : ∃ n, n = t.n := ⟨_, rfl⟩
  obtain ⟨s, hs1⟩ : ∃ s, s = cost t.n t.c σ := ⟨_, rfl⟩
  have HN := Aside0.mk hn1
  have HS := Aside0.mk hs1
  rw [← hs1] at E1 ⊢
  rw [← hn1] at E1 HC h64 ⊢
  have m3 := mk35 n h64
  clear h ht hd hC hr hc hub hvb hM hn1 hs1 hcb
  go_enter Try.func17, Try.ntmps17
  go_wp2_with fail
  obtain ⟨W, hW⟩ : ∃ W, W = ((w.alloc (.cells #[.slice AC n cC, .slice AN n cN] 27)).alloc (.cells #[.slice (some ⟨C, 0, none⟩) n n, .int .i64 s, .slice (some ⟨r, 0, none⟩) n n, .slice (some ⟨c, 0, none⟩) n n] 32)).alloc (.cells (tabB n fun _ => false) 4) := ⟨_, rfl⟩
  rw [← hW]
  have K0 : Aside0 (W.heap[w.heap.size]? = some (.cells #[.slice AC n cC, .slice AN n cN] 27 (0, 0)) ∧ W.heap[w.heap.size + 1]? = some (.cells #[.slice (some ⟨C, 0, none⟩) n n, .int .i64 s, .slice (some ⟨r, 0, none⟩) n n, .slice (some ⟨c, 0, none⟩) n n] 32 (0, 0)) ∧ BB W (w.heap.size + 1 + 1) n (usedF σ 0) ∧ Below w.heap.size w W) := ⟨by
    rw [hW]
    refine ⟨?_, ?_, ?_, below_alloc (below_alloc (below_alloc (Below.refl _ _) _) _) _⟩
    all_goals
      try unfold BB
      simp only [al_get, al_size]
      repeat (first | rw [if_pos trivial] | rw [if_neg (by omega)])
    rfl⟩
  clear hW m3
  go_loopw [7, 25] (fun v7 v25 wr => ∃ i : Nat, i ≤ n ∧ v7 = .int .i64 (sumTo i (fun j => t.c j (σ j))) ∧ v25 = .int .i64 i ∧ Aside0 (wr.heap[w.heap.size]? = some (.cells #[.slice AC n cC, .slice AN n cN] 27 (0, 0)) ∧ wr.heap[w.heap.size + 1]? = some (.cells #[.slice (some ⟨C, 0, none⟩) n n, .int .i64 s, .slice (some ⟨r, 0, none⟩) n n, .slice (some ⟨c, 0, none⟩) n n] 32 (0, 0)) ∧ BB wr (w.heap.size + 1 + 1) n (usedF σ i) ∧ Below w.heap.size w wr)) (fun _ v _ => n - (intOf v).toNat)
  case atStart => exact ⟨0, Nat.zero_le _, rfl, rfl, K0⟩
  case round =>
    clear K0
    obtain ⟨i, hi, rfl, rfl, K⟩ := hrel
    by_cases hlt : i < n
    · have hlt' : i < t.n := by rw [← HN.out]; exact hlt
      have hkn := HD.out.pm.inj.lt i hlt'
      have hun := usedF_no (σ := σ) (k := σ i) i (fun j hj e => by
        have := HD.out.pm.inj.inj j i (by omega) hlt' e
        omega)
      have hnext : usedF σ (i + 1) = upd (usedF σ i) (σ i) true := rfl
      have hsn := sumTo_succ i (fun j => t.c j (σ j))
      have hbx := sumTo_abs (n := i) (f := fun j => t.c j (σ j)) (B := 2147483648) (fun j hj => TO.out.mag j (σ j) (by omega) (HD.out.pm.inj.lt j (by omega)))
      have hbz := TO.out.mag i (σ i) hlt' hkn
      have fC := pw_cell_below K.out.2.2.2 (HC.out.c hlt)
      obtain ⟨ad, AR, cR, rfl, hc, hrow⟩ := H.out.cost i hlt'
      obtain ⟨bd, BR, dR, rfl, hd, hnow⟩ := H.out.no i hlt'
      have f1 := pw_cell_below K.out.2.2.2 hc
      have f2 := pw_cell_below K.out.2.2.2 (hrow (σ i) hkn)
      have f3 := pw_cell_below K.out.2.2.2 hd
      have f4 := pw_cell_below K.out.2.2.2 (hnow (σ i) hkn)
      have hmay := HD.out.pm.may i hlt'
      rw [hmay] at f4
      rw [← HN.out] at f1 f3
      have fu := K.out.2.2.1.c (i := σ i) (by rw [HN.out]; exact hkn)
      rw [hun] at fu
      have fz := K.out.2.2.1.z (σ i)
      have g0 : wr.cell? ⟨w.heap.size, 0, none⟩ = some (.slice (some ad) n cC) := (blk_cell K.out.1 0).trans rfl
      have g1 : wr.cell? ⟨w.heap.size, 1, none⟩ = some (.slice (some bd) n cN) := (blk_cell K.out.1 1).trans rfl
      have DC : Aside0 (t.c i (σ i) = t.c i (σ i)) := ⟨rfl⟩
      have hkn' : σ i < n := by rw [HN.out]; exact hkn
      obtain ⟨z, hz⟩ : ∃ z, z = t.c i (σ i) := ⟨_, rfl⟩
      have hsn' : sumTo (i + 1) (fun j => t.c j (σ j)) = sumTo i (fun j => t.c j (σ j)) + z := by rw [hsn, hz]
      rw [← hz] at f2 hbz
      have OC1 : Aside0 (w.cell? (ad.add i) = some (.slice (some AR) n cR)) := ⟨by rw [HN.out]; exact hc⟩
      have OC2 := Aside0.mk (hrow (σ i) hkn)
      rw [← hz] at OC2
      clear hsn hz DC hun hmay hc hrow hd hnow hkn
      obtain ⟨k, hk⟩ : ∃ k, k = σ i := ⟨_, rfl⟩
      rw [← hk] at fC f2 f4 fu fz hnext hkn' OC2
      obtain ⟨x, hx⟩ : ∃ x, x = sumTo i (fun j => t.c j (σ j)) := ⟨_, rfl⟩
      rw [← hx] at hbx hsn' ⊢
      have NX := Aside0.mk hnext
      have SN := Aside0.mk hsn'
      have KU : Aside0 (BB (wr.setCell ⟨w.heap.size + 1 + 1, k, none⟩ (.bool true)) (w.heap.size + 1 + 1) n (usedF σ (i + 1))) := ⟨by rw [hnext]; exact K.out.2.2.1.set k true⟩
      have kw : IntKind.i64.wrap (x + z) = x + z := IntWalk.i64_in _ (by omega)
      have dk : decide ((k : Int) < 0) = false := decide_eq_false (by omega)
      have dn : decide (n ≤ k) = false := decide_eq_false (by omega)
      clear hnext hsn' hk hx f1 f2 g0
      go_upto_region 12 with fail
      clear fC fu fz g1 f3 f4
      obtain ⟨V, hV⟩ : ∃ V, V = wr.setCell ⟨w.heap.size + 1 + 1, k, none⟩ (.bool true) := ⟨_, rfl⟩
      rw [← hV] at KU ⊢
      have BV : Aside0 (Below w.heap.size w V) := ⟨by rw [hV]; exact K.out.2.2.2.setCell (by show w.heap.size ≤ w.heap.size + 1 + 1; omega) _⟩
      have T0 : Aside0 (V.heap[w.heap.size]? = some (.cells #[.slice (some ad) n cC, .slice (some bd) n cN] 27 (0, 0))) := ⟨by rw [hV]; exact blk_far K.out.1 (by show w.heap.size ≠ w.heap.size + 1 + 1; omega) _⟩
      have T1 : Aside0 (V.heap[w.heap.size + 1]? = some (.cells #[.slice (some ⟨C, 0, none⟩) n n, .int .i64 s, .slice (some ⟨r, 0, none⟩) n n, .slice (some ⟨c, 0, none⟩) n n] 32 (0, 0))) := ⟨by rw [hV]; exact blk_far K.out.2.1 (by show w.heap.size + 1 ≠ w.heap.size + 1 + 1; omega) _⟩
      clear hV K
      have f1 := pw_cell_below BV.out OC1.out
      have f2 := pw_cell_below BV.out OC2.out
      have g0 : V.cell? ⟨w.heap.size, 0, none⟩ = some (.slice (some ad) n cC) := (blk_cell T0.out 0).trans rfl
      go_wp2_with fail
      go_roundw
      case measure => simp [intOf]; omega
      case rel => exact ⟨i + 1, by omega, by rw [SN.out], by go_num, ⟨T0.out, T1.out, KU.out, BV.out⟩⟩
    · obtain rfl : n = i := by omega
      have e1 : sumTo n (fun j => t.c j (σ j)) = s := by rw [HS.out, HN.out]; rfl
      rw [e1]
      clear e1
      have g0 : wr.cell? ⟨w.heap.size, 0, none⟩ = some (.slice AC n cC) := (blk_cell K.out.1 0).trans rfl
      have g1 : wr.cell? ⟨w.heap.size, 1, none⟩ = some (.slice AN n cN) := (blk_cell K.out.1 1).trans rfl
      have g2 : wr.cell? ⟨w.heap.size + 1, 2, none⟩ = some (.slice (some ⟨r, 0, none⟩) n n) := (blk_cell K.out.2.1 2).trans rfl
      have g3 : wr.cell? ⟨w.heap.size + 1, 3, none⟩ = some (.slice (some ⟨c, 0, none⟩) n n) := (blk_cell K.out.2.1 3).trans rfl
      go_wp2_with fail
      refine (E1.out wr K.out.2.2.2).mono ?_
      rintro _ w1 ⟨rfl, b1⟩
      have BW : Aside0 (Below w.heap.size w w1) := ⟨K.out.2.2.2.trans (b1.mono K.out.2.2.2.size)⟩
      have q1 : w1.cell? ⟨w.heap.size + 1, 1, none⟩ = some (.int .i64 s) := (blk_cell (blk_below K.out.2.1 b1) 1).trans rfl
      have ss : (s == s) = true := by simp
      clear b1 g0 g1 g2 g3
      go_wp2_with fail
      go_ret
      exact ⟨rfl, BW.out⟩
end Go.Proofs.Ytelabmhhnpfegaa.Hand
