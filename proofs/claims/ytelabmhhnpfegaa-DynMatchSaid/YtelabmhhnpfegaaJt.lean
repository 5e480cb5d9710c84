/- Solve: walked. -/
import Derived.Test.YtelabmhhnpfegaaJr
namespace Go.Proofs.Ytelabmhhnpfegaa.Hand
open Go.RowKit Go.Proofs.YtelabmhhnpfegaaW.PrintWords Go.Proofs.YtelabmhhnpfegaaW.PrintMore
/-- A square table, as it is read. -/
structure TabR (w : World) (AC AN : Option Addr) (t : Tb) : Prop where
  cost : ∀ i, i < t.n → ∃ ad AR cR, AC = some ad ∧ w.cell? (ad.add i) = some (.slice (some AR) t.n cR) ∧ ∀ k, k < t.n → w.cell? (AR.add k) = some (.int .i64 (t.c i k))
  no : ∀ i, i < t.n → ∃ ad AR cR, AN = some ad ∧ w.cell? (ad.add i) = some (.slice (some AR) t.n cR) ∧ ∀ k, k < t.n → w.cell? (AR.add k) = some (.bool (t.no i k))
theorem TabR.below {w w1 : World} {AC AN : Option Addr} {t : Tb} (h : TabR w AC AN t) (hb : Below w.heap.size w w1) : TabR w1 AC AN t :=
  ⟨fun i hi => by
    obtain ⟨ad, AR, cR, e, h1, h2⟩ := h.cost i hi
    exact ⟨ad, AR, cR, e, pw_cell_below hb h1, fun k hk => pw_cell_below hb (h2 k hk)⟩,
   fun i hi => by
    obtain ⟨ad, AR, cR, e, h1, h2⟩ := h.no i hi
    exact ⟨ad, AR, cR, e, pw_cell_below hb h1, fun k hk => pw_cell_below hb (h2 k hk)⟩⟩
theorem TabR.tab {w : World} {G : Geo} {t : Tb} (h : TabR w G.AC G.AN t) (hn : t.n = G.n) : Tab w G t := by
  obtain ⟨h1, h2⟩ := h
  rw [hn] at h1 h2
  exact ⟨hn, h1, h2⟩
theorem Raw.below {w w1 : World} {A B : Option Addr} {nc nn : Nat} {len mlen : Nat → Nat} {c : Nat → Nat → Int} (h : Raw w A nc B nn len mlen c) (hb : Below w.heap.size w w1) : Raw w1 A nc B nn len mlen c :=
  ⟨fun i hi => by
    obtain ⟨ad, AR, cR, e, h1, h2⟩ := h.cost i hi
    exact ⟨ad, AR, cR, e, pw_cell_below hb h1, fun k hk => by
      obtain ⟨x, e, hx⟩ := h2 k hk
      exact ⟨x, e, pw_cell_below hb hx⟩⟩,
   fun i hi => by
    obtain ⟨ad, AR, cR, e, h1⟩ := h.no i hi
    exact ⟨ad, AR, cR, e, pw_cell_below hb h1⟩⟩
theorem TabR.raw {w : World} {AC AN : Option Addr} {t : Tb} (h : TabR w AC AN t) : Raw w AC t.n AN t.n (fun _ => t.n) (fun _ => t.n) t.c :=
  ⟨fun i hi => by
    obtain ⟨ad, AR, cR, e, h1, h2⟩ := h.cost i hi
    exact ⟨ad, some AR, cR, e, h1, fun k hk => ⟨AR, rfl, h2 k hk⟩⟩,
   fun i hi => by
    obtain ⟨ad, AR, cR, e, h1, _⟩ := h.no i hi
    exact ⟨ad, some AR, cR, e, h1⟩⟩
theorem farB_no {x : Int} : farB x = false ↔ -2147483648 ≤ x ∧ x ≤ 2147483648 := by
  unfold farB
  simp
theorem TbOk.may {t : Tb} (h : TbOk t) : TabMay t.n t.n (fun _ => t.n) (fun _ => t.n) t.c :=
  ⟨h.n64, rfl, fun i hi => ⟨rfl, rfl, fun k hk => farB_no.2 (h.mag i k hi hk)⟩⟩
theorem TbOk.of_may {t : Tb} (h : TabMay t.n t.n (fun _ => t.n) (fun _ => t.n) t.c) : TbOk t :=
  ⟨h.1, fun i k hi hk => farB_no.1 ((h.2.2 i hi).2.2 k hk)⟩
def noMatch : Value := .agg #[.slice none 0 0, .int .i64 0, .slice none 0 0, .slice none 0 0]
/-- What Solve tells. -/
structure Told (w w' : World) (t : Tb) (m : Value) (ok : Bool) : Prop where
  below : Below w.heap.size w w'
  yes : ok = true → ∃ (σ : Nat → Nat) (u v of : Nat → Int) (C r c : Nat), m = .agg #[.slice (some ⟨C, 0, none⟩) t.n t.n, .int .i64 (cost t.n t.c σ), .slice (some ⟨r, 0, none⟩) t.n t.n, .slice (some ⟨c, 0, none⟩) t.n t.n] ∧ Done t u v of σ ∧ IB w' C 3 t.n (fun i => (σ i : Int)) ∧ IB w' r 2 t.n u ∧ IB w' c 2 t.n v
  no : ok = false → m = noMatch ∧ ∀ σ, ¬ PM t.n t.no σ
set_option maxHeartbeats 2000000 in
set_option maxRecDepth 100000 in
theorem solve_any (w : World) (AC AN : Option Addr) (cC cN : Nat) (t : Tb) (h : TabR w AC AN t) (ht : TbOk t) :
    Calls Try.prog 13 #[.agg #[.slice AC t.n cC, .slice AN t.n cN]] w fun e w' => ∃ m okv, e = .returned (.tuple #[m, okv]) ∧ Aside0 (∃ ok, okv = .bool ok ∧ Told w w' t m ok) := by
  have H := Aside0.mk h
  have TO := Aside0.mk ht
  have hu := Try.underlying27
  have hu2 := Try.underlying32
  obtain ⟨n, hn1⟩ : ∃ n, n = t.n := ⟨_, rfl⟩
  have HN := Aside0.mk hn1
  have hn64 : n ≤ 64 := by rw [hn1]; exact ht.n64
  rw [← hn1]
  clear h ht hn1
  go_enter Try.func13, Try.ntmps13
  go_wp2_with fail
  obtain ⟨W, hW⟩ : ∃ W, W = (w.alloc (.cells #[.slice AC n cC, .slice AN n cN] 27)).alloc (.cells #[.slice none 0 0, .int .i64 0, .slice none 0 0, .slice none 0 0] 32) := ⟨_, rfl⟩
  rw [← hW]
  have BW : Aside0 (Below w.heap.size w W) := ⟨by rw [hW]; exact below_alloc (below_alloc (Below.refl _ _) _) _⟩
  have TW : Aside0 (W.heap[w.heap.size]? = some (.cells #[.slice AC n cC, .slice AN n cN] 27 (0, 0))) := ⟨by rw [hW, al_get, al_size, if_neg (by omega), al_get, if_pos rfl]⟩
  have RW : Aside0 (W.heap[w.heap.size + 1]? = some (.cells #[.slice none 0 0, .int .i64 0, .slice none 0 0, .slice none 0 0] 32 (0, 0))) := ⟨by rw [hW, al_get, al_size, if_pos rfl]⟩
  clear hW
  refine (check_any W AC AN n n cC cN (fun _ => n) (fun _ => n) t.c (by rw [HN.out]; exact (H.out.below (BW.out)).raw) (fun i _ => by omega)).mono ?_
  rintro _ w1 ⟨ok, rfl, hok, b1⟩
  obtain rfl : ok = true := hok.2 (by rw [HN.out]; exact TO.out.may)
  have B1 : Aside0 (Below w.heap.size w w1) := ⟨BW.out.trans (b1.mono BW.out.size)⟩
  have T1 : Aside0 (w1.heap[w.heap.size]? = some (.cells #[.slice AC n cC, .slice AN n cN] 27 (0, 0))) := ⟨blk_below TW.out b1⟩
  have R1 : Aside0 (w1.heap[w.heap.size + 1]? = some (.cells #[.slice none 0 0, .int .i64 0, .slice none 0 0, .slice none 0 0] 32 (0, 0))) := ⟨blk_below RW.out b1⟩
  have H1 := Aside0.mk (H.out.below B1.out)
  clear hok b1 BW TW RW H
  have f0 : w1.cell? ⟨w.heap.size, 0, none⟩ = some (.slice AC n cC) := (blk_cell T1.out 0).trans rfl
  have f1 : w1.cell? ⟨w.heap.size, 1, none⟩ = some (.slice AN n cN) := (blk_cell T1.out 1).trans rfl
  go_wp2_with fail
  clear f0 f1
  refine (start_any w1 AC AN n cC cN hn64).mono ?_
  rintro _ w2 ⟨G, hGn, hGC, hGN, rfl, k2, b2, hi⟩
  have HI := Aside0.mk hi
  have TT : Aside0 (Tab w1 G t) := ⟨TabR.tab (by rw [hGC, hGN]; exact H1.out) (by rw [hGn, HN.out])⟩
  have K2 : Aside0 (∃ u v of, Wk w2 G u v of ∧ Inv t 0 u v of) := ⟨_, _, _, k2, inv_start t⟩
  have B2 := Aside0.mk b2
  have GN : Aside0 (G.n = n) := ⟨hGn⟩
  have f0 : w2.cell? ⟨w.heap.size, 0, none⟩ = some (.slice AC n cC) := (blk_cell (blk_below T1.out b2) 0).trans rfl
  clear hGn hGC hGN k2 b2 hi H1
  go_wp2_with fail
  clear f0
  go_loopw [15] (fun v15 wr => ∃ k : Nat, k ≤ n ∧ v15 = .int .i64 k ∧ Aside0 (∃ u v of, Wk wr G u v of ∧ Inv t k u v of) ∧ Aside0 (Below w1.heap.size w1 wr)) (fun v _ => n - (intOf v).toNat)
  case atStart => exact ⟨0, Nat.zero_le _, rfl, K2, B2⟩
  case round =>
    clear K2 B2
    obtain ⟨k, hk, rfl, K, BR⟩ := hrel
    by_cases hlt : k < n
    · go_wp2_with fail
      obtain ⟨⟨u, v, of, hw, hv⟩⟩ := K
      refine (add_any w1 wr G t TT.out TO.out k (by rw [GN.out]; exact hlt) u v of hw hv BR.out HI.out).mono ?_
      rintro _ w3 ⟨ok, rfl, b3, hyes, hno⟩
      have B3 := Aside0.mk b3
      clear hw hv
      cases ok with
      | true =>
        have Y := Aside0.mk (hyes rfl)
        clear hyes hno b3
        go_wp2_with fail
        go_roundw
        case measure => simp [intOf]; omega
        case rel => exact ⟨k + 1, by omega, by go_num, Y, B3⟩
      | false =>
        have NO := Aside0.mk (hno rfl)
        have R3 := Aside0.mk (blk_below R1.out b3)
        clear hyes hno b3
        have r0 : w3.cell? ⟨w.heap.size + 1, 0, none⟩ = some (.slice none 0 0) := (blk_cell R3.out 0).trans rfl
        have r1 : w3.cell? ⟨w.heap.size + 1, 1, none⟩ = some (.int .i64 0) := (blk_cell R3.out 1).trans rfl
        have r2 : w3.cell? ⟨w.heap.size + 1, 2, none⟩ = some (.slice none 0 0) := (blk_cell R3.out 2).trans rfl
        have r3 : w3.cell? ⟨w.heap.size + 1, 3, none⟩ = some (.slice none 0 0) := (blk_cell R3.out 3).trans rfl
        have y0 := fun j => blk_frozen R3.out j
        go_wp2_with fail
        refine bodyPost_ret (v := .tuple #[noMatch, .bool false]) (by simp [results, Try.results13, go_sem, r0, r1, r2, r3, noMatch]) rfl ?_
        have BF : Below w.heap.size w w3 := B1.out.trans (B3.out.mono B1.out.size)
        exact ⟨_, _, rfl, ⟨false, rfl, ⟨(((BF.setCell (Nat.le_succ _) _).setCell (Nat.le_succ _) _).setCell (Nat.le_succ _) _).setCell (Nat.le_succ _) _, fun x => (by cases x), fun _ => ⟨rfl, NO.out⟩⟩⟩⟩
    · obtain rfl : k = n := by omega
      go_wp2_with fail
      obtain ⟨⟨u, v, of, hw, hv⟩⟩ := K
      obtain ⟨σ, hd⟩ := inv_done TO.out (by rw [← HN.out]; exact hv)
      refine (match_any w1 wr G t TT.out TO.out u v of hw σ hd BR.out HI.out).mono ?_
      rintro _ w4 ⟨C, rfl, A⟩
      have HD := Aside0.mk hd
      have R4 := Aside0.mk (blk_below R1.out A.out.2.2.1)
      rw [GN.out]
      clear hw hv hd
      have r0 : w4.cell? ⟨w.heap.size + 1, 0, none⟩ = some (.slice none 0 0) := (blk_cell R4.out 0).trans rfl
      have r1 : w4.cell? ⟨w.heap.size + 1, 1, none⟩ = some (.int .i64 0) := (blk_cell R4.out 1).trans rfl
      have r2 : w4.cell? ⟨w.heap.size + 1, 2, none⟩ = some (.slice none 0 0) := (blk_cell R4.out 2).trans rfl
      have r3 : w4.cell? ⟨w.heap.size + 1, 3, none⟩ = some (.slice none 0 0) := (blk_cell R4.out 3).trans rfl
      have y0 := fun j => blk_frozen R4.out j
      obtain ⟨x, hx⟩ : ∃ x, x = cost t.n t.c σ := ⟨_, rfl⟩
      rw [← hx]
      have HX := Aside0.mk hx
      clear hx
      go_wp2_with fail
      refine bodyPost_ret (v := .tuple #[.agg #[.slice (some ⟨C, 0, none⟩) k k, .int .i64 x, .slice (some ⟨G.r, 0, none⟩) k k, .slice (some ⟨G.c, 0, none⟩) k k], .bool true]) (by simp [results, Try.results13, go_sem, r0, r1, r2, r3]) rfl ?_
      have BF : Below w.heap.size w w4 := B1.out.trans (A.out.2.2.1.mono B1.out.size)
      refine ⟨_, _, rfl, ⟨true, rfl, ⟨(((BF.setCell (Nat.le_succ _) _).setCell (Nat.le_succ _) _).setCell (Nat.le_succ _) _).setCell (Nat.le_succ _) _, fun _ => ?_, fun x => (by cases x)⟩⟩⟩
      have hN := HN.out
      have hG := GN.out
      obtain ⟨⟨a1, a2, a3, a4, a5⟩, a6, _, _⟩ := A.out
      have b := R4.out
      rw [hG] at a2 a3 a6
      rw [← hN]
      refine ⟨σ, u, v, of, C, G.r, G.c, ?_, HD.out, ?_, ?_, ?_⟩
      · rw [HX.out, hN]
      · unfold IB at a6 ⊢
        have ne := ty_ne a6 b (by decide)
        exact blk_far (blk_far (blk_far (blk_far a6 ne _) ne _) ne _) ne _
      · unfold IB at a2 ⊢
        have ne := ty_ne a2 b (by decide)
        exact blk_far (blk_far (blk_far (blk_far a2 ne _) ne _) ne _) ne _
      · unfold IB at a3 ⊢
        have ne := ty_ne a3 b (by decide)
        exact blk_far (blk_far (blk_far (blk_far a3 ne _) ne _) ne _) ne _
set_option maxHeartbeats 2000000 in
set_option maxRecDepth 100000 in
theorem solve_not (w : World) (A B : Option Addr) (nc nn cA cB : Nat) (len mlen : Nat → Nat) (c : Nat → Nat → Int) (h : Raw w A nc B nn len mlen c) (hl : ∀ i, i < nc → len i ≤ 17592186044416) (hno : ¬ TabMay nc nn len mlen c) :
    Calls Try.prog 13 #[.agg #[.slice A nc cA, .slice B nn cB]] w fun e w' => e = .returned (.tuple #[noMatch, .bool false]) ∧ Aside0 (Below w.heap.size w w') := by
  have H := Aside0.mk h
  have HL := Aside0.mk hl
  have hu := Try.underlying27
  have hu2 := Try.underlying32
  have NO := Aside0.mk hno
  clear h hl hno
  go_enter Try.func13, Try.ntmps13
  go_wp2_with fail
  obtain ⟨W, hW⟩ : ∃ W, W = (w.alloc (.cells #[.slice A nc cA, .slice B nn cB] 27)).alloc (.cells #[.slice none 0 0, .int .i64 0, .slice none 0 0, .slice none 0 0] 32) := ⟨_, rfl⟩
  rw [← hW]
  have BW : Aside0 (Below w.heap.size w W) := ⟨by rw [hW]; exact below_alloc (below_alloc (Below.refl _ _) _) _⟩
  have RW : Aside0 (W.heap[w.heap.size + 1]? = some (.cells #[.slice none 0 0, .int .i64 0, .slice none 0 0, .slice none 0 0] 32 (0, 0))) := ⟨by rw [hW, al_get, al_size, if_pos rfl]⟩
  clear hW
  refine (check_any W A B nc nn cA cB len mlen c (H.out.below BW.out) HL.out).mono ?_
  rintro _ w1 ⟨ok, rfl, hok, b1⟩
  obtain rfl : ok = false := by
    cases ok with
    | false => rfl
    | true => exact absurd (hok.1 rfl) NO.out
  have BF : Aside0 (Below w.heap.size w w1) := ⟨BW.out.trans (b1.mono BW.out.size)⟩
  have R3 := Aside0.mk (blk_below RW.out b1)
  have r0 : w1.cell? ⟨w.heap.size + 1, 0, none⟩ = some (.slice none 0 0) := (blk_cell R3.out 0).trans rfl
  have r1 : w1.cell? ⟨w.heap.size + 1, 1, none⟩ = some (.int .i64 0) := (blk_cell R3.out 1).trans rfl
  have r2 : w1.cell? ⟨w.heap.size + 1, 2, none⟩ = some (.slice none 0 0) := (blk_cell R3.out 2).trans rfl
  have r3 : w1.cell? ⟨w.heap.size + 1, 3, none⟩ = some (.slice none 0 0) := (blk_cell R3.out 3).trans rfl
  have y0 := fun j => blk_frozen R3.out j
  clear hok b1 RW BW
  go_wp2_with fail
  refine bodyPost_ret (v := .tuple #[noMatch, .bool false]) (by simp [results, Try.results13, go_sem, r0, r1, r2, r3, noMatch]) rfl ?_
  exact ⟨rfl, ⟨(((BF.out.setCell (Nat.le_succ _) _).setCell (Nat.le_succ _) _).setCell (Nat.le_succ _) _).setCell (Nat.le_succ _) _⟩⟩
end Go.Proofs.Ytelabmhhnpfegaa.Hand
