/- Texts Jk Jr Jt Rw, cut to what is used. -/
import Derived.Deep.RegionHeld3
import Derived.Test.YtelabmhhnpfegaaXa0
import Derived.Test.YtelabmhhnpfegaaXb2
set_option linter.unusedVariables false
set_option linter.unusedSimpArgs false
section
namespace Go.Proofs.Ytelabmhhnpfegaa.Hand
open Go.RowKit Go.Proofs.YtelabmhhnpfegaaW.PrintWords Go.Proofs.YtelabmhhnpfegaaW.PrintMore
def farB (x : Int) : Bool := decide (x < -2147483648) || decide (2147483648 < x)
theorem far_any (x : Int) (w : World) : Calls Try.prog 41 #[.int .i64 x, .int .i64 2147483648] w fun e w' => e = .returned (.bool (farB x)) ∧ w = w' := by
 unfold farB
 cases h1 : decide (x < -2147483648) with
 | true =>
  go_enter Try.func41, Try.ntmps41
  go_wp2
  go_ret
  exact ⟨rfl, rfl⟩
 | false =>
  go_enter Try.func41, Try.ntmps41
  go_wp2
  go_ret
  exact ⟨rfl, rfl⟩
theorem clo_any (x : Int) (w : World) : Calls Try.prog 40 #[.int .i64 x] w fun e w' => e = .returned (.bool (farB x)) ∧ w = w' := by
 go_enter Try.func40, Try.ntmps40
 go_wp2_with (go_at_call 41; refine (far_any _ _).mono ?_; rintro e w' ⟨rfl, rfl⟩)
 go_ret
 exact ⟨rfl, rfl⟩
def RowJ (w : World) (A : Option Addr) (n : Nat) (c : Nat → Int) : Prop := ∀ k, k < n → ∃ ad, A = some ad ∧ w.cell? (ad.add k) = some (.int .i64 (c k))
def firstFar (n : Nat) (c : Nat → Int) : Int := match (List.range n).find? (fun k => farB (c k)) with
 | some k => (k : Int)
 | none => -1
theorem firstFar_yes {n k : Nat} {c : Nat → Int} (hk : k < n) (h : ∀ j, j < k → farB (c j) = false) (hb : farB (c k) = true) : firstFar n c = (k : Int) := by
 have : (List.range n).find? (fun k => farB (c k)) = some k := by
  rw [List.find?_eq_some_iff_append]
  refine ⟨hb, List.range k, (List.range (n - k - 1)).map (· + (k + 1)), ?_, fun j hj => by rw [h j (List.mem_range.1 hj)]; rfl⟩
  have e1 : List.range n = List.range k ++ (List.range (n - k)).map (k + ·) := by
   have := List.range_add (n := k) (m := n - k)
   rwa [show k + (n - k) = n by omega] at this
  rw [e1, show n - k = (n - k - 1) + 1 by omega, List.range_succ_eq_map]
  simp [Function.comp_def]
  omega
 unfold firstFar
 rw [this]
theorem firstFar_no {n : Nat} {c : Nat → Int} (h : ∀ j, j < n → farB (c j) = false) : firstFar n c = -1 := by
 have : (List.range n).find? (fun k => farB (c k)) = none := by
  rw [List.find?_eq_none]
  intro j hj
  rw [h j (List.mem_range.1 hj)]
  decide
 unfold firstFar
 rw [this]
set_option maxHeartbeats 400000 in
theorem index_any (A : Option Addr) (n c : Nat) (f : Nat → Int) (w : World) (h : RowJ w A n f) (hs : n ≤ 17592186044416) :
  Calls Try.prog 75 #[.slice A n c, .func (.func 40) #[] #[]] w fun e w' => e = .returned (.int .i64 (firstFar n f)) ∧ w = w' := by
 have H := Aside0.mk h
 clear h
 go_enter Try.func75, Try.ntmps75
 go_wp2
 go_loop [8] (fun i => ∃ k : Nat, k ≤ n ∧ i = .int .i64 k ∧ Aside0 (∀ j, j < k → farB (f j) = false)) (fun i => n - (intOf i).toNat)
 case atStart => exact ⟨0, Nat.zero_le _, rfl, Aside0.mk (fun j hj => absurd hj (Nat.not_lt_zero _))⟩
 case round =>
  obtain ⟨k, hk, rfl, ho⟩ := hrel
  by_cases hlt : k < n
  ·obtain ⟨ad, rfl, hc⟩ := H.out k hlt
   cases hb : farB (f k) with
   | true =>
    have HB := Aside0.mk hb
    clear hb
    go_wp2_with (go_at_call 40; refine (clo_any _ _).mono ?_; rintro e w' ⟨rfl, rfl⟩; rw [HB.out])
    go_ret
    exact ⟨by rw [firstFar_yes hlt ho.out HB.out]; rfl, rfl⟩
   | false =>
    have HB := Aside0.mk hb
    clear hb
    go_wp2_with (go_at_call 40; refine (clo_any _ _).mono ?_; rintro e w' ⟨rfl, rfl⟩; rw [HB.out])
    go_round
    case rel => exact ⟨k + 1, by omega, by go_num, Aside0.mk (fun j hj => by
     rcases Nat.lt_succ_iff_lt_or_eq.1 hj with h1 | rfl
     ·exact ho.out j h1
     ·exact HB.out)⟩
    case measure => simp [intOf]; omega
  ·obtain rfl : k = n := by omega
   go_wp2
   go_ret
   exact ⟨by rw [firstFar_no ho.out]; rfl, rfl⟩
set_option maxHeartbeats 400000 in
theorem contains_any (A : Option Addr) (n c : Nat) (f : Nat → Int) (w : World) (h : RowJ w A n f) (hs : n ≤ 17592186044416) :
  Calls Try.prog 39 #[.slice A n c, .func (.func 40) #[] #[]] w fun e w' => e = .returned (.bool (decide (0 ≤ firstFar n f))) ∧ w = w' := by
 go_enter Try.func39, Try.ntmps39
 go_wp2_with (go_at_call 75; refine (index_any A n c f _ h hs).mono ?_; rintro e w' ⟨rfl, rfl⟩)
 go_ret
 exact ⟨rfl, rfl⟩
theorem firstFar_iff {n : Nat} {c : Nat → Int} : decide (0 ≤ firstFar n c) = false ↔ ∀ j, j < n → farB (c j) = false := by
 constructor
 ·intro h j hj
  cases hb : farB (c j) with
  | false => rfl
  | true =>
   exfalso
   have : ∃ k, k ≤ j ∧ farB (c k) = true ∧ ∀ i, i < k → farB (c i) = false := by
    induction j with
    | zero => exact ⟨0, Nat.le_refl _, hb, fun i hi => absurd hi (Nat.not_lt_zero _)⟩
    | succ m ih =>
     by_cases hx : ∃ i, i ≤ m ∧ farB (c i) = true
     ·obtain ⟨i, hi, hbi⟩ := hx
      have key : ∀ m, ∀ i, i ≤ m → farB (c i) = true → ∃ k, k ≤ i ∧ farB (c k) = true ∧ ∀ i, i < k → farB (c i) = false := by
       intro m
       induction m with
       | zero => intro i hi hb; exact ⟨0, by omega, (show i = 0 by omega) ▸ hb, fun i hi => absurd hi (Nat.not_lt_zero _)⟩
       | succ m ih =>
        intro i hi hb
        by_cases hy : ∃ j, j < i ∧ farB (c j) = true
        ·obtain ⟨j, hj, hbj⟩ := hy
         obtain ⟨k, a, b, d⟩ := ih j (by omega) hbj
         exact ⟨k, by omega, b, d⟩
        ·refine ⟨i, Nat.le_refl _, hb, fun j hj => ?_⟩
         cases e : farB (c j) with
         | false => rfl
         | true => exact absurd ⟨j, hj, e⟩ hy
      obtain ⟨k, a, b, d⟩ := key m i hi hbi
      exact ⟨k, by omega, b, d⟩
     ·refine ⟨m + 1, Nat.le_refl _, hb, fun j hj => ?_⟩
      cases e : farB (c j) with
      | false => rfl
      | true => exact absurd ⟨j, by omega, e⟩ hx
   obtain ⟨k, hk, hbk, hlow⟩ := this
   rw [firstFar_yes (by omega) hlow hbk] at h
   have := of_decide_eq_false h
   omega
 ·intro h
  rw [firstFar_no h]
  rfl
structure Raw (w : World) (A : Option Addr) (nc : Nat) (B : Option Addr) (nn : Nat) (len mlen : Nat → Nat) (c : Nat → Nat → Int) : Prop where
 cost : ∀ i, i < nc → ∃ ad AR cR, A = some ad ∧ w.cell? (ad.add i) = some (.slice AR (len i) cR) ∧ RowJ w AR (len i) (c i)
 no : ∀ i, i < nn → ∃ ad AR cR, B = some ad ∧ w.cell? (ad.add i) = some (.slice AR (mlen i) cR)
def TabMay (nc nn : Nat) (len mlen : Nat → Nat) (c : Nat → Nat → Int) : Prop := nc ≤ 64 ∧ nn = nc ∧ ∀ i, i < nc → len i = nc ∧ mlen i = nc ∧ ∀ k, k < nc → farB (c i k) = false
set_option maxHeartbeats 1000000 in
set_option maxRecDepth 100000 in
theorem check_any (w : World) (A B : Option Addr) (nc nn cA cB : Nat) (len mlen : Nat → Nat) (c : Nat → Nat → Int) (h : Raw w A nc B nn len mlen c) (hl : ∀ i, i < nc → len i ≤ 17592186044416) :
  Calls Try.prog 15 #[.agg #[.slice A nc cA, .slice B nn cB]] w fun e w' => ∃ ok, e = .returned (.bool ok) ∧ (ok = true ↔ TabMay nc nn len mlen c) ∧ Below w.heap.size w w' := by
 have H := Aside0.mk h
 have HL := Aside0.mk hl
 clear h hl
 have hu := Try.underlying27
 by_cases h1 : nc ≤ 64
 ·have g1 : decide ((nc : Int) > 64) = false := decide_eq_false (by omega)
  by_cases h2 : nn = nc
  ·subst h2
   go_enter Try.func15, Try.ntmps15
   go_wp2_with fail
   have BA : Aside0 (Below w.heap.size w (w.alloc (.cells #[.slice A nn cA, .slice B nn cB] 27))) := ⟨below_alloc (Below.refl _ _) _⟩
   go_loop [21] (fun i => ∃ k : Nat, k ≤ nn ∧ i = .int .i64 k ∧ Aside0 (∀ j, j < k → len j = nn ∧ mlen j = nn ∧ ∀ q, q < nn → farB (c j q) = false)) (fun i => nn - (intOf i).toNat)
   case atStart => exact ⟨0, Nat.zero_le _, rfl, Aside0.mk (fun j hj => absurd hj (Nat.not_lt_zero _))⟩
   case round =>
    obtain ⟨k, hk, rfl, ho⟩ := hrel
    by_cases hlt : k < nn
    ·obtain ⟨ad, AR, cR, hA, hc, hrow⟩ := H.out.cost k hlt
     obtain ⟨bd, BR, dR, hB, hd⟩ := H.out.no k hlt
     subst hA
     subst hB
     have hc' := pw_cell_below BA.out hc
     have hd' := pw_cell_below BA.out hd
     have hr' : Aside0 (RowJ (w.alloc (.cells #[.slice (some ad) nn cA, .slice (some bd) nn cB] 27)) AR (len k) (c k)) := ⟨fun q hq => by obtain ⟨x, e, hx⟩ := hrow q hq; exact ⟨x, e, pw_cell_below BA.out hx⟩⟩
     clear hc hd hrow
     by_cases e1 : len k = nn
     ·rw [e1] at hc' hr'
      by_cases e2 : mlen k = nn
      ·rw [e2] at hd'
       have E12 := Aside0.mk (And.intro e1 e2)
       clear e1 e2
       cases hf : decide (0 ≤ firstFar nn (c k)) with
       | true =>
        have HF := Aside0.mk hf
        clear hf
        go_wp2_with (go_at_call 39; refine (contains_any AR nn cR (c k) _ hr'.out (by omega)).mono ?_; rintro e w' ⟨rfl, rfl⟩; rw [HF.out])
        go_ret
        have NO : ¬ TabMay nn nn len mlen c := fun x => by
         have := firstFar_iff.2 (x.2.2 k hlt).2.2
         rw [HF.out] at this
         cases this
        first | exact ⟨false, rfl, ⟨fun x => (by cases x), fun x => absurd x NO⟩, BA.out⟩ | exact .inl ⟨rfl, NO, BA.out⟩
       | false =>
        have HF := Aside0.mk hf
        clear hf
        go_wp2_with (go_at_call 39; refine (contains_any AR nn cR (c k) _ hr'.out (by omega)).mono ?_; rintro e w' ⟨rfl, rfl⟩; rw [HF.out])
        go_round
        case rel => exact ⟨k + 1, by omega, by go_num, Aside0.mk (fun j hj => by
         rcases Nat.lt_succ_iff_lt_or_eq.1 hj with h1 | rfl
         ·exact ho.out j h1
         ·exact ⟨E12.out.1, E12.out.2, firstFar_iff.1 HF.out⟩)⟩
        case measure => simp [intOf]; omega
      ·have g2 : ((mlen k : Int) != (nn : Int)) = true := by simp; omega
       have E2 := Aside0.mk e2
       clear e1 e2
       go_wp2_with fail
       go_ret
       first | exact ⟨false, rfl, ⟨fun x => (by cases x), fun x => absurd (x.2.2 k hlt).2.1 E2.out⟩, BA.out⟩ | exact .inl ⟨rfl, fun x => absurd (x.2.2 k hlt).2.1 E2.out, BA.out⟩
     ·have g2 : ((len k : Int) != (nn : Int)) = true := by simp; omega
      have E1 := Aside0.mk e1
      clear e1
      go_wp2_with fail
      go_ret
      first | exact ⟨false, rfl, ⟨fun x => (by cases x), fun x => absurd (x.2.2 k hlt).1 E1.out⟩, BA.out⟩ | exact .inl ⟨rfl, fun x => absurd (x.2.2 k hlt).1 E1.out, BA.out⟩
    ·obtain rfl : k = nn := by omega
     go_wp2_with fail
     go_ret
     first | exact ⟨true, rfl, ⟨fun _ => ⟨h1, rfl, ho.out⟩, fun _ => rfl⟩, BA.out⟩ | exact .inr ⟨rfl, ⟨h1, rfl, ho.out⟩, BA.out⟩
  ·have g2 : ((nn : Int) != (nc : Int)) = true := by simp; omega
   go_enter Try.func15, Try.ntmps15
   go_wp2_with fail
   go_ret
   first | exact ⟨false, rfl, ⟨fun x => (by cases x), fun x => absurd x.2.1 h2⟩, below_alloc (Below.refl _ _) _⟩ | exact .inl ⟨rfl, fun x => absurd x.2.1 h2, below_alloc (Below.refl _ _) _⟩
 ·have g1 : decide ((nc : Int) > 64) = true := decide_eq_true (by omega)
  go_enter Try.func15, Try.ntmps15
  go_wp2_with fail
  go_ret
  first | exact ⟨false, rfl, ⟨fun x => (by cases x), fun x => absurd x.1 h1⟩, below_alloc (Below.refl _ _) _⟩ | exact .inl ⟨rfl, fun x => absurd x.1 h1, below_alloc (Below.refl _ _) _⟩
end Go.Proofs.Ytelabmhhnpfegaa.Hand
end
section
namespace Go.Proofs.Ytelabmhhnpfegaa.Hand
open Go.RowKit Go.Proofs.YtelabmhhnpfegaaW.PrintWords Go.Proofs.YtelabmhhnpfegaaW.PrintMore
theorem Wk.setO {W : World} {G : Geo} {u v of : Nat → Int} (h : Wk W G u v of) (i : Nat) (x : Int) : Wk (W.setCell ⟨G.o, i, none⟩ (.int .i64 x)) G u v (upd of i x) := by
 obtain ⟨a1, a2, a3, a4, a5⟩ := h
 have A4 := a4
 unfold IB at a2 a3 a4
 exact ⟨blk_far a1 (ty_ne a1 a4 (by decide)) _, blk_far a2 (ty_ne a2 a4 (by decide)) _, blk_far a3 (ty_ne a3 a4 (by decide)) _, A4.set i x, a5⟩
theorem wk_made {W : World} (s r c o n cC cN : Nat) (AC AN : Option Addr) (hs : s = W.heap.size) (hr : IB W r 2 n fun _ => 0) (hc : IB W c 2 n fun _ => 0) (ho : IB W o 3 n fun _ => 0) (ne : r ≠ c) :
  Wk (W.alloc (.cells #[.slice AC n cC, .slice AN n cN, .slice (some ⟨r, 0, none⟩) n n, .slice (some ⟨c, 0, none⟩) n n, .slice (some ⟨o, 0, none⟩) n n] 132)) ⟨n, AC, cC, AN, cN, s, r, c, o⟩ (fun _ => 0) (fun _ => 0) (fun _ => 0) := by
 subst hs
 have hb : Below W.heap.size W (W.alloc (.cells #[.slice AC n cC, .slice AN n cN, .slice (some ⟨r, 0, none⟩) n n, .slice (some ⟨c, 0, none⟩) n n, .slice (some ⟨o, 0, none⟩) n n] 132)) := below_alloc (Below.refl _ _) _
 have mv : ∀ {g : Nat} {o' : Obj}, W.heap[g]? = some o' → (W.alloc (.cells #[.slice AC n cC, .slice AN n cN, .slice (some ⟨r, 0, none⟩) n n, .slice (some ⟨c, 0, none⟩) n n, .slice (some ⟨o, 0, none⟩) n n] 132)).heap[g]? = some o' := fun hg => (hb.block _ (blk_lt hg)).trans hg
 exact ⟨blk_new W _, mv hr, mv hc, mv ho, ne⟩
theorem Wk.drew {W : World} {G : Geo} {u v of : Nat → Int} (h : Wk W G u v of) : Wk W.drew G u v of := h.below (below_drew (Below.refl _ _))
def ofK (k : Nat) : Nat → Int := fun j => if j < k then -1 else 0
theorem ofK_zero : ofK 0 = fun _ => 0 := by
 funext j
 exact if_neg (Nat.not_lt_zero _)
theorem ofK_succ {k : Nat} : ofK (k + 1) = upd (ofK k) k (-1) := by
 funext j
 unfold ofK upd
 by_cases hj : j = k
 ·rw [if_pos hj, if_pos (by omega)]
 ·rw [if_neg hj]
  by_cases hk : j < k
  ·simp only [if_pos hk]
   exact if_pos (by omega)
  ·simp only [if_neg hk]
   exact if_neg (by omega)
set_option maxHeartbeats 2000000 in
set_option maxRecDepth 100000 in
theorem start_any (w : World) (AC AN : Option Addr) (n cC cN : Nat) (hn64 : n ≤ 64) :
  Calls Try.prog 36 #[.agg #[.slice AC n cC, .slice AN n cN]] w fun e w' => ∃ G : Geo, G.n = n ∧ G.AC = AC ∧ G.AN = AN ∧ e = .returned (.pointer (some ⟨G.w, 0, none⟩)) ∧ Wk w' G (fun _ => 0) (fun _ => 0) (fun _ => -1) ∧ Below w.heap.size w w' ∧ Hi0 w.heap.size G := by
 have hu := Try.underlying27
 have m1 := mk30 n hn64
 have m2 := mk29 n hn64
 go_enter Try.func36, Try.ntmps36
 go_upto_region 2 with fail
 go_cut [4] from 9 to 17 (fun s4 wx => ∃ G : Geo, s4 = .pointer (some ⟨G.w, 0, none⟩) ∧ Aside0 (G.n = n ∧ G.AC = AC ∧ G.AN = AN ∧ Wk wx G (fun _ => 0) (fun _ => 0) (ofK 0) ∧ Below w.heap.size w wx ∧ Hi0 w.heap.size G))
 case first =>
  go_region
  all_goals
   go_wp2_with fail
   go_meet
   rw [ofK_zero]
   refine ⟨⟨n, AC, cC, AN, cN, _, _, _, _⟩, rfl, ⟨rfl, rfl, rfl, Wk.drew (wk_made _ _ _ _ n cC cN AC AN ?_ ?_ ?_ ?_ ?_), below_drew (below_alloc (below_alloc (below_alloc (below_alloc (below_alloc (Below.refl _ _) _) _) _) _) _), ⟨?_, ?_, ?_, ?_⟩⟩⟩
   ·simp
   iterate 3
    ·simp only [IB, al_get, al_size]
     repeat (first | rw [if_pos trivial] | rw [if_pos (by omega)] | rw [if_neg (by omega)])
   ·omega
   all_goals (dsimp only; omega)
 case rest =>
  clear m1 m2
  obtain ⟨G, rfl, A⟩ := hcut
  have HN : Aside0 (n = G.n) := ⟨A.out.1.symm⟩
  have K0 : Aside0 (Wk wc G (fun _ => 0) (fun _ => 0) (ofK 0)) := ⟨A.out.2.2.2.1⟩
  have B0 : Aside0 (Below w.heap.size w wc) := ⟨A.out.2.2.2.2.1⟩
  have f4 := K0.out.w4
  rw [← HN.out] at f4
  go_wp2_with fail
  clear f4
  go_loopw [23] (fun v23 wr => ∃ k : Nat, k ≤ n ∧ v23 = .int .i64 k ∧ Aside0 (Wk wr G (fun _ => 0) (fun _ => 0) (ofK k)) ∧ Aside0 (Below w.heap.size w wr)) (fun v _ => n - (intOf v).toNat)
  case atStart => exact ⟨0, Nat.zero_le _, rfl, K0, B0⟩
  case round =>
   clear K0 B0
   obtain ⟨k, hk, rfl, K, BW⟩ := hrel
   by_cases hlt : k < n
   ·have hkn : k < G.n := by rw [← HN.out]; exact hlt
    have f4 := K.out.w4
    rw [← HN.out] at f4
    have eo := K.out.of.c hkn
    have zo := K.out.of.z k
    have NX := Aside0.mk (ofK_succ (k := k))
    go_wp2_with fail
    go_roundw
    case measure => simp [intOf]; omega
    case rel =>
     refine ⟨k + 1, by omega, by go_num, ⟨?_⟩, ⟨?_⟩⟩
     ·rw [NX.out]
      exact K.out.setO k (-1)
     ·exact BW.out.setCell A.out.2.2.2.2.2.o _
   ·obtain rfl : k = n := by omega
    go_wp2_with fail
    go_ret
    obtain ⟨a1, a2, a3, _, _, a6⟩ := A.out
    refine ⟨G, a1, a2, a3, rfl, ?_, BW.out, a6⟩
    have hN := HN.out
    obtain ⟨b1, b2, b3, b4, b5⟩ := K.out
    refine ⟨b1, b2, b3, ?_, b5⟩
    unfold IB at b4 ⊢
    rw [b4, tabI_congr (g := fun _ => -1) (fun i hi => by simp only [ofK]; exact if_pos (by omega))]
end Go.Proofs.Ytelabmhhnpfegaa.Hand
namespace Go.Proofs.Ytelabmhhnpfegaa.Hand
open Go.RowKit Go.Proofs.YtelabmhhnpfegaaW.PrintWords Go.Proofs.YtelabmhhnpfegaaW.PrintMore
def MB (w : World) (m C n : Nat) (x : Int) (r c : Nat) : Prop := w.heap[m]? = some (.cells #[.slice (some ⟨C, 0, none⟩) n n, .int .i64 x, .slice (some ⟨r, 0, none⟩) n n, .slice (some ⟨c, 0, none⟩) n n] 32 (0, 0))
def colK (σ : Nat → Nat) (k : Nat) : Nat → Int := fun i => if σ i < k then (σ i : Int) else 0
theorem colK_zero (σ : Nat → Nat) : colK σ 0 = fun _ => 0 := by
 funext i
 exact if_neg (Nat.not_lt_zero _)
theorem colK_step {w : World} {C n i k : Nat} {σ : Nat → Nat} (hσ : Inj n σ) (hi : i < n) (e : σ i = k) (h : IB w C 3 n (upd (colK σ k) i (k : Int))) : IB w C 3 n (colK σ (k + 1)) := by
 unfold IB at *
 rw [h, tabI_congr (fun j hj => ?_)]
 unfold upd colK
 by_cases hji : j = i
 ·subst hji
  rw [if_pos rfl, if_pos (by omega), e]
 ·rw [if_neg hji]
  have : σ j ≠ k := fun h => hji (hσ.inj j i hj hi (h.trans e.symm))
  by_cases hk : σ j < k
  ·rw [if_pos hk, if_pos (by omega)]
  ·rw [if_neg hk, if_neg (by omega)]
theorem colK_end {w : World} {C n : Nat} {σ : Nat → Nat} (hσ : Inj n σ) (h : IB w C 3 n (colK σ n)) : IB w C 3 n (fun i => (σ i : Int)) := by
 unfold IB at *
 rw [h, tabI_congr (fun j hj => ?_)]
 exact if_pos (hσ.lt j hj)
def costK (t : Tb) (of : Nat → Int) (k : Nat) : Int := sumTo k (fun j => t.c (of j).toNat j)
theorem costK_bd {t : Tb} (ht : TbOk t) {of : Nat → Int} {k : Nat} (hk : k ≤ t.n) (ho : ∀ j, j < t.n → ∃ i : Nat, of j = (i : Int) ∧ i < t.n) : -(k * 2147483648 : Int) ≤ costK t of k ∧ costK t of k ≤ k * 2147483648 :=
 sumTo_abs (fun j hj => by
  obtain ⟨i, e, hi⟩ := ho j (by omega)
  rw [e, Int.toNat_natCast]
  exact ht.mag i j hi (by omega))
theorem costK_end {t : Tb} {u v of : Nat → Int} {σ : Nat → Nat} (h : Done t u v of σ) : costK t of t.n = cost t.n t.c σ := by
 unfold costK cost
 rw [← h.pm.inj.sum]
 refine sumTo_congr (fun i hi => ?_)
 show t.c (of (σ i)).toNat (σ i) = _
 rw [h.col i hi, Int.toNat_natCast]
set_option maxHeartbeats 2000000 in
set_option maxRecDepth 100000 in
theorem match_any (w0 w : World) (G : Geo) (t : Tb) (T : Tab w0 G t) (ht : TbOk t) (u v of : Nat → Int) (h : Wk w G u v of) (σ : Nat → Nat) (hd : Done t u v of σ) (hb : Below w0.heap.size w0 w) (hi : Hi0 w0.heap.size G) :
  Calls Try.prog 38 #[.pointer (some ⟨G.w, 0, none⟩)] w fun e w' => ∃ C : Nat, e = .returned (.agg #[.slice (some ⟨C, 0, none⟩) G.n G.n, .int .i64 (cost t.n t.c σ), .slice (some ⟨G.r, 0, none⟩) G.n G.n, .slice (some ⟨G.c, 0, none⟩) G.n G.n]) ∧ Aside0 (Wk w' G u v of ∧ IB w' C 3 G.n (fun i => (σ i : Int)) ∧ Below w0.heap.size w0 w' ∧ w0.heap.size ≤ C) := by
 have HT := Aside0.mk T
 have TO := Aside0.mk ht
 have HD := Aside0.mk hd
 have H := Aside0.mk h
 have HB := Aside0.mk hb
 have HI := Aside0.mk hi
 have hn64 : G.n ≤ 64 := by rw [← T.n]; exact ht.n64
 obtain ⟨n, hn1⟩ : ∃ n, n = G.n := ⟨_, rfl⟩
 have HN := Aside0.mk hn1
 have f1 := h.w2
 have f2 := h.w3
 have f4 := h.w4
 rw [← hn1] at f1 f2 f4 hn64 ⊢
 clear T ht hd h hb hi hn1
 have m2 := mk29 n hn64
 have hu := Try.underlying32
 go_enter Try.func38, Try.ntmps38
 go_upto_region 1 with fail
 have FA : ∀ X : World, Below w.heap.size w X → X.cell? ⟨G.w, 2, none⟩ = some (.slice (some ⟨G.r, 0, none⟩) n n) ∧ X.cell? ⟨G.w, 3, none⟩ = some (.slice (some ⟨G.c, 0, none⟩) n n) ∧ X.cell? ⟨G.w, 4, none⟩ = some (.slice (some ⟨G.o, 0, none⟩) n n) := fun X hX => by
  have := H.out.below hX
  exact ⟨by rw [HN.out]; exact this.w2, by rw [HN.out]; exact this.w3, by rw [HN.out]; exact this.w4⟩
 have X1 := FA _ (below_alloc (Below.refl _ _) (.cells #[.slice none 0 0, .int .i64 0, .slice none 0 0, .slice none 0 0] 32))
 have X2 := FA _ (below_alloc (below_alloc (Below.refl _ _) (.cells #[.slice none 0 0, .int .i64 0, .slice none 0 0, .slice none 0 0] 32)) (.cells #[.slice none 0 0, .int .i64 0, .slice none 0 0, .slice none 0 0] 32))
 have X3 := FA _ (below_alloc (below_alloc (Below.refl _ _) (.cells #[.slice none 0 0, .int .i64 0, .slice none 0 0, .slice none 0 0] 32)) (.cells (tabI n fun _ => 0) 3))
 have X4 := FA _ (below_alloc (below_alloc (below_alloc (Below.refl _ _) (.cells #[.slice none 0 0, .int .i64 0, .slice none 0 0, .slice none 0 0] 32)) (.cells (tabI n fun _ => 0) 3)) (.cells #[.slice none 0 0, .int .i64 0, .slice none 0 0, .slice none 0 0] 32))
 have X5 := FA _ (below_alloc (below_alloc (below_alloc (Below.refl _ _) (.cells #[.slice none 0 0, .int .i64 0, .slice none 0 0, .slice none 0 0] 32)) (.cells #[.slice none 0 0, .int .i64 0, .slice none 0 0, .slice none 0 0] 32)) (.cells (tabI n fun _ => 0) 3))
 obtain ⟨a1, a2, a3⟩ := X1
 obtain ⟨b1, b2, b3⟩ := X2
 obtain ⟨c1, c2, c3⟩ := X3
 obtain ⟨d1, d2, d3⟩ := X4
 obtain ⟨e1, e2, e3⟩ := X5
 clear FA
 go_cut [3] from 6 to 20 (fun s3 wx => ∃ m C : Nat, s3 = .pointer (some ⟨m, 0, none⟩) ∧ Aside0 (MB wx m C n 0 G.r G.c ∧ wx.heap[w.heap.size]? = some (.cells #[.slice none 0 0, .int .i64 0, .slice none 0 0, .slice none 0 0] 32 (0, 0)) ∧ IB wx C 3 n (colK σ 0) ∧ Below w.heap.size w wx ∧ w.heap.size < m ∧ w.heap.size ≤ C))
 case first =>
  go_region
  all_goals
   go_wp2_with fail
   go_meet
   clear a1 a2 a3 b1 b2 b3 c1 c2 c3 d1 d2 d3 e1 e2 e3 m2
   rw [colK_zero]
   first
    | refine ⟨_, w.heap.size + 1, rfl, ⟨?_, ?_, ?_, below_drew (below_alloc (below_alloc (below_alloc (Below.refl _ _) _) _) _), by omega, by omega⟩⟩ <;> (simp only [MB, IB, dr_heap, al_get, al_size]; (repeat (first | rw [if_pos trivial] | rw [if_pos (by omega)] | rw [if_neg (by omega)])); done)
    | refine ⟨_, w.heap.size + 1 + 1, rfl, ⟨?_, ?_, ?_, below_drew (below_alloc (below_alloc (below_alloc (Below.refl _ _) _) _) _), by omega, by omega⟩⟩ <;> (simp only [MB, IB, dr_heap, al_get, al_size]; (repeat (first | rw [if_pos trivial] | rw [if_pos (by omega)] | rw [if_neg (by omega)])); done)
    | trace_state
 case rest =>
  clear a1 a2 a3 b1 b2 b3 c1 c2 c3 d1 d2 d3 e1 e2 e3 m2 f1 f2 f4
  obtain ⟨m, C, rfl, A⟩ := hcut
  have HO : Aside0 (∀ j, j < n → ∃ i : Nat, of j = (i : Int) ∧ i < n ∧ σ i = j) := ⟨fun j hj => by
   have hN : t.n = n := by rw [HT.out.n, HN.out]
   obtain ⟨i, hi, e⟩ := HD.out.pm.inj.onto (k := j) (by rw [hN]; exact hj)
   exact ⟨i, by rw [← e]; exact HD.out.col i hi, by rw [← hN]; exact hi, e⟩⟩
  have M0 : Aside0 (MB wc m C n (costK t of 0) G.r G.c) := ⟨A.out.1⟩
  have R0 : Aside0 (wc.heap[w.heap.size]? = some (.cells #[.slice none 0 0, .int .i64 0, .slice none 0 0, .slice none 0 0] 32 (0, 0))) := ⟨A.out.2.1⟩
  have C0 : Aside0 (IB wc C 3 n (colK σ 0)) := ⟨A.out.2.2.1⟩
  have B0 : Aside0 (Below w.heap.size w wc) := ⟨A.out.2.2.2.1⟩
  have S0 : Aside0 (w.heap.size < m ∧ w.heap.size ≤ C) := ⟨A.out.2.2.2.2⟩
  clear A
  have f4 := (H.out.below B0.out).w4
  rw [← HN.out] at f4
  go_wp2_with fail
  clear f4
  go_loopw [26] (fun v26 wr => ∃ k : Nat, k ≤ n ∧ v26 = .int .i64 k ∧ Aside0 (MB wr m C n (costK t of k) G.r G.c) ∧ Aside0 (wr.heap[w.heap.size]? = some (.cells #[.slice none 0 0, .int .i64 0, .slice none 0 0, .slice none 0 0] 32 (0, 0))) ∧ Aside0 (IB wr C 3 n (colK σ k)) ∧ Aside0 (Below w.heap.size w wr)) (fun v _ => n - (intOf v).toNat)
  case atStart => exact ⟨0, Nat.zero_le _, rfl, M0, R0, C0, B0⟩
  case round =>
   clear M0 R0 C0 B0
   obtain ⟨k, hk, rfl, MK, RK, CK, BK⟩ := hrel
   have WK := Aside0.mk (H.out.below BK.out)
   by_cases hlt : k < n
   ·obtain ⟨i, hoi, hin, hsi⟩ := HO.out k hlt
    have eo := WK.out.of.c (i := k) (by rw [← HN.out]; exact hlt)
    rw [hoi] at eo
    have OI := Aside0.mk (And.intro hoi hsi)
    clear hoi hsi
    have m0 : wr.cell? ⟨m, 0, none⟩ = some (.slice (some ⟨C, 0, none⟩) n n) := (blk_cell MK.out 0).trans rfl
    have ec := CK.out.c hin
    have zc := CK.out.z i
    go_wp2_with fail
    clear m0 ec zc eo
    obtain ⟨W1, hW1⟩ : ∃ W1, W1 = wr.setCell ⟨C, i, none⟩ (.int .i64 (k : Int)) := ⟨_, rfl⟩
    rw [← hW1]
    have M1 : Aside0 (MB W1 m C n (costK t of k) G.r G.c) := ⟨by
     rw [hW1]
     have a := MK.out
     have b := CK.out
     unfold MB at a ⊢
     unfold IB at b
     exact blk_far a (ty_ne a b (by decide)) _⟩
    have R1 : Aside0 (W1.heap[w.heap.size]? = some (.cells #[.slice none 0 0, .int .i64 0, .slice none 0 0, .slice none 0 0] 32 (0, 0))) := ⟨by
     rw [hW1]
     have a := RK.out
     have b := CK.out
     unfold IB at b
     exact blk_far a (ty_ne a b (by decide)) _⟩
    have hN : t.n = n := by rw [HT.out.n, HN.out]
    have C1 : Aside0 (IB W1 C 3 n (colK σ (k + 1))) := ⟨by
     rw [hW1]
     exact colK_step (by rw [← hN]; exact HD.out.pm.inj) hin OI.out.2 (CK.out.set i k)⟩
    have B1 : Aside0 (Below w.heap.size w W1) := ⟨by rw [hW1]; exact BK.out.setCell S0.out.2 _⟩
    have B2 : Aside0 (Below w0.heap.size w0 W1) := ⟨HB.out.trans (B1.out.mono (Nat.le_trans HI.out.w (Nat.le_of_lt (blk_lt H.out.blk))))⟩
    clear hW1 MK RK CK BK WK
    have f0 := (H.out.below B1.out).w0
    have m1 : W1.cell? ⟨m, 1, none⟩ = some (.int .i64 (costK t of k)) := (blk_cell M1.out 1).trans rfl
    have z1 : W1.frozen? ⟨m, 1, none⟩ = false := blk_frozen M1.out 1
    obtain ⟨ad, AR, cR, hAC, hrc, hcc⟩ := HT.out.cost i (by rw [← HN.out]; exact hin)
    have g1 := pw_cell_below B2.out hrc
    have g2 := pw_cell_below B2.out (hcc k (by rw [← HN.out]; exact hlt))
    rw [hAC] at f0
    rw [← HN.out] at f0 g1
    have bc := TO.out.mag i k (by rw [hN]; exact hin) (by rw [hN]; exact hlt)
    have bk := costK_bd TO.out (of := of) (k := k) (by rw [hN]; exact hk) (fun j hj => by
     obtain ⟨i, a, b, _⟩ := HO.out j (by rw [← hN]; exact hj)
     exact ⟨i, a, by rw [hN]; exact b⟩)
    have NX : Aside0 (costK t of (k + 1) = costK t of k + t.c i k) := ⟨by
     unfold costK
     rw [sumTo_succ]
     show _ + t.c (of k).toNat k = _
     rw [OI.out.1, Int.toNat_natCast]⟩
    obtain ⟨x, hx⟩ : ∃ x, x = costK t of k := ⟨_, rfl⟩
    obtain ⟨y, hy⟩ : ∃ y, y = t.c i k := ⟨_, rfl⟩
    rw [← hx] at m1 bk NX M1
    rw [← hy] at g2 bc NX
    have w1 : IntKind.i64.wrap (x + y) = x + y := IntWalk.i64_in _ (by omega)
    clear hAC hrc hcc hx hy hN bk bc
    go_region
    go_wp2_with fail
    go_roundw
    case measure => simp [intOf]; omega
    case rel =>
     have ne1 : w.heap.size ≠ m := by have := S0.out.1; omega
     refine ⟨k + 1, by omega, by go_num, ⟨?_⟩, ⟨?_⟩, ⟨?_⟩, ⟨?_⟩⟩
     ·rw [NX.out]
      exact blk_put M1.out 1 _ rfl
     ·exact blk_far R1.out ne1 _
     ·have a := C1.out
      have b := M1.out
      unfold IB at a ⊢
      unfold MB at b
      exact blk_far a (ty_ne a b (by decide)) _
     ·exact below_drew (B1.out.setCell (Nat.le_of_lt S0.out.1) _)
   ·obtain rfl : k = n := by omega
    have m0 : wr.cell? ⟨m, 0, none⟩ = some (.slice (some ⟨C, 0, none⟩) k k) := (blk_cell MK.out 0).trans rfl
    have m1 : wr.cell? ⟨m, 1, none⟩ = some (.int .i64 (costK t of k)) := (blk_cell MK.out 1).trans rfl
    have m2 : wr.cell? ⟨m, 2, none⟩ = some (.slice (some ⟨G.r, 0, none⟩) k k) := (blk_cell MK.out 2).trans rfl
    have m3 : wr.cell? ⟨m, 3, none⟩ = some (.slice (some ⟨G.c, 0, none⟩) k k) := (blk_cell MK.out 3).trans rfl
    have r0 : wr.cell? ⟨w.heap.size, 0, none⟩ = some (.slice none 0 0) := (blk_cell RK.out 0).trans rfl
    have r1 : wr.cell? ⟨w.heap.size, 1, none⟩ = some (.int .i64 0) := (blk_cell RK.out 1).trans rfl
    have r2 : wr.cell? ⟨w.heap.size, 2, none⟩ = some (.slice none 0 0) := (blk_cell RK.out 2).trans rfl
    have r3 : wr.cell? ⟨w.heap.size, 3, none⟩ = some (.slice none 0 0) := (blk_cell RK.out 3).trans rfl
    have y0 := fun j => blk_frozen RK.out j
    go_wp2_with fail
    have hN : t.n = k := by rw [HT.out.n, HN.out]
    have BF : Below w.heap.size w ((((wr.setCell ⟨w.heap.size, 0, none⟩ (.slice (some ⟨C, 0, none⟩) k k)).setCell ⟨w.heap.size, 1, none⟩ (.int .i64 (costK t of k))).setCell ⟨w.heap.size, 2, none⟩ (.slice (some ⟨G.r, 0, none⟩) k k)).setCell ⟨w.heap.size, 3, none⟩ (.slice (some ⟨G.c, 0, none⟩) k k)) := (((BK.out.setCell (Nat.le_refl _) _).setCell (Nat.le_refl _) _).setCell (Nat.le_refl _) _).setCell (Nat.le_refl _) _
    refine bodyPost_ret (v := .agg #[.slice (some ⟨C, 0, none⟩) k k, .int .i64 (costK t of k), .slice (some ⟨G.r, 0, none⟩) k k, .slice (some ⟨G.c, 0, none⟩) k k]) (by simp [results, Try.results38, go_sem, r0, r1, r2, r3]) rfl ?_
    refine ⟨C, by rw [← costK_end HD.out, hN], ⟨H.out.below BF, ?_, HB.out.trans (BF.mono (Nat.le_trans HI.out.w (Nat.le_of_lt (blk_lt H.out.blk)))), Nat.le_trans (Nat.le_trans HI.out.w (Nat.le_of_lt (blk_lt H.out.blk))) S0.out.2⟩⟩
    have a := colK_end (by rw [← hN]; exact HD.out.pm.inj) CK.out
    have b := RK.out
    unfold IB at a ⊢
    have ne : C ≠ w.heap.size := ty_ne a b (by decide)
    exact blk_far (blk_far (blk_far (blk_far a ne _) ne _) ne _) ne _
end Go.Proofs.Ytelabmhhnpfegaa.Hand
end
section
namespace Go.Proofs.Ytelabmhhnpfegaa.Hand
open Go.RowKit Go.Proofs.YtelabmhhnpfegaaW.PrintWords Go.Proofs.YtelabmhhnpfegaaW.PrintMore
structure TabR (w : World) (AC AN : Option Addr) (t : Tb) : Prop where
 cost : ∀ i, i < t.n → ∃ ad AR cR, AC = some ad ∧ w.cell? (ad.add i) = some (.slice (some AR) t.n cR) ∧ ∀ k, k < t.n → w.cell? (AR.add k) = some (.int .i64 (t.c i k))
 no : ∀ i, i < t.n → ∃ ad AR cR, AN = some ad ∧ w.cell? (ad.add i) = some (.slice (some AR) t.n cR) ∧ ∀ k, k < t.n → w.cell? (AR.add k) = some (.bool (t.no i k))
theorem TabR.below {w w1 : World} {AC AN : Option Addr} {t : Tb} (h : TabR w AC AN t) (hb : Below w.heap.size w w1) : TabR w1 AC AN t :=
 ⟨fun i hi => by
  obtain ⟨ad, AR, cR, e, h1, h2⟩ := h.cost i hi
  exact ⟨ad, AR, cR, e, pw_cell_below hb h1, fun k hk => pw_cell_below hb (h2 k hk)⟩,
  fun i hi => by
  obtain ⟨ad, AR, cR, e, h1, h2⟩ := h.no i hi
  exact ⟨ad, AR, cR, e, pw_cell_below hb h1, fun k hk => pw_cell_below hb (h2 k hk)⟩⟩
theorem TabR.tab {w : World} {G : Geo} {t : Tb} (h : TabR w G.AC G.AN t) (hn : t.n = G.n) : Tab w G t := by
 obtain ⟨h1, h2⟩ := h
 rw [hn] at h1 h2
 exact ⟨hn, h1, h2⟩
theorem Raw.below {w w1 : World} {A B : Option Addr} {nc nn : Nat} {len mlen : Nat → Nat} {c : Nat → Nat → Int} (h : Raw w A nc B nn len mlen c) (hb : Below w.heap.size w w1) : Raw w1 A nc B nn len mlen c :=
 ⟨fun i hi => by
  obtain ⟨ad, AR, cR, e, h1, h2⟩ := h.cost i hi
  exact ⟨ad, AR, cR, e, pw_cell_below hb h1, fun k hk => by
   obtain ⟨x, e, hx⟩ := h2 k hk
   exact ⟨x, e, pw_cell_below hb hx⟩⟩,
  fun i hi => by
  obtain ⟨ad, AR, cR, e, h1⟩ := h.no i hi
  exact ⟨ad, AR, cR, e, pw_cell_below hb h1⟩⟩
theorem TabR.raw {w : World} {AC AN : Option Addr} {t : Tb} (h : TabR w AC AN t) : Raw w AC t.n AN t.n (fun _ => t.n) (fun _ => t.n) t.c :=
 ⟨fun i hi => by
  obtain ⟨ad, AR, cR, e, h1, h2⟩ := h.cost i hi
  exact ⟨ad, some AR, cR, e, h1, fun k hk => ⟨AR, rfl, h2 k hk⟩⟩,
  fun i hi => by
  obtain ⟨ad, AR, cR, e, h1, _⟩ := h.no i hi
  exact ⟨ad, some AR, cR, e, h1⟩⟩
theorem farB_no {x : Int} : farB x = false ↔ -2147483648 ≤ x ∧ x ≤ 2147483648 := by
 unfold farB
 simp
theorem TbOk.may {t : Tb} (h : TbOk t) : TabMay t.n t.n (fun _ => t.n) (fun _ => t.n) t.c :=
 ⟨h.n64, rfl, fun i hi => ⟨rfl, rfl, fun k hk => farB_no.2 (h.mag i k hi hk)⟩⟩
def noMatch : Value := .agg #[.slice none 0 0, .int .i64 0, .slice none 0 0, .slice none 0 0]
structure Told (w w' : World) (t : Tb) (m : Value) (ok : Bool) : Prop where
 below : Below w.heap.size w w'
 yes : ok = true → ∃ (σ : Nat → Nat) (u v of : Nat → Int) (C r c : Nat), m = .agg #[.slice (some ⟨C, 0, none⟩) t.n t.n, .int .i64 (cost t.n t.c σ), .slice (some ⟨r, 0, none⟩) t.n t.n, .slice (some ⟨c, 0, none⟩) t.n t.n] ∧ Done t u v of σ ∧ IB w' C 3 t.n (fun i => (σ i : Int)) ∧ IB w' r 2 t.n u ∧ IB w' c 2 t.n v
 no : ok = false → m = noMatch ∧ ∀ σ, ¬ PM t.n t.no σ
set_option maxHeartbeats 2000000 in
set_option maxRecDepth 100000 in
theorem solve_any (w : World) (AC AN : Option Addr) (cC cN : Nat) (t : Tb) (h : TabR w AC AN t) (ht : TbOk t) :
  Calls Try.prog 13 #[.agg #[.slice AC t.n cC, .slice AN t.n cN]] w fun e w' => ∃ m okv, e = .returned (.tuple #[m, okv]) ∧ Aside0 (∃ ok, okv = .bool ok ∧ Told w w' t m ok) := by
 have H := Aside0.mk h
 have TO := Aside0.mk ht
 have hu := Try.underlying27
 have hu2 := Try.underlying32
 obtain ⟨n, hn1⟩ : ∃ n, n = t.n := ⟨_, rfl⟩
 have HN := Aside0.mk hn1
 have hn64 : n ≤ 64 := by rw [hn1]; exact ht.n64
 rw [← hn1]
 clear h ht hn1
 go_enter Try.func13, Try.ntmps13
 go_wp2_with fail
 obtain ⟨W, hW⟩ : ∃ W, W = (w.alloc (.cells #[.slice AC n cC, .slice AN n cN] 27)).alloc (.cells #[.slice none 0 0, .int .i64 0, .slice none 0 0, .slice none 0 0] 32) := ⟨_, rfl⟩
 rw [← hW]
 have BW : Aside0 (Below w.heap.size w W) := ⟨by rw [hW]; exact below_alloc (below_alloc (Below.refl _ _) _) _⟩
 have TW : Aside0 (W.heap[w.heap.size]? = some (.cells #[.slice AC n cC, .slice AN n cN] 27 (0, 0))) := ⟨by rw [hW, al_get, al_size, if_neg (by omega), al_get, if_pos rfl]⟩
 have RW : Aside0 (W.heap[w.heap.size + 1]? = some (.cells #[.slice none 0 0, .int .i64 0, .slice none 0 0, .slice none 0 0] 32 (0, 0))) := ⟨by rw [hW, al_get, al_size, if_pos rfl]⟩
 clear hW
 refine (check_any W AC AN n n cC cN (fun _ => n) (fun _ => n) t.c (by rw [HN.out]; exact (H.out.below (BW.out)).raw) (fun i _ => by omega)).mono ?_
 rintro _ w1 ⟨ok, rfl, hok, b1⟩
 obtain rfl : ok = true := hok.2 (by rw [HN.out]; exact TO.out.may)
 have B1 : Aside0 (Below w.heap.size w w1) := ⟨BW.out.trans (b1.mono BW.out.size)⟩
 have T1 : Aside0 (w1.heap[w.heap.size]? = some (.cells #[.slice AC n cC, .slice AN n cN] 27 (0, 0))) := ⟨blk_below TW.out b1⟩
 have R1 : Aside0 (w1.heap[w.heap.size + 1]? = some (.cells #[.slice none 0 0, .int .i64 0, .slice none 0 0, .slice none 0 0] 32 (0, 0))) := ⟨blk_below RW.out b1⟩
 have H1 := Aside0.mk (H.out.below B1.out)
 clear hok b1 BW TW RW H
 have f0 : w1.cell? ⟨w.heap.size, 0, none⟩ = some (.slice AC n cC) := (blk_cell T1.out 0).trans rfl
 have f1 : w1.cell? ⟨w.heap.size, 1, none⟩ = some (.slice AN n cN) := (blk_cell T1.out 1).trans rfl
 go_wp2_with fail
 clear f0 f1
 refine (start_any w1 AC AN n cC cN hn64).mono ?_
 rintro _ w2 ⟨G, hGn, hGC, hGN, rfl, k2, b2, hi⟩
 have HI := Aside0.mk hi
 have TT : Aside0 (Tab w1 G t) := ⟨TabR.tab (by rw [hGC, hGN]; exact H1.out) (by rw [hGn, HN.out])⟩
 have K2 : Aside0 (∃ u v of, Wk w2 G u v of ∧ Inv t 0 u v of) := ⟨_, _, _, k2, inv_start t⟩
 have B2 := Aside0.mk b2
 have GN : Aside0 (G.n = n) := ⟨hGn⟩
 have f0 : w2.cell? ⟨w.heap.size, 0, none⟩ = some (.slice AC n cC) := (blk_cell (blk_below T1.out b2) 0).trans rfl
 clear hGn hGC hGN k2 b2 hi H1
 go_wp2_with fail
 clear f0
 go_loopw [15] (fun v15 wr => ∃ k : Nat, k ≤ n ∧ v15 = .int .i64 k ∧ Aside0 (∃ u v of, Wk wr G u v of ∧ Inv t k u v of) ∧ Aside0 (Below w1.heap.size w1 wr)) (fun v _ => n - (intOf v).toNat)
 case atStart => exact ⟨0, Nat.zero_le _, rfl, K2, B2⟩
 case round =>
  clear K2 B2
  obtain ⟨k, hk, rfl, K, BR⟩ := hrel
  by_cases hlt : k < n
  ·go_wp2_with fail
   obtain ⟨⟨u, v, of, hw, hv⟩⟩ := K
   refine (add_any w1 wr G t TT.out TO.out k (by rw [GN.out]; exact hlt) u v of hw hv BR.out HI.out).mono ?_
   rintro _ w3 ⟨ok, rfl, b3, hyes, hno⟩
   have B3 := Aside0.mk b3
   clear hw hv
   cases ok with
   | true =>
    have Y := Aside0.mk (hyes rfl)
    clear hyes hno b3
    go_wp2_with fail
    go_roundw
    case measure => simp [intOf]; omega
    case rel => exact ⟨k + 1, by omega, by go_num, Y, B3⟩
   | false =>
    have NO := Aside0.mk (hno rfl)
    have R3 := Aside0.mk (blk_below R1.out b3)
    clear hyes hno b3
    have r0 : w3.cell? ⟨w.heap.size + 1, 0, none⟩ = some (.slice none 0 0) := (blk_cell R3.out 0).trans rfl
    have r1 : w3.cell? ⟨w.heap.size + 1, 1, none⟩ = some (.int .i64 0) := (blk_cell R3.out 1).trans rfl
    have r2 : w3.cell? ⟨w.heap.size + 1, 2, none⟩ = some (.slice none 0 0) := (blk_cell R3.out 2).trans rfl
    have r3 : w3.cell? ⟨w.heap.size + 1, 3, none⟩ = some (.slice none 0 0) := (blk_cell R3.out 3).trans rfl
    have y0 := fun j => blk_frozen R3.out j
    go_wp2_with fail
    refine bodyPost_ret (v := .tuple #[noMatch, .bool false]) (by simp [results, Try.results13, go_sem, r0, r1, r2, r3, noMatch]) rfl ?_
    have BF : Below w.heap.size w w3 := B1.out.trans (B3.out.mono B1.out.size)
    exact ⟨_, _, rfl, ⟨false, rfl, ⟨(((BF.setCell (Nat.le_succ _) _).setCell (Nat.le_succ _) _).setCell (Nat.le_succ _) _).setCell (Nat.le_succ _) _, fun x => (by cases x), fun _ => ⟨rfl, NO.out⟩⟩⟩⟩
  ·obtain rfl : k = n := by omega
   go_wp2_with fail
   obtain ⟨⟨u, v, of, hw, hv⟩⟩ := K
   obtain ⟨σ, hd⟩ := inv_done TO.out (by rw [← HN.out]; exact hv)
   refine (match_any w1 wr G t TT.out TO.out u v of hw σ hd BR.out HI.out).mono ?_
   rintro _ w4 ⟨C, rfl, A⟩
   have HD := Aside0.mk hd
   have R4 := Aside0.mk (blk_below R1.out A.out.2.2.1)
   rw [GN.out]
   clear hw hv hd
   have r0 : w4.cell? ⟨w.heap.size + 1, 0, none⟩ = some (.slice none 0 0) := (blk_cell R4.out 0).trans rfl
   have r1 : w4.cell? ⟨w.heap.size + 1, 1, none⟩ = some (.int .i64 0) := (blk_cell R4.out 1).trans rfl
   have r2 : w4.cell? ⟨w.heap.size + 1, 2, none⟩ = some (.slice none 0 0) := (blk_cell R4.out 2).trans rfl
   have r3 : w4.cell? ⟨w.heap.size + 1, 3, none⟩ = some (.slice none 0 0) := (blk_cell R4.out 3).trans rfl
   have y0 := fun j => blk_frozen R4.out j
   obtain ⟨x, hx⟩ : ∃ x, x = cost t.n t.c σ := ⟨_, rfl⟩
   rw [← hx]
   have HX := Aside0.mk hx
   clear hx
   go_wp2_with fail
   refine bodyPost_ret (v := .tuple #[.agg #[.slice (some ⟨C, 0, none⟩) k k, .int .i64 x, .slice (some ⟨G.r, 0, none⟩) k k, .slice (some ⟨G.c, 0, none⟩) k k], .bool true]) (by simp [results, Try.results13, go_sem, r0, r1, r2, r3]) rfl ?_
   have BF : Below w.heap.size w w4 := B1.out.trans (A.out.2.2.1.mono B1.out.size)
   refine ⟨_, _, rfl, ⟨true, rfl, ⟨(((BF.setCell (Nat.le_succ _) _).setCell (Nat.le_succ _) _).setCell (Nat.le_succ _) _).setCell (Nat.le_succ _) _, fun _ => ?_, fun x => (by cases x)⟩⟩⟩
   have hN := HN.out
   have hG := GN.out
   obtain ⟨⟨a1, a2, a3, a4, a5⟩, a6, _, _⟩ := A.out
   have b := R4.out
   rw [hG] at a2 a3 a6
   rw [← hN]
   refine ⟨σ, u, v, of, C, G.r, G.c, ?_, HD.out, ?_, ?_, ?_⟩
   ·rw [HX.out, hN]
   ·unfold IB at a6 ⊢
    have ne := ty_ne a6 b (by decide)
    exact blk_far (blk_far (blk_far (blk_far a6 ne _) ne _) ne _) ne _
   ·unfold IB at a2 ⊢
    have ne := ty_ne a2 b (by decide)
    exact blk_far (blk_far (blk_far (blk_far a2 ne _) ne _) ne _) ne _
   ·unfold IB at a3 ⊢
    have ne := ty_ne a3 b (by decide)
    exact blk_far (blk_far (blk_far (blk_far a3 ne _) ne _) ne _) ne _
end Go.Proofs.Ytelabmhhnpfegaa.Hand
end
section
namespace Go.Proofs.Ytelabmhhnpfegaa.Hand
open Go.RowKit Go.Proofs.YtelabmhhnpfegaaW.PrintWords Go.Proofs.YtelabmhhnpfegaaW.PrintLast Go.Proofs.YtelabmhhnpfegaaW.PrintMore
def wt : Tb := ⟨2, fun i k => if i = 0 then (if k = 0 then 4 else 1) else (if k = 0 then 2 else 0), fun _ _ => false⟩
theorem two_cases {i : Nat} (h : i < 2) : i = 0 ∨ i = 1 := by omega
theorem blk_at {w : World} {g : Nat} {cs : Array Value} {t : TypeId} (h : w.heap[g]? = some (.cells cs t (0, 0))) {i : Nat} {v : Value} (hi : cs[i]? = some v) : w.cell? ((⟨g, 0, none⟩ : Addr).add i) = some v := by
 have hadd : (⟨g, 0, none⟩ : Addr).add i = ⟨g, i, none⟩ := by unfold Addr.add; split <;> simp_all
 rw [hadd, blk_cell h, hi]
theorem wt_tab {W : World} {s : Nat} {s1 s2 s3 s4 s5 : Nat} (h0 : W.heap[s]? = some (.cells #[.int .i64 4, .int .i64 1] 2 (0, 0))) (h1 : W.heap[s1]? = some (.cells #[.int .i64 2, .int .i64 0] 2 (0, 0)))
  (h2 : W.heap[s2]? = some (.cells #[.slice (some ⟨s, 0, none⟩) 2 2, .slice (some ⟨s1, 0, none⟩) 2 2] 30 (0, 0))) (h3 : W.heap[s3]? = some (.cells #[.bool false, .bool false] 4 (0, 0))) (h4 : W.heap[s4]? = some (.cells #[.bool false, .bool false] 4 (0, 0)))
  (h5 : W.heap[s5]? = some (.cells #[.slice (some ⟨s3, 0, none⟩) 2 2, .slice (some ⟨s4, 0, none⟩) 2 2] 35 (0, 0))) : TabR W (some ⟨s2, 0, none⟩) (some ⟨s5, 0, none⟩) wt := by
 constructor
 ·intro i hi
  rcases two_cases hi with rfl | rfl
  ·refine ⟨_, ⟨s, 0, none⟩, 2, rfl, blk_at h2 rfl, fun k hk => ?_⟩
   rcases two_cases hk with rfl | rfl
   ·exact blk_at h0 rfl
   ·exact blk_at h0 rfl
  ·refine ⟨_, ⟨s1, 0, none⟩, 2, rfl, blk_at h2 rfl, fun k hk => ?_⟩
   rcases two_cases hk with rfl | rfl
   ·exact blk_at h1 rfl
   ·exact blk_at h1 rfl
 ·intro i hi
  rcases two_cases hi with rfl | rfl
  ·refine ⟨_, ⟨s3, 0, none⟩, 2, rfl, blk_at h5 rfl, fun k hk => ?_⟩
   rcases two_cases hk with rfl | rfl
   ·exact blk_at h3 rfl
   ·exact blk_at h3 rfl
  ·refine ⟨_, ⟨s4, 0, none⟩, 2, rfl, blk_at h5 rfl, fun k hk => ?_⟩
   rcases two_cases hk with rfl | rfl
   ·exact blk_at h4 rfl
   ·exact blk_at h4 rfl
theorem wt_ok : TbOk wt := ⟨by decide, fun i k hi hk => by
 rcases two_cases hi with rfl | rfl <;> rcases two_cases hk with rfl | rfl <;> simp [wt]⟩
theorem wt_swap : PM wt.n wt.no (fun i => 1 - i) := ⟨⟨fun i hi => by show 1 - i < 2; omega, fun i j hi hj e => by
 have hi' : i < 2 := hi
 have hj' : j < 2 := hj
 have e' : 1 - i = 1 - j := e
 omega⟩, fun _ _ => rfl⟩
theorem wt_told {σ : Nat → Nat} (h : PM wt.n wt.no σ) (hl : ∀ τ, PM wt.n wt.no τ → cost wt.n wt.c σ ≤ cost wt.n wt.c τ) : cost wt.n wt.c σ = 3 ∧ σ 0 = 1 ∧ σ 1 = 0 := by
 have h3 := hl _ wt_swap
 have e3 : cost wt.n wt.c (fun i => 1 - i) = 3 := by decide
 rw [e3] at h3
 have a0 : σ 0 < 2 := h.inj.lt 0 (by decide)
 have a1 : σ 1 < 2 := h.inj.lt 1 (by decide)
 have ne : σ 0 ≠ σ 1 := fun e => by
  have := h.inj.inj 0 1 (by decide) (by decide) e
  omega
 have ec : cost wt.n wt.c σ = wt.c 0 (σ 0) + wt.c 1 (σ 1) := by simp [cost, sumTo, wt, List.range_succ]
 rcases two_cases a0 with e0 | e0
 ·rw [ec, e0, show σ 1 = 1 by omega] at h3
  simp [wt] at h3
 ·rw [ec, e0, show σ 1 = 0 by omega]
  simp [wt]
set_option maxHeartbeats 1000000 in
set_option maxRecDepth 100000 in
theorem wakes_any (w : World) : Calls Try.prog 14 #[] w fun e w' => e = .returned (.bool true) ∧ Below w.heap.size w w' := by
 have hu := Try.underlying27
 have hu2 := Try.underlying32
 go_enter Try.func14, Try.ntmps14
 go_wp2_with fail
 refine (solve_any _ _ _ 2 2 wt (wt_tab (s := w.heap.size) (s1 := w.heap.size + 1) (s3 := w.heap.size + 1 + 1 + 1) (s4 := w.heap.size + 1 + 1 + 1 + 1) ?_ ?_ ?_ ?_ ?_ ?_) wt_ok).mono ?_
 case refine_7 =>
  rintro _ w1 ⟨m, okv, rfl, T⟩
  have B0 : Aside0 (Below w.heap.size w w1) := ⟨by
   obtain ⟨ok, _, T⟩ := T.out
   exact (below_alloc (below_alloc (below_alloc (below_alloc (below_alloc (below_alloc (Below.refl _ _) _) _) _) _) _) _).trans (T.below.mono (by simp; omega))⟩
  obtain ⟨⟨ok, rfl, T⟩⟩ := T
  cases ok with
  | false => exact absurd wt_swap ((T.no rfl).2 _)
  | true =>
   obtain ⟨σ, u, v, of, C, r, c, rfl, D, i1, _, _⟩ := T.yes rfl
   obtain ⟨e3, e1, e0⟩ := wt_told D.pm (by
    exact D.least.2)
   rw [e3]
   have I1 := Aside0.mk i1
   have c0 : w1.cell? ⟨C, 0, none⟩ = some (.int .i64 1) := by rw [i1.c (i := 0) (by decide), e1]; rfl
   have c1 : w1.cell? ⟨C, 1, none⟩ = some (.int .i64 0) := by rw [i1.c (i := 1) (by decide), e0]; rfl
   have hn : wt.n = 2 := rfl
   have hC : C ≠ w1.heap.size := Nat.ne_of_lt (blk_lt i1)
   have hC2 : C < w1.heap.size := blk_lt i1
   rw [hn]
   clear T D i1 e3 e1 e0 hn
   go_wp2_with fail
   go_ret
   exact ⟨rfl, below_alloc B0.out _⟩
 all_goals
  simp only [al_get, al_size]
  repeat (first | rw [if_pos trivial] | rw [if_neg (by omega)])
end Go.Proofs.Ytelabmhhnpfegaa.Hand
namespace Go.Proofs.Ytelabmhhnpfegaa.Hand
open Go.RowKit Go.Proofs.YtelabmhhnpfegaaW.PrintWords Go.Proofs.YtelabmhhnpfegaaW.PrintLast Go.Proofs.YtelabmhhnpfegaaW.PrintMore
end Go.Proofs.Ytelabmhhnpfegaa.Hand
end
