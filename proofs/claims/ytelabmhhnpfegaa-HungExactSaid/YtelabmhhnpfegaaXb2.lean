/- Texts Js Jh Jl Jp, cut to what is used. -/
import Derived.IntWalk
import Derived.Deep.CutRange
import Derived.Test.YtelabmhhnpfegaaXa0
import Derived.Test.YtelabmhhnpfegaaXb1
set_option linter.unusedVariables false
set_option linter.unusedSimpArgs false
section
namespace Go.Proofs.Ytelabmhhnpfegaa.Hand
open Go.RowKit Go.Proofs.YtelabmhhnpfegaaW.PrintWords Go.Proofs.YtelabmhhnpfegaaW.PrintMore
section
variable {W : World} {G : Geo2} {s : St}
theorem Sk.setL (h : Sk W G s) (i : Nat) (x : Int) : Sk (W.setCell ⟨G.l, i, none⟩ (.int .i64 x)) G { s with least := upd s.least i x } := by
 obtain ⟨⟨a1, a2, a3, a4, a5⟩, b1, b2, b3, b4, b5, b6, b7, b8⟩ := h
 have A2 := a2
 have A3 := a3
 have A4 := a4
 have B2 := b2
 have B3 := b3
 have B4 := b4
 have B5 := b5
 unfold IB at a2 a3 a4 b2 b4
 unfold BB at b3 b5
 exact ⟨⟨blk_far a1 (ty_ne a1 b2 (by decide)) _, blk_far a2 (fun e => b6.1 e.symm) _, blk_far a3 (fun e => b6.2 e.symm) _, blk_far a4 (ty_ne a4 b2 (by decide)) _, a5⟩, blk_far b1 (ty_ne b1 b2 (by decide)) _, B2.set i x, blk_far b3 (ty_ne b3 b2 (by decide)) _, blk_far b4 (ty_ne b4 b2 (by decide)) _, blk_far b5 (ty_ne b5 b2 (by decide)) _, b6, b7, b8⟩
theorem Sk.setF (h : Sk W G s) (i : Nat) (x : Bool) : Sk (W.setCell ⟨G.f, i, none⟩ (.bool x)) G { s with far := upd s.far i x } := by
 obtain ⟨⟨a1, a2, a3, a4, a5⟩, b1, b2, b3, b4, b5, b6, b7, b8⟩ := h
 have A2 := a2
 have A3 := a3
 have A4 := a4
 have B2 := b2
 have B3 := b3
 have B4 := b4
 have B5 := b5
 unfold IB at a2 a3 a4 b2 b4
 unfold BB at b3 b5
 exact ⟨⟨blk_far a1 (ty_ne a1 b3 (by decide)) _, blk_far a2 (ty_ne a2 b3 (by decide)) _, blk_far a3 (ty_ne a3 b3 (by decide)) _, blk_far a4 (ty_ne a4 b3 (by decide)) _, a5⟩, blk_far b1 (ty_ne b1 b3 (by decide)) _, blk_far b2 (ty_ne b2 b3 (by decide)) _, B3.set i x, blk_far b4 (ty_ne b4 b3 (by decide)) _, blk_far b5 (fun e => b8 e.symm) _, b6, b7, b8⟩
theorem Sk.setM (h : Sk W G s) (i : Nat) (x : Int) : Sk (W.setCell ⟨G.m, i, none⟩ (.int .i64 x)) G { s with from_ := upd s.from_ i x } := by
 obtain ⟨⟨a1, a2, a3, a4, a5⟩, b1, b2, b3, b4, b5, b6, b7, b8⟩ := h
 have A2 := a2
 have A3 := a3
 have A4 := a4
 have B2 := b2
 have B3 := b3
 have B4 := b4
 have B5 := b5
 unfold IB at a2 a3 a4 b2 b4
 unfold BB at b3 b5
 exact ⟨⟨blk_far a1 (ty_ne a1 b4 (by decide)) _, blk_far a2 (ty_ne a2 b4 (by decide)) _, blk_far a3 (ty_ne a3 b4 (by decide)) _, blk_far a4 (fun e => b7 e.symm) _, a5⟩, blk_far b1 (ty_ne b1 b4 (by decide)) _, blk_far b2 (ty_ne b2 b4 (by decide)) _, blk_far b3 (ty_ne b3 b4 (by decide)) _, B4.set i x, blk_far b5 (ty_ne b5 b4 (by decide)) _, b6, b7, b8⟩
theorem Sk.setE (h : Sk W G s) (i : Nat) (x : Bool) : Sk (W.setCell ⟨G.e, i, none⟩ (.bool x)) G { s with seen := upd s.seen i x } := by
 obtain ⟨⟨a1, a2, a3, a4, a5⟩, b1, b2, b3, b4, b5, b6, b7, b8⟩ := h
 have A2 := a2
 have A3 := a3
 have A4 := a4
 have B2 := b2
 have B3 := b3
 have B4 := b4
 have B5 := b5
 unfold IB at a2 a3 a4 b2 b4
 unfold BB at b3 b5
 exact ⟨⟨blk_far a1 (ty_ne a1 b5 (by decide)) _, blk_far a2 (ty_ne a2 b5 (by decide)) _, blk_far a3 (ty_ne a3 b5 (by decide)) _, blk_far a4 (ty_ne a4 b5 (by decide)) _, a5⟩, blk_far b1 (ty_ne b1 b5 (by decide)) _, blk_far b2 (ty_ne b2 b5 (by decide)) _, blk_far b3 b8 _, blk_far b4 (ty_ne b4 b5 (by decide)) _, B5.set i x, b6, b7, b8⟩
theorem Sk.setR (h : Sk W G s) (i : Nat) (x : Int) : Sk (W.setCell ⟨G.r, i, none⟩ (.int .i64 x)) G { s with u := upd s.u i x } := by
 obtain ⟨⟨a1, a2, a3, a4, a5⟩, b1, b2, b3, b4, b5, b6, b7, b8⟩ := h
 have A2 := a2
 have A3 := a3
 have A4 := a4
 have B2 := b2
 have B3 := b3
 have B4 := b4
 have B5 := b5
 unfold IB at a2 a3 a4 b2 b4
 unfold BB at b3 b5
 exact ⟨⟨blk_far a1 (ty_ne a1 a2 (by decide)) _, A2.set i x, blk_far a3 (fun e => a5 e.symm) _, blk_far a4 (ty_ne a4 a2 (by decide)) _, a5⟩, blk_far b1 (ty_ne b1 a2 (by decide)) _, blk_far b2 b6.1 _, blk_far b3 (ty_ne b3 a2 (by decide)) _, blk_far b4 (ty_ne b4 a2 (by decide)) _, blk_far b5 (ty_ne b5 a2 (by decide)) _, b6, b7, b8⟩
theorem Sk.setC (h : Sk W G s) (i : Nat) (x : Int) : Sk (W.setCell ⟨G.c, i, none⟩ (.int .i64 x)) G { s with v := upd s.v i x } := by
 obtain ⟨⟨a1, a2, a3, a4, a5⟩, b1, b2, b3, b4, b5, b6, b7, b8⟩ := h
 have A2 := a2
 have A3 := a3
 have A4 := a4
 have B2 := b2
 have B3 := b3
 have B4 := b4
 have B5 := b5
 unfold IB at a2 a3 a4 b2 b4
 unfold BB at b3 b5
 exact ⟨⟨blk_far a1 (ty_ne a1 a3 (by decide)) _, blk_far a2 a5 _, A3.set i x, blk_far a4 (ty_ne a4 a3 (by decide)) _, a5⟩, blk_far b1 (ty_ne b1 a3 (by decide)) _, blk_far b2 b6.2 _, blk_far b3 (ty_ne b3 a3 (by decide)) _, blk_far b4 (ty_ne b4 a3 (by decide)) _, blk_far b5 (ty_ne b5 a3 (by decide)) _, b6, b7, b8⟩
theorem Sk.setO (h : Sk W G s) (i : Nat) (x : Int) : Sk (W.setCell ⟨G.o, i, none⟩ (.int .i64 x)) G { s with of := upd s.of i x } := by
 obtain ⟨⟨a1, a2, a3, a4, a5⟩, b1, b2, b3, b4, b5, b6, b7, b8⟩ := h
 have A2 := a2
 have A3 := a3
 have A4 := a4
 have B2 := b2
 have B3 := b3
 have B4 := b4
 have B5 := b5
 unfold IB at a2 a3 a4 b2 b4
 unfold BB at b3 b5
 exact ⟨⟨blk_far a1 (ty_ne a1 a4 (by decide)) _, blk_far a2 (ty_ne a2 a4 (by decide)) _, blk_far a3 (ty_ne a3 a4 (by decide)) _, A4.set i x, a5⟩, blk_far b1 (ty_ne b1 a4 (by decide)) _, blk_far b2 (ty_ne b2 a4 (by decide)) _, blk_far b3 (ty_ne b3 a4 (by decide)) _, blk_far b4 b7 _, blk_far b5 (ty_ne b5 a4 (by decide)) _, b6, b7, b8⟩
theorem Sk.drewN (h : Sk W G s) (m : Nat) : Sk (W.drewN m) G s := h.below (pw_below_drewN (Below.refl _ _) m)
theorem Sk.drew (h : Sk W G s) : Sk W.drew G s := h.below (below_drew (Below.refl _ _))
end
structure Hi (B : Nat) (G : Geo2) : Prop where
 w : B ≤ G.w
 r : B ≤ G.r
 c : B ≤ G.c
 o : B ≤ G.o
 s : B ≤ G.s
 l : B ≤ G.l
 f : B ≤ G.f
 m : B ≤ G.m
 e : B ≤ G.e
structure Tab (w0 : World) (G : Geo) (t : Tb) : Prop where
 n : t.n = G.n
 cost : ∀ i, i < G.n → ∃ ad AR cR, G.AC = some ad ∧ w0.cell? (ad.add i) = some (.slice (some AR) G.n cR) ∧ ∀ k, k < G.n → w0.cell? (AR.add k) = some (.int .i64 (t.c i k))
 no : ∀ i, i < G.n → ∃ ad AR cR, G.AN = some ad ∧ w0.cell? (ad.add i) = some (.slice (some AR) G.n cR) ∧ ∀ k, k < G.n → w0.cell? (AR.add k) = some (.bool (t.no i k))
theorem spreadL_at {t : Tb} {s : St} {row k : Nat} : spreadL t s row k k = s.least k := if_neg (fun x => absurd x.1 (Nat.lt_irrefl _))
theorem spreadF_at {t : Tb} {s : St} {row k : Nat} : spreadF t s row k k = s.far k := if_neg (fun x => absurd x.1 (Nat.lt_irrefl _))
def spreadS (t : Tb) (s : St) (row : Nat) (b : Int) (m : Nat) : St := { s with least := spreadL t s row m, far := spreadF t s row m, from_ := spreadB t s row b m }
theorem mix_yes {α : Type} {C : Nat → Bool} {new old : Nat → α} {k : Nat} (h : C k = true) : (fun j => if j < k + 1 ∧ C j = true then new j else old j) = upd (fun j => if j < k ∧ C j = true then new j else old j) k (new k) := by
 funext j
 unfold upd
 by_cases hj : j = k
 ·subst hj
  simp [h]
 ·rw [if_neg hj]
  have : (j < k + 1 ∧ C j = true) ↔ (j < k ∧ C j = true) := by
   constructor
   ·rintro ⟨a, b⟩; exact ⟨by omega, b⟩
   ·rintro ⟨a, b⟩; exact ⟨by omega, b⟩
  simp only [this]
theorem mix_no {α : Type} {C : Nat → Bool} {new old : Nat → α} {k : Nat} (h : C k = false) : (fun j => if j < k + 1 ∧ C j = true then new j else old j) = (fun j => if j < k ∧ C j = true then new j else old j) := by
 funext j
 have : (j < k + 1 ∧ C j = true) ↔ (j < k ∧ C j = true) := by
  constructor
  ·rintro ⟨a, b⟩
   refine ⟨?_, b⟩
   by_cases hj : j = k
   ·subst hj; rw [h] at b; cases b
   ·omega
  ·rintro ⟨a, b⟩; exact ⟨by omega, b⟩
 simp only [this]
theorem spreadS_yes {t : Tb} {s : St} {row k : Nat} {b : Int} (h : spreadC t s row k = true) : spreadS t s row b (k + 1) = { s with least := upd (spreadL t s row k) k (t.c row k - s.u row - s.v k), far := upd (spreadF t s row k) k false, from_ := upd (spreadB t s row b k) k b } := by
 have e1 : spreadL t s row (k + 1) = upd (spreadL t s row k) k (t.c row k - s.u row - s.v k) := mix_yes (C := spreadC t s row) (new := fun k => t.c row k - s.u row - s.v k) h
 have e2 : spreadF t s row (k + 1) = upd (spreadF t s row k) k false := mix_yes (C := spreadC t s row) (new := fun _ => false) h
 have e3 : spreadB t s row b (k + 1) = upd (spreadB t s row b k) k b := mix_yes (C := spreadC t s row) (new := fun _ => b) h
 unfold spreadS
 rw [e1, e2, e3]
theorem spreadS_no {t : Tb} {s : St} {row k : Nat} {b : Int} (h : spreadC t s row k = false) : spreadS t s row b (k + 1) = spreadS t s row b k := by
 have e1 : spreadL t s row (k + 1) = spreadL t s row k := mix_no (C := spreadC t s row) (new := fun k => t.c row k - s.u row - s.v k) h
 have e2 : spreadF t s row (k + 1) = spreadF t s row k := mix_no (C := spreadC t s row) (new := fun _ => false) h
 have e3 : spreadB t s row b (k + 1) = spreadB t s row b k := mix_no (C := spreadC t s row) (new := fun _ => b) h
 unfold spreadS
 rw [e1, e2, e3]
theorem spreadS_zero {t : Tb} {s : St} {row : Nat} {b : Int} : spreadS t s row b 0 = s := by
 have e1 : spreadL t s row 0 = s.least := by funext j; exact if_neg (fun x => absurd x.1 (Nat.not_lt_zero _))
 have e2 : spreadF t s row 0 = s.far := by funext j; exact if_neg (fun x => absurd x.1 (Nat.not_lt_zero _))
 have e3 : spreadB t s row b 0 = s.from_ := by funext j; exact if_neg (fun x => absurd x.1 (Nat.not_lt_zero _))
 unfold spreadS
 rw [e1, e2, e3]
abbrev Big : Int := 1125899906842624
structure Small (n : Nat) (s : St) : Prop where
 u : ∀ i, i < n → -Big ≤ s.u i ∧ s.u i ≤ Big
 v : ∀ i, i < n → -Big ≤ s.v i ∧ s.v i ≤ Big
 l : ∀ i, i < n → s.seen i = false → -Big ≤ s.least i ∧ s.least i ≤ Big
structure Frame (B : Nat) (w0 w : World) : Prop where
 below : Below B w0 w
 size : B ≤ w.heap.size
set_option maxHeartbeats 2000000 in
set_option maxRecDepth 100000 in
theorem spread_any (w0 w : World) (G : Geo2) (s : St) (t : Tb) (T : Tab w0 G.toGeo t) (ht : TbOk t) (h : Sk w G s) (hb : Below w0.heap.size w0 w) (hi : Hi w0.heap.size G) (row : Nat) (hrow : row < G.n) (b : Int) (hsm : Small G.n s) :
  Calls Try.prog 71 #[.pointer (some ⟨G.s, 0, none⟩), .int .i64 (row : Int), .int .i64 b] w fun e w' => e = .returned (.tuple #[]) ∧ Sk w' G (spread t s row b) ∧ Below w0.heap.size w0 w' := by
 have H := Aside0.mk h
 have HB := Aside0.mk hb
 have HI := Aside0.mk hi
 have HT := Aside0.mk T
 have TO := Aside0.mk ht
 have SM := Aside0.mk hsm
 have hn64 : G.n ≤ 64 := by rw [← T.n]; exact ht.n64
 obtain ⟨ad, AR, cR, hAC, hrc, hcc⟩ := T.cost row hrow
 obtain ⟨ad2, AR2, cR2, hAN, hrn, hnn⟩ := T.no row hrow
 obtain ⟨n, hn1⟩ : ∃ n, n = G.n := ⟨_, rfl⟩
 have HN := Aside0.mk hn1
 have HCC := Aside0.mk hcc
 have HNN := Aside0.mk hnn
 have HRC := Aside0.mk hrc
 have HRN := Aside0.mk hrn
 rw [← hn1] at hrow hn64 HRC HRN HCC HNN
 have HAC := Aside0.mk hAC
 have HAN := Aside0.mk hAN
 have f0 := h.s0
 have f1 := h.w0
 rw [hAC, ← hn1] at f1
 have f2 := pw_cell_below hb hrc
 rw [← hn1] at f2
 clear h hb hi T ht hsm hn1 hcc hnn hrc hrn hAC hAN
 go_enter Try.func71, Try.ntmps71
 go_wp2_with fail
 clear f0 f1 f2
 go_loopw [21] (fun v21 wr => ∃ k : Nat, k ≤ n ∧ v21 = .int .i64 k ∧ Aside0 (Sk wr G (spreadS t s row b k)) ∧ Aside0 (Below w0.heap.size w0 wr)) (fun v _ => n - (intOf v).toNat)
 case atStart => exact ⟨0, Nat.zero_le _, rfl, ⟨by rw [spreadS_zero]; exact H.out⟩, HB⟩
 case round =>
  obtain ⟨k, hk, rfl, K, BW⟩ := hrel
  by_cases hlt : k < n
  ·have hkn : k < G.n := by rw [← HN.out]; exact hlt
   have f0 := K.out.s0
   have f1 := K.out.w0
   have f2 := K.out.w1
   have f3 := K.out.w2
   have f4 := K.out.w3
   have s1 := K.out.s1
   have s2 := K.out.s2
   have s3 := K.out.s3
   have s4 := K.out.s4
   have c0 := pw_cell_below BW.out (HCC.out k hlt)
   have c1 := pw_cell_below BW.out HRN.out
   have c2 := pw_cell_below BW.out (HNN.out k hlt)
   have eu := K.out.rows.c (i := row) (by rw [← HN.out]; exact hrow)
   have ev := K.out.cols.c hkn
   have el := K.out.least.c hkn
   have ef := K.out.far.c hkn
   have es := K.out.seen.c hkn
   have bu := SM.out.u row (by rw [← HN.out]; exact hrow)
   have bv := SM.out.v k hkn
   have bc := TO.out.mag row k (by rw [HT.out.n, ← HN.out]; exact hrow) (by rw [HT.out.n]; exact hkn)
   rw [HAC.out, ← HN.out] at f1
   rw [HAN.out, ← HN.out] at f2
   rw [← HN.out] at f3 f4 s1 s2 s3 s4
   have NEfl : G.f ≠ G.l := by have a := K.out.far; have b := K.out.least; unfold BB at a; unfold IB at b; exact ty_ne a b (by decide)
   have NEml : G.m ≠ G.l := by have a := K.out.from_; have b := K.out.least; unfold IB at a b; exact ty_ne a b (by decide)
   have NEfm : G.f ≠ G.m := by have a := K.out.far; have b := K.out.from_; unfold BB at a; unfold IB at b; exact ty_ne a b (by decide)
   have NElf := NEfl.symm
   have NElm := NEml.symm
   have NEmf := NEfm.symm
   have zl := K.out.least.z k
   have em := K.out.from_.c hkn
   have zf := K.out.far.z k
   have zm := K.out.from_.z k
   change wr.cell? ⟨G.r, row, none⟩ = some (.int .i64 (s.u row)) at eu
   change wr.cell? ⟨G.c, k, none⟩ = some (.int .i64 (s.v k)) at ev
   change wr.cell? ⟨G.l, k, none⟩ = some (.int .i64 (spreadL t s row k k)) at el
   change wr.cell? ⟨G.f, k, none⟩ = some (.bool (spreadF t s row k k)) at ef
   change wr.cell? ⟨G.e, k, none⟩ = some (.bool (s.seen k)) at es
   rw [spreadL_at] at el
   rw [spreadF_at] at ef
   have NO : ∀ x, spreadC t s row k = x → Aside0 (spreadS t s row b (k + 1) = if x = true then { s with least := upd (spreadL t s row k) k (t.c row k - s.u row - s.v k), far := upd (spreadF t s row k) k false, from_ := upd (spreadB t s row b k) k b } else spreadS t s row b k) := fun x hx => ⟨by
    cases x with
    | true => exact spreadS_yes hx
    | false => exact spreadS_no hx⟩
   cases hs : s.seen k with
   | true =>
    rw [hs] at es
    have NX := NO false (by simp [spreadC, hs])
    simp only [Bool.false_eq_true, if_false] at NX
    clear NO hs
    go_wp2_with fail
    go_roundw
    case measure => simp [intOf]; omega
    case rel => exact ⟨k + 1, by omega, by go_num, ⟨by rw [NX.out]; exact K.out⟩, BW⟩
   | false =>
    rw [hs] at es
    cases hno : t.no row k with
    | true =>
     rw [hno] at c2
     have NX := NO false (by simp [spreadC, hno])
     simp only [Bool.false_eq_true, if_false] at NX
     clear NO hs hno
     go_wp2_with fail
     go_roundw
     case measure => simp [intOf]; omega
     case rel => exact ⟨k + 1, by omega, by go_num, ⟨by rw [NX.out]; exact K.out⟩, BW⟩
    | false =>
     rw [hno] at c2
     obtain ⟨xc, hxc⟩ : ∃ x, x = t.c row k := ⟨_, rfl⟩
     obtain ⟨xu, hxu⟩ : ∃ x, x = s.u row := ⟨_, rfl⟩
     obtain ⟨xv, hxv⟩ : ∃ x, x = s.v k := ⟨_, rfl⟩
     obtain ⟨xl, hxl⟩ : ∃ x, x = s.least k := ⟨_, rfl⟩
     have hC : spreadC t s row k = (s.far k || decide (xc - xu - xv < xl)) := by
      rw [hxc, hxu, hxv, hxl]
      simp [spreadC, hs, hno]
     rw [← hxc] at c0 bc NO
     rw [← hxu] at eu bu NO
     rw [← hxv] at ev bv NO
     rw [← hxl] at el
     have w1 : IntKind.i64.wrap (xc - xu) = xc - xu := IntWalk.i64_in _ (by unfold Big at bu; omega)
     have w2 : IntKind.i64.wrap (xc - xu - xv) = xc - xu - xv := IntWalk.i64_in _ (by unfold Big at bu bv; omega)
     unfold Big at bu bv
     clear hxc hxu hxv hxl hs hno
     cases hf : s.far k with
     | true =>
      rw [hf] at ef hC
      have NX := NO true (by rw [hC]; rfl)
      simp only [if_true] at NX
      clear NO hf hC
      go_wp2_with fail
      go_quiet (fail)
      go_wp2_with fail
      have qlf : ∀ (W : World) (x : Value), (W.setCell ⟨G.l, k, none⟩ x).cell? ⟨G.f, k, none⟩ = W.cell? ⟨G.f, k, none⟩ := fun W x => cell_far (p := ⟨G.l, k, none⟩) (a := ⟨G.f, k, none⟩) (NEfl) x
      have qlm : ∀ (W : World) (x : Value), (W.setCell ⟨G.l, k, none⟩ x).cell? ⟨G.m, k, none⟩ = W.cell? ⟨G.m, k, none⟩ := fun W x => cell_far (p := ⟨G.l, k, none⟩) (a := ⟨G.m, k, none⟩) (NEml) x
      have qfl : ∀ (W : World) (x : Value), (W.setCell ⟨G.f, k, none⟩ x).cell? ⟨G.l, k, none⟩ = W.cell? ⟨G.l, k, none⟩ := fun W x => cell_far (p := ⟨G.f, k, none⟩) (a := ⟨G.l, k, none⟩) (NElf) x
      have qfm : ∀ (W : World) (x : Value), (W.setCell ⟨G.f, k, none⟩ x).cell? ⟨G.m, k, none⟩ = W.cell? ⟨G.m, k, none⟩ := fun W x => cell_far (p := ⟨G.f, k, none⟩) (a := ⟨G.m, k, none⟩) (NEmf) x
      have qml : ∀ (W : World) (x : Value), (W.setCell ⟨G.m, k, none⟩ x).cell? ⟨G.l, k, none⟩ = W.cell? ⟨G.l, k, none⟩ := fun W x => cell_far (p := ⟨G.m, k, none⟩) (a := ⟨G.l, k, none⟩) (NElm) x
      have qmf : ∀ (W : World) (x : Value), (W.setCell ⟨G.m, k, none⟩ x).cell? ⟨G.f, k, none⟩ = W.cell? ⟨G.f, k, none⟩ := fun W x => cell_far (p := ⟨G.m, k, none⟩) (a := ⟨G.f, k, none⟩) (NEfm) x
      go_region
      go_wp2_with fail
      go_roundw
      case measure => simp [intOf]; omega
      case rel =>
       refine ⟨k + 1, by omega, by go_num, ⟨?_⟩, ⟨?_⟩⟩
       ·rw [NX.out]
        exact (((K.out.drewN _).drew.setL k (xc - xu - xv)).setF k false).setM k b
       ·exact (((pw_below_drewN BW.out _).drew.setCell HI.out.l _).setCell HI.out.f _).setCell HI.out.m _
     | false =>
      rw [hf] at ef hC
      by_cases hxy : xc - xu - xv < xl
      ·have NX := NO true (by rw [hC]; simp [hxy])
       simp only [if_true] at NX
       have d1 : decide (xc - xu - xv < xl) = true := decide_eq_true hxy
       clear NO hf hC
       go_wp2_with fail
       go_quiet (fail)
       go_wp2_with fail
       have qlf : ∀ (W : World) (x : Value), (W.setCell ⟨G.l, k, none⟩ x).cell? ⟨G.f, k, none⟩ = W.cell? ⟨G.f, k, none⟩ := fun W x => cell_far (p := ⟨G.l, k, none⟩) (a := ⟨G.f, k, none⟩) (NEfl) x
       have qlm : ∀ (W : World) (x : Value), (W.setCell ⟨G.l, k, none⟩ x).cell? ⟨G.m, k, none⟩ = W.cell? ⟨G.m, k, none⟩ := fun W x => cell_far (p := ⟨G.l, k, none⟩) (a := ⟨G.m, k, none⟩) (NEml) x
       have qfl : ∀ (W : World) (x : Value), (W.setCell ⟨G.f, k, none⟩ x).cell? ⟨G.l, k, none⟩ = W.cell? ⟨G.l, k, none⟩ := fun W x => cell_far (p := ⟨G.f, k, none⟩) (a := ⟨G.l, k, none⟩) (NElf) x
       have qfm : ∀ (W : World) (x : Value), (W.setCell ⟨G.f, k, none⟩ x).cell? ⟨G.m, k, none⟩ = W.cell? ⟨G.m, k, none⟩ := fun W x => cell_far (p := ⟨G.f, k, none⟩) (a := ⟨G.m, k, none⟩) (NEmf) x
       have qml : ∀ (W : World) (x : Value), (W.setCell ⟨G.m, k, none⟩ x).cell? ⟨G.l, k, none⟩ = W.cell? ⟨G.l, k, none⟩ := fun W x => cell_far (p := ⟨G.m, k, none⟩) (a := ⟨G.l, k, none⟩) (NElm) x
       have qmf : ∀ (W : World) (x : Value), (W.setCell ⟨G.m, k, none⟩ x).cell? ⟨G.f, k, none⟩ = W.cell? ⟨G.f, k, none⟩ := fun W x => cell_far (p := ⟨G.m, k, none⟩) (a := ⟨G.f, k, none⟩) (NEfm) x
       go_region
       go_wp2_with fail
       go_roundw
       case measure => simp [intOf]; omega
       case rel =>
        refine ⟨k + 1, by omega, by go_num, ⟨?_⟩, ⟨?_⟩⟩
        ·rw [NX.out]
         exact (((K.out.drewN _).drew.setL k (xc - xu - xv)).setF k false).setM k b
        ·exact (((pw_below_drewN BW.out _).drew.setCell HI.out.l _).setCell HI.out.f _).setCell HI.out.m _
      ·have NX := NO false (by rw [hC]; simp [hxy])
       simp only [Bool.false_eq_true, if_false] at NX
       have d1 : decide (xc - xu - xv < xl) = false := decide_eq_false hxy
       clear NO hf hC
       go_wp2_with fail
       go_quiet (fail)
       go_wp2_with fail
       go_roundw
       case measure => simp [intOf]; omega
       case rel => exact ⟨k + 1, by omega, by go_num, ⟨by rw [NX.out]; exact K.out.drewN _⟩, ⟨pw_below_drewN BW.out _⟩⟩
  ·obtain rfl : k = n := by omega
   go_wp2_with fail
   go_end0
   have hN := HN.out
   have hT := HT.out.n
   refine ⟨rfl, ?_, BW.out⟩
   have := K.out
   rw [show spread t s row b = spreadS t s row b t.n from rfl, hT, ← hN]
   exact this
end Go.Proofs.Ytelabmhhnpfegaa.Hand
end
section
namespace Go.Proofs.Ytelabmhhnpfegaa.Hand
open Go.RowKit Go.Proofs.YtelabmhhnpfegaaW.PrintWords Go.Proofs.YtelabmhhnpfegaaW.PrintMore
def shiftS (s : St) (first : Nat) (d : Int) (m : Nat) : St := { s with u := shiftU s first d m, v := shiftV s d m, least := shiftL s d m }
theorem shiftS_seen {s : St} {first k : Nat} {d : Int} (h : s.seen k = true) : shiftS s first d (k + 1) = { s with u := upd (shiftU s first d k) (s.of k).toNat (shiftU s first d k (s.of k).toNat + d), v := upd (shiftV s d k) k (s.v k - d), least := shiftL s d k } := by
 have e1 : shiftU s first d (k + 1) = upd (shiftU s first d k) (s.of k).toNat (shiftU s first d k (s.of k).toNat + d) := by simp only [shiftU]; rw [if_pos h]
 have e2 : shiftV s d (k + 1) = upd (shiftV s d k) k (s.v k - d) := mix_yes (C := s.seen) (new := fun k => s.v k - d) h
 have e3 : shiftL s d (k + 1) = shiftL s d k := by
  funext j
  unfold shiftL
  have : (j < k + 1 ∧ s.seen j = false ∧ s.far j = false) ↔ (j < k ∧ s.seen j = false ∧ s.far j = false) := by
   constructor
   ·rintro ⟨a, b, c⟩
    refine ⟨?_, b, c⟩
    by_cases hj : j = k
    ·subst hj; rw [h] at b; cases b
    ·omega
   ·rintro ⟨a, b⟩; exact ⟨by omega, b⟩
  simp only [this]
 unfold shiftS
 rw [e1, e2, e3]
theorem shiftS_near {s : St} {first k : Nat} {d : Int} (h : s.seen k = false) (hf : s.far k = false) : shiftS s first d (k + 1) = { shiftS s first d k with least := upd (shiftL s d k) k (s.least k - d) } := by
 have e1 : shiftU s first d (k + 1) = shiftU s first d k := by simp only [shiftU]; rw [if_neg (by rw [h]; decide)]
 have e2 : shiftV s d (k + 1) = shiftV s d k := mix_no (C := s.seen) (new := fun k => s.v k - d) h
 have e3 : shiftL s d (k + 1) = upd (shiftL s d k) k (s.least k - d) := by
  have := mix_yes (C := fun j => !s.seen j && !s.far j) (new := fun k => s.least k - d) (old := s.least) (k := k) (by simp [h, hf])
  simp only [Bool.and_eq_true, Bool.not_eq_true'] at this
  exact this
 unfold shiftS
 rw [e1, e2, e3]
theorem shiftS_far {s : St} {first k : Nat} {d : Int} (h : s.seen k = false) (hf : s.far k = true) : shiftS s first d (k + 1) = shiftS s first d k := by
 have e1 : shiftU s first d (k + 1) = shiftU s first d k := by simp only [shiftU]; rw [if_neg (by rw [h]; decide)]
 have e2 : shiftV s d (k + 1) = shiftV s d k := mix_no (C := s.seen) (new := fun k => s.v k - d) h
 have e3 : shiftL s d (k + 1) = shiftL s d k := by
  have := mix_no (C := fun j => !s.seen j && !s.far j) (new := fun k => s.least k - d) (old := s.least) (k := k) (by simp [hf])
  simp only [Bool.and_eq_true, Bool.not_eq_true'] at this
  exact this
 unfold shiftS
 rw [e1, e2, e3]
theorem shiftS_zero {s : St} {first : Nat} {d : Int} : shiftS s first d 0 = { s with u := upd s.u first (s.u first + d) } := by
 have e2 : shiftV s d 0 = s.v := by funext j; exact if_neg (fun x => absurd x.1 (Nat.not_lt_zero _))
 have e3 : shiftL s d 0 = s.least := by funext j; exact if_neg (fun x => absurd x.1 (Nat.not_lt_zero _))
 unfold shiftS
 rw [e2, e3]
 rfl
theorem shiftV_at {s : St} {d : Int} {k : Nat} : shiftV s d k k = s.v k := if_neg (fun x => absurd x.1 (Nat.lt_irrefl _))
theorem shiftL_at {s : St} {d : Int} {k : Nat} : shiftL s d k k = s.least k := if_neg (fun x => absurd x.1 (Nat.lt_irrefl _))
theorem shiftU_bd {n : Nat} {s : St} {first : Nat} {d : Int} (hs : Small n s) (hd : -Big ≤ d ∧ d ≤ Big) (m : Nat) : ∀ i, i < n → -((m + 2 : Nat) * Big) ≤ shiftU s first d m i ∧ shiftU s first d m i ≤ (m + 2 : Nat) * Big := by
 induction m with
 | zero =>
  intro i hi
  have h1 := hs.u i hi
  simp only [shiftU, upd]
  unfold Big at *
  split
  ·rename_i e; subst e; omega
  ·omega
 | succ m ih =>
  intro i hi
  have h1 := ih i hi
  simp only [shiftU]
  split
  ·unfold upd
   split
   ·rename_i e
    rw [← e]
    unfold Big at *
    omega
   ·unfold Big at *
    omega
  ·unfold Big at *
   omega
set_option maxHeartbeats 2000000 in
set_option maxRecDepth 100000 in
theorem shift_any (w0 w : World) (G : Geo2) (s : St) (h : Sk w G s) (hb : Below w0.heap.size w0 w) (hi : Hi w0.heap.size G) (hn64 : G.n ≤ 64) (first : Nat) (hfirst : first < G.n) (d : Int) (hd : -Big ≤ d ∧ d ≤ Big) (hsm : Small G.n s) (hof : ∀ k, k < G.n → s.seen k = true → ∃ i : Nat, s.of k = (i : Int) ∧ i < G.n) :
  Calls Try.prog 73 #[.pointer (some ⟨G.s, 0, none⟩), .int .i64 (first : Int), .int .i64 d] w fun e w' => e = .returned (.tuple #[]) ∧ Sk w' G (shift G.n s first d) ∧ Below w0.heap.size w0 w' := by
 have H := Aside0.mk h
 have HB := Aside0.mk hb
 have HI := Aside0.mk hi
 have HD := Aside0.mk hd
 have SM := Aside0.mk hsm
 have HO := Aside0.mk hof
 obtain ⟨n, hn1⟩ : ∃ n, n = G.n := ⟨_, rfl⟩
 have HN := Aside0.mk hn1
 have f0 := h.s0
 have f2 := h.w2
 have eu := h.rows.c (i := first) hfirst
 have zu := h.rows.z first
 rw [← hn1] at f2 hfirst hn64
 have bu := hsm.u first (by rw [← hn1]; exact hfirst)
 unfold Big at bu hd
 have f4 := h.s4
 rw [← hn1] at f4
 have qs4 : ∀ x : Value, (w.setCell ⟨G.r, first, none⟩ x).cell? ⟨G.s, 4, none⟩ = w.cell? ⟨G.s, 4, none⟩ := fun x => cell_far (p := ⟨G.r, first, none⟩) (a := ⟨G.s, 4, none⟩) (by have a := h.sblk; have b := h.rows; unfold IB at b; exact ty_ne a b (by decide)) x
 obtain ⟨xu, hxu⟩ : ∃ x, x = s.u first := ⟨_, rfl⟩
 rw [← hxu] at eu bu
 have HXU := Aside0.mk hxu
 clear h hb hi hsm hof hn1 hxu
 go_enter Try.func73, Try.ntmps73
 go_wp2_with fail
 clear f0 f2 f4 eu zu qs4
 have K0 : Aside0 (Sk (w.setCell ⟨G.r, first, none⟩ (.int .i64 (xu + d))) G (shiftS s first d 0)) := ⟨by rw [shiftS_zero, ← HXU.out]; exact H.out.setR first _⟩
 have B0 : Aside0 (Below w0.heap.size w0 (w.setCell ⟨G.r, first, none⟩ (.int .i64 (xu + d)))) := ⟨HB.out.setCell HI.out.r _⟩
 clear hd bu HB H HXU
 go_loopw [25] (fun v25 wr => ∃ k : Nat, k ≤ n ∧ v25 = .int .i64 k ∧ Aside0 (Sk wr G (shiftS s first d k)) ∧ Aside0 (Below w0.heap.size w0 wr)) (fun v _ => n - (intOf v).toNat)
 case atStart => exact ⟨0, Nat.zero_le _, rfl, K0, B0⟩
 case round =>
  clear K0 B0
  obtain ⟨k, hk, rfl, K, BW⟩ := hrel
  by_cases hlt : k < n
  ·have hkn : k < G.n := by rw [← HN.out]; exact hlt
   have f0 := K.out.s0
   have f3 := K.out.w2
   have f4 := K.out.w3
   have f5 := K.out.w4
   have s1 := K.out.s1
   have s2 := K.out.s2
   have s4 := K.out.s4
   rw [← HN.out] at f3 f4 f5 s1 s2 s4
   have ev := K.out.cols.c hkn
   have el := K.out.least.c hkn
   have ef := K.out.far.c hkn
   have es := K.out.seen.c hkn
   have eo := K.out.of.c hkn
   have zc := K.out.cols.z k
   have zl := K.out.least.z k
   change wr.cell? ⟨G.c, k, none⟩ = some (.int .i64 (shiftV s d k k)) at ev
   change wr.cell? ⟨G.l, k, none⟩ = some (.int .i64 (shiftL s d k k)) at el
   change wr.cell? ⟨G.f, k, none⟩ = some (.bool (s.far k)) at ef
   change wr.cell? ⟨G.e, k, none⟩ = some (.bool (s.seen k)) at es
   change wr.cell? ⟨G.o, k, none⟩ = some (.int .i64 (s.of k)) at eo
   rw [shiftV_at] at ev
   rw [shiftL_at] at el
   have bv := SM.out.v k hkn
   have hd := HD.out
   unfold Big at bv hd
   cases hs : s.seen k with
   | true =>
    rw [hs] at es
    obtain ⟨i, hoi, hin⟩ := HO.out k hkn hs
    have NX := Aside0.mk (shiftS_seen (first := first) (d := d) hs)
    rw [hoi] at eo NX
    rw [Int.toNat_natCast] at NX
    have er := K.out.rows.c hin
    have zr := K.out.rows.z i
    have bi := shiftU_bd (n := G.n) (first := first) SM.out HD.out k i hin
    change wr.cell? ⟨G.r, i, none⟩ = some (.int .i64 (shiftU s first d k i)) at er
    obtain ⟨xr, hxr⟩ : ∃ x, x = shiftU s first d k i := ⟨_, rfl⟩
    obtain ⟨xv, hxv⟩ : ∃ x, x = s.v k := ⟨_, rfl⟩
    rw [← hxr] at er bi NX
    rw [← hxv] at ev bv NX
    have hin' : i < n := by rw [HN.out]; exact hin
    have bi1 : -1000000000000000000 ≤ xr ∧ xr ≤ 1000000000000000000 := by
     unfold Big at bi
     have : k ≤ 64 := by omega
     omega
    have w1 : IntKind.i64.wrap (xr + d) = xr + d := IntWalk.i64_in _ (by omega)
    have qrs0 : ∀ (W : World) (x : Value), (W.setCell ⟨G.r, i, none⟩ x).cell? ⟨G.s, 0, none⟩ = W.cell? ⟨G.s, 0, none⟩ := fun W x => cell_far (p := ⟨G.r, i, none⟩) (a := ⟨G.s, 0, none⟩) (by have a := K.out.sblk; have b := K.out.rows; unfold IB at b; exact ty_ne a b (by decide)) x
    have qrw3 : ∀ (W : World) (x : Value), (W.setCell ⟨G.r, i, none⟩ x).cell? ⟨G.w, 3, none⟩ = W.cell? ⟨G.w, 3, none⟩ := fun W x => cell_far (p := ⟨G.r, i, none⟩) (a := ⟨G.w, 3, none⟩) (by have a := K.out.blk; have b := K.out.rows; unfold IB at b; exact ty_ne a b (by decide)) x
    have qrc : ∀ (W : World) (x : Value), (W.setCell ⟨G.r, i, none⟩ x).cell? ⟨G.c, k, none⟩ = W.cell? ⟨G.c, k, none⟩ := fun W x => cell_far (p := ⟨G.r, i, none⟩) (a := ⟨G.c, k, none⟩) (fun e => K.out.ne e.symm) x
    clear hs hoi hxr hxv bi
    go_wp2_with fail
    go_region
    go_wp2_with fail
    go_roundw
    case measure => simp [intOf]; omega
    case rel =>
     refine ⟨k + 1, by omega, by go_num, ⟨?_⟩, ⟨?_⟩⟩
     ·rw [NX.out]
      exact (K.out.drew.setR i (xr + d)).setC k (xv - d)
     ·exact ((below_drew BW.out).setCell HI.out.r _).setCell HI.out.c _
   | false =>
    rw [hs] at es
    have bl := SM.out.l k hkn hs
    unfold Big at bl
    cases hf : s.far k with
    | true =>
     rw [hf] at ef
     have NX := Aside0.mk (shiftS_far (first := first) (d := d) hs hf)
     clear hs hf
     go_wp2_with fail
     go_roundw
     case measure => simp [intOf]; omega
     case rel => exact ⟨k + 1, by omega, by go_num, ⟨by rw [NX.out]; exact K.out⟩, BW⟩
    | false =>
     rw [hf] at ef
     have NX := Aside0.mk (shiftS_near (first := first) (d := d) hs hf)
     obtain ⟨xl, hxl⟩ : ∃ x, x = s.least k := ⟨_, rfl⟩
     rw [← hxl] at el bl NX
     clear hs hf hxl
     go_wp2_with fail
     go_roundw
     case measure => simp [intOf]; omega
     case rel =>
      refine ⟨k + 1, by omega, by go_num, ⟨?_⟩, ⟨?_⟩⟩
      ·rw [NX.out]
       exact K.out.setL k (xl - d)
      ·exact BW.out.setCell HI.out.l _
  ·obtain rfl : k = n := by omega
   go_wp2_with fail
   go_end0
   refine ⟨rfl, ?_, BW.out⟩
   have := K.out
   rw [show shift G.n s first d = shiftS s first d G.n from rfl, ← HN.out]
   exact this
def wayAt : List Nat → Int
 | [] => -1
 | k :: _ => (k : Int)
set_option maxHeartbeats 2000000 in
set_option maxRecDepth 100000 in
theorem turn_any (w0 w : World) (G : Geo2) (s : St) (h : Sk w G s) (hb : Below w0.heap.size w0 w) (hi : Hi w0.heap.size G) (_hn64 : G.n ≤ 64) (first : Nat) (k0 : Nat) (P : List Nat) (hP : Way s (k0 :: P)) (hlt : ∀ j ∈ k0 :: P, j < G.n) :
  Calls Try.prog 74 #[.pointer (some ⟨G.s, 0, none⟩), .int .i64 (first : Int), .int .i64 (k0 : Int)] w fun e w' => e = .returned (.tuple #[]) ∧ Sk w' G { s with of := turnF first (k0 :: P) s.of } ∧ Below w0.heap.size w0 w' := by
 have H := Aside0.mk h
 have HB := Aside0.mk hb
 have HI := Aside0.mk hi
 have HP := Aside0.mk hP
 have HL := Aside0.mk hlt
 obtain ⟨n, hn1⟩ : ∃ n, n = G.n := ⟨_, rfl⟩
 have HN := Aside0.mk hn1
 rw [← hn1] at _hn64
 clear h hb hi hP hlt hn1
 go_enter Try.func74, Try.ntmps74
 go_wp2_with fail
 go_loopg [2] (k0 :: P).length (fun kq v2 wr => ∃ (Q : List Nat) (o : Nat → Int), v2 = .int .i64 (wayAt Q) ∧ Aside0 (Sk wr G { s with of := o }) ∧ Aside0 (Below w0.heap.size w0 wr) ∧ Aside0 (Way s Q ∧ (∀ j ∈ Q, j < G.n) ∧ Q.length ≤ kq) ∧ Aside0 (turnF first (k0 :: P) s.of = turnF first Q o))
 case atStart => exact ⟨k0 :: P, s.of, rfl, H, HB, ⟨HP.out, HL.out, Nat.le_refl _⟩, ⟨rfl⟩⟩
 case round =>
  clear H HB HP HL
  obtain ⟨Q, o, rfl, K, BW, QW, TE⟩ := hrel
  cases Q with
  | nil =>
   have hwa : wayAt [] = -1 := rfl
   go_wp2_with fail
   go_end0
   have := K.out
   exact ⟨rfl, by rw [TE.out]; exact this, BW.out⟩
  | cons k Q =>
   have hwa : wayAt (k :: Q) = (k : Int) := rfl
   rw [hwa]
   clear hwa
   have hkn := QW.out.2.1 k (by simp)
   have hlt : k < n := by rw [HN.out]; exact hkn
   have f0 := K.out.s0
   have f5 := K.out.w4
   have s3 := K.out.s3
   rw [← HN.out] at f5 s3
   have em := K.out.from_.c hkn
   have eo := K.out.of.c hkn
   have zo := K.out.of.z k
   change wr.cell? ⟨G.m, k, none⟩ = some (.int .i64 (s.from_ k)) at em
   change wr.cell? ⟨G.o, k, none⟩ = some (.int .i64 (o k)) at eo
   cases Q with
   | nil =>
    have hf : s.from_ k = -1 := QW.out.1
    rw [hf] at em
    clear hf
    go_wp2_with fail
    go_roundg 0
    case measure => have := QW.out.2.2; simp at this; omega
    case rel =>
     refine ⟨[], upd o k first, rfl, ⟨?_⟩, ⟨?_⟩, ⟨trivial, by simp, by simp⟩, ⟨TE.out⟩⟩
     ·exact K.out.setO k first
     ·exact BW.out.setCell HI.out.o _
   | cons k' l =>
    have hf : s.from_ k = (k' : Int) := QW.out.1.1
    rw [hf] at em
    have hkn' := QW.out.2.1 k' (by simp)
    have hlt' : k' < n := by rw [HN.out]; exact hkn'
    have eo' := K.out.of.c hkn'
    change wr.cell? ⟨G.o, k', none⟩ = some (.int .i64 (o k')) at eo'
    clear hf
    go_wp2_with fail
    go_region
    go_wp2_with fail
    go_roundg (k' :: l).length
    case measure => have := QW.out.2.2; simp at this ⊢; omega
    case rel =>
     refine ⟨k' :: l, upd o k (o k'), rfl, ⟨?_⟩, ⟨?_⟩, ⟨QW.out.1.2, fun j hj => QW.out.2.1 j (List.mem_cons_of_mem _ hj), Nat.le_refl _⟩, ⟨TE.out⟩⟩
     ·exact K.out.drew.setO k (o k')
     ·exact (below_drew BW.out).setCell HI.out.o _
end Go.Proofs.Ytelabmhhnpfegaa.Hand
end
section
namespace Go.Proofs.Ytelabmhhnpfegaa.Hand
open Go.RowKit Go.Proofs.YtelabmhhnpfegaaW.PrintWords Go.Proofs.YtelabmhhnpfegaaW.PrintMore
def clean (u v of : Nat → Int) (k : Nat) : St := ⟨u, v, of, fun _ => 0, fun j => decide (j < k), fun j => if j < k then -1 else 0, fun _ => false⟩
theorem clean_zero {u v of : Nat → Int} : clean u v of 0 = ⟨u, v, of, fun _ => 0, fun _ => false, fun _ => 0, fun _ => false⟩ := by
 unfold clean
 simp
theorem clean_succ {u v of : Nat → Int} {k : Nat} : clean u v of (k + 1) = { clean u v of k with far := upd (clean u v of k).far k true, from_ := upd (clean u v of k).from_ k (-1) } := by
 have h1 : (fun j => decide (j < k + 1)) = upd (fun j => decide (j < k)) k true := by
  funext j
  unfold upd
  by_cases hj : j = k
  ·rw [if_pos hj]; exact decide_eq_true (by omega)
  ·rw [if_neg hj]; congr 1; exact propext ⟨fun h => by omega, fun h => by omega⟩
 have h2 : (fun j => if j < k + 1 then (-1 : Int) else 0) = upd (fun j => if j < k then (-1 : Int) else 0) k (-1) := by
  funext j
  unfold upd
  by_cases hj : j = k
  ·rw [if_pos hj, if_pos (by omega)]
  ·rw [if_neg hj]
   by_cases hk : j < k
   ·simp only [if_pos hk]
    exact if_pos (by omega)
   ·simp only [if_neg hk]
    exact if_neg (by omega)
 unfold clean
 rw [h1, h2]
theorem _root_.Go.Proofs.Ytelabmhhnpfegaa.Hand.Wk.alloc {W : World} {G : Geo} {u v of : Nat → Int} (h : Wk W G u v of) {o : Obj} : Wk (W.alloc o) G u v of := h.below (below_alloc (Below.refl _ _) o)
theorem sk_made {W : World} {G : Geo} {u v of : Nat → Int} (h : Wk W G u v of) (s l f m e n : Nat) (hs : s = W.heap.size) (hn : n = G.n) (hl : IB W l 2 n fun _ => 0) (hf : BB W f n fun _ => false) (hm : IB W m 3 n fun _ => 0) (he : BB W e n fun _ => false) (n1 : l ≠ G.r ∧ l ≠ G.c) (n2 : m ≠ G.o) (n3 : f ≠ e) :
  Sk (W.alloc (.cells #[.pointer (some ⟨G.w, 0, none⟩), .slice (some ⟨l, 0, none⟩) n n, .slice (some ⟨f, 0, none⟩) n n, .slice (some ⟨m, 0, none⟩) n n, .slice (some ⟨e, 0, none⟩) n n] 138)) ⟨G, s, l, f, m, e⟩ (clean u v of 0) := by
 subst hn
 subst hs
 rw [clean_zero]
 have hb : Below W.heap.size W (W.alloc (.cells #[.pointer (some ⟨G.w, 0, none⟩), .slice (some ⟨l, 0, none⟩) G.n G.n, .slice (some ⟨f, 0, none⟩) G.n G.n, .slice (some ⟨m, 0, none⟩) G.n G.n, .slice (some ⟨e, 0, none⟩) G.n G.n] 138)) := below_alloc (Below.refl _ _) _
 have mv : ∀ {g : Nat} {o : Obj}, W.heap[g]? = some o → (W.alloc (.cells #[.pointer (some ⟨G.w, 0, none⟩), .slice (some ⟨l, 0, none⟩) G.n G.n, .slice (some ⟨f, 0, none⟩) G.n G.n, .slice (some ⟨m, 0, none⟩) G.n G.n, .slice (some ⟨e, 0, none⟩) G.n G.n] 138)).heap[g]? = some o := fun hg => (hb.block _ (blk_lt hg)).trans hg
 exact ⟨h.below hb, blk_new W _, mv hl, mv hf, mv hm, mv he, n1, n2, n3⟩
set_option maxHeartbeats 2000000 in
set_option maxRecDepth 100000 in
theorem look_any (w : World) (G : Geo) (u v of : Nat → Int) (h : Wk w G u v of) (hn64 : G.n ≤ 64) :
  Calls Try.prog 70 #[.pointer (some ⟨G.w, 0, none⟩)] w fun e w' => ∃ G2 : Geo2, G2.toGeo = G ∧ e = .returned (.pointer (some ⟨G2.s, 0, none⟩)) ∧ Sk w' G2 (noneSeen u v of) ∧ Below w.heap.size w w' ∧ w.heap.size ≤ G2.s ∧ w.heap.size ≤ G2.l ∧ w.heap.size ≤ G2.f ∧ w.heap.size ≤ G2.m ∧ w.heap.size ≤ G2.e := by
 have H := Aside0.mk h
 obtain ⟨n, hn1⟩ : ∃ n, n = G.n := ⟨_, rfl⟩
 have HN := Aside0.mk hn1
 have f4 := h.w4
 rw [← hn1] at f4 hn64
 clear h hn1
 have m1 := mk30 n hn64
 have m2 := mk29 n hn64
 have m3 := mk35 n hn64
 go_enter Try.func70, Try.ntmps70
 go_upto_region 2 with fail
 go_cut [4] from 11 to 21 (fun s4 wx => ∃ G2 : Geo2, s4 = .pointer (some ⟨G2.s, 0, none⟩) ∧ Aside0 (G2.toGeo = G ∧ Sk wx G2 (clean u v of 0) ∧ Below w.heap.size w wx ∧ w.heap.size ≤ G2.s ∧ w.heap.size ≤ G2.l ∧ w.heap.size ≤ G2.f ∧ w.heap.size ≤ G2.m ∧ w.heap.size ≤ G2.e))
 case first =>
  have r1 : G.r < w.heap.size := blk_lt H.out.rows
  have r2 : G.c < w.heap.size := blk_lt H.out.cols
  have r3 : G.o < w.heap.size := blk_lt H.out.of
  have S1 := Aside0.mk (And.intro r1 (And.intro r2 r3))
  clear r1 r2 r3
  go_region
  all_goals
   go_wp2_with fail
   go_meet
   obtain ⟨⟨r1, r2, r3⟩⟩ := S1
   refine ⟨⟨G, _, _, _, _, _⟩, rfl, ⟨rfl, Sk.drew (sk_made H.out.alloc.alloc.alloc.alloc _ _ _ _ _ n ?_ HN.out ?_ ?_ ?_ ?_ ?_ ?_ ?_), below_drew (below_alloc (below_alloc (below_alloc (below_alloc (below_alloc (Below.refl _ _) _) _) _) _) _), ?_, ?_, ?_, ?_, ?_⟩⟩
   ·simp
   iterate 4
    ·simp only [IB, BB, al_get, al_size]
     repeat (first | rw [if_pos trivial] | rw [if_pos (by omega)] | rw [if_neg (by omega)])
   ·constructor <;> omega
   ·omega
   ·omega
   all_goals (dsimp only; omega)
 case rest =>
  clear m1 m2 m3 f4
  obtain ⟨G2, rfl, A⟩ := hcut
  have HN2 : Aside0 (n = G2.n) := ⟨by rw [HN.out, ← A.out.1]⟩
  have K0 : Aside0 (Sk wc G2 (clean u v of 0)) := ⟨A.out.2.1⟩
  have B0 : Aside0 (Below w.heap.size w wc) := ⟨A.out.2.2.1⟩
  clear H HN
  go_wp2_with fail
  go_loopw [23] (fun v23 wr => ∃ k : Nat, k ≤ n ∧ v23 = .int .i64 k ∧ Aside0 (Sk wr G2 (clean u v of k)) ∧ Aside0 (Below w.heap.size w wr)) (fun v _ => n - (intOf v).toNat)
  case atStart => exact ⟨0, Nat.zero_le _, rfl, K0, B0⟩
  case round =>
   clear K0 B0
   obtain ⟨k, hk, rfl, K, BW⟩ := hrel
   by_cases hlt : k < n
   ·have hkn : k < G2.n := by rw [← HN2.out]; exact hlt
    have s2 := K.out.s2
    have s3 := K.out.s3
    rw [← HN2.out] at s2 s3
    have ef := K.out.far.c hkn
    have em := K.out.from_.c hkn
    have zf := K.out.far.z k
    have zm := K.out.from_.z k
    have NEfm : G2.f ≠ G2.m := by have a := K.out.far; have b := K.out.from_; unfold BB at a; unfold IB at b; exact ty_ne a b (by decide)
    have NEmf := NEfm.symm
    have qfm : ∀ (W : World) (x : Value), (W.setCell ⟨G2.f, k, none⟩ x).cell? ⟨G2.m, k, none⟩ = W.cell? ⟨G2.m, k, none⟩ := fun W x => cell_far (p := ⟨G2.f, k, none⟩) (a := ⟨G2.m, k, none⟩) (NEmf) x
    have qmf : ∀ (W : World) (x : Value), (W.setCell ⟨G2.m, k, none⟩ x).cell? ⟨G2.f, k, none⟩ = W.cell? ⟨G2.f, k, none⟩ := fun W x => cell_far (p := ⟨G2.m, k, none⟩) (a := ⟨G2.f, k, none⟩) (NEfm) x
    have NX := Aside0.mk (clean_succ (u := u) (v := v) (of := of) (k := k))
    go_wp2_with fail
    go_region
    go_wp2_with fail
    go_roundw
    case measure => simp [intOf]; omega
    case rel =>
     refine ⟨k + 1, by omega, by go_num, ⟨?_⟩, ⟨?_⟩⟩
     ·rw [NX.out]
      exact ((K.out.setF k true).setM k (-1)).drew
     ·exact below_drew ((BW.out.setCell A.out.2.2.2.2.2.1 _).setCell A.out.2.2.2.2.2.2.1 _)
   ·obtain rfl : k = n := by omega
    go_wp2_with fail
    go_ret
    obtain ⟨a1, a2, a3, a4, a5, a6, a7, a8⟩ := A.out
    refine ⟨G2, a1, rfl, ?_, BW.out, a4, a5, a6, a7, a8⟩
    have hN := HN2.out
    obtain ⟨⟨b1, b2, b3, b4, b5⟩, b6, b7, b8, b9, b10, b11, b12, b13⟩ := K.out
    refine ⟨⟨b1, b2, b3, b4, b5⟩, b6, b7, ?_, ?_, b10, b11, b12, b13⟩
    ·unfold BB at b8 ⊢
     rw [b8, tabB_congr (g := fun _ => true) (fun i hi => by simp only [clean]; exact decide_eq_true (by omega))]
     rfl
    ·unfold IB at b9 ⊢
     rw [b9, tabI_congr (g := fun _ => -1) (fun i hi => by simp only [clean]; exact if_pos (by omega))]
     rfl
end Go.Proofs.Ytelabmhhnpfegaa.Hand
end
section
namespace Go.Proofs.Ytelabmhhnpfegaa.Hand
open Go.RowKit Go.Proofs.YtelabmhhnpfegaaW.PrintWords Go.Proofs.YtelabmhhnpfegaaW.PrintMore
theorem Look.uv {t : Tb} (ht : TbOk t) {r : Nat} {s : St} {L : List Nat} (h : Look t r s L) : (∀ i, i < t.n → -(1000 * M) ≤ s.u i ∧ s.u i ≤ 1000 * M) ∧ (∀ k, k < t.n → -(600 * M) ≤ s.v k ∧ s.v k ≤ 600 * M) := by
 have hlen := h.len
 have hr := h.rlt
 have hn := ht.n64
 have hrb := h.rb
 have hv : ∀ k, k < t.n → -(600 * M) ≤ s.v k ∧ s.v k ≤ 600 * M := fun k hk => by
  by_cases hL : k ∈ L
  ·have := h.sb k hL
   unfold M at *
   omega
  ·have := h.vb k hk hL
   unfold M at *
   omega
 refine ⟨fun i hi => ?_, hv⟩
 rcases Nat.lt_trichotomy i r with hl | rfl | hl
 ·obtain ⟨k, hk, e⟩ := h.onto i hl
  have h1 := (h.tight k i hk e).2
  have h2 := hv k hk
  have h3 := ht.mag i k hi hk
  unfold M at *
  omega
 ·unfold M at *
  omega
 ·rw [h.rest i hl]
  unfold M
  omega
theorem Ahead.small {t : Tb} (ht : TbOk t) {r : Nat} {s : St} {L : List Nat} (h : Ahead t r s L) : Small t.n s := by
 obtain ⟨hu, hv⟩ := h.toLook.uv ht
 have hlen := h.toLook.len
 have hr := h.rlt
 have hn := ht.n64
 have hrb := h.rb
 refine ⟨fun i hi => ?_, fun k hk => ?_, fun k hk hs => ?_⟩
 ·have := hu i hi; unfold Big M at *; omega
 ·have := hv k hk; unfold Big M at *; omega
 ·have hL : k ∉ L := fun x => by rw [(h.sees k hk).2 x] at hs; cases hs
  cases hf : s.far k with
  | true => rw [h.fbnd k hk hL hf]; unfold Big; omega
  | false =>
   have h1 := h.lb k hk hL hf
   have h2 := hv k hk
   unfold Big M at *
   omega
theorem Spread.small {t : Tb} (ht : TbOk t) {r : Nat} {s : St} {L : List Nat} (h : Spread t r s L) : Small t.n s := by
 obtain ⟨hu, hv⟩ := h.toLook.uv ht
 have hlen := h.toLook.len
 have hr := h.rlt
 have hn := ht.n64
 have hrb := h.rb
 refine ⟨fun i hi => ?_, fun k hk => ?_, fun k hk hs => ?_⟩
 ·have := hu i hi; unfold Big M at *; omega
 ·have := hv k hk; unfold Big M at *; omega
 ·have hL : k ∉ L := fun x => by rw [(h.sees k hk).2 x] at hs; cases hs
  cases hf : s.far k with
  | true => rw [h.fbnd k hk hL hf]; unfold Big; omega
  | false =>
   have h1 := h.lb k hk hL hf
   have h2 := hv k hk
   unfold Big M at *
   omega
structure Hi0 (B : Nat) (G : Geo) : Prop where
 w : B ≤ G.w
 r : B ≤ G.r
 c : B ≤ G.c
 o : B ≤ G.o
set_option maxHeartbeats 2000000 in
set_option maxRecDepth 100000 in
theorem add_any (w0 w : World) (G : Geo) (t : Tb) (T : Tab w0 G t) (ht : TbOk t) (r : Nat) (hr : r < G.n) (u v of : Nat → Int) (h : Wk w G u v of) (inv : Inv t r u v of) (hb : Below w0.heap.size w0 w) (hi : Hi0 w0.heap.size G) :
  Calls Try.prog 37 #[.pointer (some ⟨G.w, 0, none⟩), .int .i64 (r : Int)] w fun e w' => ∃ ok, e = .returned (.bool ok) ∧ Below w0.heap.size w0 w' ∧ (ok = true → ∃ u' v' of', Wk w' G u' v' of' ∧ Inv t (r + 1) u' v' of') ∧ (ok = false → ∀ σ, ¬ PM t.n t.no σ) := by
 have HT := Aside0.mk T
 have TO := Aside0.mk ht
 have HR := Aside0.mk hr
 have H := Aside0.mk h
 have HV := Aside0.mk inv
 have HB := Aside0.mk hb
 have HI := Aside0.mk hi
 have N64 : Aside0 (G.n ≤ 64) := ⟨by rw [← T.n]; exact ht.n64⟩
 clear T ht hr h inv hb hi
 go_enter Try.func37, Try.ntmps37
 go_wp2_with fail
 refine (look_any w G u v of H.out N64.out).mono ?_
 rintro _ w1 ⟨G2, rfl, rfl, k1, b1, i1, i2, i3, i4, i5⟩
 have hws : w0.heap.size ≤ w.heap.size := Nat.le_trans HI.out.w (Nat.le_of_lt (blk_lt H.out.blk))
 have HI2 : Aside0 (Hi w0.heap.size G2) := ⟨⟨HI.out.w, HI.out.r, HI.out.c, HI.out.o, by omega, by omega, by omega, by omega, by omega⟩⟩
 have K1 := Aside0.mk k1
 have B1 : Aside0 (Below w0.heap.size w0 w1) := ⟨HB.out.trans (b1.mono hws)⟩
 have A1 := Aside0.mk (look_start HV.out (by rw [HT.out.n]; exact HR.out))
 clear k1 b1 i1 i2 i3 i4 i5 hws
 go_wp2_with fail
 go_loopg [6, 7] r (fun kq v6 v7 wr => ∃ (s : St) (L : List Nat), v6 = .int .i64 ((nextRow s r L : Nat) : Int) ∧ v7 = .int .i64 (nextBy L) ∧ Aside0 (Ahead t r s L) ∧ Aside0 (Sk wr G2 s) ∧ Aside0 (Below w0.heap.size w0 wr) ∧ Aside0 (r ≤ L.length + kq))
 case atStart => exact ⟨_, [], rfl, rfl, A1, K1, B1, ⟨by simp⟩⟩
 case round =>
  clear K1 B1 A1 HB H
  obtain ⟨s, L, rfl, rfl, A, K, BW, LQ⟩ := hrel
  have SP := Aside0.mk (spread_ok TO.out A.out)
  have SM := Aside0.mk (A.out.small TO.out)
  have HRW := Aside0.mk (next_row_lt A.out.toLook)
  obtain ⟨row, hrow⟩ : ∃ x, x = nextRow s r L := ⟨_, rfl⟩
  obtain ⟨b, hbb⟩ : ∃ x, x = nextBy L := ⟨_, rfl⟩
  rw [← hrow] at SP HRW ⊢
  rw [← hbb] at SP ⊢
  rw [HT.out.n] at HRW SM
  clear hrow hbb
  go_wp2_with fail
  refine (spread_any w0 wr G2 s t HT.out TO.out K.out BW.out HI2.out row HRW.out b SM.out).mono ?_
  rintro _ w2 ⟨rfl, k2, b2⟩
  obtain ⟨s2, hs2⟩ : ∃ x, x = spread t s row b := ⟨_, rfl⟩
  rw [← hs2] at k2 SP
  have K2 := Aside0.mk k2
  have B2 := Aside0.mk b2
  clear k2 b2 hs2 SM HRW
  go_wp2_with fail
  refine (nearest_any w2 G2 s2 K2.out N64.out).mono ?_
  rintro _ w3 ⟨rfl, d3⟩
  have K3 := Aside0.mk (K2.out.below d3.below)
  have B3 : Aside0 (Below w0.heap.size w0 w3) := ⟨B2.out.trans (d3.below.mono (Nat.le_trans HI.out.w (Nat.le_of_lt (blk_lt K2.out.blk))))⟩
  clear d3
  have NS := Aside0.mk (near_spec s2 G2.n)
  rcases NS.out with ⟨h1, h2⟩ | ⟨k, h1, hk, hsn, hfr, hmin⟩
  ·have NM := Aside0.mk (no_match SP.out (by rw [HT.out.n]; exact h1))
   rw [h1]
   clear h1 h2 NS
   go_wp2_with fail
   go_ret
   exact ⟨false, rfl, B3.out, fun x => (by cases x), fun _ => NM.out⟩
  ·rw [h1]
   have hkt : k < t.n := by rw [HT.out.n]; exact hk
   have hkL : k ∉ L := fun x => by rw [(SP.out.sees k hkt).2 x] at hsn; cases hsn
   have SH := Aside0.mk (shift_ok TO.out SP.out hkt hkL hfr (fun j hj => hmin j (by rw [← HT.out.n]; exact hj)))
   have SM2 := Aside0.mk (SP.out.small TO.out)
   rw [HT.out.n] at SM2
   have bd := SM2.out.l k hk hsn
   have HK := Aside0.mk (And.intro hkt (And.intro hkL hk))
   have FR := Aside0.mk hfr
   have HO : Aside0 (∀ k, k < G2.n → s2.seen k = true → ∃ i : Nat, s2.of k = (i : Int) ∧ i < G2.n) := ⟨fun j hj hs => by
    have hjt : j < t.n := by rw [HT.out.n]; exact hj
    have h0 := (SP.out.lin j ((SP.out.sees j hjt).1 hs)).2
    rcases SP.out.range j hjt with e | ⟨i, e, hi⟩
    ·omega
    ·exact ⟨i, e, by have := HR.out; omega⟩⟩
   obtain ⟨n, hn⟩ : ∃ n, n = G2.n := ⟨_, rfl⟩
   have HN := Aside0.mk hn
   have f1 := K3.out.s1
   have el := K3.out.least.c hk
   rw [← hn] at f1
   have hkn : k < n := by rw [hn]; exact hk
   obtain ⟨d, hd⟩ : ∃ d, d = s2.least k := ⟨_, rfl⟩
   rw [← hd] at el bd SH
   have BD := Aside0.mk bd
   clear h1 hkt hkL hmin hsn NS hk hn hfr bd hd
   go_wp2_with fail
   refine (shift_any w0 w3 G2 s2 K3.out B3.out HI2.out N64.out r HR.out d BD.out SM2.out HO.out).mono ?_
   rintro _ w4 ⟨rfl, k4, b4⟩
   rw [← HT.out.n] at k4
   have hfar : (shift t.n s2 r d).far k = false := FR.out
   obtain ⟨s4, hs4⟩ : ∃ x, x = shift t.n s2 r d := ⟨_, rfl⟩
   rw [← hs4] at k4 SH hfar
   have K4 := Aside0.mk k4
   have B4 := Aside0.mk b4
   have FR4 := Aside0.mk hfar
   clear k4 b4 hs4 SM2 HO BD K3 B3 f1 el FR hfar
   have s0 := K4.out.s0
   have w4' := K4.out.w4
   rw [← HN.out] at w4'
   have eo := K4.out.of.c HK.out.2.2
   rcases SH.out.1.range k HK.out.1 with e | ⟨i, e, hi⟩
   ·rw [e] at eo
    have TK := Aside0.mk (turn_ok TO.out SH.out.1 HK.out.1 HK.out.2.1 FR4.out SH.out.2.1 SH.out.2.2 e)
    clear e
    go_wp2_with fail
    obtain ⟨W, t1, t2, t3, t4⟩ := TK.out
    refine (turn_any w0 w4 G2 s4 K4.out B4.out HI2.out N64.out r k W t1 (by rw [← HT.out.n]; exact t2)).mono ?_
    rintro _ w5 ⟨rfl, k5, b5⟩
    have RES := Aside0.mk (And.intro b5 (And.intro k5.toWk t4))
    clear k5 b5 t1 t2 t3 t4
    go_wp2_with fail
    go_ret
    exact ⟨true, rfl, RES.out.1, fun _ => ⟨_, _, _, RES.out.2.1, RES.out.2.2⟩, fun x => (by cases x)⟩
   ·rw [e] at eo
    have SE := Aside0.mk (see_ok SH.out.1 HK.out.1 HK.out.2.1 FR4.out SH.out.2.1 SH.out.2.2 (by omega))
    have b0 : decide ((i : Int) < 0) = false := decide_eq_false (by omega)
    have HE := Aside0.mk e
    have f4 := K4.out.s4
    rw [← HN.out] at f4
    have es := K4.out.seen.c HK.out.2.2
    have ze := K4.out.seen.z k
    have q1 : ∀ (x : Value), (w4.setCell ⟨G2.e, k, none⟩ x).cell? ⟨G2.s, 0, none⟩ = w4.cell? ⟨G2.s, 0, none⟩ := fun x => cell_far (p := ⟨G2.e, k, none⟩) (a := ⟨G2.s, 0, none⟩) (by have a := K4.out.sblk; have b := K4.out.seen; unfold BB at b; exact ty_ne a b (by decide)) x
    have q2 : ∀ (x : Value), (w4.setCell ⟨G2.e, k, none⟩ x).cell? ⟨G2.w, 4, none⟩ = w4.cell? ⟨G2.w, 4, none⟩ := fun x => cell_far (p := ⟨G2.e, k, none⟩) (a := ⟨G2.w, 4, none⟩) (by have a := K4.out.blk; have b := K4.out.seen; unfold BB at b; exact ty_ne a b (by decide)) x
    have q3 : ∀ (x : Value), (w4.setCell ⟨G2.e, k, none⟩ x).cell? ⟨G2.o, k, none⟩ = w4.cell? ⟨G2.o, k, none⟩ := fun x => cell_far (p := ⟨G2.e, k, none⟩) (a := ⟨G2.o, k, none⟩) (by have a := K4.out.of; have b := K4.out.seen; unfold BB at b; unfold IB at a; exact ty_ne a b (by decide)) x
    clear e hi
    go_wp2_with fail
    go_roundg (r - (L.length + 1))
    case measure => have := SE.out.toLook.len; have := LQ.out; simp at *; omega
    case rel =>
     refine ⟨_, k :: L, ?_, rfl, ⟨SE.out⟩, ⟨K4.out.setE k true⟩, ⟨B4.out.setCell HI2.out.e _⟩, ⟨by simp; omega⟩⟩
     simp [nextRow, HE.out]
end Go.Proofs.Ytelabmhhnpfegaa.Hand
end
