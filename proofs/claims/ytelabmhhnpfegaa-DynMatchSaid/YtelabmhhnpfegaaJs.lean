/- The search's spread, walked. -/
import Derived.Test.YtelabmhhnpfegaaJm
import Derived.IntWalk
namespace Go.Proofs.Ytelabmhhnpfegaa.Hand
open Go.RowKit Go.Proofs.YtelabmhhnpfegaaW.PrintWords Go.Proofs.YtelabmhhnpfegaaW.PrintMore
section
variable {W : World} {G : Geo2} {s : St}
theorem Sk.setL (h : Sk W G s) (i : Nat) (x : Int) : Sk (W.setCell ⟨G.l, i, none⟩ (.int .i64 x)) G { s with least := upd s.least i x } := by
  obtain ⟨⟨a1, a2, a3, a4, a5⟩, b1, b2, b3, b4, b5, b6, b7, b8⟩ := h
  have A2 := a2
  have A3 := a3
  have A4 := a4
  have B2 := b2
  have B3 := b3
  have B4 := b4
  have B5 := b5
  unfold IB at a2 a3 a4 b2 b4
  unfold BB at b3 b5
  exact ⟨⟨blk_far a1 (ty_ne a1 b2 (by decide)) _, blk_far a2 (fun e => b6.1 e.symm) _, blk_far a3 (fun e => b6.2 e.symm) _, blk_far a4 (ty_ne a4 b2 (by decide)) _, a5⟩, blk_far b1 (ty_ne b1 b2 (by decide)) _, B2.set i x, blk_far b3 (ty_ne b3 b2 (by decide)) _, blk_far b4 (ty_ne b4 b2 (by decide)) _, blk_far b5 (ty_ne b5 b2 (by decide)) _, b6, b7, b8⟩
theorem Sk.setF (h : Sk W G s) (i : Nat) (x : Bool) : Sk (W.setCell ⟨G.f, i, none⟩ (.bool x)) G { s with far := upd s.far i x } := by
  obtain ⟨⟨a1, a2, a3, a4, a5⟩, b1, b2, b3, b4, b5, b6, b7, b8⟩ := h
  have A2 := a2
  have A3 := a3
  have A4 := a4
  have B2 := b2
  have B3 := b3
  have B4 := b4
  have B5 := b5
  unfold IB at a2 a3 a4 b2 b4
  unfold BB at b3 b5
  exact ⟨⟨blk_far a1 (ty_ne a1 b3 (by decide)) _, blk_far a2 (ty_ne a2 b3 (by decide)) _, blk_far a3 (ty_ne a3 b3 (by decide)) _, blk_far a4 (ty_ne a4 b3 (by decide)) _, a5⟩, blk_far b1 (ty_ne b1 b3 (by decide)) _, blk_far b2 (ty_ne b2 b3 (by decide)) _, B3.set i x, blk_far b4 (ty_ne b4 b3 (by decide)) _, blk_far b5 (fun e => b8 e.symm) _, b6, b7, b8⟩
theorem Sk.setM (h : Sk W G s) (i : Nat) (x : Int) : Sk (W.setCell ⟨G.m, i, none⟩ (.int .i64 x)) G { s with from_ := upd s.from_ i x } := by
  obtain ⟨⟨a1, a2, a3, a4, a5⟩, b1, b2, b3, b4, b5, b6, b7, b8⟩ := h
  have A2 := a2
  have A3 := a3
  have A4 := a4
  have B2 := b2
  have B3 := b3
  have B4 := b4
  have B5 := b5
  unfold IB at a2 a3 a4 b2 b4
  unfold BB at b3 b5
  exact ⟨⟨blk_far a1 (ty_ne a1 b4 (by decide)) _, blk_far a2 (ty_ne a2 b4 (by decide)) _, blk_far a3 (ty_ne a3 b4 (by decide)) _, blk_far a4 (fun e => b7 e.symm) _, a5⟩, blk_far b1 (ty_ne b1 b4 (by decide)) _, blk_far b2 (ty_ne b2 b4 (by decide)) _, blk_far b3 (ty_ne b3 b4 (by decide)) _, B4.set i x, blk_far b5 (ty_ne b5 b4 (by decide)) _, b6, b7, b8⟩
theorem Sk.setE (h : Sk W G s) (i : Nat) (x : Bool) : Sk (W.setCell ⟨G.e, i, none⟩ (.bool x)) G { s with seen := upd s.seen i x } := by
  obtain ⟨⟨a1, a2, a3, a4, a5⟩, b1, b2, b3, b4, b5, b6, b7, b8⟩ := h
  have A2 := a2
  have A3 := a3
  have A4 := a4
  have B2 := b2
  have B3 := b3
  have B4 := b4
  have B5 := b5
  unfold IB at a2 a3 a4 b2 b4
  unfold BB at b3 b5
  exact ⟨⟨blk_far a1 (ty_ne a1 b5 (by decide)) _, blk_far a2 (ty_ne a2 b5 (by decide)) _, blk_far a3 (ty_ne a3 b5 (by decide)) _, blk_far a4 (ty_ne a4 b5 (by decide)) _, a5⟩, blk_far b1 (ty_ne b1 b5 (by decide)) _, blk_far b2 (ty_ne b2 b5 (by decide)) _, blk_far b3 b8 _, blk_far b4 (ty_ne b4 b5 (by decide)) _, B5.set i x, b6, b7, b8⟩
theorem Sk.setR (h : Sk W G s) (i : Nat) (x : Int) : Sk (W.setCell ⟨G.r, i, none⟩ (.int .i64 x)) G { s with u := upd s.u i x } := by
  obtain ⟨⟨a1, a2, a3, a4, a5⟩, b1, b2, b3, b4, b5, b6, b7, b8⟩ := h
  have A2 := a2
  have A3 := a3
  have A4 := a4
  have B2 := b2
  have B3 := b3
  have B4 := b4
  have B5 := b5
  unfold IB at a2 a3 a4 b2 b4
  unfold BB at b3 b5
  exact ⟨⟨blk_far a1 (ty_ne a1 a2 (by decide)) _, A2.set i x, blk_far a3 (fun e => a5 e.symm) _, blk_far a4 (ty_ne a4 a2 (by decide)) _, a5⟩, blk_far b1 (ty_ne b1 a2 (by decide)) _, blk_far b2 b6.1 _, blk_far b3 (ty_ne b3 a2 (by decide)) _, blk_far b4 (ty_ne b4 a2 (by decide)) _, blk_far b5 (ty_ne b5 a2 (by decide)) _, b6, b7, b8⟩
theorem Sk.setC (h : Sk W G s) (i : Nat) (x : Int) : Sk (W.setCell ⟨G.c, i, none⟩ (.int .i64 x)) G { s with v := upd s.v i x } := by
  obtain ⟨⟨a1, a2, a3, a4, a5⟩, b1, b2, b3, b4, b5, b6, b7, b8⟩ := h
  have A2 := a2
  have A3 := a3
  have A4 := a4
  have B2 := b2
  have B3 := b3
  have B4 := b4
  have B5 := b5
  unfold IB at a2 a3 a4 b2 b4
  unfold BB at b3 b5
  exact ⟨⟨blk_far a1 (ty_ne a1 a3 (by decide)) _, blk_far a2 a5 _, A3.set i x, blk_far a4 (ty_ne a4 a3 (by decide)) _, a5⟩, blk_far b1 (ty_ne b1 a3 (by decide)) _, blk_far b2 b6.2 _, blk_far b3 (ty_ne b3 a3 (by decide)) _, blk_far b4 (ty_ne b4 a3 (by decide)) _, blk_far b5 (ty_ne b5 a3 (by decide)) _, b6, b7, b8⟩
theorem Sk.setO (h : Sk W G s) (i : Nat) (x : Int) : Sk (W.setCell ⟨G.o, i, none⟩ (.int .i64 x)) G { s with of := upd s.of i x } := by
  obtain ⟨⟨a1, a2, a3, a4, a5⟩, b1, b2, b3, b4, b5, b6, b7, b8⟩ := h
  have A2 := a2
  have A3 := a3
  have A4 := a4
  have B2 := b2
  have B3 := b3
  have B4 := b4
  have B5 := b5
  unfold IB at a2 a3 a4 b2 b4
  unfold BB at b3 b5
  exact ⟨⟨blk_far a1 (ty_ne a1 a4 (by decide)) _, blk_far a2 (ty_ne a2 a4 (by decide)) _, blk_far a3 (ty_ne a3 a4 (by decide)) _, A4.set i x, a5⟩, blk_far b1 (ty_ne b1 a4 (by decide)) _, blk_far b2 (ty_ne b2 a4 (by decide)) _, blk_far b3 (ty_ne b3 a4 (by decide)) _, blk_far b4 b7 _, blk_far b5 (ty_ne b5 a4 (by decide)) _, b6, b7, b8⟩
theorem Sk.drewN (h : Sk W G s) (m : Nat) : Sk (W.drewN m) G s := h.below (pw_below_drewN (Below.refl _ _) m)
theorem Sk.drew (h : Sk W G s) : Sk W.drew G s := h.below (below_drew (Below.refl _ _))
theorem Sk.lts (h : Sk W G s) : G.s < W.heap.size := blk_lt h.sblk
end
/-- All blocks of the search are from B on. -/
structure Hi (B : Nat) (G : Geo2) : Prop where
  w : B ≤ G.w
  r : B ≤ G.r
  c : B ≤ G.c
  o : B ≤ G.o
  s : B ≤ G.s
  l : B ≤ G.l
  f : B ≤ G.f
  m : B ≤ G.m
  e : B ≤ G.e
/-- The table, as it is read. -/
structure Tab (w0 : World) (G : Geo) (t : Tb) : Prop where
  n : t.n = G.n
  cost : ∀ i, i < G.n → ∃ ad AR cR, G.AC = some ad ∧ w0.cell? (ad.add i) = some (.slice (some AR) G.n cR) ∧ ∀ k, k < G.n → w0.cell? (AR.add k) = some (.int .i64 (t.c i k))
  no : ∀ i, i < G.n → ∃ ad AR cR, G.AN = some ad ∧ w0.cell? (ad.add i) = some (.slice (some AR) G.n cR) ∧ ∀ k, k < G.n → w0.cell? (AR.add k) = some (.bool (t.no i k))
theorem spreadL_at {t : Tb} {s : St} {row k : Nat} : spreadL t s row k k = s.least k := if_neg (fun x => absurd x.1 (Nat.lt_irrefl _))
theorem spreadF_at {t : Tb} {s : St} {row k : Nat} : spreadF t s row k k = s.far k := if_neg (fun x => absurd x.1 (Nat.lt_irrefl _))
def spreadS (t : Tb) (s : St) (row : Nat) (b : Int) (m : Nat) : St := { s with least := spreadL t s row m, far := spreadF t s row m, from_ := spreadB t s row b m }
theorem mix_yes {α : Type} {C : Nat → Bool} {new old : Nat → α} {k : Nat} (h : C k = true) : (fun j => if j < k + 1 ∧ C j = true then new j else old j) = upd (fun j => if j < k ∧ C j = true then new j else old j) k (new k) := by
  funext j
  unfold upd
  by_cases hj : j = k
  · subst hj
    simp [h]
  · rw [if_neg hj]
    have : (j < k + 1 ∧ C j = true) ↔ (j < k ∧ C j = true) := by
      constructor
      · rintro ⟨a, b⟩; exact ⟨by omega, b⟩
      · rintro ⟨a, b⟩; exact ⟨by omega, b⟩
    simp only [this]
theorem mix_no {α : Type} {C : Nat → Bool} {new old : Nat → α} {k : Nat} (h : C k = false) : (fun j => if j < k + 1 ∧ C j = true then new j else old j) = (fun j => if j < k ∧ C j = true then new j else old j) := by
  funext j
  have : (j < k + 1 ∧ C j = true) ↔ (j < k ∧ C j = true) := by
    constructor
    · rintro ⟨a, b⟩
      refine ⟨?_, b⟩
      by_cases hj : j = k
      · subst hj; rw [h] at b; cases b
      · omega
    · rintro ⟨a, b⟩; exact ⟨by omega, b⟩
  simp only [this]
theorem spreadS_yes {t : Tb} {s : St} {row k : Nat} {b : Int} (h : spreadC t s row k = true) : spreadS t s row b (k + 1) = { s with least := upd (spreadL t s row k) k (t.c row k - s.u row - s.v k), far := upd (spreadF t s row k) k false, from_ := upd (spreadB t s row b k) k b } := by
  have e1 : spreadL t s row (k + 1) = upd (spreadL t s row k) k (t.c row k - s.u row - s.v k) := mix_yes (C := spreadC t s row) (new := fun k => t.c row k - s.u row - s.v k) h
  have e2 : spreadF t s row (k + 1) = upd (spreadF t s row k) k false := mix_yes (C := spreadC t s row) (new := fun _ => false) h
  have e3 : spreadB t s row b (k + 1) = upd (spreadB t s row b k) k b := mix_yes (C := spreadC t s row) (new := fun _ => b) h
  unfold spreadS
  rw [e1, e2, e3]
theorem spreadS_no {t : Tb} {s : St} {row k : Nat} {b : Int} (h : spreadC t s row k = false) : spreadS t s row b (k + 1) = spreadS t s row b k := by
  have e1 : spreadL t s row (k + 1) = spreadL t s row k := mix_no (C := spreadC t s row) (new := fun k => t.c row k - s.u row - s.v k) h
  have e2 : spreadF t s row (k + 1) = spreadF t s row k := mix_no (C := spreadC t s row) (new := fun _ => false) h
  have e3 : spreadB t s row b (k + 1) = spreadB t s row b k := mix_no (C := spreadC t s row) (new := fun _ => b) h
  unfold spreadS
  rw [e1, e2, e3]
theorem spreadS_zero {t : Tb} {s : St} {row : Nat} {b : Int} : spreadS t s row b 0 = s := by
  have e1 : spreadL t s row 0 = s.least := by funext j; exact if_neg (fun x => absurd x.1 (Nat.not_lt_zero _))
  have e2 : spreadF t s row 0 = s.far := by funext j; exact if_neg (fun x => absurd x.1 (Nat.not_lt_zero _))
  have e3 : spreadB t s row b 0 = s.from_ := by funext j; exact if_neg (fun x => absurd x.1 (Nat.not_lt_zero _))
  unfold spreadS
  rw [e1, e2, e3]

/-- All numbers are small. -/
abbrev Big : Int := 1125899906842624
structure Small (n : Nat) (s : St) : Prop where
  u : ∀ i, i < n → -Big ≤ s.u i ∧ s.u i ≤ Big
  v : ∀ i, i < n → -Big ≤ s.v i ∧ s.v i ≤ Big
  l : ∀ i, i < n → s.seen i = false → -Big ≤ s.least i ∧ s.least i ≤ Big
structure Frame (B : Nat) (w0 w : World) : Prop where
  below : Below B w0 w
  size : B ≤ w.heap.size

set_option maxHeartbeats 2000000 in
set_option maxRecDepth 100000 in
theorem spread_any (w0 w : World) (G : Geo2) (s : St) (t : Tb) (T : Tab w0 G.toGeo t) (ht : TbOk t) (h : Sk w G s) (hb : Below w0.heap.size w0 w) (hi : Hi w0.heap.size G) (row : Nat) (hrow : row < G.n) (b : Int) (hsm : Small G.n s) :
    Calls Try.prog 71 #[.pointer (some ⟨G.s, 0, none⟩), .int .i64 (row : Int), .int .i64 b] w fun e w' => e = .returned (.tuple #[]) ∧ Sk w' G (spread t s row b) ∧ Below w0.heap.size w0 w' := by
  have H := Aside0.mk h
  have HB := Aside0.mk hb
  have HI := Aside0.mk hi
  have HT := Aside0.mk T
  have TO := Aside0.mk ht
  have SM := Aside0.mk hsm
  have hn64 : G.n ≤ 64 := by rw [← T.n]; exact ht.n64
  obtain ⟨ad, AR, cR, hAC, hrc, hcc⟩ := T.cost row hrow
  obtain ⟨ad2, AR2, cR2, hAN, hrn, hnn⟩ := T.no row hrow
  obtain ⟨n, hn1⟩ : ∃ n, n = G.n := ⟨_, rfl⟩
  have HN := Aside0.mk hn1
  have HCC := Aside0.mk hcc
  have HNN := Aside0.mk hnn
  have HRC := Aside0.mk hrc
  have HRN := Aside0.mk hrn
  rw [← hn1] at hrow hn64 HRC HRN HCC HNN
  have HAC := Aside0.mk hAC
  have HAN := Aside0.mk hAN
  have f0 := h.s0
  have f1 := h.w0
  rw [hAC, ← hn1] at f1
  have f2 := pw_cell_below hb hrc
  rw [← hn1] at f2
  clear h hb hi T ht hsm hn1 hcc hnn hrc hrn hAC hAN
  go_enter Try.func71, Try.ntmps71
  go_wp2_with fail
  clear f0 f1 f2
  go_loopw [21] (fun v21 wr => ∃ k : Nat, k ≤ n ∧ v21 = .int .i64 k ∧ Aside0 (Sk wr G (spreadS t s row b k)) ∧ Aside0 (Below w0.heap.size w0 wr)) (fun v _ => n - (intOf v).toNat)
  case atStart => exact ⟨0, Nat.zero_le _, rfl, ⟨by rw [spreadS_zero]; exact H.out⟩, HB⟩
  case round =>
    obtain ⟨k, hk, rfl, K, BW⟩ := hrel
    by_cases hlt : k < n
    · have hkn : k < G.n := by rw [← HN.out]; exact hlt
      have f0 := K.out.s0
      have f1 := K.out.w0
      have f2 := K.out.w1
      have f3 := K.out.w2
      have f4 := K.out.w3
      have s1 := K.out.s1
      have s2 := K.out.s2
      have s3 := K.out.s3
      have s4 := K.out.s4
      have c0 := pw_cell_below BW.out (HCC.out k hlt)
      have c1 := pw_cell_below BW.out HRN.out
      have c2 := pw_cell_below BW.out (HNN.out k hlt)
      have eu := K.out.rows.c (i := row) (by rw [← HN.out]; exact hrow)
      have ev := K.out.cols.c hkn
      have el := K.out.least.c hkn
      have ef := K.out.far.c hkn
      have es := K.out.seen.c hkn
      have bu := SM.out.u row (by rw [← HN.out]; exact hrow)
      have bv := SM.out.v k hkn
      have bc := TO.out.mag row k (by rw [HT.out.n, ← HN.out]; exact hrow) (by rw [HT.out.n]; exact hkn)
      rw [HAC.out, ← HN.out] at f1
      rw [HAN.out, ← HN.out] at f2
      rw [← HN.out] at f3 f4 s1 s2 s3 s4
      have NEfl : G.f ≠ G.l := by have a := K.out.far; have b := K.out.least; unfold BB at a; unfold IB at b; exact ty_ne a b (by decide)
      have NEml : G.m ≠ G.l := by have a := K.out.from_; have b := K.out.least; unfold IB at a b; exact ty_ne a b (by decide)
      have NEfm : G.f ≠ G.m := by have a := K.out.far; have b := K.out.from_; unfold BB at a; unfold IB at b; exact ty_ne a b (by decide)
      have NElf := NEfl.symm
      have NElm := NEml.symm
      have NEmf := NEfm.symm
      have zl := K.out.least.z k
      have em := K.out.from_.c hkn
      have zf := K.out.far.z k
      have zm := K.out.from_.z k
      change wr.cell? ⟨G.r, row, none⟩ = some (.int .i64 (s.u row)) at eu
      change wr.cell? ⟨G.c, k, none⟩ = some (.int .i64 (s.v k)) at ev
      change wr.cell? ⟨G.l, k, none⟩ = some (.int .i64 (spreadL t s row k k)) at el
      change wr.cell? ⟨G.f, k, none⟩ = some (.bool (spreadF t s row k k)) at ef
      change wr.cell? ⟨G.e, k, none⟩ = some (.bool (s.seen k)) at es
      rw [spreadL_at] at el
      rw [spreadF_at] at ef
      have NO : ∀ x, spreadC t s row k = x → Aside0 (spreadS t s row b (k + 1) = if x = true then { s with least := upd (spreadL t s row k) k (t.c row k - s.u row - s.v k), far := upd (spreadF t s row k) k false, from_ := upd (spreadB t s row b k) k b } else spreadS t s row b k) := fun x hx => ⟨by
        cases x with
        | true => exact spreadS_yes hx
        | false => exact spreadS_no hx⟩
      cases hs : s.seen k with
      | true =>
        rw [hs] at es
        have NX := NO false (by simp [spreadC, hs])
        simp only [Bool.false_eq_true, if_false] at NX
        clear NO hs
        go_wp2_with fail
        go_roundw
        case measure => simp [intOf]; omega
        case rel => exact ⟨k + 1, by omega, by go_num, ⟨by rw [NX.out]; exact K.out⟩, BW⟩
      | false =>
        rw [hs] at es
        cases hno : t.no row k with
        | true =>
          rw [hno] at c2
          have NX := NO false (by simp [spreadC, hno])
          simp only [Bool.false_eq_true, if_false] at NX
          clear NO hs hno
          go_wp2_with fail
          go_roundw
          case measure => simp [intOf]; omega
          case rel => exact ⟨k + 1, by omega, by go_num, ⟨by rw [NX.out]; exact K.out⟩, BW⟩
        | false =>
          rw [hno] at c2
          obtain ⟨xc, hxc⟩ : ∃ x, x = t.c row k := ⟨_, rfl⟩
          obtain ⟨xu, hxu⟩ : ∃ x, x = s.u row := ⟨_, rfl⟩
          obtain ⟨xv, hxv⟩ : ∃ x, x = s.v k := ⟨_, rfl⟩
          obtain ⟨xl, hxl⟩ : ∃ x, x = s.least k := ⟨_, rfl⟩
          have hC : spreadC t s row k = (s.far k || decide (xc - xu - xv < xl)) := by
            rw [hxc, hxu, hxv, hxl]
            simp [spreadC, hs, hno]
          rw [← hxc] at c0 bc NO
          rw [← hxu] at eu bu NO
          rw [← hxv] at ev bv NO
          rw [← hxl] at el
          have w1 : IntKind.i64.wrap (xc - xu) = xc - xu := IntWalk.i64_in _ (by unfold Big at bu; omega)
          have w2 : IntKind.i64.wrap (xc - xu - xv) = xc - xu - xv := IntWalk.i64_in _ (by unfold Big at bu bv; omega)
          unfold Big at bu bv
          clear hxc hxu hxv hxl hs hno
          cases hf : s.far k with
          | true =>
            rw [hf] at ef hC
            have NX := NO true (by rw [hC]; rfl)
            simp only [if_true] at NX
            clear NO hf hC
            go_wp2_with fail
            go_quiet (fail)
            go_wp2_with fail
            have qlf : ∀ (W : World) (x : Value), (W.setCell ⟨G.l, k, none⟩ x).cell? ⟨G.f, k, none⟩ = W.cell? ⟨G.f, k, none⟩ := fun W x => cell_far (p := ⟨G.l, k, none⟩) (a := ⟨G.f, k, none⟩) (NEfl) x
            have qlm : ∀ (W : World) (x : Value), (W.setCell ⟨G.l, k, none⟩ x).cell? ⟨G.m, k, none⟩ = W.cell? ⟨G.m, k, none⟩ := fun W x => cell_far (p := ⟨G.l, k, none⟩) (a := ⟨G.m, k, none⟩) (NEml) x
            have qfl : ∀ (W : World) (x : Value), (W.setCell ⟨G.f, k, none⟩ x).cell? ⟨G.l, k, none⟩ = W.cell? ⟨G.l, k, none⟩ := fun W x => cell_far (p := ⟨G.f, k, none⟩) (a := ⟨G.l, k, none⟩) (NElf) x
            have qfm : ∀ (W : World) (x : Value), (W.setCell ⟨G.f, k, none⟩ x).cell? ⟨G.m, k, none⟩ = W.cell? ⟨G.m, k, none⟩ := fun W x => cell_far (p := ⟨G.f, k, none⟩) (a := ⟨G.m, k, none⟩) (NEmf) x
            have qml : ∀ (W : World) (x : Value), (W.setCell ⟨G.m, k, none⟩ x).cell? ⟨G.l, k, none⟩ = W.cell? ⟨G.l, k, none⟩ := fun W x => cell_far (p := ⟨G.m, k, none⟩) (a := ⟨G.l, k, none⟩) (NElm) x
            have qmf : ∀ (W : World) (x : Value), (W.setCell ⟨G.m, k, none⟩ x).cell? ⟨G.f, k, none⟩ = W.cell? ⟨G.f, k, none⟩ := fun W x => cell_far (p := ⟨G.m, k, none⟩) (a := ⟨G.f, k, none⟩) (NEfm) x
            go_region
            go_wp2_with fail
            go_roundw
            case measure => simp [intOf]; omega
            case rel =>
              refine ⟨k + 1, by omega, by go_num, ⟨?_⟩, ⟨?_⟩⟩
              · rw [NX.out]
                exact (((K.out.drewN _).drew.setL k (xc - xu - xv)).setF k false).setM k b
              · exact (((pw_below_drewN BW.out _).drew.setCell HI.out.l _).setCell HI.out.f _).setCell HI.out.m _
          | false =>
            rw [hf] at ef hC
            by_cases hxy : xc - xu - xv < xl
            · have NX := NO true (by rw [hC]; simp [hxy])
              simp only [if_true] at NX
              have d1 : decide (xc - xu - xv < xl) = true := decide_eq_true hxy
              clear NO hf hC
              go_wp2_with fail
              go_quiet (fail)
              go_wp2_with fail
              have qlf : ∀ (W : World) (x : Value), (W.setCell ⟨G.l, k, none⟩ x).cell? ⟨G.f, k, none⟩ = W.cell? ⟨G.f, k, none⟩ := fun W x => cell_far (p := ⟨G.l, k, none⟩) (a := ⟨G.f, k, none⟩) (NEfl) x
              have qlm : ∀ (W : World) (x : Value), (W.setCell ⟨G.l, k, none⟩ x).cell? ⟨G.m, k, none⟩ = W.cell? ⟨G.m, k, none⟩ := fun W x => cell_far (p := ⟨G.l, k, none⟩) (a := ⟨G.m, k, none⟩) (NEml) x
              have qfl : ∀ (W : World) (x : Value), (W.setCell ⟨G.f, k, none⟩ x).cell? ⟨G.l, k, none⟩ = W.cell? ⟨G.l, k, none⟩ := fun W x => cell_far (p := ⟨G.f, k, none⟩) (a := ⟨G.l, k, none⟩) (NElf) x
              have qfm : ∀ (W : World) (x : Value), (W.setCell ⟨G.f, k, none⟩ x).cell? ⟨G.m, k, none⟩ = W.cell? ⟨G.m, k, none⟩ := fun W x => cell_far (p := ⟨G.f, k, none⟩) (a := ⟨G.m, k, none⟩) (NEmf) x
              have qml : ∀ (W : World) (x : Value), (W.setCell ⟨G.m, k, none⟩ x).cell? ⟨G.l, k, none⟩ = W.cell? ⟨G.l, k, none⟩ := fun W x => cell_far (p := ⟨G.m, k, none⟩) (a := ⟨G.l, k, none⟩) (NElm) x
              have qmf : ∀ (W : World) (x : Value), (W.setCell ⟨G.m, k, none⟩ x).cell? ⟨G.f, k, none⟩ = W.cell? ⟨G.f, k, none⟩ := fun W x => cell_far (p := ⟨G.m, k, none⟩) (a := ⟨G.f, k, none⟩) (NEfm) x
              go_region
              go_wp2_with fail
              go_roundw
              case measure => simp [intOf]; omega
              case rel =>
                refine ⟨k + 1, by omega, by go_num, ⟨?_⟩, ⟨?_⟩⟩
                · rw [NX.out]
                  exact (((K.out.drewN _).drew.setL k (xc - xu - xv)).setF k false).setM k b
                · exact (((pw_below_drewN BW.out _).drew.setCell HI.out.l _).setCell HI.out.f _).setCell HI.out.m _
            · have NX := NO false (by rw [hC]; simp [hxy])
              simp only [Bool.false_eq_true, if_false] at NX
              have d1 : decide (xc - xu - xv < xl) = false := decide_eq_false hxy
              clear NO hf hC
              go_wp2_with fail
              go_quiet (fail)
              go_wp2_with fail
              go_roundw
              case measure => simp [intOf]; omega
              case rel => exact ⟨k + 1, by omega, by go_num, ⟨by rw [NX.out]; exact K.out.drewN _⟩, ⟨pw_below_drewN BW.out _⟩⟩
    · obtain rfl : k = n := by omega
      go_wp2_with fail
      go_end0
      have hN := HN.out
      have hT := HT.out.n
      refine ⟨rfl, ?_, BW.out⟩
      have := K.out
      rw [show spread t s row b = spreadS t s row b t.n from rfl, hT, ← hN]
      exact this
end Go.Proofs.Ytelabmhhnpfegaa.Hand
