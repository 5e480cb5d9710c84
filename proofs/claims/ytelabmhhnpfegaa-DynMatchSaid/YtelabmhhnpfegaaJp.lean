/- A row is added: walked. -/
import Derived.Test.YtelabmhhnpfegaaJl
namespace Go.Proofs.Ytelabmhhnpfegaa.Hand
open Go.RowKit Go.Proofs.YtelabmhhnpfegaaW.PrintWords Go.Proofs.YtelabmhhnpfegaaW.PrintMore
theorem Look.uv {t : Tb} (ht : TbOk t) {r : Nat} {s : St} {L : List Nat} (h : Look t r s L) : (∀ i, i < t.n → -(1000 * M) ≤ s.u i ∧ s.u i ≤ 1000 * M) ∧ (∀ k, k < t.n → -(600 * M) ≤ s.v k ∧ s.v k ≤ 600 * M) := by
  have hlen := h.len
  have hr := h.rlt
  have hn := ht.n64
  have hrb := h.rb
  have hv : ∀ k, k < t.n → -(600 * M) ≤ s.v k ∧ s.v k ≤ 600 * M := fun k hk => by
    by_cases hL : k ∈ L
    · have := h.sb k hL
      unfold M at *
      omega
    · have := h.vb k hk hL
      unfold M at *
      omega
  refine ⟨fun i hi => ?_, hv⟩
  rcases Nat.lt_trichotomy i r with hl | rfl | hl
  · obtain ⟨k, hk, e⟩ := h.onto i hl
    have h1 := (h.tight k i hk e).2
    have h2 := hv k hk
    have h3 := ht.mag i k hi hk
    unfold M at *
    omega
  · unfold M at *
    omega
  · rw [h.rest i hl]
    unfold M
    omega
theorem Ahead.small {t : Tb} (ht : TbOk t) {r : Nat} {s : St} {L : List Nat} (h : Ahead t r s L) : Small t.n s := by
  obtain ⟨hu, hv⟩ := h.toLook.uv ht
  have hlen := h.toLook.len
  have hr := h.rlt
  have hn := ht.n64
  have hrb := h.rb
  refine ⟨fun i hi => ?_, fun k hk => ?_, fun k hk hs => ?_⟩
  · have := hu i hi; unfold Big M at *; omega
  · have := hv k hk; unfold Big M at *; omega
  · have hL : k ∉ L := fun x => by rw [(h.sees k hk).2 x] at hs; cases hs
    cases hf : s.far k with
    | true => rw [h.fbnd k hk hL hf]; unfold Big; omega
    | false =>
      have h1 := h.lb k hk hL hf
      have h2 := hv k hk
      unfold Big M at *
      omega
theorem Spread.small {t : Tb} (ht : TbOk t) {r : Nat} {s : St} {L : List Nat} (h : Spread t r s L) : Small t.n s := by
  obtain ⟨hu, hv⟩ := h.toLook.uv ht
  have hlen := h.toLook.len
  have hr := h.rlt
  have hn := ht.n64
  have hrb := h.rb
  refine ⟨fun i hi => ?_, fun k hk => ?_, fun k hk hs => ?_⟩
  · have := hu i hi; unfold Big M at *; omega
  · have := hv k hk; unfold Big M at *; omega
  · have hL : k ∉ L := fun x => by rw [(h.sees k hk).2 x] at hs; cases hs
    cases hf : s.far k with
    | true => rw [h.fbnd k hk hL hf]; unfold Big; omega
    | false =>
      have h1 := h.lb k hk hL hf
      have h2 := hv k hk
      unfold Big M at *
      omega
structure Hi0 (B : Nat) (G : Geo) : Prop where
  w : B ≤ G.w
  r : B ≤ G.r
  c : B ≤ G.c
  o : B ≤ G.o
set_option maxHeartbeats 2000000 in
set_option maxRecDepth 100000 in
theorem add_any (w0 w : World) (G : Geo) (t : Tb) (T : Tab w0 G t) (ht : TbOk t) (r : Nat) (hr : r < G.n) (u v of : Nat → Int) (h : Wk w G u v of) (inv : Inv t r u v of) (hb : Below w0.heap.size w0 w) (hi : Hi0 w0.heap.size G) :
    Calls Try.prog 37 #[.pointer (some ⟨G.w, 0, none⟩), .int .i64 (r : Int)] w fun e w' => ∃ ok, e = .returned (.bool ok) ∧ Below w0.heap.size w0 w' ∧ (ok = true → ∃ u' v' of', Wk w' G u' v' of' ∧ Inv t (r + 1) u' v' of') ∧ (ok = false → ∀ σ, ¬ PM t.n t.no σ) := by
  have HT := Aside0.mk T
  have TO := Aside0.mk ht
  have HR := Aside0.mk hr
  have H := Aside0.mk h
  have HV := Aside0.mk inv
  have HB := Aside0.mk hb
  have HI := Aside0.mk hi
  have N64 : Aside0 (G.n ≤ 64) := ⟨by rw [← T.n]; exact ht.n64⟩
  clear T ht hr h inv hb hi
  go_enter Try.func37, Try.ntmps37
  go_wp2_with fail
  refine (look_any w G u v of H.out N64.out).mono ?_
  rintro _ w1 ⟨G2, rfl, rfl, k1, b1, i1, i2, i3, i4, i5⟩
  have hws : w0.heap.size ≤ w.heap.size := Nat.le_trans HI.out.w (Nat.le_of_lt (blk_lt H.out.blk))
  have HI2 : Aside0 (Hi w0.heap.size G2) := ⟨⟨HI.out.w, HI.out.r, HI.out.c, HI.out.o, by omega, by omega, by omega, by omega, by omega⟩⟩
  have K1 := Aside0.mk k1
  have B1 : Aside0 (Below w0.heap.size w0 w1) := ⟨HB.out.trans (b1.mono hws)⟩
  have A1 := Aside0.mk (look_start HV.out (by rw [HT.out.n]; exact HR.out))
  clear k1 b1 i1 i2 i3 i4 i5 hws
  go_wp2_with fail
  go_loopg [6, 7] r (fun kq v6 v7 wr => ∃ (s : St) (L : List Nat), v6 = .int .i64 ((nextRow s r L : Nat) : Int) ∧ v7 = .int .i64 (nextBy L) ∧ Aside0 (Ahead t r s L) ∧ Aside0 (Sk wr G2 s) ∧ Aside0 (Below w0.heap.size w0 wr) ∧ Aside0 (r ≤ L.length + kq))
  case atStart => exact ⟨_, [], rfl, rfl, A1, K1, B1, ⟨by simp⟩⟩
  case round =>
    clear K1 B1 A1 HB H
    obtain ⟨s, L, rfl, rfl, A, K, BW, LQ⟩ := hrel
    have SP := Aside0.mk (spread_ok TO.out A.out)
    have SM := Aside0.mk (A.out.small TO.out)
    have HRW := Aside0.mk (next_row_lt A.out.toLook)
    obtain ⟨row, hrow⟩ : ∃ x, x = nextRow s r L := ⟨_, rfl⟩
    obtain ⟨b, hbb⟩ : ∃ x, x = nextBy L := ⟨_, rfl⟩
    rw [← hrow] at SP HRW ⊢
    rw [← hbb] at SP ⊢
    rw [HT.out.n] at HRW SM
    clear hrow hbb
    go_wp2_with fail
    refine (spread_any w0 wr G2 s t HT.out TO.out K.out BW.out HI2.out row HRW.out b SM.out).mono ?_
    rintro _ w2 ⟨rfl, k2, b2⟩
    obtain ⟨s2, hs2⟩ : ∃ x, x = spread t s row b := ⟨_, rfl⟩
    rw [← hs2] at k2 SP
    have K2 := Aside0.mk k2
    have B2 := Aside0.mk b2
    clear k2 b2 hs2 SM HRW
    go_wp2_with fail
    refine (nearest_any w2 G2 s2 K2.out N64.out).mono ?_
    rintro _ w3 ⟨rfl, d3⟩
    have K3 := Aside0.mk (K2.out.below d3.below)
    have B3 : Aside0 (Below w0.heap.size w0 w3) := ⟨B2.out.trans (d3.below.mono (Nat.le_trans HI.out.w (Nat.le_of_lt (blk_lt K2.out.blk))))⟩
    clear d3
    have NS := Aside0.mk (near_spec s2 G2.n)
    rcases NS.out with ⟨h1, h2⟩ | ⟨k, h1, hk, hsn, hfr, hmin⟩
    · have NM := Aside0.mk (no_match SP.out (by rw [HT.out.n]; exact h1))
      rw [h1]
      clear h1 h2 NS
      go_wp2_with fail
      go_ret
      exact ⟨false, rfl, B3.out, fun x => (by cases x), fun _ => NM.out⟩
    · rw [h1]
      have hkt : k < t.n := by rw [HT.out.n]; exact hk
      have hkL : k ∉ L := fun x => by rw [(SP.out.sees k hkt).2 x] at hsn; cases hsn
      have SH := Aside0.mk (shift_ok TO.out SP.out hkt hkL hfr (fun j hj => hmin j (by rw [← HT.out.n]; exact hj)))
      have SM2 := Aside0.mk (SP.out.small TO.out)
      rw [HT.out.n] at SM2
      have bd := SM2.out.l k hk hsn
      have HK := Aside0.mk (And.intro hkt (And.intro hkL hk))
      have FR := Aside0.mk hfr
      have HO : Aside0 (∀ k, k < G2.n → s2.seen k = true → ∃ i : Nat, s2.of k = (i : Int) ∧ i < G2.n) := ⟨fun j hj hs => by
        have hjt : j < t.n := by rw [HT.out.n]; exact hj
        have h0 := (SP.out.lin j ((SP.out.sees j hjt).1 hs)).2
        rcases SP.out.range j hjt with e | ⟨i, e, hi⟩
        · omega
        · exact ⟨i, e, by have := HR.out; omega⟩⟩
      obtain ⟨n, hn⟩ : ∃ n, n = G2.n := ⟨_, rfl⟩
      have HN := Aside0.mk hn
      have f1 := K3.out.s1
      have el := K3.out.least.c hk
      rw [← hn] at f1
      have hkn : k < n := by rw [hn]; exact hk
      obtain ⟨d, hd⟩ : ∃ d, d = s2.least k := ⟨_, rfl⟩
      rw [← hd] at el bd SH
      have BD := Aside0.mk bd
      clear h1 hkt hkL hmin hsn NS hk hn hfr bd hd
      go_wp2_with fail
      refine (shift_any w0 w3 G2 s2 K3.out B3.out HI2.out N64.out r HR.out d BD.out SM2.out HO.out).mono ?_
      rintro _ w4 ⟨rfl, k4, b4⟩
      rw [← HT.out.n] at k4
      have hfar : (shift t.n s2 r d).far k = false := FR.out
      obtain ⟨s4, hs4⟩ : ∃ x, x = shift t.n s2 r d := ⟨_, rfl⟩
      rw [← hs4] at k4 SH hfar
      have K4 := Aside0.mk k4
      have B4 := Aside0.mk b4
      have FR4 := Aside0.mk hfar
      clear k4 b4 hs4 SM2 HO BD K3 B3 f1 el FR hfar
      have s0 := K4.out.s0
      have w4' := K4.out.w4
      rw [← HN.out] at w4'
      have eo := K4.out.of.c HK.out.2.2
      rcases SH.out.1.range k HK.out.1 with e | ⟨i, e, hi⟩
      · rw [e] at eo
        have TK := Aside0.mk (turn_ok TO.out SH.out.1 HK.out.1 HK.out.2.1 FR4.out SH.out.2.1 SH.out.2.2 e)
        clear e
        go_wp2_with fail
        obtain ⟨W, t1, t2, t3, t4⟩ := TK.out
        refine (turn_any w0 w4 G2 s4 K4.out B4.out HI2.out N64.out r k W t1 (by rw [← HT.out.n]; exact t2)).mono ?_
        rintro _ w5 ⟨rfl, k5, b5⟩
        have RES := Aside0.mk (And.intro b5 (And.intro k5.toWk t4))
        clear k5 b5 t1 t2 t3 t4
        go_wp2_with fail
        go_ret
        exact ⟨true, rfl, RES.out.1, fun _ => ⟨_, _, _, RES.out.2.1, RES.out.2.2⟩, fun x => (by cases x)⟩
      · rw [e] at eo
        have SE := Aside0.mk (see_ok SH.out.1 HK.out.1 HK.out.2.1 FR4.out SH.out.2.1 SH.out.2.2 (by omega))
        have b0 : decide ((i : Int) < 0) = false := decide_eq_false (by omega)
        have HE := Aside0.mk e
        have f4 := K4.out.s4
        rw [← HN.out] at f4
        have es := K4.out.seen.c HK.out.2.2
        have ze := K4.out.seen.z k
        have q1 : ∀ (x : Value), (w4.setCell ⟨G2.e, k, none⟩ x).cell? ⟨G2.s, 0, none⟩ = w4.cell? ⟨G2.s, 0, none⟩ := fun x => cell_far (p := ⟨G2.e, k, none⟩) (a := ⟨G2.s, 0, none⟩) (by have a := K4.out.sblk; have b := K4.out.seen; unfold BB at b; exact ty_ne a b (by decide)) x
        have q2 : ∀ (x : Value), (w4.setCell ⟨G2.e, k, none⟩ x).cell? ⟨G2.w, 4, none⟩ = w4.cell? ⟨G2.w, 4, none⟩ := fun x => cell_far (p := ⟨G2.e, k, none⟩) (a := ⟨G2.w, 4, none⟩) (by have a := K4.out.blk; have b := K4.out.seen; unfold BB at b; exact ty_ne a b (by decide)) x
        have q3 : ∀ (x : Value), (w4.setCell ⟨G2.e, k, none⟩ x).cell? ⟨G2.o, k, none⟩ = w4.cell? ⟨G2.o, k, none⟩ := fun x => cell_far (p := ⟨G2.e, k, none⟩) (a := ⟨G2.o, k, none⟩) (by have a := K4.out.of; have b := K4.out.seen; unfold BB at b; unfold IB at a; exact ty_ne a b (by decide)) x
        clear e hi
        go_wp2_with fail
        go_roundg (r - (L.length + 1))
        case measure => have := SE.out.toLook.len; have := LQ.out; simp at *; omega
        case rel =>
          refine ⟨_, k :: L, ?_, rfl, ⟨SE.out⟩, ⟨K4.out.setE k true⟩, ⟨B4.out.setCell HI2.out.e _⟩, ⟨by simp; omega⟩⟩
          simp [nextRow, HE.out]
end Go.Proofs.Ytelabmhhnpfegaa.Hand
