/- The search's shift, and turn, walked. -/
import Derived.Test.YtelabmhhnpfegaaJs
namespace Go.Proofs.Ytelabmhhnpfegaa.Hand
open Go.RowKit Go.Proofs.YtelabmhhnpfegaaW.PrintWords Go.Proofs.YtelabmhhnpfegaaW.PrintMore
def shiftS (s : St) (first : Nat) (d : Int) (m : Nat) : St := { s with u := shiftU s first d m, v := shiftV s d m, least := shiftL s d m }
theorem shiftS_seen {s : St} {first k : Nat} {d : Int} (h : s.seen k = true) : shiftS s first d (k + 1) = { s with u := upd (shiftU s first d k) (s.of k).toNat (shiftU s first d k (s.of k).toNat + d), v := upd (shiftV s d k) k (s.v k - d), least := shiftL s d k } := by
  have e1 : shiftU s first d (k + 1) = upd (shiftU s first d k) (s.of k).toNat (shiftU s first d k (s.of k).toNat + d) := by simp only [shiftU]; rw [if_pos h]
  have e2 : shiftV s d (k + 1) = upd (shiftV s d k) k (s.v k - d) := mix_yes (C := s.seen) (new := fun k => s.v k - d) h
  have e3 : shiftL s d (k + 1) = shiftL s d k := by
    funext j
    unfold shiftL
    have : (j < k + 1 ∧ s.seen j = false ∧ s.far j = false) ↔ (j < k ∧ s.seen j = false ∧ s.far j = false) := by
      constructor
      · rintro ⟨a, b, c⟩
        refine ⟨?_, b, c⟩
        by_cases hj : j = k
        · subst hj; rw [h] at b; cases b
        · omega
      · rintro ⟨a, b⟩; exact ⟨by omega, b⟩
    simp only [this]
  unfold shiftS
  rw [e1, e2, e3]
theorem shiftS_near {s : St} {first k : Nat} {d : Int} (h : s.seen k = false) (hf : s.far k = false) : shiftS s first d (k + 1) = { shiftS s first d k with least := upd (shiftL s d k) k (s.least k - d) } := by
  have e1 : shiftU s first d (k + 1) = shiftU s first d k := by simp only [shiftU]; rw [if_neg (by rw [h]; decide)]
  have e2 : shiftV s d (k + 1) = shiftV s d k := mix_no (C := s.seen) (new := fun k => s.v k - d) h
  have e3 : shiftL s d (k + 1) = upd (shiftL s d k) k (s.least k - d) := by
    have := mix_yes (C := fun j => !s.seen j && !s.far j) (new := fun k => s.least k - d) (old := s.least) (k := k) (by simp [h, hf])
    simp only [Bool.and_eq_true, Bool.not_eq_true'] at this
    exact this
  unfold shiftS
  rw [e1, e2, e3]
theorem shiftS_far {s : St} {first k : Nat} {d : Int} (h : s.seen k = false) (hf : s.far k = true) : shiftS s first d (k + 1) = shiftS s first d k := by
  have e1 : shiftU s first d (k + 1) = shiftU s first d k := by simp only [shiftU]; rw [if_neg (by rw [h]; decide)]
  have e2 : shiftV s d (k + 1) = shiftV s d k := mix_no (C := s.seen) (new := fun k => s.v k - d) h
  have e3 : shiftL s d (k + 1) = shiftL s d k := by
    have := mix_no (C := fun j => !s.seen j && !s.far j) (new := fun k => s.least k - d) (old := s.least) (k := k) (by simp [hf])
    simp only [Bool.and_eq_true, Bool.not_eq_true'] at this
    exact this
  unfold shiftS
  rw [e1, e2, e3]
theorem shiftS_zero {s : St} {first : Nat} {d : Int} : shiftS s first d 0 = { s with u := upd s.u first (s.u first + d) } := by
  have e2 : shiftV s d 0 = s.v := by funext j; exact if_neg (fun x => absurd x.1 (Nat.not_lt_zero _))
  have e3 : shiftL s d 0 = s.least := by funext j; exact if_neg (fun x => absurd x.1 (Nat.not_lt_zero _))
  unfold shiftS
  rw [e2, e3]
  rfl
theorem shiftV_at {s : St} {d : Int} {k : Nat} : shiftV s d k k = s.v k := if_neg (fun x => absurd x.1 (Nat.lt_irrefl _))
theorem shiftL_at {s : St} {d : Int} {k : Nat} : shiftL s d k k = s.least k := if_neg (fun x => absurd x.1 (Nat.lt_irrefl _))
theorem shiftU_bd {n : Nat} {s : St} {first : Nat} {d : Int} (hs : Small n s) (hd : -Big ≤ d ∧ d ≤ Big) (m : Nat) : ∀ i, i < n → -((m + 2 : Nat) * Big) ≤ shiftU s first d m i ∧ shiftU s first d m i ≤ (m + 2 : Nat) * Big := by
  induction m with
  | zero =>
    intro i hi
    have h1 := hs.u i hi
    simp only [shiftU, upd]
    unfold Big at *
    split
    · rename_i e; subst e; omega
    · omega
  | succ m ih =>
    intro i hi
    have h1 := ih i hi
    simp only [shiftU]
    split
    · unfold upd
      split
      · rename_i e
        rw [← e]
        unfold Big at *
        omega
      · unfold Big at *
        omega
    · unfold Big at *
      omega

set_option maxHeartbeats 2000000 in
set_option maxRecDepth 100000 in
theorem shift_any (w0 w : World) (G : Geo2) (s : St) (h : Sk w G s) (hb : Below w0.heap.size w0 w) (hi : Hi w0.heap.size G) (hn64 : G.n ≤ 64) (first : Nat) (hfirst : first < G.n) (d : Int) (hd : -Big ≤ d ∧ d ≤ Big) (hsm : Small G.n s) (hof : ∀ k, k < G.n → s.seen k = true → ∃ i : Nat, s.of k = (i : Int) ∧ i < G.n) :
    Calls Try.prog 73 #[.pointer (some ⟨G.s, 0, none⟩), .int .i64 (first : Int), .int .i64 d] w fun e w' => e = .returned (.tuple #[]) ∧ Sk w' G (shift G.n s first d) ∧ Below w0.heap.size w0 w' := by
  have H := Aside0.mk h
  have HB := Aside0.mk hb
  have HI := Aside0.mk hi
  have HD := Aside0.mk hd
  have SM := Aside0.mk hsm
  have HO := Aside0.mk hof
  obtain ⟨n, hn1⟩ : ∃ n, n = G.n := ⟨_, rfl⟩
  have HN := Aside0.mk hn1
  have f0 := h.s0
  have f2 := h.w2
  have eu := h.rows.c (i := first) hfirst
  have zu := h.rows.z first
  rw [← hn1] at f2 hfirst hn64
  have bu := hsm.u first (by rw [← hn1]; exact hfirst)
  unfold Big at bu hd
  have f4 := h.s4
  rw [← hn1] at f4
  have qs4 : ∀ x : Value, (w.setCell ⟨G.r, first, none⟩ x).cell? ⟨G.s, 4, none⟩ = w.cell? ⟨G.s, 4, none⟩ := fun x => cell_far (p := ⟨G.r, first, none⟩) (a := ⟨G.s, 4, none⟩) (by have a := h.sblk; have b := h.rows; unfold IB at b; exact ty_ne a b (by decide)) x
  obtain ⟨xu, hxu⟩ : ∃ x, x = s.u first := ⟨_, rfl⟩
  rw [← hxu] at eu bu
  have HXU := Aside0.mk hxu
  clear h hb hi hsm hof hn1 hxu
  go_enter Try.func73, Try.ntmps73
  go_wp2_with fail
  clear f0 f2 f4 eu zu qs4
  have K0 : Aside0 (Sk (w.setCell ⟨G.r, first, none⟩ (.int .i64 (xu + d))) G (shiftS s first d 0)) := ⟨by rw [shiftS_zero, ← HXU.out]; exact H.out.setR first _⟩
  have B0 : Aside0 (Below w0.heap.size w0 (w.setCell ⟨G.r, first, none⟩ (.int .i64 (xu + d)))) := ⟨HB.out.setCell HI.out.r _⟩
  clear hd bu HB H HXU
  go_loopw [25] (fun v25 wr => ∃ k : Nat, k ≤ n ∧ v25 = .int .i64 k ∧ Aside0 (Sk wr G (shiftS s first d k)) ∧ Aside0 (Below w0.heap.size w0 wr)) (fun v _ => n - (intOf v).toNat)
  case atStart => exact ⟨0, Nat.zero_le _, rfl, K0, B0⟩
  case round =>
    clear K0 B0
    obtain ⟨k, hk, rfl, K, BW⟩ := hrel
    by_cases hlt : k < n
    · have hkn : k < G.n := by rw [← HN.out]; exact hlt
      have f0 := K.out.s0
      have f3 := K.out.w2
      have f4 := K.out.w3
      have f5 := K.out.w4
      have s1 := K.out.s1
      have s2 := K.out.s2
      have s4 := K.out.s4
      rw [← HN.out] at f3 f4 f5 s1 s2 s4
      have ev := K.out.cols.c hkn
      have el := K.out.least.c hkn
      have ef := K.out.far.c hkn
      have es := K.out.seen.c hkn
      have eo := K.out.of.c hkn
      have zc := K.out.cols.z k
      have zl := K.out.least.z k
      change wr.cell? ⟨G.c, k, none⟩ = some (.int .i64 (shiftV s d k k)) at ev
      change wr.cell? ⟨G.l, k, none⟩ = some (.int .i64 (shiftL s d k k)) at el
      change wr.cell? ⟨G.f, k, none⟩ = some (.bool (s.far k)) at ef
      change wr.cell? ⟨G.e, k, none⟩ = some (.bool (s.seen k)) at es
      change wr.cell? ⟨G.o, k, none⟩ = some (.int .i64 (s.of k)) at eo
      rw [shiftV_at] at ev
      rw [shiftL_at] at el
      have bv := SM.out.v k hkn
      have hd := HD.out
      unfold Big at bv hd
      cases hs : s.seen k with
      | true =>
        rw [hs] at es
        obtain ⟨i, hoi, hin⟩ := HO.out k hkn hs
        have NX := Aside0.mk (shiftS_seen (first := first) (d := d) hs)
        rw [hoi] at eo NX
        rw [Int.toNat_natCast] at NX
        have er := K.out.rows.c hin
        have zr := K.out.rows.z i
        have bi := shiftU_bd (n := G.n) (first := first) SM.out HD.out k i hin
        change wr.cell? ⟨G.r, i, none⟩ = some (.int .i64 (shiftU s first d k i)) at er
        obtain ⟨xr, hxr⟩ : ∃ x, x = shiftU s first d k i := ⟨_, rfl⟩
        obtain ⟨xv, hxv⟩ : ∃ x, x = s.v k := ⟨_, rfl⟩
        rw [← hxr] at er bi NX
        rw [← hxv] at ev bv NX
        have hin' : i < n := by rw [HN.out]; exact hin
        have bi1 : -1000000000000000000 ≤ xr ∧ xr ≤ 1000000000000000000 := by
          unfold Big at bi
          have : k ≤ 64 := by omega
          omega
        have w1 : IntKind.i64.wrap (xr + d) = xr + d := IntWalk.i64_in _ (by omega)
        have qrs0 : ∀ (W : World) (x : Value), (W.setCell ⟨G.r, i, none⟩ x).cell? ⟨G.s, 0, none⟩ = W.cell? ⟨G.s, 0, none⟩ := fun W x => cell_far (p := ⟨G.r, i, none⟩) (a := ⟨G.s, 0, none⟩) (by have a := K.out.sblk; have b := K.out.rows; unfold IB at b; exact ty_ne a b (by decide)) x
        have qrw3 : ∀ (W : World) (x : Value), (W.setCell ⟨G.r, i, none⟩ x).cell? ⟨G.w, 3, none⟩ = W.cell? ⟨G.w, 3, none⟩ := fun W x => cell_far (p := ⟨G.r, i, none⟩) (a := ⟨G.w, 3, none⟩) (by have a := K.out.blk; have b := K.out.rows; unfold IB at b; exact ty_ne a b (by decide)) x
        have qrc : ∀ (W : World) (x : Value), (W.setCell ⟨G.r, i, none⟩ x).cell? ⟨G.c, k, none⟩ = W.cell? ⟨G.c, k, none⟩ := fun W x => cell_far (p := ⟨G.r, i, none⟩) (a := ⟨G.c, k, none⟩) (fun e => K.out.ne e.symm) x
        clear hs hoi hxr hxv bi
        go_wp2_with fail
        go_region
        go_wp2_with fail
        go_roundw
        case measure => simp [intOf]; omega
        case rel =>
          refine ⟨k + 1, by omega, by go_num, ⟨?_⟩, ⟨?_⟩⟩
          · rw [NX.out]
            exact (K.out.drew.setR i (xr + d)).setC k (xv - d)
          · exact ((below_drew BW.out).setCell HI.out.r _).setCell HI.out.c _
      | false =>
        rw [hs] at es
        have bl := SM.out.l k hkn hs
        unfold Big at bl
        cases hf : s.far k with
        | true =>
          rw [hf] at ef
          have NX := Aside0.mk (shiftS_far (first := first) (d := d) hs hf)
          clear hs hf
          go_wp2_with fail
          go_roundw
          case measure => simp [intOf]; omega
          case rel => exact ⟨k + 1, by omega, by go_num, ⟨by rw [NX.out]; exact K.out⟩, BW⟩
        | false =>
          rw [hf] at ef
          have NX := Aside0.mk (shiftS_near (first := first) (d := d) hs hf)
          obtain ⟨xl, hxl⟩ : ∃ x, x = s.least k := ⟨_, rfl⟩
          rw [← hxl] at el bl NX
          clear hs hf hxl
          go_wp2_with fail
          go_roundw
          case measure => simp [intOf]; omega
          case rel =>
            refine ⟨k + 1, by omega, by go_num, ⟨?_⟩, ⟨?_⟩⟩
            · rw [NX.out]
              exact K.out.setL k (xl - d)
            · exact BW.out.setCell HI.out.l _
    · obtain rfl : k = n := by omega
      go_wp2_with fail
      go_end0
      refine ⟨rfl, ?_, BW.out⟩
      have := K.out
      rw [show shift G.n s first d = shiftS s first d G.n from rfl, ← HN.out]
      exact this

def wayAt : List Nat → Int
  | [] => -1
  | k :: _ => (k : Int)
set_option maxHeartbeats 2000000 in
set_option maxRecDepth 100000 in
theorem turn_any (w0 w : World) (G : Geo2) (s : St) (h : Sk w G s) (hb : Below w0.heap.size w0 w) (hi : Hi w0.heap.size G) (_hn64 : G.n ≤ 64) (first : Nat) (k0 : Nat) (P : List Nat) (hP : Way s (k0 :: P)) (hlt : ∀ j ∈ k0 :: P, j < G.n) :
    Calls Try.prog 74 #[.pointer (some ⟨G.s, 0, none⟩), .int .i64 (first : Int), .int .i64 (k0 : Int)] w fun e w' => e = .returned (.tuple #[]) ∧ Sk w' G { s with of := turnF first (k0 :: P) s.of } ∧ Below w0.heap.size w0 w' := by
  have H := Aside0.mk h
  have HB := Aside0.mk hb
  have HI := Aside0.mk hi
  have HP := Aside0.mk hP
  have HL := Aside0.mk hlt
  obtain ⟨n, hn1⟩ : ∃ n, n = G.n := ⟨_, rfl⟩
  have HN := Aside0.mk hn1
  rw [← hn1] at _hn64
  clear h hb hi hP hlt hn1
  go_enter Try.func74, Try.ntmps74
  go_wp2_with fail
  go_loopg [2] (k0 :: P).length (fun kq v2 wr => ∃ (Q : List Nat) (o : Nat → Int), v2 = .int .i64 (wayAt Q) ∧ Aside0 (Sk wr G { s with of := o }) ∧ Aside0 (Below w0.heap.size w0 wr) ∧ Aside0 (Way s Q ∧ (∀ j ∈ Q, j < G.n) ∧ Q.length ≤ kq) ∧ Aside0 (turnF first (k0 :: P) s.of = turnF first Q o))
  case atStart => exact ⟨k0 :: P, s.of, rfl, H, HB, ⟨HP.out, HL.out, Nat.le_refl _⟩, ⟨rfl⟩⟩
  case round =>
    clear H HB HP HL
    obtain ⟨Q, o, rfl, K, BW, QW, TE⟩ := hrel
    cases Q with
    | nil =>
      have hwa : wayAt [] = -1 := rfl
      go_wp2_with fail
      go_end0
      have := K.out
      exact ⟨rfl, by rw [TE.out]; exact this, BW.out⟩
    | cons k Q =>
      have hwa : wayAt (k :: Q) = (k : Int) := rfl
      rw [hwa]
      clear hwa
      have hkn := QW.out.2.1 k (by simp)
      have hlt : k < n := by rw [HN.out]; exact hkn
      have f0 := K.out.s0
      have f5 := K.out.w4
      have s3 := K.out.s3
      rw [← HN.out] at f5 s3
      have em := K.out.from_.c hkn
      have eo := K.out.of.c hkn
      have zo := K.out.of.z k
      change wr.cell? ⟨G.m, k, none⟩ = some (.int .i64 (s.from_ k)) at em
      change wr.cell? ⟨G.o, k, none⟩ = some (.int .i64 (o k)) at eo
      cases Q with
      | nil =>
        have hf : s.from_ k = -1 := QW.out.1
        rw [hf] at em
        clear hf
        go_wp2_with fail
        go_roundg 0
        case measure => have := QW.out.2.2; simp at this; omega
        case rel =>
          refine ⟨[], upd o k first, rfl, ⟨?_⟩, ⟨?_⟩, ⟨trivial, by simp, by simp⟩, ⟨TE.out⟩⟩
          · exact K.out.setO k first
          · exact BW.out.setCell HI.out.o _
      | cons k' l =>
        have hf : s.from_ k = (k' : Int) := QW.out.1.1
        rw [hf] at em
        have hkn' := QW.out.2.1 k' (by simp)
        have hlt' : k' < n := by rw [HN.out]; exact hkn'
        have eo' := K.out.of.c hkn'
        change wr.cell? ⟨G.o, k', none⟩ = some (.int .i64 (o k')) at eo'
        clear hf
        go_wp2_with fail
        go_region
        go_wp2_with fail
        go_roundg (k' :: l).length
        case measure => have := QW.out.2.2; simp at this ⊢; omega
        case rel =>
          refine ⟨k' :: l, upd o k (o k'), rfl, ⟨?_⟩, ⟨?_⟩, ⟨QW.out.1.2, fun j hj => QW.out.2.1 j (List.mem_cons_of_mem _ hj), Nat.le_refl _⟩, ⟨TE.out⟩⟩
          · exact K.out.drew.setO k (o k')
          · exact (below_drew BW.out).setCell HI.out.o _
end Go.Proofs.Ytelabmhhnpfegaa.Hand
