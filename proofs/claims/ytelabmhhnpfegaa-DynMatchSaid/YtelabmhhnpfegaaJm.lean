/- Memory of the search: rows of numbers and of truths as functions; the blocks of what is kept. No condition. -/
import Derived.Test.YtelabmhhnpfegaaProg
import Derived.Test.YtelabmhhnpfegaaBs
import Derived.Test.YtelabmhhnpfegaaJe
import Derived.Laws.MakeOwn
import Derived.Deep.OwnRows
import Derived.Deep.QuietTactic
import Derived.BigQuiet
import Derived.RegionTactic
import Derived.Deep.LoopGhost
import Derived.RowKit3
import Derived.KernelRfl
import Derived.Tactics
import Derived.OwnWalk
namespace Go.Proofs.Ytelabmhhnpfegaa.Hand
open Go.RowKit Go.Proofs.YtelabmhhnpfegaaW.PrintWords Go.Proofs.YtelabmhhnpfegaaW.PrintMore
/-- Where all lies: the work's block, its prices, its rows; the search's block, and its own. -/
structure Geo where
  n : Nat
  AC : Option Addr
  cC : Nat
  AN : Option Addr
  cN : Nat
  w : Nat
  r : Nat
  c : Nat
  o : Nat
structure Geo2 extends Geo where
  s : Nat
  l : Nat
  f : Nat
  m : Nat
  e : Nat
structure Wk (W : World) (G : Geo) (u v of : Nat → Int) : Prop where
  blk : W.heap[G.w]? = some (.cells #[.slice G.AC G.n G.cC, .slice G.AN G.n G.cN, .slice (some ⟨G.r, 0, none⟩) G.n G.n, .slice (some ⟨G.c, 0, none⟩) G.n G.n, .slice (some ⟨G.o, 0, none⟩) G.n G.n] 132 (0, 0))
  rows : IB W G.r 2 G.n u
  cols : IB W G.c 2 G.n v
  of : IB W G.o 3 G.n of
  ne : G.r ≠ G.c
structure Sk (W : World) (G : Geo2) (s : St) : Prop extends Wk W G.toGeo s.u s.v s.of where
  sblk : W.heap[G.s]? = some (.cells #[.pointer (some ⟨G.w, 0, none⟩), .slice (some ⟨G.l, 0, none⟩) G.n G.n, .slice (some ⟨G.f, 0, none⟩) G.n G.n, .slice (some ⟨G.m, 0, none⟩) G.n G.n, .slice (some ⟨G.e, 0, none⟩) G.n G.n] 138 (0, 0))
  least : IB W G.l 2 G.n s.least
  far : BB W G.f G.n s.far
  from_ : IB W G.m 3 G.n s.from_
  seen : BB W G.e G.n s.seen
  nel : G.l ≠ G.r ∧ G.l ≠ G.c
  neo : G.m ≠ G.o
  nef : G.f ≠ G.e
section
variable {W W1 : World} {G : Geo2} {s : St}
theorem Sk.s0 (h : Sk W G s) : W.cell? ⟨G.s, 0, none⟩ = some (.pointer (some ⟨G.w, 0, none⟩)) := (blk_cell h.sblk 0).trans rfl
theorem Sk.s1 (h : Sk W G s) : W.cell? ⟨G.s, 1, none⟩ = some (.slice (some ⟨G.l, 0, none⟩) G.n G.n) := (blk_cell h.sblk 1).trans rfl
theorem Sk.s2 (h : Sk W G s) : W.cell? ⟨G.s, 2, none⟩ = some (.slice (some ⟨G.f, 0, none⟩) G.n G.n) := (blk_cell h.sblk 2).trans rfl
theorem Sk.s3 (h : Sk W G s) : W.cell? ⟨G.s, 3, none⟩ = some (.slice (some ⟨G.m, 0, none⟩) G.n G.n) := (blk_cell h.sblk 3).trans rfl
theorem Sk.s4 (h : Sk W G s) : W.cell? ⟨G.s, 4, none⟩ = some (.slice (some ⟨G.e, 0, none⟩) G.n G.n) := (blk_cell h.sblk 4).trans rfl
theorem Sk.below (h : Sk W G s) (hb : Below W.heap.size W W1) : Sk W1 G s := by
  obtain ⟨⟨a1, a2, a3, a4, a5⟩, b1, b2, b3, b4, b5, b6, b7, b8⟩ := h
  have mv : ∀ {g : Nat} {o : Obj}, W.heap[g]? = some o → W1.heap[g]? = some o := fun hg => (hb.block _ (blk_lt hg)).trans hg
  exact ⟨⟨mv a1, mv a2, mv a3, mv a4, a5⟩, mv b1, mv b2, mv b3, mv b4, mv b5, b6, b7, b8⟩
end
section
variable {W W1 : World} {G : Geo} {u v of : Nat → Int}
theorem Wk.w0 (h : Wk W G u v of) : W.cell? ⟨G.w, 0, none⟩ = some (.slice G.AC G.n G.cC) := (blk_cell h.blk 0).trans rfl
theorem Wk.w1 (h : Wk W G u v of) : W.cell? ⟨G.w, 1, none⟩ = some (.slice G.AN G.n G.cN) := (blk_cell h.blk 1).trans rfl
theorem Wk.w2 (h : Wk W G u v of) : W.cell? ⟨G.w, 2, none⟩ = some (.slice (some ⟨G.r, 0, none⟩) G.n G.n) := (blk_cell h.blk 2).trans rfl
theorem Wk.w3 (h : Wk W G u v of) : W.cell? ⟨G.w, 3, none⟩ = some (.slice (some ⟨G.c, 0, none⟩) G.n G.n) := (blk_cell h.blk 3).trans rfl
theorem Wk.w4 (h : Wk W G u v of) : W.cell? ⟨G.w, 4, none⟩ = some (.slice (some ⟨G.o, 0, none⟩) G.n G.n) := (blk_cell h.blk 4).trans rfl
theorem Wk.below (h : Wk W G u v of) (hb : Below W.heap.size W W1) : Wk W1 G u v of := by
  obtain ⟨a1, a2, a3, a4, a5⟩ := h
  have mv : ∀ {g : Nat} {o : Obj}, W.heap[g]? = some o → W1.heap[g]? = some o := fun hg => (hb.block _ (blk_lt hg)).trans hg
  exact ⟨mv a1, mv a2, mv a3, mv a4, a5⟩
end

set_option maxHeartbeats 1000000 in
set_option maxRecDepth 100000 in
theorem nearest_any (w : World) (G : Geo2) (s : St) (h : Sk w G s) (hn : G.n ≤ 64) :
    Calls Try.prog 72 #[.pointer (some ⟨G.s, 0, none⟩)] w fun e w' => e = .returned (.int .i64 (near s G.n)) ∧ Drawn0 w w' := by
  have H := Aside0.mk h
  have NS := Aside0.mk (near_spec s)
  obtain ⟨n, hn1⟩ : ∃ n, n = G.n := ⟨_, rfl⟩
  have f1 := h.s1
  rw [← hn1] at f1 hn ⊢
  have HN := Aside0.mk hn1
  clear h hn1
  go_enter Try.func72, Try.ntmps72
  go_wp2_with fail
  clear f1
  go_loopw [3, 10] (fun v3 v10 wr => ∃ k : Nat, k ≤ n ∧ v3 = .int .i64 (near s k) ∧ v10 = .int .i64 k ∧ Aside0 (Drawn0 w wr)) (fun _ v _ => n - (intOf v).toNat)
  case atStart => exact ⟨0, Nat.zero_le _, rfl, rfl, ⟨Drawn0.refl _⟩⟩
  case round =>
    obtain ⟨k, hk, rfl, rfl, D⟩ := hrel
    by_cases hlt : k < n
    · have HW := Aside0.mk (H.out.below D.out.below)
      have f1 := HW.out.s1
      have f2 := HW.out.s2
      have f4 := HW.out.s4
      rw [← HN.out] at f1 f2 f4
      have e1 := HW.out.seen.c (i := k) (by rw [← HN.out]; exact hlt)
      have e2 := HW.out.far.c (i := k) (by rw [← HN.out]; exact hlt)
      have e3 := HW.out.least.c (i := k) (by rw [← HN.out]; exact hlt)
      have NE : ∀ b : Bool, nearC s (near s k) k = b → Aside0 (near s (k + 1) = if b = true then (k : Int) else near s k) := fun b h => ⟨by rw [← h]; rfl⟩
      cases hs : s.seen k with
      | true =>
        rw [hs] at e1
        have NX := NE false (by simp [nearC, hs])
        simp only [Bool.false_eq_true, if_false] at NX
        clear NE hs
        go_wp2_with fail
        go_quiet (fail)
        go_wp2_with fail
        go_roundw
        case measure => simp [intOf]; omega
        case rel => exact ⟨k + 1, by omega, by rw [NX.out], by go_num, ⟨D.out.step _⟩⟩
      | false =>
        rw [hs] at e1
        cases hf : s.far k with
        | true =>
          rw [hf] at e2
          have NX := NE false (by simp [nearC, hf])
          simp only [Bool.false_eq_true, if_false] at NX
          clear NE hs hf
          go_wp2_with fail
          go_quiet (fail)
          go_wp2_with fail
          go_roundw
          case measure => simp [intOf]; omega
          case rel => exact ⟨k + 1, by omega, by rw [NX.out], by go_num, ⟨D.out.step _⟩⟩
        | false =>
          rw [hf] at e2
          rcases NS.out k with ⟨h1, _⟩ | ⟨b, h1, hb, _⟩
          · have NX := NE true (by simp [nearC, hs, hf, h1])
            simp only [if_true] at NX
            rw [h1]
            clear NE hs hf h1
            go_wp2_with fail
            go_quiet (fail)
            go_wp2_with fail
            go_roundw
            case measure => simp [intOf]; omega
            case rel => exact ⟨k + 1, by omega, by rw [NX.out], by go_num, ⟨D.out.step _⟩⟩
          · have e4 := HW.out.least.c (i := b) (by rw [← HN.out]; omega)
            have b0 : decide ((b : Int) < 0) = false := decide_eq_false (by omega)
            have hbn : (b : Int) < (n : Int) := by omega
            obtain ⟨x, hx⟩ : ∃ x, x = s.least k := ⟨_, rfl⟩
            obtain ⟨y, hy⟩ : ∃ y, y = s.least b := ⟨_, rfl⟩
            rw [← hx] at e3
            rw [← hy] at e4
            by_cases hxy : x < y
            · have NX := NE true (by simp [nearC, hs, hf, h1, ← hx, ← hy, hxy])
              simp only [if_true] at NX
              have d1 : decide (x < y) = true := decide_eq_true hxy
              rw [h1]
              clear NE hs hf h1 hx hy
              go_wp2_with fail
              go_quiet (fail)
              go_wp2_with fail
              go_roundw
              case measure => simp [intOf]; omega
              case rel => exact ⟨k + 1, by omega, by rw [NX.out], by go_num, ⟨D.out.step _⟩⟩
            · have NX := NE false (by simp [nearC, hs, hf, h1, ← hx, ← hy, hxy])
              simp only [Bool.false_eq_true, if_false] at NX
              have d1 : decide (x < y) = false := decide_eq_false hxy
              rw [h1] at NX ⊢
              clear NE hs hf h1 hx hy
              go_wp2_with fail
              go_quiet (fail)
              go_wp2_with fail
              go_roundw
              case measure => simp [intOf]; omega
              case rel => exact ⟨k + 1, by omega, by rw [NX.out], by go_num, ⟨D.out.step _⟩⟩
    · obtain rfl : k = n := by omega
      go_wp2_with fail
      go_ret
      exact ⟨rfl, D.out⟩
end Go.Proofs.Ytelabmhhnpfegaa.Hand
