/- Segments. -/
import Derived.Test.YtebbikihhkjaaaaPut
namespace Go.Proofs.Ytebbikihhkjaaaa.Hand
open Go.RowKit Go.Proofs.YtebbikihhkjaaaaW.PrintWords Go.Proofs.YtebbikihhkjaaaaW.PrintMore

theorem info3 : (Try.prog.info? 3).map (fun i => (i.zero, i.size, i.bytes)) = some (some (.int .i64 0), 1, 8) := by kernel_rfl

def lens (ss : List Sg) : List Int := ss.map fun s => (s.bs.length : Int)

set_option maxHeartbeats 400000 in
theorem segments_nil (w : World) : Calls Try.prog 25 #[.pointer none] w fun e w' => e = .returned (.slice none 0 0) ∧ w = w' := by
  go_enter Try.func25, Try.ntmps25
  go_wp2
  go_ret
  exact ⟨rfl, rfl⟩

set_option maxHeartbeats 1000000 in
set_option maxRecDepth 100000 in
theorem segments_any {fr : Bool} {ok : Nat → Prop} (w : World) (l : Nat) (v : Value) (ss : List Sg) (h : LogAt fr ok w l v ss) (hl : ss.length ≤ 1000000) :
    Calls Try.prog 25 #[ptr l] w fun e w' => ∃ A n c, e = .returned (.slice A n c) ∧ Kd.R (Kd.int .i64) 3 w' w.heap.size (fun _ => True) (.slice A n c) (lens ss) ∧ Below w.heap.size w w' := by
  obtain ⟨A, c, rfl, _⟩ := own_slice h.row
  have HL := Aside0.mk h
  have F0 := Aside0.mk h.blk.c0
  clear h
  obtain ⟨m, hm⟩ : ∃ m, m = ss.length := ⟨_, rfl⟩
  rw [← hm] at F0 HL hl
  have HM := Aside0.mk hm
  clear hm
  have f0 := F0.out
  unfold ptr
  go_enter Try.func25, Try.ntmps25
  go_wp2_with fail
  clear f0
  go_loopw [3, 13] (fun v3 i wr => ∃ (k : Nat) (A3 : Option Addr) (n3 c3 : Nat), k ≤ m ∧ v3 = .slice A3 n3 c3 ∧ i = .int .i64 k ∧ Aside0 (Kd.R (Kd.int .i64) 3 wr w.heap.size (fun _ => True) (.slice A3 n3 c3) ((lens ss).take k)) ∧ Aside0 (Below w.heap.size w wr)) (fun _ i _ => m - (intOf i).toNat)
  case atStart => exact ⟨0, none, 0, 0, Nat.zero_le _, rfl, rfl, ⟨Kd.R_nil _ _ _ _ _⟩, ⟨Below.refl _ _⟩⟩
  case round =>
    obtain ⟨k, A3, n3, c3, hk, rfl, rfl, O3, B3⟩ := hrel
    by_cases hlt : k < m
    · have hlt2 : k < ss.length := by have := HM.out; omega
      obtain ⟨s, hs⟩ : ∃ s, ss[k]? = some s := ⟨ss[k], List.getElem?_eq_getElem hlt2⟩
      have L3 := HL.out.below B3.out
      have hrow := L3.row
      rw [HM.out] at hrow
      obtain ⟨r, cap, he, hc, _⟩ := row_cell hrow k s hs
      injection he with h1 h2 h3
      subst h1
      have hsg := (L3.segs s (List.mem_of_getElem? hs)).1
      have F1 := Aside0.mk hsg.blk
      have hsm := hsg.sm
      unfold ptr at hc
      have HLN : Aside0 ((((lens ss).take k).length + 1) * 8 ≤ 140737488355328) := ⟨by have := List.length_take_le k (lens ss); omega⟩
      clear hrow L3 hsg h2 h3
      have HS := Aside0.mk hs
      clear hs
      go_wp2_with fail
      clear hc
      refine (bLen_any s.g s.bs.length s.cap _ _ _ _ F1.out (by omega)).mono ?_
      rintro e w' ⟨rfl, rfl⟩
      go_wp2_with (at_builtin; refine Kd.R_append (Kd.int .i64) (w0 := w) w.heap.size rfl _ _ 22 3 (.int .i64 0) 8 rfl Try.underlying22 info3 rfl (by decide) (by omega) (.slice A3 n3 c3) ((lens ss).take k) (s.bs.length : Int) [.int .i64 s.bs.length] (fun _ => True) (fun _ => False) rfl rfl rfl (fun _ h => h.elim) (fun _ _ => trivial) O3.out B3.out B3.out.size HLN.out ?_; intro v7 w7 ho7 hb7 _ _; obtain ⟨A7, n7, c7, rfl, _⟩ := R_open ho7; have O7 := Aside0.mk ho7; have B7 := Aside0.mk hb7; clear ho7 hb7)
      go_roundw
      case rel =>
        refine ⟨k + 1, _, _, _, by omega, rfl, by go_num, ⟨?_⟩, B7⟩
        have e : (lens ss).take (k + 1) = (lens ss).take k ++ [(s.bs.length : Int)] := by
          have h1 := HS.out
          rw [List.take_succ_eq_append_getElem (by simpa [lens] using hlt2)]
          rw [List.getElem?_eq_getElem hlt2] at h1
          simp only [Option.some.injEq] at h1
          simp [lens, h1]
        rw [e]
        exact O7.out
      case measure => simp [intOf]; omega
    · obtain rfl : k = m := by omega
      go_wp2
      go_ret
      refine ⟨_, _, _, rfl, ?_, B3.out⟩
      have := O3.out
      rwa [List.take_of_length_le (by rw [HM.out]; simp [lens])] at this
end Go.Proofs.Ytebbikihhkjaaaa.Hand
/- wakes. -/
namespace Go.Proofs.Ytebbikihhkjaaaa.Hand
open Go.RowKit Go.Proofs.YtebbikihhkjaaaaW.PrintWords Go.Proofs.YtebbikihhkjaaaaW.PrintMore

theorem ok_wake : OkNt ⟨-3, 300, [1, 0]⟩ := ⟨⟨by decide, by decide⟩, ⟨by decide, by decide⟩, by decide, by decide⟩
theorem enc_wake : encNt ⟨-3, 300, [1, 0]⟩ = [5, 216, 4, 2, 1, 0] := by
  have e1 : vb (zz (-3)) = [5] := by rw [show zz (-3) = 5 from by decide, vb_small (by omega)]; rfl
  have e2 : vb (zz 300) = [216, 4] := by rw [show zz 300 = 600 from by decide, vb_big (by omega), vb_small (by omega)]; rfl
  have e3 : vb ([1, 0] : List Int).length = [2] := by rw [show ([1, 0] : List Int).length = 2 from rfl, vb_small (by omega)]; rfl
  have e4 : pathB [1, 0] = [1, 0] := by simp [pathB, vb_small]
  simp only [encNt, e1, e2, e3, e4]
  rfl
theorem encB_wake : encB (-3) 2 300 [1, 0] = ⟨#[5, 216, 4, 2, 1, 0]⟩ := by
  unfold encB
  rw [if_pos (mayB_iff.2 ⟨by decide, by decide, by decide⟩), enc_wake]
  rfl

def WK (w : World) : World := (w.alloc (.cells #[.int .i64 1, .int .i64 0] 3)).alloc (.cells #[.int .i64 (-3), .int .i64 2, .int .i64 300, .slice (some ⟨w.heap.size, 0, none⟩) 2 2] 28)
theorem WK_size (w : World) : (WK w).heap.size = w.heap.size + 2 := by simp [WK]
theorem WK_0 (w : World) : (WK w).heap[w.heap.size]? = some (.cells #[.int .i64 1, .int .i64 0] 3 (0, 0)) := by
  unfold WK
  rw [Below.heap_alloc _ _ _ (by simp)]
  exact heap_alloc_new w _
theorem WK_1 (w : World) : (WK w).heap[w.heap.size + 1]? = some (.cells #[.int .i64 (-3), .int .i64 2, .int .i64 300, .slice (some ⟨w.heap.size, 0, none⟩) 2 2] 28 (0, 0)) := by
  unfold WK
  have := heap_alloc_new (w.alloc (.cells #[.int .i64 1, .int .i64 0] 3)) (.cells #[.int .i64 (-3), .int .i64 2, .int .i64 300, .slice (some ⟨w.heap.size, 0, none⟩) 2 2] 28)
  rw [World.size_alloc] at this
  exact this
theorem WK_below {w wr : World} (h : Below (WK w).heap.size (WK w) wr) : Below w.heap.size w wr := by
  have h0 : Below w.heap.size w (WK w) := below_alloc (below_alloc (Below.refl _ _) _) _
  exact h0.trans (h.mono (by rw [WK_size]; omega))
theorem wk_c {w : World} {g : Nat} {cs : Array Value} {t : TypeId} {m : Nat × Nat} (h : w.heap[g]? = some (.cells cs t m)) (j : Nat) : w.cell? ⟨g, j, none⟩ = cs[j]? := by simp [World.cell?, h]
theorem WK_reads {w wr : World} (h : Below (WK w).heap.size (WK w) wr) : Kd.C (Kd.int .i64) wr (some ⟨w.heap.size, 0, none⟩) ([1, 0] : List Int).length [1, 0] := by
  refine Kd.C_of_reads (d := (0 : Int)) (h1 := fun _ => rfl) (show ReadsInt wr .i64 _ _ _ from ⟨rfl, by decide, fun _ => ⟨_, rfl, fun j hj => ?_⟩⟩)
  rw [add_plain]
  have h0 : wr.heap[w.heap.size]? = some (.cells #[.int .i64 1, .int .i64 0] 3 (0, 0)) := by rw [h.block _ (by rw [WK_size]; omega)]; exact WK_0 w
  rw [wk_c h0]
  have : j < 2 := hj
  match j, this with
  | 0, _ => rfl
  | 1, _ => rfl
theorem WK_cells {w wr : World} (h : Below (WK w).heap.size (WK w) wr) : wr.cell? ⟨w.heap.size + 1, 0, none⟩ = some (.int .i64 (-3)) ∧ wr.cell? ⟨w.heap.size + 1, 1, none⟩ = some (.int .i64 2) ∧ wr.cell? ⟨w.heap.size + 1, 2, none⟩ = some (.int .i64 300) ∧ wr.cell? ⟨w.heap.size + 1, 3, none⟩ = some (.slice (some ⟨w.heap.size, 0, none⟩) 2 2) := by
  have h0 : wr.heap[w.heap.size + 1]? = some (.cells #[.int .i64 (-3), .int .i64 2, .int .i64 300, .slice (some ⟨w.heap.size, 0, none⟩) 2 2] 28 (0, 0)) := by rw [h.block _ (by rw [WK_size]; omega)]; exact WK_1 w
  exact ⟨(wk_c h0 0).trans rfl, (wk_c h0 1).trans rfl, (wk_c h0 2).trans rfl, (wk_c h0 3).trans rfl⟩

set_option maxHeartbeats 1000000 in
set_option maxRecDepth 100000 in
theorem wakes_any (w : World) : Calls Try.prog 12 #[] w fun e w' => e = .returned (.bool true) ∧ Below w.heap.size w w' := by
  have hu := Try.underlying28
  go_enter Try.func12, Try.ntmps12
  go_wp2_with fail
  refine (new_any _).mono ?_
  rintro e w1 ⟨l, rfl, hl1, hb1⟩
  have L1 := Aside0.mk hl1
  have B1 : Aside0 (Below (WK w).heap.size (WK w) w1) := ⟨hb1⟩
  clear hl1 hb1
  obtain ⟨f0, f1, f2, f3⟩ := WK_cells B1.out
  unfold ptr
  go_wp2_with fail
  clear f0 f1 f2 f3
  refine (encode_any (-3) 2 300 (some ⟨w.heap.size, 0, none⟩) 2 [1, 0] _ (WK_reads B1.out) (by decide) ok_wake.b ok_wake.s).mono ?_
  rintro e w2 ⟨rfl, hb2⟩
  have B2 : Aside0 (Below (WK w).heap.size (WK w) w2) := ⟨below_then B1.out B1.out.size hb2⟩
  have L2 := Aside0.mk (L1.out.below hb2)
  clear hb2
  rw [encB_wake]
  obtain ⟨f0, f1, f2, f3⟩ := WK_cells B2.out
  go_wp2_with fail
  clear f0 f1 f2 f3
  refine (put_ok (ok := fun k => (WK w).heap.size ≤ k) l (.slice none 0 0) [] (-3) 300 (some ⟨w.heap.size, 0, none⟩) 2 [1, 0] _ L2.out (by decide) (by decide) (WK_reads B2.out) ok_wake).mono ?_
  rintro e w3 ⟨v3, ss, rfl, hl3, hc3, ht3, hg3⟩
  have L3 := Aside0.mk hl3
  have C3 := Aside0.mk hc3
  have T3 := Aside0.mk ht3
  have B3 : Aside0 (Below (WK w).heap.size (WK w) w3) := ⟨B2.out.trans ⟨hg3.os, hg3.tape, hg3.output, hg3.size, fun k hk => hg3.block k (Nat.lt_of_lt_of_le hk B2.out.size) (by omega)⟩⟩
  clear hl3 hc3 ht3 hg3
  have HT : tot ss = 1 := by rw [T3.out]; rfl
  have HS : ss.length = 1 := by
    have := congrArg List.length C3.out
    simpa [cont, putC] using this
  go_wp2_with fail
  refine (len_any _ l v3 ss L3.out).mono ?_
  rintro e w' ⟨rfl, rfl⟩
  rw [HT]
  clear HT
  go_wp2_with fail
  refine (segments_any _ l v3 ss L3.out (by omega)).mono ?_
  rintro e w4 ⟨A, n, c, rfl, ho4, hb4⟩
  have hn : n = 1 := by rw [(Kd.R_reads' ho4).1]; simp [lens, HS]
  subst hn
  have B4 := Aside0.mk (below_then B3.out B3.out.size hb4)
  clear ho4 hb4
  go_wp2
  go_ret
  exact ⟨rfl, WK_below B4.out⟩
end Go.Proofs.Ytebbikihhkjaaaa.Hand
