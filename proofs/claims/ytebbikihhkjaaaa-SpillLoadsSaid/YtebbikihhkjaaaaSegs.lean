/- Segments. -/
import Derived.Test.YtebbikihhkjaaaaPut
namespace Go.Proofs.Ytebbikihhkjaaaa.Hand
open Go.RowKit Go.Proofs.YtebbikihhkjaaaaW.PrintWords Go.Proofs.YtebbikihhkjaaaaW.PrintMore

theorem info3 : (Try.prog.info? 3).map (fun i => (i.zero, i.size, i.bytes)) = some (some (.int .i64 0), 1, 8) := by kernel_rfl

def lens (ss : List Sg) : List Int := ss.map fun s => (s.bs.length : Int)

set_option maxHeartbeats 400000 in
theorem segments_nil (w : World) : Calls Try.prog 25 #[.pointer none] w fun e w' => e = .returned (.slice none 0 0) ∧ w = w' := by
  go_enter Try.func25, Try.ntmps25
  go_wp2
  go_ret
  exact ⟨rfl, rfl⟩

set_option maxHeartbeats 1000000 in
set_option maxRecDepth 100000 in
theorem segments_any {fr : Bool} {ok : Nat → Prop} (w : World) (l : Nat) (v : Value) (ss : List Sg) (h : LogAt fr ok w l v ss) (hl : ss.length ≤ 1000000) :
    Calls Try.prog 25 #[ptr l] w fun e w' => ∃ A n c, e = .returned (.slice A n c) ∧ Kd.R (Kd.int .i64) 3 w' w.heap.size (fun _ => True) (.slice A n c) (lens ss) ∧ Below w.heap.size w w' := by
  obtain ⟨A, c, rfl, _⟩ := own_slice h.row
  have HL := Aside0.mk h
  have F0 := Aside0.mk h.blk.c0
  clear h
  obtain ⟨m, hm⟩ : ∃ m, m = ss.length := ⟨_, rfl⟩
  rw [← hm] at F0 HL hl
  have HM := Aside0.mk hm
  clear hm
  have f0 := F0.out
  unfold ptr
  go_enter Try.func25, Try.ntmps25
  go_wp2_with fail
  clear f0
  go_loopw [3, 13] (fun v3 i wr => ∃ (k : Nat) (A3 : Option Addr) (n3 c3 : Nat), k ≤ m ∧ v3 = .slice A3 n3 c3 ∧ i = .int .i64 k ∧ Aside0 (Kd.R (Kd.int .i64) 3 wr w.heap.size (fun _ => True) (.slice A3 n3 c3) ((lens ss).take k)) ∧ Aside0 (Below w.heap.size w wr)) (fun _ i _ => m - (intOf i).toNat)
  case atStart => exact ⟨0, none, 0, 0, Nat.zero_le _, rfl, rfl, ⟨Kd.R_nil _ _ _ _ _⟩, ⟨Below.refl _ _⟩⟩
  case round =>
    obtain ⟨k, A3, n3, c3, hk, rfl, rfl, O3, B3⟩ := hrel
    by_cases hlt : k < m
    · have hlt2 : k < ss.length := by have := HM.out; omega
      obtain ⟨s, hs⟩ : ∃ s, ss[k]? = some s := ⟨ss[k], List.getElem?_eq_getElem hlt2⟩
      have L3 := HL.out.below B3.out
      have hrow := L3.row
      rw [HM.out] at hrow
      obtain ⟨r, cap, he, hc, _⟩ := row_cell hrow k s hs
      injection he with h1 h2 h3
      subst h1
      have hsg := (L3.segs s (List.mem_of_getElem? hs)).1
      have F1 := Aside0.mk hsg.blk
      have hsm := hsg.sm
      unfold ptr at hc
      have HLN : Aside0 ((((lens ss).take k).length + 1) * 8 ≤ 140737488355328) := ⟨by have := List.length_take_le k (lens ss); omega⟩
      clear hrow L3 hsg h2 h3
      have HS := Aside0.mk hs
      clear hs
      go_wp2_with fail
      clear hc
      refine (bLen_any s.g s.bs.length s.cap _ _ _ _ F1.out (by omega)).mono ?_
      rintro e w' ⟨rfl, rfl⟩
      go_wp2_with (at_builtin; refine Kd.R_append (Kd.int .i64) (w0 := w) w.heap.size rfl _ _ 22 3 (.int .i64 0) 8 rfl Try.underlying22 info3 rfl (by decide) (by omega) (.slice A3 n3 c3) ((lens ss).take k) (s.bs.length : Int) [.int .i64 s.bs.length] (fun _ => True) (fun _ => False) rfl rfl rfl (fun _ h => h.elim) (fun _ _ => trivial) O3.out B3.out B3.out.size HLN.out ?_; intro v7 w7 ho7 hb7 _ _; obtain ⟨A7, n7, c7, rfl, _⟩ := R_open ho7; have O7 := Aside0.mk ho7; have B7 := Aside0.mk hb7; clear ho7 hb7)
      go_roundw
      case rel =>
        refine ⟨k + 1, _, _, _, by omega, rfl, by go_num, ⟨?_⟩, B7⟩
        have e : (lens ss).take (k + 1) = (lens ss).take k ++ [(s.bs.length : Int)] := by
          have h1 := HS.out
          rw [List.take_succ_eq_append_getElem (by simpa [lens] using hlt2)]
          rw [List.getElem?_eq_getElem hlt2] at h1
          simp only [Option.some.injEq] at h1
          simp [lens, h1]
        rw [e]
        exact O7.out
      case measure => simp [intOf]; omega
    · obtain rfl : k = m := by omega
      go_wp2
      go_ret
      refine ⟨_, _, _, rfl, ?_, B3.out⟩
      have := O3.out
      rwa [List.take_of_length_le (by rw [HM.out]; simp [lens])] at this
end Go.Proofs.Ytebbikihhkjaaaa.Hand
