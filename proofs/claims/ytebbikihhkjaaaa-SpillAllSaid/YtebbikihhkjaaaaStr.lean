/- Builder.String over a segment's buffer: its bytes; the buffer's cells are frozen. -/
import Derived.Test.YtebbikihhkjaaaaPut
import Derived.Lib.UnsafeStr
namespace Go.Proofs.Ytebbikihhkjaaaa.Hand
open Go.RowKit Go.Proofs.YtebbikihhkjaaaaW.PrintWords Go.Proofs.YtebbikihhkjaaaaW.PrintMore

theorem freeze_at {w : World} {b n : Nat} {cur : Array Value} {t : TypeId} {mk : Nat × Nat} (h : w.heap[b]? = some (.cells cur t mk)) : ∃ mk', (w.freeze ⟨b, 0, none⟩ n).heap[b]? = some (.cells cur t mk') := by
  unfold World.freeze
  split
  · exact ⟨mk, h⟩
  · simp only [Array.getElem?_modify, if_pos, h]
    exact ⟨_, rfl⟩
theorem chg_freeze {w : World} {b n : Nat} : Chg (fun k => k = b) w (w.freeze ⟨b, 0, none⟩ n) := by
  unfold World.freeze
  split
  · exact Chg.refl _ _
  · exact ⟨rfl, rfl, rfl, by simp, fun k hk hn => by
      simp only [Array.getElem?_modify]
      rw [if_neg (fun e => hn e.symm)]⟩
theorem strOfNums_eq (bs : List Int) : strOfNums bs = ⟨(bs.map fun n => UInt8.ofNat n.toNat).toArray⟩ := rfl

set_option maxHeartbeats 1000000 in
set_option maxRecDepth 100000 in
theorem string_any {fr : Bool} (w : World) (s : Sg) (h : SgAt fr w s) : Calls Try.prog 41 #[.pointer (some ⟨s.g, 0, none⟩)] w fun e w' => e = .returned (.string (strOfNums s.bs)) ∧ SgAt true w' s ∧ Chg (fun k => k = s.b) w w' := by
  obtain ⟨cur, mk, h1, _, h3, h4, h5, h6⟩ := h.buf
  have hbg : s.g ≠ s.b := by
    intro e
    have := h.blk
    rw [SegBlk, e, h1] at this
    injection this with this
    injection this with _ e2 _
    cases e2
  have hl0 : s.bs.length ≠ 0 := fun e => h.ne (List.eq_nil_of_length_eq_zero e)
  obtain ⟨l, hl⟩ : ∃ l : List UInt8, l = s.bs.map fun n => UInt8.ofNat n.toNat := ⟨_, rfl⟩
  have hll : l.length = s.bs.length := by rw [hl, List.length_map]
  have c1 : w.drew.cell? ⟨s.g, 1, none⟩ = some (.slice (some ⟨s.b, 0, none⟩) s.bs.length s.cap) := h.blk.c1
  have hcell : ∀ j x, l[j]? = some x → w.drew.cell? ((⟨s.b, 0, none⟩ : Addr).add j) = some (.int .u8 x.toNat) := by
    intro j x hx
    rw [add_plain]
    have e : w.drew.cell? ⟨s.b, j, none⟩ = cur[j]? := by
      show w.cell? ⟨s.b, j, none⟩ = cur[j]?
      simp [World.cell?, h1]
    rw [e]
    rw [hl, List.getElem?_map, Option.map_eq_some_iff] at hx
    obtain ⟨n, hn, rfl⟩ := hx
    have hj : j < s.bs.length := (List.getElem?_eq_some_iff.1 hn).1
    have e2 : (cur.toList.take s.bs.length)[j]? = cur[j]? := by
      rw [List.getElem?_take_of_lt hj, Array.getElem?_toList]
    rw [← e2, h6]
    have hb := h.byt n (List.mem_of_getElem? hn)
    simp only [nums, List.getElem?_map, hn, Option.map_some]
    congr 2
    have : (UInt8.ofNat n.toNat).toNat = n.toNat := by
      rw [UInt8.toNat_ofNat']
      omega
    rw [this]
    omega
  have hSD : (Builtin.unsafeSliceData_ #[82] 105 #[.slice (some ⟨s.b, 0, none⟩) s.bs.length s.cap]).run Try.prog w.drew = .ok (.pointer (some ⟨s.b, 0, none⟩)) w.drew :=
    Lib.run_unsafeSliceData_row _ _ _ _ _ _ (by omega)
  have hUS : (Builtin.unsafeString_ #[105, 3] 9 #[.pointer (some ⟨s.b, 0, none⟩), .int .i64 s.bs.length]).run Try.prog w.drew = .ok (.string (strOfNums s.bs)) (w.drew.freeze ⟨s.b, 0, none⟩ s.bs.length) := by
    have := Lib.run_unsafeString_row (P := Try.prog) w.drew 105 3 9 5 Try.underlying105 (by kernel_rfl) s.b cur.size (by have hg' : w.drew.heap[s.b]? = some (.cells cur 5 mk) := h1; simp [World.shape?, hg']) l (by intro e; rw [e] at hll; exact hl0 hll.symm) (by rw [hll, h5]; exact h3) (by rw [hll]; unfold maxLen at h4; omega) hcell
    rw [hll, hl] at this
    exact this
  obtain ⟨mk', hf⟩ := freeze_at (w := w.drew) (n := s.bs.length) (show w.drew.heap[s.b]? = some (.cells cur 5 mk) from h1)
  have hchg : Chg (fun k => k = s.b) w (w.drew.freeze ⟨s.b, 0, none⟩ s.bs.length) := ((Chg.refl _ _).drew).trans chg_freeze
  have hres : Aside0 (SgAt true (w.drew.freeze ⟨s.b, 0, none⟩ s.bs.length) s ∧ Chg (fun k => k = s.b) w (w.drew.freeze ⟨s.b, 0, none⟩ s.bs.length)) := ⟨⟨hchg.blk h.blk hbg, ⟨cur, mk', hf, fun e => (by cases e), h3, h4, h5, h6⟩, h.ne, h.byt, h.sm⟩, hchg⟩
  clear h h1 h3 h4 h5 h6 hbg hl hll hcell hf hchg
  have hu := Try.underlying97
  have hu2 := Try.underlying82
  go_enter Try.func41, Try.ntmps41
  go_wp2
  go_region
  all_goals (go_wp2; go_ret; exact ⟨rfl, hres.out⟩)
end Go.Proofs.Ytebbikihhkjaaaa.Hand
