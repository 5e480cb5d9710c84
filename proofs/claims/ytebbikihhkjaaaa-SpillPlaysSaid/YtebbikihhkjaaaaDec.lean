/- Decode. -/
import Derived.Test.YtebbikihhkjaaaaPSpillBytesx4
import Derived.Test.YtebbikihhkjaaaaBridge
import Derived.Test.YtebbikihhkjaaaaMem
import Derived.WalkSpells
import Derived.WalkLawsBesides
import Derived.Outline
namespace Go.Proofs.Ytebbikihhkjaaaa.Hand
open Go.RowKit Go.Proofs.YtebbikihhkjaaaaW.PrintWords Go.Proofs.YtebbikihhkjaaaaW.PrintMore Go.Proofs.Ytebbikihhkjaaaa.PSpillBytes

theorem info28 : (Try.prog.info? 28).map (fun i => (i.zero, i.size, i.bytes)) = some (some (.agg #[(.int .i64 0), (.int .i64 0), (.int .i64 0), (.slice none 0 0)]), 4, 48) := by kernel_rfl

def toS (n : Nt) : S28 := ⟨⟨n.b, n.path.length, n.s⟩, n.path⟩
def decL (l : List Int) : List S28 := match dAll l with
  | some ns => ns.map toS
  | none => []
def decE (l : List Int) : Int := match dAll l with
  | some _ => 0
  | none => 4

theorem decL_some {l : List Int} {ns : List Nt} (h : dAll l = some ns) : decL l = ns.map toS := by simp [decL, h]
theorem decE_some {l : List Int} {ns : List Nt} (h : dAll l = some ns) : decE l = 0 := by simp [decE, h]
theorem decL_none {l : List Int} (h : dAll l = none) : decL l = [] := by simp [decL, h]
theorem decE_none {l : List Int} (h : dAll l = none) : decE l = 4 := by simp [decE, h]
theorem ret_pair {v : Value} {k : IntKind} {a b : Int} (h : a = b) : Ending.returned (.tuple #[v, .int k a]) = .returned (.tuple #[v, .int k b]) := by rw [h]

set_option maxHeartbeats 1000000 in
set_option maxRecDepth 100000 in
theorem decode_any (a0 : ByteArray) (w : World) (hsz : a0.size ≤ 1000000) :
    Calls Try.prog 10 #[.string a0] w fun e w' => ∃ v, e = .returned (.tuple #[v, .int .i64 (decE (bytesOf a0))]) ∧ Kd.R k28 28 w' w.heap.size (fun _ => True) v (decL (bytesOf a0)) ∧ Below w.heap.size w w' := by
  have hu := Try.underlying76
  have hu28 := Try.underlying28
  go_enter Try.func10, Try.ntmps10
  go_wp2_with fail
  go_loopg [5] a0.size (fun kq v5 w' => ∃ (s1 : ByteArray) (ns : List Nt) (A5 : Option Addr) (n5 c5 : Nat), v5 = .slice A5 n5 c5 ∧ Aside0 (IsS76 w w' w.heap.size s1 false) ∧ Aside0 (Kd.R k28 28 w' w.heap.size (fun _ => True) (.slice A5 n5 c5) (ns.map toS)) ∧ Aside0 (Below w.heap.size w w') ∧ Aside0 (dAll (bytesOf a0) = (dAll (bytesOf s1)).map (ns ++ ·)) ∧ Aside0 (s1.size + ns.length ≤ a0.size) ∧ Aside0 (s1.size ≤ kq))
  case atStart => exact ⟨a0, [], none, 0, 0, rfl, ⟨IsS76.new w w a0 false (Below.refl _ _)⟩, ⟨Kd.R_nil _ _ _ _ _⟩, ⟨below_alloc (Below.refl _ _) _⟩, ⟨by cases dAll (bytesOf a0) <;> simp⟩, ⟨by simp⟩, ⟨Nat.le_refl _⟩⟩
  case round =>
    obtain ⟨s1, ns, A5, n5, c5, rfl, I1, O5, B1, D1, L1, M1⟩ := hrel
    by_cases h0 : s1.size = 0
    · -- the end
      have f0 := cellS76_0 I1.out.1
      have g0 : decide ((0 : Int) < (s1.size : Int)) = false := decide_eq_false (by omega)
      have g0' : decide (0 < s1.size) = false := decide_eq_false (by omega)
      have HE : bytesOf s1 = [] := List.eq_nil_of_length_eq_zero (by rw [bytesOf_length]; exact h0)
      have D2 : Aside0 (dAll (bytesOf a0) = some ns) := ⟨by rw [D1.out, HE, dAll_nil]; simp⟩
      clear HE h0
      go_wp2
      go_ret2
      exact ⟨_, ret_pair (decE_some D2.out).symm, by rw [decL_some D2.out]; exact O5.out, B1.out⟩
    · have f0 := cellS76_0 I1.out.1
      have g0 : decide ((0 : Int) < (s1.size : Int)) = true := decide_eq_true (by omega)
      have g0' : decide (0 < s1.size) = true := decide_eq_true (by omega)
      have HNE : Aside0 (bytesOf s1 ≠ []) := ⟨fun h => h0 (by rw [← bytesOf_length, h]; rfl)⟩
      clear h0
      cases hd : dNt (bytesOf s1) with
      | none =>
        have HD := Aside0.mk hd
        clear hd
        obtain ⟨b, d, sq, q, s2, hn, hq⟩ := note_no 4141 (by omega) HD.out
        have HN := Aside0.mk hn
        have HQ := Aside0.mk hq
        clear hn hq
        go_wp2_with fail
        clear f0
        refine (spill_reader_note.calls 4141 w.heap.size s1 false _ _ _ _ _ _ w _ I1.out B1.out HN.out).mono ?_
        rintro e w2 ⟨v3, rfl, ho3, hi3, hb3, hk3⟩
        obtain ⟨A3, n3, c3, rfl, _⟩ := R_open ho3
        have O3 := Aside0.mk (Kd.R_lower ho3 B1.out.size)
        have O6 := Aside0.mk (Kd.R_mono (ok' := fun _ => True) (Kd.R_keep (Kd.R_types O5.out I1.out.1 (by decide)) hk3 (fun _ h => h.2)) (fun _ _ => trivial))
        have I3 := Aside0.mk hi3
        have B3 := Aside0.mk hb3
        have HLN : Aside0 (((ns.map toS).length + 1) * 48 ≤ 140737488355328) := ⟨by have := L1.out; rw [List.length_map]; omega⟩
        clear ho3 hi3 hb3 hk3
        go_wp2_with (at_builtin; refine Kd.R_append k28 (w0 := w) w.heap.size rfl _ _ 33 28 (.agg #[(.int .i64 0), (.int .i64 0), (.int .i64 0), (.slice none 0 0)]) 48 rfl Try.underlying33 info28 rfl (by decide) (by omega) (.slice A5 n5 c5) (ns.map toS) (⟨⟨b, d, sq⟩, q⟩ : S28) [.int .i64 b, .int .i64 d, .int .i64 sq, .slice A3 n3 c3] (fun _ => True) (fun k => some k = (.slice A3 n3 c3 : Value).ownBlock) rfl rfl (k28_mkM _ _ _ _ (Kd.R_tight rfl O3.out)) (fun k hk => ⟨trivial, fun e => (own_type_ne (Kd.R_own O3.out).choose_spec (Kd.R_own O6.out).choose_spec (by decide)).elim (fun h => by rw [← hk] at h; cases h) (fun h => h (hk.symm.trans e))⟩) (fun _ _ => trivial) O6.out B3.out B3.out.size HLN.out ?_; intro v7 w7 ho7 hb7 hg7 _; obtain ⟨A7, n7, c7, rfl, _⟩ := R_open ho7; have O7 := Aside0.mk ho7; have B7 := Aside0.mk hb7; have I7 := Aside0.mk (IsS76.grown I3.out hg7 (Kd.R_ne O6.out I3.out.1 (by decide))); clear ho7 hb7 hg7; have f1 := cellS76_1 I7.out.1)
        clear f1
        go_ret2
        have DN : dAll (bytesOf a0) = none := by rw [D1.out, dAll_none HNE.out HD.out]; rfl
        exact ⟨_, ret_pair (decE_none DN).symm, by rw [decL_none DN]; exact Kd.R_nil _ _ _ _ _, B7.out⟩
      | some y =>
        obtain ⟨nt, r⟩ := y
        have HD := Aside0.mk hd
        clear hd
        obtain ⟨s2, hn, hr⟩ := note_yes 4141 (by omega) HD.out
        have HN := Aside0.mk hn
        have HR := Aside0.mk hr
        clear hn hr
        go_wp2_with fail
        clear f0
        refine (spill_reader_note.calls 4141 w.heap.size s1 false _ _ _ _ _ _ w _ I1.out B1.out HN.out).mono ?_
        rintro e w2 ⟨v3, rfl, ho3, hi3, hb3, hk3⟩
        obtain ⟨A3, n3, c3, rfl, _⟩ := R_open ho3
        have O3 := Aside0.mk (Kd.R_lower ho3 B1.out.size)
        have O6 := Aside0.mk (Kd.R_mono (ok' := fun _ => True) (Kd.R_keep (Kd.R_types O5.out I1.out.1 (by decide)) hk3 (fun _ h => h.2)) (fun _ _ => trivial))
        have I3 := Aside0.mk hi3
        have B3 := Aside0.mk hb3
        have HLN : Aside0 (((ns.map toS).length + 1) * 48 ≤ 140737488355328) := ⟨by have := L1.out; rw [List.length_map]; omega⟩
        clear ho3 hi3 hb3 hk3
        go_wp2_with (at_builtin; refine Kd.R_append k28 (w0 := w) w.heap.size rfl _ _ 33 28 (.agg #[(.int .i64 0), (.int .i64 0), (.int .i64 0), (.slice none 0 0)]) 48 rfl Try.underlying33 info28 rfl (by decide) (by omega) (.slice A5 n5 c5) (ns.map toS) (⟨⟨nt.b, nt.path.length, nt.s⟩, nt.path⟩ : S28) [.int .i64 nt.b, .int .i64 nt.path.length, .int .i64 nt.s, .slice A3 n3 c3] (fun _ => True) (fun k => some k = (.slice A3 n3 c3 : Value).ownBlock) rfl rfl (k28_mkM _ _ _ _ (Kd.R_tight rfl O3.out)) (fun k hk => ⟨trivial, fun e => (own_type_ne (Kd.R_own O3.out).choose_spec (Kd.R_own O6.out).choose_spec (by decide)).elim (fun h => by rw [← hk] at h; cases h) (fun h => h (hk.symm.trans e))⟩) (fun _ _ => trivial) O6.out B3.out B3.out.size HLN.out ?_; intro v7 w7 ho7 hb7 hg7 _; obtain ⟨A7, n7, c7, rfl, _⟩ := R_open ho7; have O7 := Aside0.mk ho7; have B7 := Aside0.mk hb7; have I7 := Aside0.mk (IsS76.grown I3.out hg7 (Kd.R_ne O6.out I3.out.1 (by decide))); clear ho7 hb7 hg7; have f1 := cellS76_1 I7.out.1)
        clear f1
        go_roundg s2.size
        case measure =>
          have h1 := dNt_len HD.out
          rw [← HR.out, bytesOf_length, bytesOf_length] at h1
          have h2 := M1.out
          omega
        case rel =>
          refine ⟨s2, ns ++ [nt], _, _, _, rfl, I7, ⟨by have := O7.out; simpa [toS] using this⟩, B7, ⟨?_⟩, ⟨?_⟩, ⟨Nat.le_refl _⟩⟩
          · rw [D1.out, dAll_some HNE.out HD.out, HR.out]
            cases dAll r <;> simp
          · have h1 := dNt_len HD.out
            rw [← HR.out, bytesOf_length, bytesOf_length] at h1
            have h2 := L1.out
            simp
            omega
end Go.Proofs.Ytebbikihhkjaaaa.Hand
