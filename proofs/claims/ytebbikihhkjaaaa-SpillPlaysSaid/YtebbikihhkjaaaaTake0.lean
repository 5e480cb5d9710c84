/- Builder.String over a segment's buffer: its bytes; the buffer's cells are frozen. -/
import Derived.Test.YtebbikihhkjaaaaPut
import Derived.Lib.UnsafeStr
import Derived.Lib.BufferMore
import Derived.Test.YtebbikihhkjaaaaDec
import Derived.Deep.RegionWith
namespace Go.Proofs.Ytebbikihhkjaaaa.Hand
open Go.RowKit Go.Proofs.YtebbikihhkjaaaaW.PrintWords Go.Proofs.YtebbikihhkjaaaaW.PrintMore

theorem freeze_at {w : World} {b n : Nat} {cur : Array Value} {t : TypeId} {mk : Nat × Nat} (h : w.heap[b]? = some (.cells cur t mk)) : ∃ mk', (w.freeze ⟨b, 0, none⟩ n).heap[b]? = some (.cells cur t mk') := by
  unfold World.freeze
  split
  · exact ⟨mk, h⟩
  · simp only [Array.getElem?_modify, if_pos, h]
    exact ⟨_, rfl⟩
theorem chg_freeze {w : World} {b n : Nat} : Chg (fun k => k = b) w (w.freeze ⟨b, 0, none⟩ n) := by
  unfold World.freeze
  split
  · exact Chg.refl _ _
  · exact ⟨rfl, rfl, rfl, by simp, fun k hk hn => by
      simp only [Array.getElem?_modify]
      rw [if_neg (fun e => hn e.symm)]⟩
theorem strOfNums_eq (bs : List Int) : strOfNums bs = ⟨(bs.map fun n => UInt8.ofNat n.toNat).toArray⟩ := rfl

set_option maxHeartbeats 1000000 in
set_option maxRecDepth 100000 in
theorem string_any {fr : Bool} (w : World) (s : Sg) (h : SgAt fr w s) : Calls Try.prog 41 #[.pointer (some ⟨s.g, 0, none⟩)] w fun e w' => e = .returned (.string (strOfNums s.bs)) ∧ SgAt true w' s ∧ Chg (fun k => k = s.b) w w' := by
  obtain ⟨cur, mk, h1, _, h3, h4, h5, h6⟩ := h.buf
  have hbg : s.g ≠ s.b := by
    intro e
    have := h.blk
    rw [SegBlk, e, h1] at this
    injection this with this
    injection this with _ e2 _
    cases e2
  have hl0 : s.bs.length ≠ 0 := fun e => h.ne (List.eq_nil_of_length_eq_zero e)
  obtain ⟨l, hl⟩ : ∃ l : List UInt8, l = s.bs.map fun n => UInt8.ofNat n.toNat := ⟨_, rfl⟩
  have hll : l.length = s.bs.length := by rw [hl, List.length_map]
  have c1 : w.drew.cell? ⟨s.g, 1, none⟩ = some (.slice (some ⟨s.b, 0, none⟩) s.bs.length s.cap) := h.blk.c1
  have hcell : ∀ j x, l[j]? = some x → w.drew.cell? ((⟨s.b, 0, none⟩ : Addr).add j) = some (.int .u8 x.toNat) := by
    intro j x hx
    rw [add_plain]
    have e : w.drew.cell? ⟨s.b, j, none⟩ = cur[j]? := by
      show w.cell? ⟨s.b, j, none⟩ = cur[j]?
      simp [World.cell?, h1]
    rw [e]
    rw [hl, List.getElem?_map, Option.map_eq_some_iff] at hx
    obtain ⟨n, hn, rfl⟩ := hx
    have hj : j < s.bs.length := (List.getElem?_eq_some_iff.1 hn).1
    have e2 : (cur.toList.take s.bs.length)[j]? = cur[j]? := by
      rw [List.getElem?_take_of_lt hj, Array.getElem?_toList]
    rw [← e2, h6]
    have hb := h.byt n (List.mem_of_getElem? hn)
    simp only [nums, List.getElem?_map, hn, Option.map_some]
    congr 2
    have : (UInt8.ofNat n.toNat).toNat = n.toNat := by
      rw [UInt8.toNat_ofNat']
      omega
    rw [this]
    omega
  have hSD : (Builtin.unsafeSliceData_ #[82] 105 #[.slice (some ⟨s.b, 0, none⟩) s.bs.length s.cap]).run Try.prog w.drew = .ok (.pointer (some ⟨s.b, 0, none⟩)) w.drew :=
    Lib.run_unsafeSliceData_row _ _ _ _ _ _ (by omega)
  have hUS : (Builtin.unsafeString_ #[105, 3] 9 #[.pointer (some ⟨s.b, 0, none⟩), .int .i64 s.bs.length]).run Try.prog w.drew = .ok (.string (strOfNums s.bs)) (w.drew.freeze ⟨s.b, 0, none⟩ s.bs.length) := by
    have := Lib.run_unsafeString_row (P := Try.prog) w.drew 105 3 9 5 Try.underlying105 (by kernel_rfl) s.b cur.size (by have hg' : w.drew.heap[s.b]? = some (.cells cur 5 mk) := h1; simp [World.shape?, hg']) l (by intro e; rw [e] at hll; exact hl0 hll.symm) (by rw [hll, h5]; exact h3) (by rw [hll]; unfold maxLen at h4; omega) hcell
    rw [hll, hl] at this
    exact this
  obtain ⟨mk', hf⟩ := freeze_at (w := w.drew) (n := s.bs.length) (show w.drew.heap[s.b]? = some (.cells cur 5 mk) from h1)
  have hchg : Chg (fun k => k = s.b) w (w.drew.freeze ⟨s.b, 0, none⟩ s.bs.length) := ((Chg.refl _ _).drew).trans chg_freeze
  have hres : Aside0 (SgAt true (w.drew.freeze ⟨s.b, 0, none⟩ s.bs.length) s ∧ Chg (fun k => k = s.b) w (w.drew.freeze ⟨s.b, 0, none⟩ s.bs.length)) := ⟨⟨hchg.blk h.blk hbg, ⟨cur, mk', hf, fun e => (by cases e), h3, h4, h5, h6⟩, h.ne, h.byt, h.sm⟩, hchg⟩
  clear h h1 h3 h4 h5 h6 hbg hl hll hcell hf hchg
  have hu := Try.underlying97
  have hu2 := Try.underlying82
  go_enter Try.func41, Try.ntmps41
  go_wp2
  go_region
  all_goals (go_wp2; go_ret; exact ⟨rfl, hres.out⟩)
end Go.Proofs.Ytebbikihhkjaaaa.Hand
/- slices.Clone over the segments. -/
namespace Go.Proofs.Ytebbikihhkjaaaa.Hand
open Go.RowKit Go.Proofs.YtebbikihhkjaaaaW.PrintWords Go.Proofs.YtebbikihhkjaaaaW.PrintMore

set_option maxHeartbeats 400000 in
set_option maxRecDepth 100000 in
theorem clone_any (w : World) (a : Addr) (n c : Nat) (xs : List Value) (hl : xs.length = n) (hn : n ≤ 1000000) (hc : ∀ j x, xs[j]? = some x → w.cell? (a.add j) = some x) (hone : ∀ x ∈ xs, x.oneCell' = true) :
    Calls Try.prog 43 #[.slice (some a) n c] w fun e w' => ∃ v', e = .returned v' ∧ w'.ownsRow w.heap.size 89 1 v' n xs ∧ Below w.heap.size w w' := by
  have HL := Aside0.mk hl
  have HC := Aside0.mk hc
  have H1 := Aside0.mk hone
  clear hl hc hone
  have hu := Try.underlying86
  have hnil : ∀ W, (binOp .eql 86 (.slice (some a) n c) (.slice none 0 0)).run Try.prog W = .ok (.bool false) W := fun W => Lib.run_eql_slice_some_nil W _ _ _ Try.underlying86
  go_enter Try.func43, Try.ntmps43
  obtain ⟨i, hi, hzz⟩ := Option.map_eq_some_iff.1 info89
  simp only [Prod.mk.injEq] at hzz
  obtain ⟨hz, hsize, hby⟩ := hzz
  have HI := Aside0.mk hi
  have HZ := Aside0.mk hz
  have HS := Aside0.mk hsize
  have HY := Aside0.mk hby
  clear hi hz hsize hby
  have OW : Aside0 ((w.alloc (.cells #[] 89)).ownsRow w.heap.size 89 1 (.slice (some ⟨w.heap.size, 0, none⟩) 0 0) 0 []) := ⟨⟨rfl, .inr ⟨w.heap.size, 0, #[], rfl, Nat.le_refl _, heap_alloc_new w _, Nat.le_refl _, Nat.zero_le _, rfl, rfl⟩⟩⟩
  have CW : Aside0 (∀ (j : Nat) (x : Value), xs[j]? = some x → (w.alloc (.cells #[] 89)).cell? (a.add j) = some x) := ⟨fun j x hx => pw_cell_below (below_alloc (Below.refl _ _) _) (HC.out j x hx)⟩
  go_wp2_with (at_builtin; refine wpList_append_own_at _ rfl _ _ 86 rfl w.heap.size 89 i (.pointer none) 1 8 Try.underlying86 HI.out HZ.out HS.out HY.out rfl (by decide) (.slice (some ⟨w.heap.size, 0, none⟩) 0 0) 0 [] rfl OW.out a n c xs rfl (by rw [HL.out, Nat.mul_one]) CW.out H1.out (by unfold maxLen; omega) (by omega) (by simp) ?_; intro v7 w7 ho7 hg7 _ _; have O7 := Aside0.mk ho7; have G7 := Aside0.mk hg7; clear ho7 hg7)
  go_ret
  have B7 : Below w.heap.size w w7 := ((Chg.refl (fun k => some k = (Value.slice (some ⟨w.heap.size, 0, none⟩) 0 0).ownBlock) w).alloc _ |>.then_ (Chg.of_grown G7.out) (fun k _ h => h)).below (fun k hk he => by
    have : k = w.heap.size := Option.some.inj he
    omega)
  refine ⟨_, rfl, ?_, B7⟩
  have := O7.out
  rwa [Nat.zero_add, List.nil_append] at this
end Go.Proofs.Ytebbikihhkjaaaa.Hand
/- Take. -/
namespace Go.Proofs.Ytebbikihhkjaaaa.Hand
open Go.RowKit Go.Proofs.YtebbikihhkjaaaaW.PrintWords Go.Proofs.YtebbikihhkjaaaaW.PrintLast Go.Proofs.YtebbikihhkjaaaaW.PrintMore Go.Proofs.Ytebbikihhkjaaaa.PSpillBytes

theorem tot_cons (s : Sg) (ss : List Sg) : tot (s :: ss) = s.n + tot ss := by simp [tot]

/-- What is left of a log behind Take. -/
theorem log_taken {fr : Bool} {ok : Nat → Prop} {w w1 w2 w3 w4 : World} {l : Nat} {v v' : Value} {s : Sg} {ss : List Sg} (h : LogAt fr ok w l v (s :: ss)) (h1 : Chg (fun k => k = s.b) w w1) (h2 : Below w1.heap.size w1 w2) (h3 : Below w2.heap.size w2 w3)
    (ho : w3.ownsRow w2.heap.size 89 1 v' ss.length (ptrs ss)) (hr : Row88 w4 l v' (tot ss)) (h4 : Chg (fun k => k = l) w3 w4) :
    LogAt fr (fun k => ok k ∨ w.heap.size ≤ k) w4 l v' ss ∧ Chg (fun k => k = l ∨ k = s.b) w w4 := by
  have c3 : Chg (fun k => k = s.b) w w3 := (h1.trans (Chg.of_below h2)).trans (Chg.of_below h3)
  have c4 : Chg (fun k => k = l ∨ k = s.b) w w4 := (c3.mono (fun _ _ h => .inr h)).trans (h4.mono (fun _ _ h => .inl h))
  have hsz : w.heap.size ≤ w2.heap.size := Nat.le_trans h1.size h2.size
  have hs := h.segs s (by simp)
  have hne : ∀ {k : Nat}, v'.ownBlock = some k → w2.heap.size ≤ k := fun {k} hk => by
    rcases ho.2 with ⟨rfl, _⟩ | ⟨g, cap, cur, rfl, hg, _⟩
    · cases hk
    · have : g = k := Option.some.inj hk
      omega
  have hl := h.blk.lt
  have ap := List.pairwise_cons.1 h.apart
  refine ⟨⟨hr, .inl h.okl, ?_, fun k hk => .inr (Nat.le_trans hsz (hne hk)), fun t ht => ?_, ap.2⟩, c4⟩
  · have := Chg.own h4 (own_weaken ho (Nat.zero_le _)) (fun k hk e => by
      have := hne hk
      omega)
    exact this
  · have hT := h.segs t (List.mem_cons_of_mem _ ht)
    have a1 := ap.1 t ht
    have hblk : ∀ k, k < w.heap.size → k ≠ l → k ≠ s.b → w4.heap[k]? = w.heap[k]? := fun k hk n1 n2 => c4.block k hk (fun e => e.elim n1 n2)
    obtain ⟨curs, mks, hbs, _⟩ := hs.1.buf
    obtain ⟨curt, mkt, hbt, _⟩ := hT.1.buf
    have hgl : t.g ≠ l := fun e => by
      have x := hT.1.blk
      have y := h.blk
      rw [SegBlk, e] at x
      rw [Row88, x] at y
      injection y with y
      injection y with _ y _
      cases y
    have hgb : t.g ≠ s.b := fun e => by
      have x := hT.1.blk
      rw [SegBlk, e, hbs] at x
      injection x with x
      injection x with _ x _
      cases x
    have hbl : t.b ≠ l := fun e => by
      have y := h.blk
      rw [Row88, ← e, hbt] at y
      injection y with y
      injection y with _ y _
      cases y
    exact ⟨hT.1.step (hblk _ hT.1.glt hgl hgb) (hblk _ hT.1.blt hbl (fun e => a1.2 e.symm)), .inl hT.2.1, .inl hT.2.2⟩

set_option maxHeartbeats 2000000 in
set_option maxRecDepth 100000 in
theorem take_any {fr : Bool} {ok : Nat → Prop} (w : World) (l : Nat) (v : Value) (s : Sg) (ss : List Sg) (ns : List Nt) (h : LogAt fr ok w l v (s :: ss)) (hl : ss.length ≤ 100000) (hd : dAll s.bs = some ns) (hn : 0 < s.n) (ht : tot (s :: ss) ≤ 1000000) :
    Calls Try.prog 27 #[ptr l] w fun e w' => ∃ vo v', e = .returned (.tuple #[vo, .int .i64 0]) ∧ Kd.R k28 28 w' w.heap.size (fun _ => True) vo (ns.map toS) ∧ LogAt fr (fun k => ok k ∨ w.heap.size ≤ k) w' l v' ss ∧ Chg (fun k => k = l ∨ k = s.b) w w' := by
  obtain ⟨r, cap, rfl, hc0, hcap⟩ := row_cell h.row 0 s rfl
  have H := Aside0.mk h
  have HD := Aside0.mk hd
  have HT := Aside0.mk (tot_cons s ss)
  have f0 := h.blk.c0
  have f1 := h.blk.c1
  have z0 := h.blk.fz 0
  have z1 := h.blk.fz 1
  have g2 := (h.segs s (by simp)).1.blk.c2
  have hcs : Aside0 (∀ j x, (ptrs ss)[j]? = some x → w.cell? ⟨r, j + 1, none⟩ = some x) := ⟨fun j x hx => by
    simp only [ptrs, List.getElem?_map, Option.map_eq_some_iff] at hx
    obtain ⟨t, ht, rfl⟩ := hx
    obtain ⟨r', cap', e, hc, _⟩ := row_cell h.row (j + 1) t (by simpa using ht)
    injection e with e _ _
    injection e with e
    injection e with e _ _
    rw [e]
    exact hc⟩
  clear h hd
  obtain ⟨k, hk⟩ : ∃ k, k = ss.length := ⟨_, rfl⟩
  have e : (s :: ss).length = k + 1 := by rw [hk]; simp
  rw [e] at f0 hcap
  rw [← hk] at hl
  have HK := Aside0.mk hk
  obtain ⟨t, htt⟩ : ∃ t, t = tot ss := ⟨_, rfl⟩
  have HTT := Aside0.mk htt
  rw [tot_cons, ← htt] at f1 ht
  clear hk e htt
  have tz : ((((s.n + t : Nat) : Int)) == 0) = false := by
    rw [beq_eq_false_iff_ne]
    omega
  unfold ptr at hc0 ⊢
  go_enter Try.func27, Try.ntmps27
  go_wp2_with fail
  refine (string_any w s (H.out.segs s (by simp)).1).mono ?_
  rintro e w1 ⟨rfl, _, hc1⟩
  have C1 := Aside0.mk hc1
  have SM := Aside0.mk (H.out.segs s (by simp)).1.sm
  have HB : Aside0 (bytesOf (strOfNums s.bs) = s.bs) := ⟨bytesOf_str (H.out.segs s (by simp)).1.byt⟩
  have HD1 : Aside0 (decL (bytesOf (strOfNums s.bs)) = ns.map toS) := ⟨decL_some (by rw [HB.out]; exact HD.out)⟩
  have HD2 : Aside0 (decE (bytesOf (strOfNums s.bs)) = 0) := ⟨decE_some (ns := ns) (by rw [HB.out]; exact HD.out)⟩
  have hszS : (strOfNums s.bs).size ≤ 1000000 := by rw [strOfNums_size]; have := SM.out; omega
  clear hc1
  go_wp2_with fail
  refine (decode_any (strOfNums s.bs) _ hszS).mono ?_
  rintro e w2 ⟨vo, rfl, ho, hb⟩
  rw [HD2.out]
  rw [HD1.out] at ho
  have C2 := Aside0.mk (C1.out.trans (Chg.of_below hb))
  have B2 := Aside0.mk hb
  have RO := Aside0.mk (Kd.R_lower ho C1.out.size)
  have hgl : Aside0 (l ≠ s.b) := ⟨fun e => by
    obtain ⟨cur, mk, hbs, _⟩ := (H.out.segs s (by simp)).1.buf
    have y := H.out.blk
    rw [Row88, e, hbs] at y
    injection y with y
    injection y with _ y _
    cases y⟩
  have hsg : Aside0 (s.g ≠ s.b) := ⟨fun e => by
    obtain ⟨cur, mk, hbs, _⟩ := (H.out.segs s (by simp)).1.buf
    have y := (H.out.segs s (by simp)).1.blk
    rw [SegBlk, e, hbs] at y
    injection y with y
    injection y with _ y _
    cases y⟩
  have hrb : Aside0 (r ≠ s.b) := ⟨fun e => by
    obtain ⟨cur, mk, hbs, _⟩ := (H.out.segs s (by simp)).1.buf
    exact row_ne H.out.row hbs (by decide) (by rw [e]; rfl)⟩
  have K2 : Aside0 (Row88 w2 l (.slice (some ⟨r, 0, none⟩) (k + 1) cap) ((s.n + t : Nat) : Int)) := ⟨C2.out.blk (by have := H.out.blk; rw [tot_cons, ← HTT.out, List.length_cons, ← HK.out] at this; exact this) hgl.out⟩
  have G2 : Aside0 (w2.cell? ⟨s.g, 2, none⟩ = some (.int .i64 s.n)) := ⟨SegBlk.c2 (show SegBlk w2 s.g _ _ _ from C2.out.blk (H.out.segs s (by simp)).1.blk hsg.out)⟩
  obtain ⟨a, hif, hka⟩ : ∃ a, (if cap = 1 then some (⟨r, 0, none⟩ : Addr) else some ⟨r, 1, none⟩) = some a ∧ (k = 0 ∨ a = ⟨r, 1, none⟩) := by
    by_cases h1 : cap = 1
    · exact ⟨⟨r, 0, none⟩, if_pos h1, .inl (by omega)⟩
    · exact ⟨⟨r, 1, none⟩, if_neg h1, .inr rfl⟩
  have R2 : Aside0 (∀ j x, (ptrs ss)[j]? = some x → w2.cell? (a.add j) = some x) := ⟨fun j x hx => by
    rcases hka with h0 | rfl
    · have h2 := (List.getElem?_eq_some_iff.1 hx).1
      unfold ptrs at h2
      rw [List.length_map, ← HK.out] at h2
      omega
    have h1 := hcs.out j x hx
    have hlt := World.block_lt_of_cell? w _ h1
    have e := C2.out.block r hlt hrb.out
    have e2 : (⟨r, 1, none⟩ : Addr).add j = ⟨r, j + 1, none⟩ := by
      unfold Addr.add
      simp [Nat.add_comm]
    rw [e2]
    rw [← h1]
    simp only [World.cell?]
    rw [e]⟩
  have H1C : Aside0 (∀ x ∈ ptrs ss, x.oneCell' = true) := ⟨by
    intro x hx
    unfold ptrs at hx
    obtain ⟨y, _, rfl⟩ := List.mem_map.1 hx
    rfl⟩
  have hk6 : k ≤ 1000000 := by omega
  clear ho hb f0 f1 z0 z1 g2 hc0 hszS
  obtain ⟨Ao, no, co, rfl, _⟩ := R_open RO.out
  have f0 := K2.out.c0
  have f1 := K2.out.c1
  have z0 := K2.out.fz 0
  have z1 := K2.out.fz 1
  have g2 := G2.out
  go_wp2_with fail
  have PL : Aside0 ((ptrs ss).length = k) := ⟨by unfold ptrs; rw [List.length_map]; exact HK.out.symm⟩
  have b1 : (1 : Int) ≤ (k : Int) + 1 := by omega
  have b2 : (k : Int) + 1 ≤ (cap : Int) := by omega
  have b3 : (1 : Int) ≤ (cap : Int) := by omega
  have b4 : 1 ≤ cap := by omega
  refine start_ (n := 23) (S := fun w' => w'.cell? ⟨l, 0, none⟩ = some (.slice (some ⟨r, 0, none⟩) (k + 1) cap) ∧ w'.cell? ⟨l, 1, none⟩ = some (.int .i64 ((s.n : Int) + (t : Int))) ∧ w'.cell? ⟨s.g, 2, none⟩ = some (.int .i64 s.n)) (ds := [19, 22]) #[false, false, false, false, false, false, false, false, false, false, false, false, false, false, false, false, false, false, false, false, false, false, false] (by kernel_rfl) rfl rfl ⟨f0, f1, g2⟩ (fun hHeld => ?_)
  clear f0 f1 g2
  refine pure_ (i := 0) (N := some 30) (v := ?_) (a' := ?_) #[true, false, false, false, false, false, false, false, false, false, false, false, false, false, false, false, false, false, false, false, false, false, false] rfl rfl (by kernel_rfl) (fun _ _ _ h => h) (Or.inl ⟨by rfl, ?_⟩) ?_ ?_
  rotate_left
  · intro w'
    go_simp
    with_reducible rfl
  rotate_left
  · simp only [Act.put, List.setIfInBounds_toArray, List.set_cons_zero, List.set_cons_succ]
    rfl
  refine pure_ (i := 1) (N := some 31) (v := ?_) (a' := ?_) #[true, true, false, false, false, false, false, false, false, false, false, false, false, false, false, false, false, false, false, false, false, false, false] rfl rfl (by kernel_rfl) (fun _ _ _ h => h) (Or.inl ⟨by rfl, ?_⟩) ?_ ?_
  rotate_left
  · intro w'
    go_simp
    with_reducible rfl
  rotate_left
  · simp only [Act.put, List.setIfInBounds_toArray, List.set_cons_zero, List.set_cons_succ]
    rfl
  refine pure_ (i := 2) (N := some 32) (v := ?_) (a' := ?_) #[true, true, true, false, false, false, false, false, false, false, false, false, false, false, false, false, false, false, false, false, false, false, false] rfl rfl (by kernel_rfl) (fun _ _ _ h => h) (Or.inl ⟨by rfl, ?_⟩) ?_ ?_
  rotate_left
  · intro w'
    go_simp
    with_reducible rfl
  rotate_left
  · simp only [Act.put, List.setIfInBounds_toArray, List.set_cons_zero, List.set_cons_succ]
    rfl
  refine pure_ (i := 3) (N := some 33) (v := ?_) (a' := ?_) #[true, true, true, true, false, false, false, false, false, false, false, false, false, false, false, false, false, false, false, false, false, false, false] rfl rfl (by kernel_rfl) (fun _ _ _ h => h) (Or.inl ⟨by rfl, ?_⟩) ?_ ?_
  rotate_left
  · intro w'
    go_simp
    with_reducible rfl
  rotate_left
  · simp only [Act.put, List.setIfInBounds_toArray, List.set_cons_zero, List.set_cons_succ]
    rfl
  refine pure_ (i := 4) (N := some 34) (v := ?_) (a' := ?_) #[true, true, true, true, true, false, false, false, false, false, false, false, false, false, false, false, false, false, false, false, false, false, false] rfl rfl (by kernel_rfl) (fun _ _ _ h => h) (Or.inl ⟨by rfl, ?_⟩) ?_ ?_
  rotate_left
  · intro w'
    go_simp
    with_reducible rfl
  rotate_left
  · simp only [Act.put, List.setIfInBounds_toArray, List.set_cons_zero, List.set_cons_succ]
    rfl
  refine pure_ (i := 8) (N := some 38) (v := ?_) (a' := ?_) #[true, true, true, true, true, false, false, false, true, false, false, false, false, false, false, false, false, false, false, false, false, false, false] rfl rfl (by kernel_rfl) (fun _ _ _ h => h) (Or.inl ⟨by rfl, ?_⟩) ?_ ?_
  rotate_left
  · intro w'
    go_simp
    with_reducible rfl
  rotate_left
  · simp only [Act.put, List.setIfInBounds_toArray, List.set_cons_zero, List.set_cons_succ]
    rfl
  refine pure_ (i := 9) (N := some 39) (v := ?_) (a' := ?_) #[true, true, true, true, true, false, false, false, true, true, false, false, false, false, false, false, false, false, false, false, false, false, false] rfl rfl (by kernel_rfl) (fun _ _ _ h => h) (Or.inl ⟨by rfl, ?_⟩) ?_ ?_
  rotate_left
  · intro w'
    go_simp
    with_reducible rfl
  rotate_left
  · simp only [Act.put, List.setIfInBounds_toArray, List.set_cons_zero, List.set_cons_succ]
    rfl
  refine pure_ (i := 10) (N := some 40) (v := ?_) (a' := ?_) #[true, true, true, true, true, false, false, false, true, true, true, false, false, false, false, false, false, false, false, false, false, false, false] rfl rfl (by kernel_rfl) (fun _ _ _ h => h) (Or.inl ⟨by rfl, ?_⟩) ?_ ?_
  rotate_left
  · intro w'
    go_simp
    with_reducible rfl
  rotate_left
  · simp only [Act.put, List.setIfInBounds_toArray, List.set_cons_zero, List.set_cons_succ]
    rfl
  refine pure_ (i := 12) (N := some 42) (v := ?_) (a' := ?_) #[true, true, true, true, true, false, false, false, true, true, true, false, true, false, false, false, false, false, false, false, false, false, false] rfl rfl (by kernel_rfl) (fun _ _ _ h => h) (Or.inl ⟨by rfl, ?_⟩) ?_ ?_
  rotate_left
  · intro w'
    go_simp
    with_reducible rfl
  rotate_left
  · simp only [Act.put, List.setIfInBounds_toArray, List.set_cons_zero, List.set_cons_succ]
    rfl
  refine pure_ (i := 13) (N := some 43) (v := ?_) (a' := ?_) #[true, true, true, true, true, false, false, false, true, true, true, false, true, true, false, false, false, false, false, false, false, false, false] rfl rfl (by kernel_rfl) (fun _ _ _ h => h) (Or.inl ⟨by rfl, ?_⟩) ?_ ?_
  rotate_left
  · intro w'
    go_simp
    with_reducible rfl
  rotate_left
  · simp only [Act.put, List.setIfInBounds_toArray, List.set_cons_zero, List.set_cons_succ]
    rfl
  refine pure_ (i := 14) (N := some 44) (v := ?_) (a' := ?_) #[true, true, true, true, true, false, false, false, true, true, true, false, true, true, true, false, false, false, false, false, false, false, false] rfl rfl (by kernel_rfl) (fun _ _ _ h => h) (Or.inl ⟨by rfl, ?_⟩) ?_ ?_
  rotate_left
  · intro w'
    go_simp
    with_reducible rfl
  rotate_left
  · simp only [Act.put, List.setIfInBounds_toArray, List.set_cons_zero, List.set_cons_succ]
    rfl
  refine take_ (i := 5) (N := some 35) (v := ?_) (a' := ?_) #[true, true, true, true, true, true, false, false, true, true, true, false, true, true, true, false, false, false, false, false, false, false, false] rfl rfl (by kernel_rfl) (fun _ _ _ h => h) (Or.inl ⟨by rfl, ?_⟩) hHeld ?_ ?_
  rotate_left
  · rintro w' ⟨s0, s1, s2⟩
    go_simp
    with_reducible rfl
  rotate_left
  · simp only [Act.put, List.setIfInBounds_toArray, List.set_cons_zero, List.set_cons_succ]
    rfl
  refine take_ (i := 11) (N := some 41) (v := ?_) (a' := ?_) #[true, true, true, true, true, true, false, false, true, true, true, true, true, true, true, false, false, false, false, false, false, false, false] rfl rfl (by kernel_rfl) (fun _ _ _ h => h) (Or.inl ⟨by rfl, ?_⟩) hHeld ?_ ?_
  rotate_left
  · rintro w' ⟨s0, s1, s2⟩
    go_simp
    with_reducible rfl
  rotate_left
  · simp only [Act.put, List.setIfInBounds_toArray, List.set_cons_zero, List.set_cons_succ]
    rfl
  refine take_ (i := 15) (N := some 45) (v := ?_) (a' := ?_) #[true, true, true, true, true, true, false, false, true, true, true, true, true, true, true, true, false, false, false, false, false, false, false] rfl rfl (by kernel_rfl) (fun _ _ _ h => h) (Or.inl ⟨by rfl, ?_⟩) hHeld ?_ ?_
  rotate_left
  · rintro w' ⟨s0, s1, s2⟩
    go_simp
    with_reducible rfl
  rotate_left
  · simp only [Act.put, List.setIfInBounds_toArray, List.set_cons_zero, List.set_cons_succ]
    rfl
  refine pure_ (i := 16) (N := some 46) (v := ?_) (a' := ?_) #[true, true, true, true, true, true, false, false, true, true, true, true, true, true, true, true, true, false, false, false, false, false, false] rfl rfl (by kernel_rfl) (fun _ _ _ h => h) (Or.inl ⟨by rfl, ?_⟩) ?_ ?_
  rotate_left
  · intro w'
    go_simp
    with_reducible rfl
  rotate_left
  · simp only [Act.put, List.setIfInBounds_toArray, List.set_cons_zero, List.set_cons_succ]
    rfl
  refine pure_ (i := 6) (N := some 36) (v := ?_) (a' := ?_) #[true, true, true, true, true, true, true, false, true, true, true, true, true, true, true, true, true, false, false, false, false, false, false] rfl rfl (by kernel_rfl) (fun _ _ _ h => h) (Or.inl ⟨by rfl, ?_⟩) ?_ ?_
  rotate_left
  · intro w'
    go_simp
    with_reducible rfl
  rotate_left
  · simp only [Act.put, List.setIfInBounds_toArray, List.set_cons_zero, List.set_cons_succ]
    rfl
  refine one_ (i := 7) (N := some 37) #[true, true, true, true, true, true, true, true, true, true, true, true, true, true, true, true, true, false, false, false, false, false, false] rfl rfl (by kernel_rfl) (by decide) (fun K hK => ?_)
  refine goes_ Try.func43 (by kernel_rfl) rfl #[.slice (some a) k (cap - 1)] (by rfl) rfl rfl (by (try simp only [List.map_toArray, List.map_cons, List.map_nil]); first | done | rfl) ?_
  have CL : Aside0 (Calls Try.prog 43 #[.slice (some a) k (cap - 1)] w2.drew fun e w' => ∃ v', e = .returned v' ∧ w'.ownsRow w2.heap.size 89 1 v' k (ptrs ss) ∧ Below w2.heap.size w2 w') := ⟨(clone_any w2.drew a k (cap - 1) (ptrs ss) PL.out hk6 R2.out H1C.out).mono (fun e w' ⟨v', h1, h2, h3⟩ => ⟨v', h1, h2, below_then (below_drew (Below.refl _ _)) (Nat.le_refl _) h3⟩)⟩
  with_reducible refine CL.out.mono ?_
  rintro e w3 ⟨v3, rfl, ho3, hb3⟩
  have B3 : Aside0 (Below w2.heap.size w2 w3) := ⟨hb3⟩
  have O3 := Aside0.mk ho3
  have K3 : Aside0 (Row88 w3 l (.slice (some ⟨r, 0, none⟩) (k + 1) cap) ((s.n + t : Nat) : Int)) := ⟨(hb3.block l K2.out.lt).trans K2.out⟩
  obtain ⟨A3, c3, rfl, _⟩ := own_slice ho3
  refine ⟨_, rfl, ?_⟩
  refine hK.out _ _ ⟨K3.out.c0, K3.out.c1, pw_cell_below hb3 G2.out⟩ (fun hHeld => ?_)
  clear hK K ho3 hb3
  refine norm_ (a' := ?_) ?_ ?_
  rotate_left
  · show Act.put _ (some 37) _ = _
    simp only [Act.put, List.setIfInBounds_toArray, List.set_cons_zero, List.set_cons_succ]
    rfl
  refine pure_ (i := 17) (N := some 47) (v := ?_) (a' := ?_) #[true, true, true, true, true, true, true, true, true, true, true, true, true, true, true, true, true, true, false, false, false, false, false] rfl rfl (by kernel_rfl) (fun _ _ _ h => h) (Or.inl ⟨by rfl, ?_⟩) ?_ ?_
  rotate_left
  · intro w'
    go_simp
    with_reducible rfl
  rotate_left
  · simp only [Act.put, List.setIfInBounds_toArray, List.set_cons_zero, List.set_cons_succ]
    rfl
  refine pure_ (i := 18) (N := some 48) (v := ?_) (a' := ?_) #[true, true, true, true, true, true, true, true, true, true, true, true, true, true, true, true, true, true, true, false, false, false, false] rfl rfl (by kernel_rfl) (fun _ _ _ h => h) (Or.inl ⟨by rfl, ?_⟩) ?_ ?_
  rotate_left
  · intro w'
    go_simp
    with_reducible rfl
  rotate_left
  · simp only [Act.put, List.setIfInBounds_toArray, List.set_cons_zero, List.set_cons_succ]
    rfl
  refine last_ (i := 19) (N := none) #[true, true, true, true, true, true, true, true, true, true, true, true, true, true, true, true, true, true, true, true, false, false, false] rfl rfl (by kernel_rfl) (by decide) (fun K hK => ?_)
  have h0 : w3.cell? ⟨l, 0, none⟩ = some (.slice (some ⟨r, 0, none⟩) (k + 1) cap) := K3.out.c0
  have h1 := K3.out.fz 0
  refine skip_ (w1 := ?_) (by rfl) rfl ?_ ?_
  rotate_left
  · go_simp
    rfl
  refine hK.out _ _ ?_
  clear hK K h0 h1
  refine pure_ (i := 20) (N := some 49) (v := ?_) (a' := ?_) #[true, true, true, true, true, true, true, true, true, true, true, true, true, true, true, true, true, true, true, true, true, false, false] rfl rfl (by kernel_rfl) (fun _ _ _ h => h) (Or.inl ⟨by rfl, ?_⟩) ?_ ?_
  rotate_left
  · intro w'
    go_simp
    with_reducible rfl
  rotate_left
  · simp only [Act.put, List.setIfInBounds_toArray, List.set_cons_zero, List.set_cons_succ]
    rfl
  refine pure_ (i := 21) (N := some 50) (v := ?_) (a' := ?_) #[true, true, true, true, true, true, true, true, true, true, true, true, true, true, true, true, true, true, true, true, true, true, false] rfl rfl (by kernel_rfl) (fun _ _ _ h => h) (Or.inl ⟨by rfl, ?_⟩) ?_ ?_
  rotate_left
  · intro w'
    go_simp
    with_reducible rfl
  rotate_left
  · simp only [Act.put, List.setIfInBounds_toArray, List.set_cons_zero, List.set_cons_succ]
    rfl
  refine last_ (i := 22) (N := none) #[true, true, true, true, true, true, true, true, true, true, true, true, true, true, true, true, true, true, true, true, true, true, true] rfl rfl (by kernel_rfl) (by decide) (fun K hK => ?_)
  have K4 : Aside0 (Row88 (w3.setCell ⟨l, 0, none⟩ (.slice A3 k c3)) l (.slice A3 k c3) ((s.n + t : Nat) : Int)) := ⟨K3.out.set0 _⟩
  have h0 := K4.out.c1
  have h1 := K4.out.fz 1
  refine skip_ (w1 := ?_) (by rfl) rfl ?_ ?_
  rotate_left
  · go_simp
    rfl
  refine hK.out _ _ ?_
  clear hK K h0 h1
  refine done_ (by kernel_rfl) ?_
  clear z0 z1
  go_wp2_with fail
  have hw : IntKind.i64.wrap ((s.n : Int) + (t : Int) - (s.n : Int)) = (t : Int) := by
    rw [IntKind.wrap_i64]
    omega
  rw [hw]
  go_ret2
  have R4 : Row88 ((w3.setCell ⟨l, 0, none⟩ (.slice A3 k c3)).setCell ⟨l, 1, none⟩ (.int .i64 (t : Int))) l (.slice A3 k c3) (tot ss) := by
    rw [← HTT.out]
    exact K4.out.set1 _
  have C4 : Chg (fun k => k = l) w3 ((w3.setCell ⟨l, 0, none⟩ (.slice A3 k c3)).setCell ⟨l, 1, none⟩ (.int .i64 (t : Int))) := Chg.setCell (S := fun k => k = l) (Chg.setCell (S := fun k => k = l) (Chg.refl _ _) (p := ⟨l, 0, none⟩) (.inl rfl) _) (p := ⟨l, 1, none⟩) (.inl rfl) _
  have C5 := (Chg.of_below (S := fun k => k = l) B3.out).trans C4
  refine ⟨_, _, rfl, ?_, log_taken H.out C1.out B2.out B3.out (by rw [← HK.out]; exact O3.out) R4 C4⟩
  refine Kd.R_mono (Kd.R_step (Kd.R_bound RO.out) (fun q hq hlt => C5.block q hlt (fun e => ?_))) (fun _ _ => trivial)
  have := H.out.blk.lt
  have h2 := hq.2.1
  omega
end Go.Proofs.Ytebbikihhkjaaaa.Hand
/- Take and Drop where there is nothing; Take of an empty log. -/
namespace Go.Proofs.Ytebbikihhkjaaaa.Hand
open Go.RowKit Go.Proofs.YtebbikihhkjaaaaW.PrintWords Go.Proofs.YtebbikihhkjaaaaW.PrintMore

set_option maxHeartbeats 400000 in
set_option maxRecDepth 100000 in
theorem take_nil (w : World) : Calls Try.prog 27 #[.pointer none] w fun e w' => e = .returned (.tuple #[.slice none 0 0, .int .i64 1]) ∧ w = w' := by
  go_enter Try.func27, Try.ntmps27
  go_wp2
  go_ret2
  exact ⟨rfl, rfl⟩
set_option maxHeartbeats 400000 in
set_option maxRecDepth 100000 in
theorem drop_nil (w : World) (b : Int) : Calls Try.prog 28 #[.pointer none, .int .i64 b] w fun e w' => e = .returned (.tuple #[.slice none 0 0, .int .i64 1]) ∧ w = w' := by
  go_enter Try.func28, Try.ntmps28
  go_wp2
  go_ret2
  exact ⟨rfl, rfl⟩
set_option maxHeartbeats 400000 in
set_option maxRecDepth 100000 in
theorem take_none {fr : Bool} {ok : Nat → Prop} (w : World) (l : Nat) (v : Value) (h : LogAt fr ok w l v []) : Calls Try.prog 27 #[ptr l] w fun e w' => e = .returned (.tuple #[.slice none 0 0, .int .i64 11]) ∧ w = w' := by
  have f1 : w.cell? ⟨l, 1, none⟩ = some (.int .i64 0) := h.blk.c1
  clear h
  unfold ptr
  go_enter Try.func27, Try.ntmps27
  go_wp2
  go_ret2
  exact ⟨rfl, rfl⟩
end Go.Proofs.Ytebbikihhkjaaaa.Hand
