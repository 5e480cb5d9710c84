/- Save. -/
import Derived.Test.YtebbikihhkjaaaaHolds
namespace Go.Proofs.Ytebbikihhkjaaaa.Hand
open Go.RowKit Go.Proofs.YtebbikihhkjaaaaW.PrintWords Go.Proofs.YtebbikihhkjaaaaW.PrintMore Go.Proofs.Ytebbikihhkjaaaa.PSpillBytes

/-- append(bytes, string), as one step of a region. -/
theorem append_string_step {P : Program} {w : World} {ops : Array Oper} {o : Oper} {a : Act} {Kc : Act → World → Prop} {Q : Exit → Act → World → Prop} (hw : Region.wanted o (yielded ops a.tmps) = true) (sl x : Operand) (t u : TypeId)
    (ho : o.op = .call { callee := .builtin .append, args := #[sl, x], argTypes := #[t, u] })
    (base : Nat) (e : TypeId) (ht : P.underlying t = some (.slice e)) (hu : P.underlying u = some .string) (hinfo : (P.info? e).map (fun i => (i.zero, i.size, i.bytes)) = some (some (.int .u8 0), 1, 1))
    (v : Value) (n : Nat) (xs : List Value) (hs : a.eval sl = v) (hown : w.ownsRow base e 1 v n xs) (s : ByteArray) (hx : a.eval x = .string s)
    (hbytes : n + s.size ≤ 140737488355328) (hbase : base ≤ w.heap.size)
    (h : ∀ v' w', w'.ownsRow base e 1 v' (n + s.size) (xs ++ Lib.strCells s) → w.grownBy w' v.ownBlock → (v'.ownBlock = v.ownBlock ∨ v'.ownBlock = some w.heap.size) → Kc (a.put o.dst v') w') :
    if Region.wanted o (yielded ops a.tmps) = true then Oper.wp P o a w Kc Q else Kc (a.put o.dst undef) w := by
  obtain ⟨i, hi, hzz⟩ := Option.map_eq_some_iff.1 hinfo
  simp only [Prod.mk.injEq] at hzz
  obtain ⟨hz, hsize, hby⟩ := hzz
  have h63 : n + s.size ≤ maxLen := by simp only [maxLen]; omega
  obtain ⟨v', w', hr, h2, h3, _⟩ := Lib.run_append_own_string (P := P) w base t u o.type e i ht hu hi hz hsize hby v n xs hown s h63 hbytes hbase
  have h4 := append_string_at (P := P) w t u o.type e i ht hu hi hz hsize hby base v n xs hown s h63 hbytes v' w' hr
  rw [if_pos hw]
  unfold Oper.wp execOp
  simp only [ho, resolve, invoke, builtin, Sem.run_bind, Sem.run_pure, Result.andThen_ok, List.map_toArray, List.map_cons, List.map_nil, hs, hx, hr]
  exact h v' w' h2 h3 h4

theorem cut_world (w : World) (n : Nat) (hn : n ≤ w.heap.size) : ∃ w0 : World, w0.heap.size = n ∧ Below n w0 w := by
  refine ⟨{ w with heap := w.heap.extract 0 n }, by simp; omega, rfl, rfl, rfl, by simp; omega, fun k hk => ?_⟩
  rw [Array.getElem?_extract]
  simp
  intro h
  omega
abbrev Bt (w : World) (base : Nat) (v : Value) (l : List Int) : Prop := Kd.R (Kd.int .u8) 5 w base (fun k => base ≤ k) v l
theorem put_grow (n base : Nat) (v : Value) (l : List Int) (w : World) (hb : base ≤ w.heap.size) (ho : Bt w base v l) (hn : n < 18446744073709551616) (hl : l.length + 10 ≤ 140737488355328) :
    Calls Try.prog 34 #[v, .int .u64 (n : Int)] w fun e w' => ∃ v0 : Value, e = .returned v0 ∧ Bt w' base v0 (l ++ vb n) ∧ Chg (fun k => base ≤ k) w w' := by
  obtain ⟨w0, rfl, hB⟩ := cut_world w base hb
  refine (put_any n _ v l w0 w hB ho hn hl).mono ?_
  rintro e w' ⟨v0, rfl, h1, h2, h3⟩
  refine ⟨v0, rfl, Kd.R_mono h1 (fun k hk => hk.elim id (fun h => Nat.le_trans hb h)), ⟨h2.os.trans hB.os.symm, h2.tape.trans hB.tape.symm, h2.output.trans hB.output.symm, h3.1, fun k hk hs => h3.2 k hk hs⟩⟩
theorem bt_move {w w1 : World} {base b : Nat} {v : Value} {l : List Int} (h : Bt w base v l) (hc : Chg (fun k => k = b) w w1) (hb : b < base) : Bt w1 base v l :=
  Kd.R_step h (fun k hk hlt => hc.block k hlt (fun e => by omega))
theorem bt_of_own {w : World} {base : Nat} {v : Value} {xs bs : List Int} (h : w.ownsRow base 5 1 v (xs.length + bs.length) (encs (Value.int .u8) xs ++ nums .u8 bs)) : Bt w base v (xs ++ bs) := by
  have e : encs (Value.int .u8) xs ++ nums .u8 bs = encs (Value.int .u8) (xs ++ bs) := by rw [encs_append]; rfl
  rw [e, ← List.length_append] at h
  exact Kd.R_of_own h (fun k hk => own_base h k hk)
def saveB (bss : List (List Int)) : List Int := bss.flatMap fun bs => vb bs.length ++ bs
theorem saveB_take (bss : List (List Int)) (k : Nat) (bs : List Int) (h : bss[k]? = some bs) : saveB (bss.take (k + 1)) = (saveB (bss.take k) ++ vb bs.length) ++ bs := by
  unfold saveB
  rw [List.take_add_one, h]
  simp
theorem saveB_len {bss : List (List Int)} (h : ∀ b ∈ bss, b.length ≤ 8222) : (saveB bss).length ≤ 8232 * bss.length := by
  induction bss with
  | nil => simp [saveB]
  | cons b bss ih =>
    have e : saveB (b :: bss) = (vb b.length ++ b) ++ saveB bss := by simp [saveB]
    have h1 := h b List.mem_cons_self
    have h2 := vb_len10 (n := b.length) (by omega)
    have h3 := ih (fun x hx => h x (List.mem_cons_of_mem _ hx))
    rw [e, List.length_append, List.length_append, List.length_cons]
    omega
/-- A log stays one where a buffer of its own is frozen. -/
theorem log_frozen {ok : Nat → Prop} {w w1 : World} {l : Nat} {v : Value} {ss : List Sg} {s : Sg} (h : LogAt true ok w l v ss) (hs : s ∈ ss) (h1 : SgAt true w1 s) (hc : Chg (fun k => k = s.b) w w1) : LogAt true ok w1 l v ss := by
  obtain ⟨cur, mk, hb, _⟩ := (h.segs s hs).1.buf
  have ne88 : ∀ {g t : Nat} {cs : Array Value} {m : Nat × Nat}, w.heap[g]? = some (.cells cs t m) → t ≠ 5 → g ≠ s.b := fun {g t cs m} hg ht e => by
    rw [e, hb] at hg
    injection hg with hg
    injection hg with _ hg _
    exact ht hg.symm
  refine ⟨hc.blk h.blk (ne88 h.blk (by decide)), h.okl, hc.own h.row (fun k hk e => ?_), h.okv, fun t ht => ⟨?_, (h.segs t ht).2⟩, h.apart⟩
  · obtain ⟨c, hk2⟩ := own_typed h.row k hk
    exact ne88 hk2 (by decide) e
  · by_cases e : t = s
    · rw [e]; exact h1
    · have hne : t.b ≠ s.b := by
        obtain ⟨l1, l2, hsp⟩ := List.append_of_mem hs
        have hp := h.apart
        rw [hsp, List.pairwise_append] at hp
        rw [hsp] at ht
        rcases List.mem_append.1 ht with h3 | h3
        · exact (hp.2.2 t h3 s (by simp)).2
        · rcases List.mem_cons.1 h3 with h3 | h3
          · exact absurd h3 e
          · exact fun e2 => ((List.pairwise_cons.1 hp.2.1).1 t h3).2 e2.symm
      have hT := (h.segs t ht).1
      exact hT.step (hc.block _ hT.glt (ne88 hT.blk (by decide))) (hc.block _ hT.blt hne)

set_option maxHeartbeats 1000000 in
set_option maxRecDepth 100000 in
theorem save_any {ok : Nat → Prop} (w : World) (l : Nat) (v : Value) (ss : List Sg) (h : LogAt true ok w l v ss) (hl : ss.length ≤ 90000) :
    Calls Try.prog 20 #[ptr l] w fun e w' => e = .returned (.string (strOfNums (saveB (ss.map Sg.bs)))) ∧ LogAt true ok w' l v ss ∧ Chg (fun k => ∃ s ∈ ss, k = s.b) w w' := by
  obtain ⟨A, c, rfl, _⟩ := own_slice h.row
  have H := Aside0.mk h.bound
  have f0 := h.blk.c0
  obtain ⟨m, hm⟩ : ∃ m, m = ss.length := ⟨_, rfl⟩
  rw [← hm] at f0 H hl
  have HM := Aside0.mk hm
  clear h hm
  unfold ptr
  go_enter Try.func20, Try.ntmps20
  go_wp2_with fail
  clear f0
  go_loopw [3, 13] (fun v3 i wr => ∃ (k : Nat) (A3 : Option Addr) (n3 c3 : Nat), k ≤ m ∧ v3 = .slice A3 n3 c3 ∧ i = .int .i64 k ∧ Aside0 (Bt wr w.heap.size (.slice A3 n3 c3) (saveB ((ss.map Sg.bs).take k))) ∧ Aside0 (LogAt true (fun k => ok k ∧ k < w.heap.size) wr l (.slice A m c) ss) ∧ Aside0 (Chg (fun k => ∃ s ∈ ss, k = s.b) w wr)) (fun _ i _ => m - (intOf i).toNat)
  case atStart => exact ⟨0, none, 0, 0, Nat.zero_le _, rfl, rfl, ⟨Kd.R_nil _ _ _ _ _⟩, H, ⟨Chg.refl _ _⟩⟩
  case round =>
    obtain ⟨k, A3, n3, c3, hk, rfl, rfl, O3, L3, C3⟩ := hrel
    by_cases hlt : k < m
    · have hlt2 : k < ss.length := by have := HM.out; omega
      obtain ⟨s, hs⟩ : ∃ s, ss[k]? = some s := ⟨ss[k], List.getElem?_eq_getElem hlt2⟩
      have hmem : s ∈ ss := List.mem_of_getElem? hs
      have SMem := Aside0.mk hmem
      obtain ⟨r, cap, e, hcell, hcap⟩ := row_cell L3.out.row k s hs
      injection e with e1 e2 e3
      subst e1
      have TK : Aside0 (saveB ((ss.map Sg.bs).take (k + 1)) = (saveB ((ss.map Sg.bs).take k) ++ vb s.bs.length) ++ s.bs) := ⟨saveB_take _ k s.bs (by rw [List.getElem?_map, hs]; rfl)⟩
      have SM := Aside0.mk (L3.out.segs s hmem).1.sm
      have SB := Aside0.mk (L3.out.segs s hmem).2.2.2
      have SBY := Aside0.mk (L3.out.segs s hmem).1.byt
      have hlen : (saveB ((ss.map Sg.bs).take k)).length ≤ 8232 * 90000 := by
        have h1 := saveB_len (bss := (ss.map Sg.bs).take k) (fun b hb => by
          obtain ⟨t, ht, rfl⟩ := List.mem_map.1 (List.mem_of_mem_take hb)
          exact (L3.out.segs t ht).1.sm)
        have h2 : ((ss.map Sg.bs).take k).length ≤ 90000 := by rw [List.length_take]; omega
        omega
      have HLN := Aside0.mk hlen
      have hconv : IntKind.u64.wrap (s.bs.length : Int) = (s.bs.length : Int) := by
        have := SM.out
        rw [wrap_u64_id (by omega) (by omega)]
      unfold ptr at hcell
      clear hs hmem hlen hlt2 e2 e3 hcap
      go_wp2_with fail
      clear hcell
      obtain ⟨acc, hacc⟩ : ∃ x, x = saveB ((ss.map Sg.bs).take k) := ⟨_, rfl⟩
      rw [← hacc] at O3 HLN TK
      clear hacc
      have HE : Aside0 (Lib.strCells (strOfNums s.bs) = nums .u8 s.bs) := ⟨by
        have : Lib.strCells (strOfNums s.bs) = nums .u8 (bytesOf (strOfNums s.bs)) := by simp [nums, bytesOf, Lib.strCells]
        rw [this, bytesOf_str SBY.out]⟩
      have ESZ : Aside0 ((strOfNums s.bs).size = s.bs.length) := ⟨strOfNums_size _⟩
      have VL : Aside0 ((vb s.bs.length).length ≤ 10) := ⟨vb_len10 (by have := SM.out; omega)⟩
      have WS : Aside0 (w.heap.size ≤ wr.heap.size) := ⟨C3.out.size⟩
      go_region_held3 (fun w' => Aside0 (LogAt true (fun k => ok k ∧ k < w.heap.size) w' l (.slice (some ⟨r, 0, none⟩) m c) ss) ∧ Aside0 (w.heap.size ≤ w'.heap.size) ∧ Aside0 (Chg (fun k => (∃ s ∈ ss, k = s.b) ∨ w.heap.size ≤ k) wr w'))
        (first
          | exact ⟨⟨L3.out.below (below_drew (Below.refl _ _))⟩, WS, ⟨(Chg.refl _ _).drew⟩⟩
          | (go_split_ands; exact ⟨by assumption, by assumption, by assumption⟩))
        (first
          | (go_at_call 40; go_split_ands; rename_i q1 q2 q3; refine (bLen_any s.g s.bs.length s.cap _ _ _ _ (q1.out.segs s SMem.out).1.blk (by have := SM.out; omega)).mono ?_; rintro e w' ⟨rfl, rfl⟩)
          | (go_at_call 41; go_split_ands; rename_i q1 q2 q3; refine (string_any _ s (q1.out.segs s SMem.out).1).mono ?_; rintro e w41 ⟨rfl, hs41, hg41⟩; (have n1 := Aside0.mk (log_frozen q1.out SMem.out hs41 hg41)); (have n2 := Aside0.mk (Nat.le_trans q2.out hg41.size)); (have n3 := Aside0.mk (q3.out.trans (hg41.mono (fun k _ e => .inl ⟨s, SMem.out, e⟩)))); (have C41 := Aside0.mk hg41); clear hs41 hg41 q1 q2 q3)
          | (go_at_call 34; go_split_ands; rename_i q1 q2 q3; refine (put_grow s.bs.length w.heap.size (.slice A3 n3 c3) acc _ q2.out (by first | exact Kd.R_drew O3.out | exact bt_move (Kd.R_drew O3.out) C41.out SB.out) (by have := SM.out; omega) (by have := HLN.out; omega)).mono ?_; rintro e w' ⟨v4, rfl, hr34, hg34⟩; (have n1 := Aside0.mk (q1.out.chg hg34 (fun k hk ho hs => by have := ho.2; omega))); (have n2 := Aside0.mk (Nat.le_trans q2.out hg34.size)); (have n3 := Aside0.mk (q3.out.trans (hg34.mono (fun k _ e => .inr e)))); (have R34 := Aside0.mk hr34); clear hr34 hg34 q1 q2 q3)
          | (go_split_ands; rename_i q1 q2 q3; have RX : Aside0 (Bt w41 w.heap.size v4 (acc ++ vb s.bs.length)) := ⟨bt_move R34.out C41.out SB.out⟩; refine append_string_step (by rfl) (.tmp 23) (.tmp 27) 82 9 rfl w.heap.size 5 Try.underlying82 Try.underlying9 info5 v4 (acc ++ vb s.bs.length).length (encs (Value.int .u8) (acc ++ vb s.bs.length)) rfl (Kd.own_of_R RX.out) (strOfNums s.bs) rfl (by have := HLN.out; have := SM.out; have := VL.out; rw [ESZ.out, List.length_append]; omega) q2.out ?_; intro v5 w5 ho5 hg5 _; (have c5 := (Chg.of_grown hg5).mono (S1 := fun k => w.heap.size ≤ k) (fun k _ e => RX.out.1 k e.symm)); (have n1 := Aside0.mk (q1.out.chg c5 (fun k hk ho hs => by have := ho.2; omega))); (have n2 := Aside0.mk (Nat.le_trans q2.out c5.size)); (have n3 := Aside0.mk (q3.out.trans (c5.mono (fun k _ e => .inr e)))); (have R5 : Aside0 (Bt w5 w.heap.size v5 (acc ++ vb s.bs.length ++ s.bs)) := ⟨bt_of_own (by rw [HE.out, ESZ.out] at ho5; exact ho5)⟩); clear ho5 hg5 c5 q1 q2 q3 RX))
      go_split_ands
      rename_i q1 q2 q3
      have L5 := Aside0.mk q1.out
      have C5 : Aside0 (Chg (fun k => ∃ s ∈ ss, k = s.b) w _) := ⟨C3.out.then_ q3.out (fun k hk h => h.elim id (fun h => by omega))⟩
      obtain ⟨A5, n5, c5, rfl, _⟩ := R_open R5.out
      clear q1 q2 q3
      go_wp2
      go_roundw
      case measure => simp [intOf]; omega
      case rel =>
        refine ⟨k + 1, A5, n5, c5, by omega, rfl, by go_num, ⟨?_⟩, L5, C5⟩
        rw [TK.out]
        exact R5.out
    · obtain rfl : k = m := by omega
      have e0 : (ss.map Sg.bs).take k = ss.map Sg.bs := by
        refine List.take_of_length_le ?_
        rw [List.length_map, HM.out]
        exact Nat.le_refl _
      rw [e0] at O3
      obtain ⟨e7, _, hC⟩ := Kd.R_reads' O3.out
      rw [← e7] at hC
      have hcv := Kd.C_string (c := c3) Try.underlying82 Try.underlying5 Try.underlying9 hC
      clear hC e7 e0
      go_wp2
      go_ret
      exact ⟨rfl, by rw [← HM.out]; exact L3.out.mono (fun _ _ h => h.1), C3.out⟩
end Go.Proofs.Ytebbikihhkjaaaa.Hand
/- reader.bytes: a segment's bytes. -/
namespace Go.Proofs.Ytebbikihhkjaaaa.Hand
open Go.RowKit Go.Proofs.YtebbikihhkjaaaaW.PrintWords Go.Proofs.YtebbikihhkjaaaaW.PrintMore Go.Proofs.Ytebbikihhkjaaaa.PSpillBytes
theorem str_take (r : List Int) (n : Nat) : (strOfNums r).extract 0 n = strOfNums (r.take n) := by
  apply ByteArray.ext
  apply Array.ext'
  simp [strOfNums, List.map_take]
theorem str_drop (r : List Int) (n : Nat) : (strOfNums r).extract n r.length = strOfNums (r.drop n) := by
  apply ByteArray.ext
  apply Array.ext'
  simp [strOfNums, List.map_drop]
  rw [List.take_of_length_le]
  simp
theorem chg_but {w0 w w1 : World} {g : Nat} (hB : Below w0.heap.size w0 w) (hB1 : Below w0.heap.size w0 w1) (hk : KeepBut w w1 g none) : Chg (fun k => k = g) w w1 :=
  ⟨hB1.os.trans hB.os.symm, hB1.tape.trans hB.tape.symm, hB1.output.trans hB.output.symm, hk.1, fun k hlt hn => hk.2 k hlt hn (by simp)⟩

set_option maxHeartbeats 1000000 in
set_option maxRecDepth 100000 in
theorem bytes_yes (w0 w : World) (g n : Nat) (s : ByteArray) (r : List Int) (hI : IsS76 w0 w g s false) (hB : Below w0.heap.size w0 w) (hd : dv 0 0 (bytesOf s) = some (n, r)) (hn : n ≤ r.length) (hl : s.size ≤ 1000000) :
    Calls Try.prog 42 #[.pointer (some ⟨g, 0, none⟩)] w fun e w' => e = .returned (.string (strOfNums (r.take n))) ∧ IsS76 w0 w' g (strOfNums (r.drop n)) false ∧ Below w0.heap.size w0 w' ∧ Chg (fun k => k = g) w w' := by
  have hr := dv_len hd
  rw [bytesOf_length] at hr
  obtain ⟨s1, hf, hs1⟩ := number_yes 34 false (by omega) hd
  have e1 : s1 = strOfNums r := by rw [← hs1, str_bytesOf]
  subst e1
  have HF := Aside0.mk hf
  have I := Aside0.mk hI
  have B := Aside0.mk hB
  clear hf hI hB hd hs1
  go_enter Try.func42, Try.ntmps42
  go_wp2_with fail
  refine (spill_reader_number.calls 34 g s false _ _ _ w0 w I.out B.out HF.out).mono ?_
  rintro e w1 ⟨rfl, hi1, hb1, hk1⟩
  have I1 := Aside0.mk hi1
  have B1 := Aside0.mk hb1
  have C1 := Aside0.mk (chg_but B.out hb1 hk1)
  clear hi1 hb1 hk1
  have f0 : w1.cell? ⟨g, 0, none⟩ = some (.string (strOfNums r)) := (blk_c I1.out.1 0).trans rfl
  have f1 : w1.cell? ⟨g, 1, none⟩ = some (.bool false) := (blk_c I1.out.1 1).trans rfl
  have z0 := blk_f I1.out.1 0
  have hsz : (strOfNums r).size = r.length := strOfNums_size r
  have hconv : IntKind.u64.wrap (r.length : Int) = (r.length : Int) := by rw [wrap_u64_id (by omega) (by omega)]
  have d1 : decide ((r.length : Int) < (n : Int)) = false := decide_eq_false (by omega)
  have d2 : decide (r.length < n) = false := decide_eq_false (by omega)
  have b1 : (0 : Int) ≤ (n : Int) := by omega
  have b2 : (n : Int) ≤ (r.length : Int) := by omega
  go_wp2_with fail
  rw [str_take, str_drop]
  go_ret
  exact ⟨rfl, I1.out.set_0 _, Below.setCell B1.out (IsS76.ge I1.out) _, C1.out.trans (Chg.setCell (S := fun k => k = g) (Chg.refl _ _) (p := ⟨g, 0, none⟩) (.inl rfl) _)⟩

set_option maxHeartbeats 1000000 in
set_option maxRecDepth 100000 in
theorem bytes_bad (w0 w : World) (g : Nat) (s : ByteArray) (hI : IsS76 w0 w g s false) (hB : Below w0.heap.size w0 w) (hd : dv 0 0 (bytesOf s) = none) :
    Calls Try.prog 42 #[.pointer (some ⟨g, 0, none⟩)] w fun e w' => ∃ s1, e = .returned (.string ⟨#[]⟩) ∧ IsS76 w0 w' g s1 true ∧ Below w0.heap.size w0 w' ∧ Chg (fun k => k = g) w w' := by
  obtain ⟨s1, hf, _⟩ := number_no 34 false (by omega) hd
  have HF := Aside0.mk hf
  have I := Aside0.mk hI
  have B := Aside0.mk hB
  clear hf hI hB hd
  go_enter Try.func42, Try.ntmps42
  go_wp2_with fail
  refine (spill_reader_number.calls 34 g s false _ _ _ w0 w I.out B.out HF.out).mono ?_
  rintro e w1 ⟨rfl, hi1, hb1, hk1⟩
  have I1 := Aside0.mk hi1
  have B1 := Aside0.mk hb1
  have C1 := Aside0.mk (chg_but B.out hb1 hk1)
  clear hi1 hb1 hk1
  have f0 : w1.cell? ⟨g, 0, none⟩ = some (.string s1) := (blk_c I1.out.1 0).trans rfl
  have f1 : w1.cell? ⟨g, 1, none⟩ = some (.bool true) := (blk_c I1.out.1 1).trans rfl
  have z1 := blk_f I1.out.1 1
  go_wp2_with fail
  go_ret
  exact ⟨s1, rfl, I1.out.set_1 _, Below.setCell B1.out (IsS76.ge I1.out) _, C1.out.trans (Chg.setCell (S := fun k => k = g) (Chg.refl _ _) (p := ⟨g, 1, none⟩) (.inl rfl) _)⟩

set_option maxHeartbeats 1000000 in
set_option maxRecDepth 100000 in
theorem bytes_long (w0 w : World) (g n : Nat) (s : ByteArray) (r : List Int) (hI : IsS76 w0 w g s false) (hB : Below w0.heap.size w0 w) (hd : dv 0 0 (bytesOf s) = some (n, r)) (hn : r.length < n) (hl : s.size ≤ 1000000) :
    Calls Try.prog 42 #[.pointer (some ⟨g, 0, none⟩)] w fun e w' => ∃ s1, e = .returned (.string ⟨#[]⟩) ∧ IsS76 w0 w' g s1 true ∧ Below w0.heap.size w0 w' ∧ Chg (fun k => k = g) w w' := by
  have hr := dv_len hd
  rw [bytesOf_length] at hr
  obtain ⟨s1, hf, hs1⟩ := number_yes 34 false (by omega) hd
  have e1 : s1 = strOfNums r := by rw [← hs1, str_bytesOf]
  subst e1
  have HF := Aside0.mk hf
  have I := Aside0.mk hI
  have B := Aside0.mk hB
  clear hf hI hB hd hs1
  go_enter Try.func42, Try.ntmps42
  go_wp2_with fail
  refine (spill_reader_number.calls 34 g s false _ _ _ w0 w I.out B.out HF.out).mono ?_
  rintro e w1 ⟨rfl, hi1, hb1, hk1⟩
  have I1 := Aside0.mk hi1
  have B1 := Aside0.mk hb1
  have C1 := Aside0.mk (chg_but B.out hb1 hk1)
  clear hi1 hb1 hk1
  have f0 : w1.cell? ⟨g, 0, none⟩ = some (.string (strOfNums r)) := (blk_c I1.out.1 0).trans rfl
  have f1 : w1.cell? ⟨g, 1, none⟩ = some (.bool false) := (blk_c I1.out.1 1).trans rfl
  have z1 := blk_f I1.out.1 1
  have hsz : (strOfNums r).size = r.length := strOfNums_size r
  have hconv : IntKind.u64.wrap (r.length : Int) = (r.length : Int) := by rw [wrap_u64_id (by omega) (by omega)]
  have d1 : decide ((r.length : Int) < (n : Int)) = true := decide_eq_true (by omega)
  have d2 : decide (r.length < n) = true := decide_eq_true (by omega)
  go_wp2_with fail
  go_ret
  exact ⟨_, rfl, I1.out.set_1 _, Below.setCell B1.out (IsS76.ge I1.out) _, C1.out.trans (Chg.setCell (S := fun k => k = g) (Chg.refl _ _) (p := ⟨g, 1, none⟩) (.inl rfl) _)⟩
end Go.Proofs.Ytebbikihhkjaaaa.Hand
