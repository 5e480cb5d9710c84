/- The reference's Put over segments of notes, as they are read. -/
import Derived.Test.YtebbikihhkjaaaaPair
namespace Go.Proofs.Ytebbikihhkjaaaa.Hand
open Go.RowKit Go.Proofs.YtebbikihhkjaaaaW.PrintWords Go.Proofs.YtebbikihhkjaaaaW.PrintMore Go.Proofs.Ytebbikihhkjaaaa.PSpillBytes
theorem info37 : (Try.prog.info? 37).map (fun i => (i.zero, i.size, i.bytes)) = some (some (.slice none 0 0), 1, 24) := by kernel_rfl
theorem info30 : (Try.prog.info? 30).map (fun i => (i.zero, i.size, i.bytes)) = some (some (.agg #[(.int .i64 0), (.int .i64 0), (.int .i64 0), (.slice none 0 0)]), 4, 48) := by kernel_rfl
abbrev gK : Kd (List S30) := Kd.slice 30 k30
def gr (gs : List (List Nt)) : List (List S30) := gs.map fun g => g.map toR
theorem gr_len (gs : List (List Nt)) : (gr gs).length = gs.length := by simp [gr]
/-- mixed -/
abbrev nF (w0 : World) : Kd S30 := Kd.fixed k30 w0
abbrev gM (w0 : World) : Kd (List S30) := Kd.mix 30 k30 (nF w0) w0
theorem gM_reads {w0 w : World} {base n c : Nat} {ok : Nat → Prop} {A : Option Addr} {xs : List (List S30)} (hb : Below w0.heap.size w0 w) (h : (gM w0).R 37 w base ok (.slice A n c) xs) : n = xs.length ∧ n ≤ c ∧ gK.C w A xs.length xs := by
  obtain ⟨h1, h2, h3⟩ := Kd.R_reads' h
  refine ⟨h1, h2, ?_⟩
  unfold Kd.C at h3 ⊢
  exact h3.imp_ (Below.refl _ _) (fun p c hp => Kd.mix_read (d := k30) (dm := nF w0) (w0 := w0) rfl (fun x cs hx => k30.K_below hb hx) hb hp)
/-- Rows that came in, read later. -/
theorem came {α : Type} {d : Kd α} {w w1 : World} {A : Option Addr} {n : Nat} {xs : List α} (h : d.C w A n xs) (hb : Below w.heap.size w w1) : ReadsRow (d.K w) d.sz w1 A n xs := ReadsRow.imp_ h hb (fun _ _ hp => hp)
theorem renc_any {w : World} {A : Option Addr} {c : Nat} {nt : Nt} (h : Kd.C (Kd.int .i64) w A nt.path.length nt.path) (hc : nt.path.length ≤ c) (ok : OkNt nt) (W : World) (hb : Below w.heap.size w W) :
    Calls Try.prog 14 #[.agg #[.int .i64 nt.b, .int .i64 nt.path.length, .int .i64 nt.s, .slice A nt.path.length c]] W fun e w' => e = .returned (.string (strOfNums (encNt nt))) ∧ Below W.heap.size W w' := by
  obtain ⟨k, hk⟩ := ref_encode (b := nt.b) (d := nt.path.length) (s := nt.s) (p := nt.path) (Nat.le_trans ok.len (by omega)) ok.b ok.s
  rw [encB_nt ok] at hk
  exact secateurref21_Encode.calls k _ _ _ A c _ _ W (Kd.C_below h hb) hc hk
theorem nr_at {w : World} {A : Option Addr} {ns : List Nt} {q : Nat} (h : Kd.C k30 w A q (ns.map toR)) (i : Nat) (nt : Nt) (hi : ns[i]? = some nt) :
    ∃ ad A3 c3, A = some ad ∧ w.cell? (ad.add (i * 4)) = some (.int .i64 nt.b) ∧ w.cell? ⟨(ad.add (i * 4)).block, (ad.add (i * 4)).off + 1, none⟩ = some (.int .i64 nt.path.length) ∧ w.cell? ⟨(ad.add (i * 4)).block, (ad.add (i * 4)).off + 2, none⟩ = some (.int .i64 nt.s) ∧
      w.cell? ⟨(ad.add (i * 4)).block, (ad.add (i * 4)).off + 3, none⟩ = some (.slice A3 nt.path.length c3) ∧ nt.path.length ≤ c3 ∧ Kd.C (Kd.int .i64) w A3 nt.path.length nt.path := by
  have hlt : i < ns.length := (List.getElem?_eq_some_iff.1 hi).1
  have hq : q = ns.length := by
    have := h.1
    rw [List.length_map] at this
    exact this.symm
  obtain ⟨ad, A3, c3, e, x0, x1, x2, x3, hl, hC⟩ := at_T30 h (i : Int) (by omega) (by omega)
  have e2 : rd_T30 (ns.map toR) (i : Int) = toR nt := by
    unfold rd_T30
    rw [Int.toNat_natCast, List.getD_eq_getElem?_getD, List.getElem?_map, hi]
    rfl
  rw [e2] at x0 x1 x2 x3 hl hC
  rw [Int.toNat_natCast] at x0 x1 x2 x3
  exact ⟨ad, A3, c3, e, x0, x1, x2, x3, hl, hC⟩
theorem g_at {w : World} {A : Option Addr} {gs : List (List Nt)} {q : Nat} (h : Kd.C gK w A q (gr gs)) (i : Nat) (g : List Nt) (hi : gs[i]? = some g) :
    ∃ ad A3 c3, A = some ad ∧ w.cell? (ad.add i) = some (.slice A3 g.length c3) ∧ g.length ≤ c3 ∧ Kd.C k30 w A3 g.length (g.map toR) := by
  have hlt : i < gs.length := (List.getElem?_eq_some_iff.1 hi).1
  have hq : q = gs.length := by
    have := h.1
    rw [gr_len] at this
    exact this.symm
  obtain ⟨ad, c, e, _, hK, hc⟩ := Kd.C_get h ([] : List S30) (i : Int) (by omega) (by omega)
  have e2 : (gr gs).getD (i : Int).toNat [] = g.map toR := by
    rw [Int.toNat_natCast, List.getD_eq_getElem?_getD]
    simp [gr, hi]
  rw [e2] at hK
  obtain ⟨A3, c3, rfl, hl, hC⟩ := hK
  rw [List.length_map] at hl hC
  have := hc 0 _ rfl
  rw [Int.toNat_natCast, show gK.sz = 1 from rfl, Nat.mul_one, Nat.add_zero, List.length_map] at this
  exact ⟨ad, A3, c3, e, this, hl, hC⟩

section
variable {P : Program} {ops : Array Oper} {rest : List Oper} {o : Oper} {a : Act} {Q : Exit → Act → World → Prop} {α : Type}
theorem R_append_q (d : Kd α) {w0 W : World} (base : Nat) (hgd : o.guard = none) (s x : Operand) (t e : TypeId) (z : Value) (bytes : Nat)
    (ho : o.op = .call { callee := .builtin .append, args := #[s, x], argTypes := #[t, t] })
    (ht : P.underlying t = some (.slice e)) (hinfo : (P.info? e).map (fun i => (i.zero, i.size, i.bytes)) = some (some z, d.sz, bytes)) (hz : z.cells.size = d.sz) (hs0 : 0 < d.sz) (hb0 : 0 < bytes)
    (v : Value) (xs : List α) (p : α) (cs : List Value) (ok okp : Nat → Prop) (hs : a.eval s = v) (q : Nat) (hx : a.eval x = .slice (some ⟨q, 0, none⟩) 1 1) (hq : W.heap.size = q) (hp : d.M W base okp p cs) (hokp : ∀ k, okp k → ok k ∧ some k ≠ v.ownBlock) (hfresh : ∀ k, W.heap.size ≤ k → ok k)
    (HO : d.R e W base ok v xs) (HB : Below base w0 W) (hbase : base ≤ W.heap.size) (hl : (xs.length + 1) * bytes ≤ 140737488355328)
    (h : ∀ v1 w1, d.R e w1 base ok v1 (xs ++ [p]) → Below base w0 w1 → W.grownBy w1 v.ownBlock → (v1.ownBlock = v.ownBlock ∨ ∃ b, v1.ownBlock = some b ∧ W.heap.size ≤ b) → wpList P ops Q rest (a.put o.dst v1) w1) :
    wpList P ops Q (o :: rest) a (W.alloc (.cells cs.toArray e)) := by
  subst hq
  exact Kd.R_append d base hgd s x t e z bytes ho ht hinfo hz hs0 hb0 v xs p cs ok okp hs hx hp hokp hfresh HO HB hbase hl h
end
theorem note_K {w : World} {nt : Nt} {A3 : Option Addr} {c3 : Nat} (hp : Kd.C (Kd.int .i64) w A3 nt.path.length nt.path) (hc : nt.path.length ≤ c3) : k30.K w (toR nt) [.int .i64 nt.b, .int .i64 nt.path.length, .int .i64 nt.s, .slice A3 nt.path.length c3] :=
  k30_mk w (toR nt) hc hp
theorem one_row {w W : World} {B base : Nat} {okp : Nat → Prop} {nt : Nt} {A3 : Option Addr} {c3 : Nat} (h : W.heap[B]? = some (.cells #[.int .i64 nt.b, .int .i64 nt.path.length, .int .i64 nt.s, .slice A3 nt.path.length c3] 30 (0, 0)))
    (hp : Kd.C (Kd.int .i64) w A3 nt.path.length nt.path) (hc : nt.path.length ≤ c3) (hB : base ≤ B) (ho : okp B) : (gM w).M W base okp [toR nt] [.slice (some ⟨B, 0, none⟩) 1 1] := by
  refine .inr ⟨_, rfl, fun k hk => ?_, [.int .i64 nt.b, .int .i64 nt.path.length, .int .i64 nt.s, .slice A3 nt.path.length c3], ⟨rfl, .inr ⟨B, 1, _, rfl, hB, h, Nat.le_refl _, by unfold maxLen; omega, rfl, rfl⟩⟩, rfl, fun j p hj => ?_⟩
  · have : B = k := Option.some.inj hk
    rw [← this]
    exact ho
  · cases j with
    | zero =>
      simp at hj
      subst hj
      exact note_K hp hc
    | succ j => simp at hj

def RPut (w : World) (gs : List (List Nt)) (nt : Nt) (e : Ending) (w' : World) : Prop :=
  ∃ A' c', e = .returned (.slice A' (putG gs nt).length c') ∧ (putG gs nt).length ≤ c' ∧ Kd.C gK w' A' (putG gs nt).length (gr (putG gs nt)) ∧ Below w.heap.size w w'

set_option maxHeartbeats 1000000 in
set_option maxRecDepth 100000 in
theorem rput_nil (w : World) (A : Option Addr) (c : Nat) (nt : Nt) (A3 : Option Addr) (c3 : Nat) (hp : Kd.C (Kd.int .i64) w A3 nt.path.length nt.path) (hc3 : nt.path.length ≤ c3) (hok : OkNt nt) :
    Calls Try.prog 18 #[.slice A 0 c, .agg #[.int .i64 nt.b, .int .i64 nt.path.length, .int .i64 nt.s, .slice A3 nt.path.length c3]] w (RPut w [] nt) := by
  have HP := Aside0.mk hp
  have HC3 := Aside0.mk hc3
  have HOK := Aside0.mk hok
  clear hp hc3 hok
  have hu := Try.underlying30
  go_enter Try.func18, Try.ntmps18
  go_wp2_with fail
  have B1 : Aside0 (Below w.heap.size w (w.alloc (.cells #[.int .i64 nt.b, .int .i64 nt.path.length, .int .i64 nt.s, .slice A3 nt.path.length c3] 30))) := ⟨below_alloc (Below.refl _ _) _⟩
  have K1 : Aside0 ((w.alloc (.cells #[.int .i64 nt.b, .int .i64 nt.path.length, .int .i64 nt.s, .slice A3 nt.path.length c3] 30)).heap[w.heap.size]? = some (.cells #[.int .i64 nt.b, .int .i64 nt.path.length, .int .i64 nt.s, .slice A3 nt.path.length c3] 30 (0, 0))) := ⟨heap_alloc_new w _⟩
  obtain ⟨w1, hw1⟩ : ∃ x, x = w.alloc (.cells #[.int .i64 nt.b, .int .i64 nt.path.length, .int .i64 nt.s, .slice A3 nt.path.length c3] 30) := ⟨_, rfl⟩
  rw [← hw1] at B1 K1 ⊢
  clear hw1
  refine (renc_any HP.out HC3.out HOK.out w1 B1.out).mono ?_
  rintro e w2 ⟨rfl, hb2⟩
  have B2 := Aside0.mk (bthen B1.out hb2)
  have K2 := Aside0.mk ((hb2.block _ (blk_lt K1.out)).trans K1.out)
  clear hb2 B1 K1
  have R0 : Aside0 (ReadsRow (gK.K w) gK.sz w2 A 0 ([] : List (List S30))) := ⟨rfl, by omega, fun h => absurd h (Nat.lt_irrefl 0)⟩
  go_wp2_with (first
    | (at_builtin; refine Kd.R_append_rows (gM w) (w0 := w) w.heap.size rfl (.tmp 62) (.tmp 63) 49 37 (.slice none 0 0) 24 rfl Try.underlying49 info37 rfl Nat.one_pos (by omega) (.slice none 0 0) [] [] A 0 c (fun _ => True) (fun _ => True) rfl rfl (Kd.R_nil _ _ _ _ _) R0.out (fun _ _ hx => .inl hx) (fun k _ => ⟨trivial, by simp [Value.ownBlock]⟩) (fun _ _ => trivial) B2.out B2.out.size (by simp) ?_; intro v7 w7 ho7 hb7 hg7 _; have K7 := Aside0.mk (blk_grown K2.out hg7 (by simp [Value.ownBlock])); rw [List.nil_append] at ho7; obtain ⟨A7, n7, c7, rfl, _⟩ := R_open (d := gM w) ho7; have O7 := Aside0.mk ho7; have B7 := Aside0.mk hb7; have BB7 : Aside0 (Below w2.heap.size w2 w7) := ⟨⟨hg7.os, hg7.tape, hg7.output, hg7.size, fun i hi => hg7.block i hi (by simp [Value.ownBlock])⟩⟩; clear ho7 hb7 hg7; have f0 : w7.cell? ⟨w.heap.size, 0, none⟩ = some (.int .i64 nt.b) := (blk_c K7.out 0).trans rfl; have f1 : w7.cell? ⟨w.heap.size, 1, none⟩ = some (.int .i64 nt.path.length) := (blk_c K7.out 1).trans rfl; have f2 : w7.cell? ⟨w.heap.size, 2, none⟩ = some (.int .i64 nt.s) := (blk_c K7.out 2).trans rfl; have f3 : w7.cell? ⟨w.heap.size, 3, none⟩ = some (.slice A3 nt.path.length c3) := (blk_c K7.out 3).trans rfl)
    | (at_builtin; go_must (refine R_append_q (gM w) (w0 := w) w.heap.size rfl (.tmp 65) (.tmp 68) 49 37 (.slice none 0 0) 24 rfl Try.underlying49 info37 rfl Nat.one_pos (by omega) (.slice A7 n7 c7) [] [toR nt] [.slice (some ⟨w7.heap.size, 0, none⟩) 1 1] (fun _ => True) (fun k => True ∧ some k ≠ (Value.slice A7 n7 c7).ownBlock) rfl (w7.heap.size + 1) rfl (by simp) (one_row (heap_alloc_new w7 _) HP.out HC3.out B7.out.size ⟨trivial, Kd.R_ne_new O7.out 0⟩) (fun k hk => hk) (fun _ _ => trivial) (Kd.R_below O7.out (below_alloc (Below.refl _ _) _)) (B7.out.alloc B7.out.size _) (by have := B7.out.size; simp; omega) (by simp) ?_); intro v8 w8 ho8 hb8 hg8 _; have O8 := Aside0.mk ho8; have B8 := Aside0.mk hb8; clear ho8 hb8 f0 f1 f2 f3))
  go_ret
  obtain ⟨A8, n8, c8, rfl, _⟩ := R_open (d := gM w) O8.out
  obtain ⟨h1, h2, h3⟩ := gM_reads B8.out O8.out
  obtain rfl : n8 = 1 := h1
  exact ⟨A8, c8, rfl, h2, h3, B8.out⟩
/-! snoc -/
theorem new_ne {α β : Type} {d : Kd α} {d' : Kd β} {e e' b : Nat} {w w7 : World} {ok ok' : Nat → Prop} {u v : Value} {xs : List α} {ys : List β} {k : Nat} (h : d.R e w b ok u xs) (h7 : d'.R e' w7 w.heap.size ok' v ys) (hk : v.ownBlock = some k) (hu : some k = u.ownBlock) : False := by
  obtain ⟨_, h1⟩ := Kd.R_own h
  obtain ⟨_, h2⟩ := Kd.R_own h7
  have a := own_lt h1 hu.symm
  have b := own_base h2 k hk
  omega
set_option maxHeartbeats 2000000 in
set_option maxRecDepth 100000 in
theorem rput_snoc (w : World) (A : Option Addr) (c : Nat) (ini : List (List Nt)) (g : List Nt) (nt : Nt) (A3 : Option Addr) (c3 : Nat) (h : Kd.C gK w A (ini ++ [g]).length (gr (ini ++ [g]))) (hc : (ini ++ [g]).length ≤ c) (hp : Kd.C (Kd.int .i64) w A3 nt.path.length nt.path) (hc3 : nt.path.length ≤ c3) (hok : OkNt nt)
    (hokg : ∀ x ∈ g, OkNt x) (hl : ini.length ≤ 90000) (hlg : g.length ≤ 90000) :
    Calls Try.prog 18 #[.slice A (ini ++ [g]).length c, .agg #[.int .i64 nt.b, .int .i64 nt.path.length, .int .i64 nt.s, .slice A3 nt.path.length c3]] w (RPut w (ini ++ [g]) nt) := by
  have HP := Aside0.mk hp
  have HC3 := Aside0.mk hc3
  have HOK := Aside0.mk hok
  clear hp hc3 hok
  have hu := Try.underlying30
  have e : (ini ++ [g]).length = ini.length + 1 := by simp
  rw [e] at h hc ⊢
  obtain ⟨ad, AG, cG, rfl, fg, hcG, hCG⟩ := g_at h ini.length g (by simp)
  obtain ⟨k, hk⟩ : ∃ k, k = ini.length := ⟨_, rfl⟩
  rw [← hk] at h hc fg hl ⊢
  obtain ⟨m, hm⟩ : ∃ m, m = g.length := ⟨_, rfl⟩
  rw [← hm] at fg hcG hCG hlg
  have HG := Aside0.mk h
  have HI : Aside0 (gK.C w (some ad) k (gr ini)) := ⟨by
    have h1 := h
    rw [show k + 1 = (gr (ini ++ [g])).length by rw [gr_len]; simp [hk]] at h1
    have := Kd.C_take (m := k) h1 (by rw [gr_len]; simp [hk])
    rwa [show (gr (ini ++ [g])).take k = gr ini by simp [gr, hk], gr_len, ← hk] at this⟩
  have CG := Aside0.mk hCG
  have HCG := Aside0.mk hcG
  have HK := Aside0.mk hk
  have HM := Aside0.mk hm
  have FG := Aside0.mk fg
  have OKG := Aside0.mk hokg
  clear h hcG hCG hk hm fg e hokg
  obtain ⟨SB, hSB⟩ : ∃ x, x = strOfNums (encNt nt) := ⟨_, rfl⟩
  have SBZ : Aside0 (SB.size = (encNt nt).length) := ⟨by rw [hSB, strOfNums_size]⟩
  have sbz : SB.size ≤ 8222 := by rw [SBZ.out]; exact encNt_len HOK.out
  have RB := Aside0.mk (fun W hb => renc_any HP.out HC3.out HOK.out W hb)
  rw [← hSB] at RB
  clear hSB
  have hgl : (encAll g).length ≤ 8222 * 90000 := Nat.le_trans (encAll_len OKG.out) (by rw [← HM.out]; omega)
  go_enter Try.func18, Try.ntmps18
  go_wp2_with fail
  have B1 : Aside0 (Below w.heap.size w (w.alloc (.cells #[.int .i64 nt.b, .int .i64 nt.path.length, .int .i64 nt.s, .slice A3 nt.path.length c3] 30))) := ⟨below_alloc (Below.refl _ _) _⟩
  have K1 : Aside0 ((w.alloc (.cells #[.int .i64 nt.b, .int .i64 nt.path.length, .int .i64 nt.s, .slice A3 nt.path.length c3] 30)).heap[w.heap.size]? = some (.cells #[.int .i64 nt.b, .int .i64 nt.path.length, .int .i64 nt.s, .slice A3 nt.path.length c3] 30 (0, 0))) := ⟨heap_alloc_new w _⟩
  obtain ⟨w1, hw1⟩ : ∃ x, x = w.alloc (.cells #[.int .i64 nt.b, .int .i64 nt.path.length, .int .i64 nt.s, .slice A3 nt.path.length c3] 30) := ⟨_, rfl⟩
  rw [← hw1] at B1 K1 ⊢
  clear hw1
  refine (RB.out w1 B1.out).mono ?_
  rintro e w2 ⟨rfl, hb2⟩
  have B2 := Aside0.mk (bthen B1.out hb2)
  have K2 := Aside0.mk ((hb2.block _ (blk_lt K1.out)).trans K1.out)
  clear hb2 B1 K1
  have fg := pw_cell_below B2.out FG.out
  have BB2 : Aside0 (Below w2.heap.size w2 w2) := ⟨Below.refl _ _⟩
  go_wp2_with fail
  clear fg
  go_loopw [6, 8] (fun v6 v8 wr => ∃ i : Nat, i ≤ m ∧ v6 = .int .i64 (encAll (g.take i)).length ∧ v8 = .int .i64 i ∧ Aside0 (Below w2.heap.size w2 wr)) (fun _ v _ => m - (intOf v).toNat)
  case atStart => exact ⟨0, Nat.zero_le _, rfl, rfl, BB2⟩
  case round =>
    obtain ⟨i, hi, rfl, rfl, BR⟩ := hrel
    by_cases hlt : i < m
    · obtain ⟨x, hx⟩ : ∃ x, g[i]? = some x := ⟨g[i]'(by have := HM.out; omega), List.getElem?_eq_getElem _⟩
      have OKX := Aside0.mk (OKG.out x (List.mem_of_getElem? hx))
      obtain ⟨aw, B1, d1, rfl, x0, x1, x2, x3, hl1, hC1⟩ := nr_at CG.out i x hx
      have TK : Aside0 (encAll (g.take (i + 1)) = encAll (g.take i) ++ encNt x) := ⟨by rw [List.take_add_one, hx]; simp [encAll]⟩
      have RX := Aside0.mk (fun W hb => renc_any hC1 hl1 OKX.out W hb)
      obtain ⟨SX, hSX⟩ : ∃ y, y = strOfNums (encNt x) := ⟨_, rfl⟩
      rw [← hSX] at RX
      have SXZ : Aside0 (SX.size = (encNt x).length) := ⟨by rw [hSX, strOfNums_size]⟩
      have sxz : SX.size ≤ 8222 := by rw [SXZ.out]; exact encNt_len OKX.out
      obtain ⟨z, hz⟩ : ∃ z, z = (encAll (g.take i)).length := ⟨_, rfl⟩
      have hz2 : z ≤ 8222 * 90000 := by
        rw [hz]
        exact Nat.le_trans (encAll_len (fun y hy => OKG.out y (List.mem_of_mem_take hy))) (Nat.mul_le_mul_left _ (by rw [List.length_take]; omega))
      rw [← hz]
      have HZ := Aside0.mk hz
      have BW := Aside0.mk (bthen B2.out BR.out)
      have p0 := pw_cell_below BW.out x0
      have p1 := pw_cell_below BW.out x1
      have p2 := pw_cell_below BW.out x2
      have p3 := pw_cell_below BW.out x3
      clear hx x0 x1 x2 x3 hl1 hC1 hSX hz
      go_wp2_with fail
      clear p0 p1 p2 p3
      refine (RX.out _ BW.out).mono ?_
      rintro e w4 ⟨rfl, hb4⟩
      have B4 := Aside0.mk (bthen BR.out hb4)
      clear hb4
      go_wp2_with fail
      go_roundw
      case measure => simp [intOf]; omega
      case rel => exact ⟨i + 1, by omega, by rw [TK.out, List.length_append, ← HZ.out, ← SXZ.out]; go_num, by go_num, B4⟩
    · obtain rfl : i = m := by omega
      have BW := Aside0.mk (bthen B2.out BR.out)
      have KR := Aside0.mk ((BR.out.block _ (blk_lt K2.out)).trans K2.out)
      clear B2 BB2 K2
      have eg : encAll (g.take i) = encAll g := by rw [HM.out, List.take_length]
      rw [eg]
      clear eg
      obtain ⟨z, hz⟩ : ∃ z, z = (encAll g).length := ⟨_, rfl⟩
      rw [← hz] at hgl ⊢
      have HZ := Aside0.mk hz
      clear hz
      obtain ⟨w3, hw3⟩ : ∃ x, x = wr := ⟨_, rfl⟩
      rw [← hw3] at BW KR ⊢
      clear hw3 BR
      have B3 := BW
      have K3 := KR
      clear BW KR
      by_cases hfit : z + SB.size ≤ 4096
      · have t1 : decide ((z : Int) + (SB.size : Int) ≤ 4096) = true := decide_eq_true (by omega)
        go_wp2_with (first
          | (at_builtin; refine Kd.R_append_rows (gM w) (Rr := gK.K w) (w0 := w) w.heap.size rfl (.tmp 44) (.tmp 49) 49 37 (.slice none 0 0) 24 rfl Try.underlying49 info37 rfl Nat.one_pos (by omega) (.slice none 0 0) [] (gr ini) (some ad) k c (fun _ => True) (fun _ => True) rfl rfl (Kd.R_nil _ _ _ _ _) (came HI.out B3.out) (fun _ _ hx => .inl hx) (fun k _ => ⟨trivial, by simp [Value.ownBlock]⟩) (fun _ _ => trivial) B3.out B3.out.size (by simp; omega) ?_; intro v5 w5 ho5 hb5 hg5 _; rw [List.nil_append] at ho5; obtain ⟨A5, n5, c5, rfl, _⟩ := R_open (d := gM w) ho5; have O5 := Aside0.mk ho5; have B5 := Aside0.mk hb5; have BB5 : Aside0 (Below w3.heap.size w3 w5) := ⟨⟨hg5.os, hg5.tape, hg5.output, hg5.size, fun i hi => hg5.block i hi (by simp [Value.ownBlock])⟩⟩; clear ho5 hb5 hg5; have R5 := Aside0.mk (Below.refl w5.heap.size w5); have K5 := Aside0.mk ((BB5.out.block _ (blk_lt K3.out)).trans K3.out))
          | (at_builtin; refine Kd.R_append_rows (nF w) (Rr := k30.K w) (w0 := w5) w5.heap.size rfl (.tmp 51) (.tmp 52) 37 30 (.agg #[(.int .i64 0), (.int .i64 0), (.int .i64 0), (.slice none 0 0)]) 48 rfl Try.underlying37 info30 rfl (by show 0 < 4; omega) (by omega) (.slice none 0 0) [] (g.map toR) AG i cG (fun _ => True) (fun _ => True) rfl rfl (Kd.R_nil _ _ _ _ _) (came CG.out B5.out) (fun _ _ hx => hx) (fun k _ => ⟨trivial, by simp [Value.ownBlock]⟩) (fun _ _ => trivial) R5.out R5.out.size (by simp; omega) ?_; intro v6 w6 ho6 hb6 hg6 _; rw [List.nil_append] at ho6; obtain ⟨A6, n6, c6, rfl, _⟩ := R_open (d := nF w) ho6; have O6 := Aside0.mk ho6; have B6 := Aside0.mk hb6; have BB6 : Aside0 (Below w5.heap.size w5 w6) := ⟨⟨hg6.os, hg6.tape, hg6.output, hg6.size, fun i hi => hg6.block i hi (by simp [Value.ownBlock])⟩⟩; clear ho6 hb6 hg6; have K6 := Aside0.mk ((BB6.out.block _ (blk_lt K5.out)).trans K5.out); have f0 : w6.cell? ⟨w.heap.size, 0, none⟩ = some (.int .i64 nt.b) := (blk_c K6.out 0).trans rfl; have f1 : w6.cell? ⟨w.heap.size, 1, none⟩ = some (.int .i64 nt.path.length) := (blk_c K6.out 1).trans rfl; have f2 : w6.cell? ⟨w.heap.size, 2, none⟩ = some (.int .i64 nt.s) := (blk_c K6.out 2).trans rfl; have f3 : w6.cell? ⟨w.heap.size, 3, none⟩ = some (.slice A3 nt.path.length c3) := (blk_c K6.out 3).trans rfl)
          | (at_builtin; refine R_append_q (nF w) (w0 := w5) w5.heap.size rfl (.tmp 54) (.tmp 56) 37 30 (.agg #[(.int .i64 0), (.int .i64 0), (.int .i64 0), (.slice none 0 0)]) 48 rfl Try.underlying37 info30 rfl (by show 0 < 4; omega) (by omega) (.slice A6 n6 c6) (g.map toR) (toR nt) [.int .i64 nt.b, .int .i64 nt.path.length, .int .i64 nt.s, .slice A3 nt.path.length c3] (fun _ => True) (fun _ => False) rfl w6.heap.size rfl rfl (note_K HP.out HC3.out) (fun k hk => hk.elim) (fun _ _ => trivial) O6.out B6.out B6.out.size (by rw [List.length_map, ← HM.out]; omega) ?_; intro v7 w7 ho7 hb7 hg7 _; obtain ⟨A7, n7, c7, rfl, _⟩ := R_open (d := nF w) ho7; have O7 := Aside0.mk ho7; have B7 := Aside0.mk hb7; clear ho7 hb7 hg7 f0 f1 f2 f3)
          | (at_builtin; go_must (refine R_append_q (gM w) (w0 := w) w.heap.size rfl (.tmp 58) (.tmp 60) 49 37 (.slice none 0 0) 24 rfl Try.underlying49 info37 rfl Nat.one_pos (by omega) (.slice A5 n5 c5) (gr ini) (g.map toR ++ [toR nt]) [.slice A7 n7 c7] (fun _ => True) (fun k => True ∧ some k ≠ (Value.slice A5 n5 c5).ownBlock) rfl w7.heap.size rfl rfl (.inr ⟨_, rfl, Kd.R_reok rfl (Kd.R_lower O7.out (Nat.le_trans B3.out.size BB5.out.size)) (fun k hk => ⟨trivial, fun e => new_ne O5.out O7.out hk e⟩)⟩) (fun k hk => hk) (fun _ _ => trivial) (Kd.R_below O5.out B7.out) (below_then B5.out B5.out.size B7.out) (Nat.le_trans B5.out.size B7.out.size) (by rw [gr_len, ← HK.out]; omega) ?_); intro v8 w8 ho8 hb8 hg8 _; have O8 := Aside0.mk ho8; have B8 := Aside0.mk hb8; clear ho8 hb8 hg8))
        go_ret
        obtain ⟨A8, n8, c8, rfl, _⟩ := R_open (d := gM w) O8.out
        obtain ⟨h1, h2, h3⟩ := gM_reads B8.out O8.out
        have e : putG (ini ++ [g]) nt = ini ++ [g ++ [nt]] := by rw [putG_snoc, if_pos (by rw [← HZ.out, ← SBZ.out]; exact hfit)]
        have e2 : gr ini ++ [g.map toR ++ [toR nt]] = gr (ini ++ [g ++ [nt]]) := by simp [gr]
        rw [e2] at h1 h3
        subst h1
        rw [gr_len] at h2 h3
        refine ⟨A8, c8, ?_, ?_, ?_, B8.out⟩
        · rw [e, ← gr_len (ini ++ [g ++ [nt]])]; rfl
        · rw [e]; exact h2
        · rw [e]; exact h3
      · have t1 : decide ((z : Int) + (SB.size : Int) ≤ 4096) = false := decide_eq_false (by omega)
        go_wp2_with (first
          | (at_builtin; refine Kd.R_append_rows (gM w) (Rr := gK.K w) (w0 := w) w.heap.size rfl (.tmp 62) (.tmp 63) 49 37 (.slice none 0 0) 24 rfl Try.underlying49 info37 rfl Nat.one_pos (by omega) (.slice none 0 0) [] (gr (ini ++ [g])) (some ad) (k + 1) c (fun _ => True) (fun _ => True) rfl rfl (Kd.R_nil _ _ _ _ _) (came HG.out B3.out) (fun _ _ hx => .inl hx) (fun k _ => ⟨trivial, by simp [Value.ownBlock]⟩) (fun _ _ => trivial) B3.out B3.out.size (by simp; omega) ?_; intro v7 w7 ho7 hb7 hg7 _; rw [List.nil_append] at ho7; obtain ⟨A7, n7, c7, rfl, _⟩ := R_open (d := gM w) ho7; have O7 := Aside0.mk ho7; have B7 := Aside0.mk hb7; have BB7 : Aside0 (Below w3.heap.size w3 w7) := ⟨⟨hg7.os, hg7.tape, hg7.output, hg7.size, fun i hi => hg7.block i hi (by simp [Value.ownBlock])⟩⟩; clear ho7 hb7 hg7; have K7 := Aside0.mk ((BB7.out.block _ (blk_lt K3.out)).trans K3.out); have f0 : w7.cell? ⟨w.heap.size, 0, none⟩ = some (.int .i64 nt.b) := (blk_c K7.out 0).trans rfl; have f1 : w7.cell? ⟨w.heap.size, 1, none⟩ = some (.int .i64 nt.path.length) := (blk_c K7.out 1).trans rfl; have f2 : w7.cell? ⟨w.heap.size, 2, none⟩ = some (.int .i64 nt.s) := (blk_c K7.out 2).trans rfl; have f3 : w7.cell? ⟨w.heap.size, 3, none⟩ = some (.slice A3 nt.path.length c3) := (blk_c K7.out 3).trans rfl)
          | (at_builtin; go_must (refine R_append_q (gM w) (w0 := w) w.heap.size rfl (.tmp 65) (.tmp 68) 49 37 (.slice none 0 0) 24 rfl Try.underlying49 info37 rfl Nat.one_pos (by omega) (.slice A7 n7 c7) (gr (ini ++ [g])) [toR nt] [.slice (some ⟨w7.heap.size, 0, none⟩) 1 1] (fun _ => True) (fun k => True ∧ some k ≠ (Value.slice A7 n7 c7).ownBlock) rfl (w7.heap.size + 1) rfl (by simp) (one_row (heap_alloc_new w7 _) HP.out HC3.out B7.out.size ⟨trivial, Kd.R_ne_new O7.out 0⟩) (fun k hk => hk) (fun _ _ => trivial) (Kd.R_below O7.out (below_alloc (Below.refl _ _) _)) (B7.out.alloc B7.out.size _) (by have := B7.out.size; simp; omega) (by rw [gr_len]; simp [← HK.out]; omega) ?_); intro v8 w8 ho8 hb8 hg8 _; have O8 := Aside0.mk ho8; have B8 := Aside0.mk hb8; clear ho8 hb8 f0 f1 f2 f3))
        go_ret
        obtain ⟨A8, n8, c8, rfl, _⟩ := R_open (d := gM w) O8.out
        obtain ⟨h1, h2, h3⟩ := gM_reads B8.out O8.out
        have e : putG (ini ++ [g]) nt = ini ++ [g] ++ [[nt]] := by rw [putG_snoc, if_neg (by rw [← HZ.out, ← SBZ.out]; exact hfit)]
        have e2 : gr (ini ++ [g]) ++ [[toR nt]] = gr (ini ++ [g] ++ [[nt]]) := by simp [gr]
        rw [e2] at h1 h3
        subst h1
        rw [gr_len] at h2 h3
        refine ⟨A8, c8, ?_, ?_, ?_, B8.out⟩
        · rw [e, ← gr_len (ini ++ [g] ++ [[nt]])]; rfl
        · rw [e]; exact h2
        · rw [e]; exact h3
end Go.Proofs.Ytebbikihhkjaaaa.Hand
/- The reference's Load in plain Lean, and that it tells what Load tells. -/
namespace Go.Proofs.Ytebbikihhkjaaaa.Hand
open Go.RowKit Go.Proofs.YtebbikihhkjaaaaW.PrintWords Go.Proofs.YtebbikihhkjaaaaW.PrintMore Go.Proofs.Ytebbikihhkjaaaa.PSpillBytes
/-- The notes of one segment, put behind others; do they make one segment more, of their own? -/
def putAll (gs : List (List Nt)) (g : List Nt) : List (List Nt) := g.foldl putG gs
def ownB (gs : List (List Nt)) (g : List Nt) : Bool := decide ((putAll gs g).length = gs.length + 1) && decide (((putAll gs g).getD gs.length []).length = g.length)
def rld (gs : List (List Nt)) (l : List Int) : Option (List (List Nt)) :=
  if l = [] then some gs else
    match _h : ldSeg l with
    | none => none
    | some (g, r) => if ownB gs g = true then rld (putAll gs g) r else none
termination_by l.length
decreasing_by exact ldSeg_len _h
theorem rld_nil (gs : List (List Nt)) : rld gs [] = some gs := by rw [rld]; simp
theorem rld_none {gs : List (List Nt)} {l : List Int} (h0 : l ≠ []) (h : ldSeg l = none) : rld gs l = none := by
  rw [rld, if_neg h0]
  split
  · rfl
  · rename_i h2; rw [h] at h2; cases h2
theorem rld_some {gs : List (List Nt)} {l r : List Int} {g : List Nt} (h0 : l ≠ []) (h : ldSeg l = some (g, r)) : rld gs l = if ownB gs g = true then rld (putAll gs g) r else none := by
  rw [rld, if_neg h0]
  split
  · rename_i h2; rw [h] at h2; cases h2
  · rename_i h2
    rw [h] at h2
    simp only [Option.some.injEq, Prod.mk.injEq] at h2
    obtain ⟨rfl, rfl⟩ := h2
    rfl
theorem putAll_snoc (i : List (List Nt)) (p : List Nt) : ∀ g : List Nt, ∃ d ts, putAll (i ++ [g]) p = i ++ (g ++ d) :: ts ∧ d ++ ts.flatten = p ∧ ∀ t ∈ ts, t ≠ [] := by
  unfold putAll
  induction p generalizing i with
  | nil => intro g; exact ⟨[], [], by simp, rfl, by simp⟩
  | cons n p ih =>
    intro g
    rw [List.foldl_cons, putG_snoc]
    split
    · obtain ⟨d, ts, h1, h2, h3⟩ := ih i (g ++ [n])
      exact ⟨n :: d, ts, by rw [h1]; simp, by rw [← h2]; rfl, h3⟩
    · obtain ⟨d, ts, h1, h2, h3⟩ := ih (i ++ [g]) [n]
      refine ⟨[], ([n] ++ d) :: ts, by rw [h1]; simp, by simp [← h2], fun t ht => ?_⟩
      rcases List.mem_cons.1 ht with rfl | ht
      · simp
      · exact h3 t ht
theorem putAll_first (n : Nt) (p : List Nt) : ∃ d ts, putAll [] (n :: p) = (n :: d) :: ts ∧ d ++ ts.flatten = p ∧ ∀ t ∈ ts, t ≠ [] := by
  obtain ⟨d, ts, h1, h2, h3⟩ := putAll_snoc [] p [n]
  exact ⟨d, ts, by
    have : putAll [] (n :: p) = putAll ([] ++ [[n]]) p := rfl
    rw [this, h1]
    simp, h2, h3⟩
theorem ownB_iff {gs : List (List Nt)} {g : List Nt} (hg : g ≠ []) : ownB gs g = true ↔ putAll gs g = gs ++ [g] := by
  unfold ownB
  simp only [Bool.and_eq_true, decide_eq_true_eq]
  constructor
  · rintro ⟨h1, h2⟩
    rcases snoc_cases gs with rfl | ⟨i, q, rfl⟩
    · cases g with
      | nil => exact absurd rfl hg
      | cons n p =>
        obtain ⟨d, ts, e1, e2, _⟩ := putAll_first n p
        rw [e1] at h1 ⊢
        simp at h1
        subst h1
        simp at e2
        simp [e2]
    · obtain ⟨d, ts, e1, e2, _⟩ := putAll_snoc i g q
      rw [e1] at h1 h2 ⊢
      simp at h1
      obtain ⟨t, rfl⟩ : ∃ t, ts = [t] := List.length_eq_one_iff.1 (by omega)
      have e3 : (i ++ (q ++ d) :: [t]).getD (i ++ [q]).length [] = t := by
        rw [List.getD_eq_getElem?_getD]
        simp
      rw [e3] at h2
      simp at e2
      have h4 := congrArg List.length e2
      rw [List.length_append] at h4
      obtain rfl : d = [] := List.eq_nil_of_length_eq_zero (by omega)
      simp at e2
      simp [e2]
  · intro h
    rw [h]
    simp
theorem putAll_append (gs : List (List Nt)) (p q : List Nt) : putAll gs (p ++ q) = putAll (putAll gs p) q := by simp [putAll]
/-- Where all come to stand in segments of their own, so do the first ones. -/
theorem first_own {gs ps : List (List Nt)} {p : List Nt} (hp : p ≠ []) (h : putAll gs (p ++ ps.flatten) = gs ++ p :: ps) : putAll gs p = gs ++ [p] := by
  rw [putAll_append] at h
  rcases snoc_cases gs with rfl | ⟨i, g, rfl⟩
  · cases p with
    | nil => exact absurd rfl hp
    | cons n p =>
      obtain ⟨d, ts, e1, e2, e3⟩ := putAll_first n p
      rcases snoc_cases ts with rfl | ⟨ts0, t, rfl⟩
      · simp at e2
        rw [e1, e2]
        rfl
      · rw [e1, show (n :: d) :: (ts0 ++ [t]) = ((n :: d) :: ts0) ++ [t] by rfl] at h
        obtain ⟨d', ts', f1, _, _⟩ := putAll_snoc ((n :: d) :: ts0) ps.flatten t
        rw [f1] at h
        simp at h
        obtain ⟨rfl, _⟩ := h
        have h5 := congrArg List.length e2
        have h6 := List.length_pos_iff.2 (e3 t (by simp))
        simp only [List.flatten_append, List.flatten_cons, List.flatten_nil, List.append_nil, List.length_append] at h5
        omega
  · obtain ⟨d, ts, e1, e2, e3⟩ := putAll_snoc i p g
    rcases snoc_cases ts with rfl | ⟨ts0, t, rfl⟩
    · simp at e2
      rw [e1] at h
      obtain ⟨d', ts', f1, _, _⟩ := putAll_snoc i ps.flatten (g ++ d)
      rw [f1] at h
      simp at h
      obtain ⟨h, _⟩ := h
      rw [e2] at h
      exact absurd h.1 hp
    · rw [e1, show i ++ (g ++ d) :: (ts0 ++ [t]) = (i ++ (g ++ d) :: ts0) ++ [t] by simp] at h
      obtain ⟨d', ts', f1, _, _⟩ := putAll_snoc (i ++ (g ++ d) :: ts0) ps.flatten t
      rw [f1] at h
      simp at h
      obtain ⟨rfl, h⟩ := h
      cases ts0 with
      | nil =>
        simp at e2
        rw [e1, e2]
        simp
      | cons t1 ts0 =>
        simp at h
        obtain ⟨rfl, _⟩ := h
        have h5 := congrArg List.length e2
        have h6 := List.length_pos_iff.2 (e3 t (by simp))
        simp only [List.flatten_append, List.flatten_cons, List.flatten_nil, List.append_nil, List.length_append] at h5
        omega

theorem ldSeg_parts {l r : List Int} {g : List Nt} (hb : Byt l) (h : ldSeg l = some (g, r)) : l = vb (encAll g).length ++ encAll g ++ r ∧ g ≠ [] ∧ (∀ n ∈ g, OkNt n) ∧ (encAll g).length < 18446744073709551616 := by
  rcases ldSeg_cases l with ⟨h1, _⟩ | ⟨n, q, g', h1, h2, h3, h4, h5⟩
  · rw [h1] at h; cases h
  · rw [h5] at h
    simp only [Option.some.injEq, Prod.mk.injEq] at h
    obtain ⟨rfl, rfl⟩ := h
    obtain ⟨e1, e2⟩ := vb_dv0 hb h1
    have hq : Byt q := by rw [e1] at hb; exact hb.right
    obtain ⟨e3, e4⟩ := enc_dAll (fun x hx => hq x (List.mem_of_mem_take hx)) h3
    have e5 : (encAll g').length = n := by rw [← e3, List.length_take]; omega
    refine ⟨?_, h4, e4, by omega⟩
    rw [e5, ← e3, List.append_assoc, List.take_append_drop]
    exact e1
theorem rld_parts (k : Nat) : ∀ (l : List Int) (gs gs' : List (List Nt)), l.length ≤ k → Byt l → rld gs l = some gs' → ∃ ps : List (List Nt), gs' = gs ++ ps ∧ ldAll l = some ps.flatten ∧ l = saveB (ps.map encAll) ∧ putAll gs ps.flatten = gs ++ ps := by
  induction k with
  | zero =>
    intro l gs gs' hl hb h
    obtain rfl : l = [] := List.eq_nil_of_length_eq_zero (by omega)
    rw [rld_nil] at h
    injection h with h
    subst h
    exact ⟨[], by simp, ldAll_nil, rfl, by simp [putAll]⟩
  | succ k ih =>
    intro l gs gs' hl hb h
    by_cases h0 : l = []
    · subst h0
      rw [rld_nil] at h
      injection h with h
      subst h
      exact ⟨[], by simp, ldAll_nil, rfl, by simp [putAll]⟩
    · cases e : ldSeg l with
      | none => rw [rld_none h0 e] at h; cases h
      | some y =>
        obtain ⟨g, r⟩ := y
        rw [rld_some h0 e] at h
        obtain ⟨a1, a2, a3, _⟩ := ldSeg_parts hb e
        by_cases hw : ownB gs g = true
        · rw [if_pos hw] at h
          have hw2 := (ownB_iff a2).1 hw
          have hbr : Byt r := by rw [a1] at hb; exact hb.right
          obtain ⟨ps, b1, b2, b3, b4⟩ := ih r (putAll gs g) gs' (by have := ldSeg_len e; omega) hbr h
          refine ⟨g :: ps, by rw [b1, hw2]; simp, by rw [ldAll_some h0 e, b2]; rfl, ?_, ?_⟩
          · have e2 : saveB ((g :: ps).map encAll) = vb (encAll g).length ++ encAll g ++ saveB (ps.map encAll) := by simp [saveB]
            rw [e2, ← b3]
            exact a1
          · rw [List.flatten_cons, putAll_append, b4, hw2]
            simp
        · rw [if_neg hw] at h; cases h
theorem ldAll_parts (k : Nat) : ∀ (l : List Int) (ns : List Nt), l.length ≤ k → Byt l → ldAll l = some ns → ∃ ps : List (List Nt), ns = ps.flatten ∧ l = saveB (ps.map encAll) ∧ (∀ p ∈ ps, p ≠ []) ∧ (∀ p ∈ ps, ∀ n ∈ p, OkNt n) ∧ (∀ p ∈ ps, (encAll p).length < 18446744073709551616) ∧ ∀ gs, putAll gs ps.flatten = gs ++ ps → rld gs l = some (gs ++ ps) := by
  induction k with
  | zero =>
    intro l ns hl hb h
    obtain rfl : l = [] := List.eq_nil_of_length_eq_zero (by omega)
    rw [ldAll_nil] at h
    injection h with h
    subst h
    exact ⟨[], rfl, rfl, by simp, by simp, by simp, fun gs _ => by rw [rld_nil]; simp⟩
  | succ k ih =>
    intro l ns hl hb h
    by_cases h0 : l = []
    · subst h0
      rw [ldAll_nil] at h
      injection h with h
      subst h
      exact ⟨[], rfl, rfl, by simp, by simp, by simp, fun gs _ => by rw [rld_nil]; simp⟩
    · cases e : ldSeg l with
      | none => rw [ldAll_none h0 e] at h; cases h
      | some y =>
        obtain ⟨g, r⟩ := y
        rw [ldAll_some h0 e] at h
        obtain ⟨a1, a2, a3, a4⟩ := ldSeg_parts hb e
        have hbr : Byt r := by rw [a1] at hb; exact hb.right
        cases e2 : ldAll r with
        | none => rw [e2] at h; cases h
        | some ms =>
          rw [e2] at h
          simp only [Option.map_some, Option.some.injEq] at h
          subst h
          obtain ⟨ps, b1, b2, b3, b4, b5, b6⟩ := ih r ms (by have := ldSeg_len e; omega) hbr e2
          refine ⟨g :: ps, by rw [b1]; rfl, ?_, ?_, ?_, ?_, fun gs hgs => ?_⟩
          · have e3 : saveB ((g :: ps).map encAll) = vb (encAll g).length ++ encAll g ++ saveB (ps.map encAll) := by simp [saveB]
            rw [e3, ← b2]
            exact a1
          · intro p hp
            rcases List.mem_cons.1 hp with rfl | hp
            · exact a2
            · exact b3 p hp
          · intro p hp
            rcases List.mem_cons.1 hp with rfl | hp
            · exact a3
            · exact b4 p hp
          · intro p hp
            rcases List.mem_cons.1 hp with rfl | hp
            · exact a4
            · exact b5 p hp
          · rw [List.flatten_cons] at hgs
            have hf := first_own a2 hgs
            rw [rld_some h0 e, if_pos ((ownB_iff a2).2 hf), hf]
            rw [putAll_append, hf] at hgs
            rw [b6 (gs ++ [g]) (by rw [hgs]; simp)]
            simp
theorem saveB_inj : ∀ (ps qs : List (List Nt)), (∀ p ∈ ps, p ≠ []) → (∀ p ∈ ps, ∀ n ∈ p, OkNt n) → (∀ p ∈ ps, (encAll p).length < 18446744073709551616) → (∀ p ∈ qs, p ≠ []) → (∀ p ∈ qs, ∀ n ∈ p, OkNt n) → (∀ p ∈ qs, (encAll p).length < 18446744073709551616) → saveB (ps.map encAll) = saveB (qs.map encAll) → ps = qs
  | [], [], _, _, _, _, _, _, _ => rfl
  | [], q :: qs, _, _, _, _, _, _, h => by
    have := vb_pos (encAll q).length
    have h2 := congrArg List.length h
    simp only [saveB, List.map_cons, List.flatMap_cons, List.length_append, List.map_nil, List.flatMap_nil, List.length_nil] at h2
    omega
  | p :: ps, [], _, _, _, _, _, _, h => by
    have := vb_pos (encAll p).length
    have h2 := congrArg List.length h
    simp only [saveB, List.map_cons, List.flatMap_cons, List.length_append, List.map_nil, List.flatMap_nil, List.length_nil] at h2
    omega
  | p :: ps, q :: qs, a1, a2, a3, b1, b2, b3, h => by
    have e1 : ∀ (x : List Nt) (xs : List (List Nt)), saveB ((x :: xs).map encAll) = vb (encAll x).length ++ (encAll x ++ saveB (xs.map encAll)) := fun x xs => by simp [saveB]
    rw [e1, e1] at h
    have h1 := dv_vb0 (encAll p).length (encAll p ++ saveB (ps.map encAll)) (a3 p (by simp))
    have h2 := dv_vb0 (encAll q).length (encAll q ++ saveB (qs.map encAll)) (b3 q (by simp))
    rw [h, h2] at h1
    simp only [Option.some.injEq, Prod.mk.injEq] at h1
    obtain ⟨hl, h1⟩ := h1
    obtain ⟨h3, h4⟩ := List.append_inj h1 hl
    have h5 := dAll_enc (a2 p (by simp))
    rw [← h3, dAll_enc (b2 q (by simp))] at h5
    injection h5 with h5
    subst h5
    rw [saveB_inj ps qs (fun x hx => a1 x (by simp [hx])) (fun x hx => a2 x (by simp [hx])) (fun x hx => a3 x (by simp [hx])) (fun x hx => b1 x (by simp [hx])) (fun x hx => b2 x (by simp [hx])) (fun x hx => b3 x (by simp [hx])) h4.symm]
theorem segsOf_putAll (ns : List Nt) : segsOf ns = putAll [] ns := rfl
theorem load_ref_some {s : ByteArray} {ns : List Nt} (hl : ns.length ≤ 90000) (h : loadR s = some ns) : rld [] (bytesOf s) = some (segsOf ns) := by
  unfold loadR at h
  cases e : ldAll (bytesOf s) with
  | none => rw [e] at h; cases h
  | some ms =>
    rw [e] at h
    simp only at h
    split at h
    · rename_i hs
      injection h with h
      subst h
      obtain ⟨ps, b1, b2, b3, b4, b5, b6⟩ := ldAll_parts _ _ _ (Nat.le_refl _) (bytesOf_byt s) e
      have hmem : ∀ g ∈ segsOf ms, ∀ n ∈ g, n ∈ ms := fun g hg n hn => by
        rw [← segsOf_flat ms]
        exact List.mem_flatten.2 ⟨g, hg, hn⟩
      have hok : ∀ n ∈ ms, OkNt n := fun n hn => by
        rw [b1] at hn
        obtain ⟨p, hp, hn⟩ := List.mem_flatten.1 hn
        exact b4 p hp n hn
      have hby : Byt (saveB ((segsOf ms).map encAll)) := by
        intro x hx
        unfold saveB at hx
        obtain ⟨b, hb, hx⟩ := List.mem_flatMap.1 hx
        obtain ⟨g, _, rfl⟩ := List.mem_map.1 hb
        rcases List.mem_append.1 hx with h | h
        · exact vb_byt _ x h
        · exact encAll_byt g x h
      have hs2 := congrArg bytesOf hs
      rw [bytesOf_str hby, b2] at hs2
      have he := saveB_inj (segsOf ms) ps (segsOf_ne ms) (fun g hg n hn => hok n (hmem g hg n hn)) (fun g hg => by
        have h1 := encAll_len (fun n hn => hok n (hmem g hg n hn))
        have h2 : g.length ≤ ms.length := by
          rw [← segsOf_flat ms]
          obtain ⟨l1, l2, e⟩ := List.append_of_mem hg
          rw [e]
          simp
          omega
        omega) b3 b4 b5 hs2
      have := b6 [] (by rw [← b1, ← segsOf_putAll, he]; rfl)
      rw [this, he]
      rfl
    · cases h
theorem load_ref_none {s : ByteArray} (h : loadR s = none) : rld [] (bytesOf s) = none := by
  cases e : rld [] (bytesOf s) with
  | none => rfl
  | some gs =>
    obtain ⟨ps, rfl, b2, b3, b4⟩ := rld_parts _ _ _ _ (Nat.le_refl _) (bytesOf_byt s) e
    unfold loadR at h
    rw [b2] at h
    simp only at h
    rw [if_pos (by rw [segsOf_putAll, b4, List.nil_append, ← b3, str_bytesOf])] at h
    cases h
end Go.Proofs.Ytebbikihhkjaaaa.Hand
/- The reference's Save, Put and the law's segments, over segments of notes. -/
namespace Go.Proofs.Ytebbikihhkjaaaa.Hand
open Go.RowKit Go.Proofs.YtebbikihhkjaaaaW.PrintWords Go.Proofs.YtebbikihhkjaaaaW.PrintMore Go.Proofs.Ytebbikihhkjaaaa.PSpillBytes
theorem rput_any (w : World) (A : Option Addr) (c : Nat) (gs : List (List Nt)) (nt : Nt) (A3 : Option Addr) (c3 : Nat) (h : Kd.C gK w A gs.length (gr gs)) (hc : gs.length ≤ c) (hp : Kd.C (Kd.int .i64) w A3 nt.path.length nt.path) (hc3 : nt.path.length ≤ c3) (hok : OkNt nt)
    (hokg : ∀ g ∈ gs, ∀ x ∈ g, OkNt x) (hne : ∀ g ∈ gs, g ≠ []) (hl : gs.flatten.length ≤ 90000) :
    Calls Try.prog 18 #[.slice A gs.length c, .agg #[.int .i64 nt.b, .int .i64 nt.path.length, .int .i64 nt.s, .slice A3 nt.path.length c3]] w (RPut w gs nt) := by
  rcases snoc_cases gs with rfl | ⟨i, g, rfl⟩
  · exact rput_nil w A c nt A3 c3 hp hc3 hok
  · have h1 := len_flat hne
    rw [List.length_append, List.length_singleton] at h1
    have h2 : (i ++ [g]).flatten.length = i.flatten.length + g.length := by simp
    exact rput_snoc w A c i g nt A3 c3 h hc hp hc3 hok (hokg g (by simp)) (by omega) (by omega)

theorem saveB_snoc (gs : List (List Nt)) (g : List Nt) : saveB ((gs ++ [g]).map encAll) = saveB (gs.map encAll) ++ vb (encAll g).length ++ encAll g := by simp [saveB]
theorem take_snoc' {α : Type} (l : List α) (k : Nat) (x : α) (h : l[k]? = some x) : l.take (k + 1) = l.take k ++ [x] := by rw [List.take_add_one, h]; rfl
theorem saveB_all {gs : List (List Nt)} (hok : ∀ g ∈ gs, ∀ x ∈ g, OkNt x) (hne : ∀ g ∈ gs, g ≠ []) (hl : gs.flatten.length ≤ 90000) : (saveB (gs.map encAll)).length ≤ 8232 * gs.flatten.length := by
  induction gs with
  | nil => simp [saveB]
  | cons g gs ih =>
    have e : saveB ((g :: gs).map encAll) = vb (encAll g).length ++ (encAll g ++ saveB (gs.map encAll)) := by simp [saveB]
    have h1 := encAll_len (hok g (by simp))
    have h2 := List.length_pos_iff.2 (hne g (by simp))
    rw [List.flatten_cons, List.length_append] at hl ⊢
    have h3 := ih (fun x hx => hok x (by simp [hx])) (fun x hx => hne x (by simp [hx])) (by omega)
    have h4 := vb_len10 (n := (encAll g).length) (by omega)
    rw [e, List.length_append, List.length_append]
    omega
theorem take_flat (gs : List (List Nt)) (k : Nat) : (gs.take k).flatten.length ≤ gs.flatten.length := by
  have h := congrArg (fun x : List (List Nt) => x.flatten.length) (List.take_append_drop k gs)
  simp only [List.flatten_append, List.length_append] at h
  omega
theorem mem_flat_len {gs : List (List Nt)} {g : List Nt} (h : g ∈ gs) : g.length ≤ gs.flatten.length := by
  obtain ⟨l1, l2, e⟩ := List.append_of_mem h
  rw [e]
  simp
  omega

set_option maxHeartbeats 1000000 in
set_option maxRecDepth 100000 in
theorem rsave_any (w : World) (A : Option Addr) (c : Nat) (gs : List (List Nt)) (h : Kd.C gK w A gs.length (gr gs)) (hc : gs.length ≤ c) (hokg : ∀ g ∈ gs, ∀ x ∈ g, OkNt x) (hne : ∀ g ∈ gs, g ≠ []) (hl : gs.flatten.length ≤ 90000) :
    Calls Try.prog 19 #[.slice A gs.length c] w fun e w' => e = .returned (.string (strOfNums (saveB (gs.map encAll)))) ∧ Below w.heap.size w w' := by
  have hl2 := len_flat hne
  have HG := Aside0.mk h
  have OKG := Aside0.mk hokg
  have NEG := Aside0.mk hne
  have HL := Aside0.mk hl
  obtain ⟨n, hn⟩ : ∃ n, n = gs.length := ⟨_, rfl⟩
  rw [← hn] at hc hl2 HG ⊢
  have hn9 : n ≤ 90000 := by omega
  have HN := Aside0.mk hn
  clear h hokg hne hl hn hl2
  have hu := Try.underlying30
  go_enter Try.func19, Try.ntmps19
  go_wp2_with fail
  go_loopw [3, 4] (fun v3 v4 wr => ∃ (k : Nat) (S : ByteArray), k ≤ n ∧ v3 = .string S ∧ v4 = .int .i64 k ∧ Aside0 (S = strOfNums (saveB ((gs.take k).map encAll))) ∧ Aside0 (Below w.heap.size w wr)) (fun _ v _ => n - (intOf v).toNat)
  case atStart => exact ⟨0, _, Nat.zero_le _, rfl, rfl, ⟨rfl⟩, ⟨Below.refl _ _⟩⟩
  case round =>
    obtain ⟨k, S, hk, rfl, rfl, HS, BR⟩ := hrel
    by_cases hlt : k < n
    · obtain ⟨g, hg⟩ : ∃ g, gs[k]? = some g := ⟨gs[k]'(by have := HN.out; omega), List.getElem?_eq_getElem _⟩
      have hgm := List.mem_of_getElem? hg
      obtain ⟨ad, AG, cG, rfl, fg0, hcG, hCG⟩ := g_at HG.out k g hg
      have fg := pw_cell_below BR.out fg0
      have OKN := Aside0.mk (OKG.out g hgm)
      have hgl : g.length ≤ 90000 := Nat.le_trans (mem_flat_len hgm) HL.out
      have TK := Aside0.mk (take_snoc' gs k g hg)
      obtain ⟨m, hm⟩ : ∃ m, m = g.length := ⟨_, rfl⟩
      rw [← hm] at fg0 fg hcG hCG hgl
      have CG := Aside0.mk hCG
      have HM := Aside0.mk hm
      have FG := Aside0.mk fg0
      have hS : S.size ≤ 8232 * 90000 := by
        rw [HS.out, strOfNums_size]
        have h1 := take_flat gs k
        have h2 := HL.out
        exact Nat.le_trans (saveB_all (fun x hx => OKG.out x (List.mem_of_mem_take hx)) (fun x hx => NEG.out x (List.mem_of_mem_take hx)) (by omega)) (Nat.mul_le_mul_left _ (by omega))
      obtain ⟨w1, hw1⟩ : ∃ x, x = wr := ⟨_, rfl⟩
      rw [← hw1] at BR fg ⊢
      have B1 := BR
      clear hg hgm hCG hm BR hw1 fg0
      go_wp2_with fail
      clear fg
      go_loopw [5, 6] (fun v5 v6 wr => ∃ (i : Nat) (T : ByteArray), i ≤ m ∧ v5 = .string T ∧ v6 = .int .i64 i ∧ Aside0 (T = strOfNums (encAll (g.take i))) ∧ Aside0 (Below w.heap.size w wr)) (fun _ v _ => m - (intOf v).toNat)
      case atStart => exact ⟨0, _, Nat.zero_le _, rfl, rfl, ⟨rfl⟩, B1⟩
      case round =>
        clear B1
        obtain ⟨i, T, hi, rfl, rfl, HT, BR⟩ := hrel
        have fg := pw_cell_below BR.out FG.out
        have hT : T.size ≤ 8222 * 90000 := by
          rw [HT.out, strOfNums_size]
          exact Nat.le_trans (encAll_len (fun y hy => OKN.out y (List.mem_of_mem_take hy))) (Nat.mul_le_mul_left _ (by rw [List.length_take]; omega))
        by_cases hlt2 : i < m
        · obtain ⟨x, hx⟩ : ∃ x, g[i]? = some x := ⟨g[i]'(by have := HM.out; omega), List.getElem?_eq_getElem _⟩
          have OKX := Aside0.mk (OKN.out x (List.mem_of_getElem? hx))
          obtain ⟨aw, A1, d1, rfl, x0, x1, x2, x3, hl1, hC1⟩ := nr_at CG.out i x hx
          have TI : Aside0 (encAll (g.take (i + 1)) = encAll (g.take i) ++ encNt x) := ⟨by rw [take_snoc' g i x hx]; simp [encAll]⟩
          have RX := Aside0.mk (fun W hb => renc_any hC1 hl1 OKX.out W hb)
          obtain ⟨SX, hSX⟩ : ∃ y, y = strOfNums (encNt x) := ⟨_, rfl⟩
          rw [← hSX] at RX
          have HX := Aside0.mk hSX
          have sxz : SX.size ≤ 8222 := by rw [hSX, strOfNums_size]; exact encNt_len OKX.out
          have p0 := pw_cell_below BR.out x0
          have p1 := pw_cell_below BR.out x1
          have p2 := pw_cell_below BR.out x2
          have p3 := pw_cell_below BR.out x3
          clear hx x0 x1 x2 x3 hl1 hC1 hSX
          go_wp2_with fail
          clear p0 p1 p2 p3 fg
          refine (RX.out _ BR.out).mono ?_
          rintro e w4 ⟨rfl, hb4⟩
          have B4 := Aside0.mk (bthen BR.out hb4)
          clear hb4 BR
          go_wp2_with fail
          go_roundw
          case measure => simp [intOf]; omega
          case rel => exact ⟨i + 1, _, by omega, rfl, by go_num, ⟨by rw [TI.out, str_append, ← HT.out, ← HX.out]⟩, B4⟩
        · obtain rfl : i = m := by omega
          have HTE : Aside0 (T = strOfNums (encAll g)) := ⟨by rw [HT.out, HM.out, List.take_length]⟩
          have HTL : Aside0 (T.size = (encAll g).length) := ⟨by rw [HTE.out, strOfNums_size]⟩
          have RN : Aside0 (∀ W, Calls Try.prog 37 #[.int .u64 (T.size : Int)] W fun e w' => e = .returned (.string (strOfNums (vb T.size))) ∧ Below W.heap.size W w') := ⟨fun W => secateurref21_number.calls 11 _ _ W (number_f (by omega) 11 (by omega))⟩
          have hnl := vb_len10 (n := T.size) (by omega)
          obtain ⟨SN, hSN⟩ : ∃ y, y = strOfNums (vb T.size) := ⟨_, rfl⟩
          rw [← hSN] at RN
          have hsn : SN.size ≤ 10 := by rw [hSN, strOfNums_size]; exact hnl
          have HSN := Aside0.mk hSN
          clear hSN hnl HT
          go_wp2_with fail
          clear fg
          refine (RN.out _).mono ?_
          rintro e w4 ⟨rfl, hb4⟩
          have B4 := Aside0.mk (bthen BR.out hb4)
          clear hb4 BR
          go_wp2_with fail
          go_roundw
          case measure => simp [intOf]; omega
          case rel => exact ⟨k + 1, _, by omega, rfl, by go_num, ⟨by rw [TK.out, saveB_snoc, str_append, str_append, ← HS.out, ← HTL.out, ← HTE.out, ← HSN.out]⟩, B4⟩
    · obtain rfl : k = n := by omega
      go_wp2_with fail
      go_ret
      have e : gs.take k = gs := by rw [HN.out, List.take_length]
      have := HS.out
      rw [e] at this
      exact ⟨by rw [← this]; rfl, BR.out⟩

def slen (gs : List (List Nt)) : List Int := gs.map fun g => ((encAll g).length : Int)
set_option maxHeartbeats 1000000 in
set_option maxRecDepth 100000 in
theorem rsegs_any (w : World) (A : Option Addr) (c : Nat) (gs : List (List Nt)) (h : Kd.C gK w A gs.length (gr gs)) (hc : gs.length ≤ c) (hokg : ∀ g ∈ gs, ∀ x ∈ g, OkNt x) (hne : ∀ g ∈ gs, g ≠ []) (hl : gs.flatten.length ≤ 90000) :
    Calls Try.prog 23 #[.slice A gs.length c] w fun e w' => ∃ A' n' c', e = .returned (.tuple #[.slice A' n' c', .int .i64 gs.flatten.length]) ∧ Kd.R (Kd.int .i64) 3 w' w.heap.size (fun _ => True) (.slice A' n' c') (slen gs) ∧ Below w.heap.size w w' := by
  have hl2 := len_flat hne
  have HG := Aside0.mk h
  have OKG := Aside0.mk hokg
  have HL := Aside0.mk hl
  obtain ⟨n, hn⟩ : ∃ n, n = gs.length := ⟨_, rfl⟩
  rw [← hn] at hc hl2 HG ⊢
  have hn9 : n ≤ 90000 := by omega
  have HN := Aside0.mk hn
  clear h hokg hne hl hn hl2
  have hu := Try.underlying30
  go_enter Try.func23, Try.ntmps23
  go_wp2_with fail
  go_loopw [4, 5, 13] (fun v4 v5 v13 wr => ∃ (k : Nat) (z : Nat) (A4 : Option Addr) (n4 c4 : Nat), k ≤ n ∧ v4 = .slice A4 n4 c4 ∧ v5 = .int .i64 z ∧ v13 = .int .i64 k ∧ Aside0 (z = (gs.take k).flatten.length) ∧ Aside0 (Kd.R (Kd.int .i64) 3 wr w.heap.size (fun _ => True) (.slice A4 n4 c4) (slen (gs.take k))) ∧ Aside0 (Below w.heap.size w wr)) (fun _ _ v _ => n - (intOf v).toNat)
  case atStart => exact ⟨0, 0, _, _, _, Nat.zero_le _, rfl, rfl, rfl, ⟨rfl⟩, ⟨Kd.R_nil _ _ _ _ _⟩, ⟨Below.refl _ _⟩⟩
  case round =>
    obtain ⟨k, z, A4, n4, c4, hk, rfl, rfl, rfl, HZ, O4, BR⟩ := hrel
    by_cases hlt : k < n
    · obtain ⟨g, hg⟩ : ∃ g, gs[k]? = some g := ⟨gs[k]'(by have := HN.out; omega), List.getElem?_eq_getElem _⟩
      have hgm := List.mem_of_getElem? hg
      obtain ⟨ad, AG, cG, rfl, fg0, hcG, hCG⟩ := g_at HG.out k g hg
      have fg := pw_cell_below BR.out fg0
      have OKN := Aside0.mk (OKG.out g hgm)
      have hgl : g.length ≤ 90000 := Nat.le_trans (mem_flat_len hgm) HL.out
      have TK := Aside0.mk (take_snoc' gs k g hg)
      have hz2 : z + g.length ≤ 90000 := by
        have h1 := take_flat gs (k + 1)
        rw [TK.out, List.flatten_append, List.length_append, ← HZ.out] at h1
        simp at h1
        have := HL.out
        rw [List.length_flatten] at this
        omega
      obtain ⟨m, hm⟩ : ∃ m, m = g.length := ⟨_, rfl⟩
      rw [← hm] at fg0 fg hcG hCG hgl hz2
      have CG := Aside0.mk hCG
      have HM := Aside0.mk hm
      obtain ⟨wo, rfl⟩ : ∃ wo : World, wo = wr := ⟨_, rfl⟩
      have BB0 : Aside0 (Below wo.heap.size wo wo) := ⟨Below.refl _ _⟩
      have ZM : Aside0 (z + m = (gs.take (k + 1)).flatten.length) := ⟨by rw [TK.out, List.flatten_append, List.length_append, HZ.out, hm]; simp⟩
      clear hg hgm hCG hm fg0
      go_wp2_with fail
      clear fg
      go_loopw [5, 8, 19] (fun v5 v8 v19 wq => ∃ (i y : Nat), i ≤ m ∧ v5 = .int .i64 ((z + i : Nat) : Int) ∧ v8 = .int .i64 y ∧ v19 = .int .i64 i ∧ Aside0 (y = (encAll (g.take i)).length) ∧ Aside0 (Below wo.heap.size wo wq)) (fun _ _ v _ => m - (intOf v).toNat)
      case atStart => exact ⟨0, 0, Nat.zero_le _, rfl, rfl, rfl, ⟨rfl⟩, BB0⟩
      case round =>
        clear BB0
        obtain ⟨i, y, hi, rfl, rfl, rfl, HY, BQ⟩ := hrel
        have hy : y ≤ 8222 * 90000 := by
          rw [HY.out]
          exact Nat.le_trans (encAll_len (fun x hx => OKN.out x (List.mem_of_mem_take hx))) (Nat.mul_le_mul_left _ (by rw [List.length_take]; omega))
        by_cases hlt2 : i < m
        · obtain ⟨x, hx⟩ : ∃ x, g[i]? = some x := ⟨g[i]'(by have := HM.out; omega), List.getElem?_eq_getElem _⟩
          have OKX := Aside0.mk (OKN.out x (List.mem_of_getElem? hx))
          obtain ⟨aw, A1, d1, rfl, x0, x1, x2, x3, hl1, hC1⟩ := nr_at CG.out i x hx
          have TI : Aside0 (encAll (g.take (i + 1)) = encAll (g.take i) ++ encNt x) := ⟨by rw [take_snoc' g i x hx]; simp [encAll]⟩
          have RX := Aside0.mk (fun W hb => renc_any hC1 hl1 OKX.out W hb)
          obtain ⟨SX, hSX⟩ : ∃ y, y = strOfNums (encNt x) := ⟨_, rfl⟩
          rw [← hSX] at RX
          have HX : Aside0 (SX.size = (encNt x).length) := ⟨by rw [hSX, strOfNums_size]⟩
          have sxz : SX.size ≤ 8222 := by rw [HX.out]; exact encNt_len OKX.out
          have BW := Aside0.mk (bthen BR.out BQ.out)
          have p0 := pw_cell_below BW.out x0
          have p1 := pw_cell_below BW.out x1
          have p2 := pw_cell_below BW.out x2
          have p3 := pw_cell_below BW.out x3
          clear hx x0 x1 x2 x3 hl1 hC1 hSX
          go_wp2_with fail
          clear p0 p1 p2 p3
          have BW2 := Aside0.mk (below_then BW.out BW.out.size (below_alloc (Below.refl wr.heap.size wr) (.cells #[.int .i64 x.b, .int .i64 x.path.length, .int .i64 x.s, .slice A1 x.path.length d1] 30)))
          have BQ2 := Aside0.mk (below_then BQ.out BQ.out.size (below_alloc (Below.refl wr.heap.size wr) (.cells #[.int .i64 x.b, .int .i64 x.path.length, .int .i64 x.s, .slice A1 x.path.length d1] 30)))
          refine (RX.out _ BW2.out).mono ?_
          rintro e w4 ⟨rfl, hb4⟩
          have B4 := Aside0.mk (bthen BQ2.out hb4)
          clear hb4 BQ BQ2 BW BW2
          go_wp2_with fail
          go_roundw
          case measure => simp [intOf]; omega
          case rel => exact ⟨i + 1, _, by omega, by go_num, by go_num, by go_num, ⟨by rw [TI.out, List.length_append, ← HY.out, ← HX.out]⟩, B4⟩
        · obtain rfl : i = m := by omega
          have HYE : Aside0 (y = (encAll g).length) := ⟨by rw [HY.out, HM.out, List.take_length]⟩
          have O5 := Aside0.mk (Kd.R_below O4.out BQ.out)
          have B5 := Aside0.mk (bthen BR.out BQ.out)
          have HLN : Aside0 (((slen (gs.take k)).length + 1) * 8 ≤ 140737488355328) := ⟨by unfold slen; rw [List.length_map, List.length_take]; omega⟩
          clear O4 BR BQ HY
          go_wp2_with (at_builtin; refine Kd.R_append (Kd.int .i64) (w0 := w) w.heap.size rfl _ _ 22 3 (.int .i64 0) 8 rfl Try.underlying22 info3 rfl (by decide) (by omega) (.slice A4 n4 c4) (slen (gs.take k)) (y : Int) [.int .i64 y] (fun _ => True) (fun _ => False) rfl rfl rfl (fun _ h => h.elim) (fun _ _ => trivial) O5.out B5.out B5.out.size HLN.out ?_; intro v7 w7 ho7 hb7 _ _; obtain ⟨A7, n7, c7, rfl, _⟩ := R_open ho7; have O7 := Aside0.mk ho7; have B7 := Aside0.mk hb7; clear ho7 hb7)
          go_roundw
          case measure => simp [intOf]; omega
          case rel =>
            refine ⟨k + 1, z + i, _, _, _, by omega, rfl, rfl, by go_num, ZM, ⟨?_⟩, B7⟩
            have e : slen (gs.take (k + 1)) = slen (gs.take k) ++ [(y : Int)] := by rw [TK.out, HYE.out]; simp [slen]
            rw [e]
            exact O7.out
    · obtain rfl : k = n := by omega
      go_wp2_with fail
      go_ret2
      have e : gs.take k = gs := by rw [HN.out, List.take_length]
      have h1 := HZ.out
      have h2 := O4.out
      rw [e] at h1 h2
      exact ⟨_, _, _, by rw [← h1]; rfl, h2, BR.out⟩
end Go.Proofs.Ytebbikihhkjaaaa.Hand
