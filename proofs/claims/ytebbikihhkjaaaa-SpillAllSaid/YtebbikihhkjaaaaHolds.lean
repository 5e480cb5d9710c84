/- A log that holds notes: Put, Len, Segments and Take over it. -/
import Derived.Test.YtebbikihhkjaaaaGs
namespace Go.Proofs.Ytebbikihhkjaaaa.Hand
open Go.RowKit Go.Proofs.YtebbikihhkjaaaaW.PrintWords Go.Proofs.YtebbikihhkjaaaaW.PrintMore Go.Proofs.Ytebbikihhkjaaaa.PSpillBytes

/-- A log made by puts: its segments' notes, in order, each segment as Put leaves it. -/
structure Holds (w0 w : World) (l : Nat) (ns : List Nt) (gs : List (List Nt)) : Prop where
  log : ∃ v ss, LogAt false (fun k => w0.heap.size ≤ k) w l v ss ∧ cont ss = contG gs
  flat : gs.flatten = ns
  ne : ∀ g ∈ gs, g ≠ []
  fit : ∀ g ∈ gs, Fit g
theorem Holds.move {w0 w w1 : World} {l : Nat} {ns : List Nt} {gs : List (List Nt)} (h : Holds w0 w l ns gs) (hb : Below w.heap.size w w1) : Holds w0 w1 l ns gs := by
  obtain ⟨⟨v, ss, hL, hc⟩, h2, h3, h4⟩ := h
  exact ⟨⟨v, ss, hL.below hb, hc⟩, h2, h3, h4⟩
theorem Holds.row_chg {w0 w w1 : World} {l : Nat} {ns : List Nt} {gs : List (List Nt)} (h : Holds w0 w l ns gs) {α : Type} {d : Kd α} {e base : Nat} {ok : Nat → Prop} {v' : Value} {xs : List α} (ho : d.R e w base ok v' xs) (he : ¬ LogTy e) (hc : Chg (fun k => some k = v'.ownBlock) w w1) : Holds w0 w1 l ns gs := by
  obtain ⟨⟨v, ss, hL, hcc⟩, h2, h3, h4⟩ := h
  obtain ⟨inner, hown⟩ := Kd.R_own ho
  exact ⟨⟨v, ss, hL.row_chg hown he hc, hcc⟩, h2, h3, h4⟩
theorem ty9 : ¬ LogTy 9 := by unfold LogTy; decide
theorem ty28 : ¬ LogTy 28 := by unfold LogTy; decide
theorem ty3 : ¬ LogTy 3 := by unfold LogTy; decide
theorem below_log {w0 w w1 : World} {B : Nat} (hb : Below B w0 w) (hB : B ≤ w0.heap.size) (hc : Chg (Typed w (fun k => B ≤ k)) w w1) : Below B w0 w1 :=
  hb.trans ⟨hc.os, hc.tape, hc.output, hc.size, fun k hk => hc.block k (Nat.lt_of_lt_of_le hk (Nat.le_trans hB hb.size)) (fun ⟨h1, _⟩ => by omega)⟩
theorem holds_put {w0 w : World} {l : Nat} {ns : List Nt} {gs : List (List Nt)} (h : Holds w0 w l ns gs) (hn : ns.length ≤ 1000) (hw : w0.heap.size ≤ w.heap.size) (A : Option Addr) (c : Nat) (nt : Nt) (hC : Kd.C (Kd.int .i64) w A nt.path.length nt.path) (hO : OkNt nt) :
    Calls Try.prog 17 #[ptr l, .agg #[.int .i64 nt.b, .int .i64 nt.path.length, .int .i64 nt.s, .slice A nt.path.length c]] w fun e w' => e = .returned (.int .i64 0) ∧ Holds w0 w' l (ns ++ [nt]) (putG gs nt) ∧ Chg (Typed w (fun k => w0.heap.size ≤ k)) w w' := by
  obtain ⟨⟨v, ss, hL, hc⟩, h2, h3, h4⟩ := h
  have ht : tot ss = ns.length := by rw [tot_cont ss gs hc, h2]
  have hl : ss.length ≤ ns.length := by rw [len_cont hc, ← h2]; exact len_flat h3
  refine (put_ok l v ss nt.b nt.s A c nt.path w hL.ty (by omega) (by omega) hC hO).mono ?_
  rintro e w' ⟨v', ss', rfl, hL', hc', ht', hg⟩
  refine ⟨rfl, ⟨⟨v', ss', hL'.mono (fun k _ hk => hk.elim (fun h => h.1) (fun h => Nat.le_trans hw h)), ?_⟩, ?_, putG_ne h3 nt, putG_fit h4 nt⟩, hg⟩
  · rw [hc', hc]
    exact putC_G gs nt
  · rw [putG_flat, h2]


theorem holds_len {w0 w : World} {l : Nat} {ns : List Nt} {gs : List (List Nt)} (h : Holds w0 w l ns gs) : Calls Try.prog 24 #[ptr l] w fun e w' => e = .returned (.int .i64 (ns.length : Int)) ∧ w = w' := by
  obtain ⟨⟨v, ss, hL, hc⟩, h2, _, _⟩ := h
  have := len_any w l v ss hL
  rw [tot_cont ss gs hc, h2] at this
  exact this
theorem lens_G {ss : List Sg} {gs : List (List Nt)} (h : cont ss = contG gs) : lens ss = gs.map fun g => ((encAll g).length : Int) := by
  have e : lens ss = (cont ss).map fun p => (p.1.length : Int) := by
    unfold lens cont
    rw [List.map_map]
    rfl
  rw [e, h]
  unfold contG
  rw [List.map_map]
  rfl
theorem holds_segs {w0 w : World} {l : Nat} {ns : List Nt} {gs : List (List Nt)} (h : Holds w0 w l ns gs) (hn : ns.length ≤ 1000) :
    Calls Try.prog 25 #[ptr l] w fun e w' => ∃ A n c, e = .returned (.slice A n c) ∧ Kd.R (Kd.int .i64) 3 w' w.heap.size (fun _ => True) (.slice A n c) (gs.map fun g => ((encAll g).length : Int)) ∧ Below w.heap.size w w' := by
  obtain ⟨⟨v, ss, hL, hc⟩, h2, h3, _⟩ := h
  have := segments_any w l v ss hL (by rw [len_cont hc]; have := len_flat h3; rw [h2] at this; omega)
  rw [lens_G hc] at this
  exact this
theorem encAll_pos {g : List Nt} (h : g ≠ []) : 0 < (encAll g).length := by
  cases g with
  | nil => exact absurd rfl h
  | cons n g =>
    have e : encAll (n :: g) = encNt n ++ encAll g := by simp [encAll]
    have := List.length_pos_iff.2 (encNt_ne n)
    rw [e, List.length_append]
    omega
theorem Holds.small {w0 w : World} {l : Nat} {ns : List Nt} {gs : List (List Nt)} (h : Holds w0 w l ns gs) (hs : ∀ n ∈ ns, (encNt n).length ≤ 4096) : ∀ g ∈ gs, 0 < (encAll g).length ∧ (encAll g).length ≤ 4096 := by
  intro g hg
  refine ⟨encAll_pos (h.ne g hg), ?_⟩
  rcases h.fit g hg with h1 | ⟨n, rfl⟩
  · exact h1
  · have e : encAll [n] = encNt n := by simp [encAll]
    rw [e]
    refine hs n ?_
    rw [← h.flat]
    exact List.mem_flatten.2 ⟨[n], hg, by simp⟩
theorem holds_none {w0 w : World} {l : Nat} {ns : List Nt} (h : Holds w0 w l ns []) : Calls Try.prog 27 #[ptr l] w fun e w' => e = .returned (.tuple #[.slice none 0 0, .int .i64 11]) ∧ w = w' := by
  obtain ⟨⟨v, ss, hL, hc⟩, _, _, _⟩ := h
  obtain rfl : ss = [] := List.eq_nil_of_length_eq_zero (len_cont hc)
  exact take_none w l v hL
theorem holds_take {w0 w : World} {l : Nat} {ns g : List Nt} {rest : List (List Nt)} (h : Holds w0 w l ns (g :: rest)) (hn : ns.length ≤ 1000) (hw : w0.heap.size ≤ w.heap.size) (hok : ∀ n ∈ ns, OkNt n) :
    Calls Try.prog 27 #[ptr l] w fun e w' => ∃ vo, e = .returned (.tuple #[vo, .int .i64 0]) ∧ Kd.R k28 28 w' w.heap.size (fun _ => True) vo (g.map toS) ∧ Holds w0 w' l rest.flatten rest ∧ Chg (Typed w (fun k => w0.heap.size ≤ k)) w w' := by
  obtain ⟨⟨v, ss, hL, hc⟩, h2, h3, h4⟩ := h
  have ht : tot ss = ns.length := by rw [tot_cont ss _ hc, h2]
  have hlen := len_cont hc
  have hl2 := len_flat h3
  rw [h2] at hl2
  cases ss with
  | nil => simp at hlen
  | cons s ss =>
    simp only [cont, contG, List.map_cons, List.cons.injEq, Prod.mk.injEq] at hc
    obtain ⟨⟨hb, hnn⟩, hrest⟩ := hc
    have hokg : ∀ n ∈ g, OkNt n := fun n hn => hok n (by rw [← h2]; exact List.mem_flatten.2 ⟨g, by simp, hn⟩)
    refine (take_any w l v s ss g hL.ty (by simp at hlen hl2; omega) (by rw [hb]; exact dAll_enc hokg) (by rw [hnn]; exact List.length_pos_iff.2 (h3 g (by simp))) (by omega)).mono ?_
    rintro e w' ⟨vo, v', rfl, hR, hL', hg⟩
    refine ⟨vo, rfl, hR, ⟨⟨v', ss, hL'.mono (fun k _ hk => hk.elim (fun h => h.1) (fun h => Nat.le_trans hw h)), hrest⟩, rfl, fun x hx => h3 x (by simp [hx]), fun x hx => h4 x (by simp [hx])⟩, hg.mono (fun k _ hk => ?_)⟩
    rcases hk with rfl | rfl
    · exact hL.ty.okl
    · exact (hL.ty.segs s (by simp)).2.2
theorem str_at {w : World} {A : Option Addr} {q : Nat} {ns : List Nt} (h : Kd.string.C w A q (ns.map encS)) (i : Nat) (nt : Nt) (hi : ns[i]? = some nt) : ∃ ad, A = some ad ∧ w.cell? (ad.add i) = some (.string (strOfNums (encNt nt))) := by
  have hlt : i < ns.length := (List.getElem?_eq_some_iff.1 hi).1
  have hq : q = ns.length := by
    have := h.1
    rw [List.length_map] at this
    exact this.symm
  obtain ⟨ad, e, hc⟩ := Kd.at_string h (i : Int) (by omega) (by omega)
  refine ⟨ad, e, ?_⟩
  rw [Int.toNat_natCast] at hc
  rw [hc]
  have e2 : rdOf ByteArray.empty (ns.map encS) (i : Int) = strOfNums (encNt nt) := by
    unfold rdOf
    rw [Int.toNat_natCast, List.getD_eq_getElem?_getD, List.getElem?_map, hi]
    rfl
  rw [e2]
theorem nat_at {w : World} {A : Option Addr} {q : Nat} {xs : List Int} (h : (Kd.int .i64).C w A q xs) (i : Nat) (x : Int) (hi : xs[i]? = some x) : ∃ ad, A = some ad ∧ w.cell? (ad.add i) = some (.int .i64 x) := by
  have hlt : i < xs.length := (List.getElem?_eq_some_iff.1 hi).1
  have hq : q = xs.length := h.1.symm
  obtain ⟨ad, e, hc⟩ := Kd.at_int h (i : Int) (by omega) (by omega)
  refine ⟨ad, e, ?_⟩
  rw [Int.toNat_natCast] at hc
  rw [hc]
  have e2 : rd xs (i : Int) = x := by
    unfold rd
    rw [Int.toNat_natCast, List.getD_eq_getElem?_getD, hi]
    rfl
  rw [e2]
end Go.Proofs.Ytebbikihhkjaaaa.Hand
