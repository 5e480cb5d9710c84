/- A log as segments of notes, in plain Lean; its blocks' types. -/
import Derived.Test.YtebbikihhkjaaaaTake0
import Derived.Test.YtebbikihhkjaaaaWakes
import Derived.Test.YtebbikihhkjaaaaIn
namespace Go.Proofs.Ytebbikihhkjaaaa.Hand
open Go.RowKit Go.Proofs.YtebbikihhkjaaaaW.PrintWords Go.Proofs.YtebbikihhkjaaaaW.PrintMore
def contG (gs : List (List Nt)) : List (List Int × Nat) := gs.map fun g => (encAll g, g.length)
def putG (gs : List (List Nt)) (n : Nt) : List (List Nt) :=
  match gs.getLast? with
  | some g => if (encAll g).length + (encNt n).length ≤ 4096 then gs.dropLast ++ [g ++ [n]] else gs ++ [[n]]
  | none => [[n]]
theorem putG_snoc (i : List (List Nt)) (g : List Nt) (n : Nt) : putG (i ++ [g]) n = if (encAll g).length + (encNt n).length ≤ 4096 then i ++ [g ++ [n]] else i ++ [g] ++ [[n]] := by simp [putG]
theorem snoc_cases {α : Type} (l : List α) : l = [] ∨ ∃ i x, l = i ++ [x] := by
  rcases List.eq_nil_or_concat l with h | ⟨i, x, h⟩
  · exact .inl h
  · exact .inr ⟨i, x, by rw [h, List.concat_eq_append]⟩
theorem putC_G (gs : List (List Nt)) (n : Nt) : putC (contG gs) (encNt n) = contG (putG gs n) := by
  rcases snoc_cases gs with rfl | ⟨i, g, rfl⟩
  · simp [putC, contG, putG, encAll]
  · rw [putG_snoc]
    by_cases h : (encAll g).length + (encNt n).length ≤ 4096
    · rw [if_pos h]
      simp [putC, contG, h, encAll_snoc]
    · rw [if_neg h]
      have e : encAll [n] = encNt n := by simp [encAll]
      simp [putC, contG, h, e]
theorem putG_flat (gs : List (List Nt)) (n : Nt) : (putG gs n).flatten = gs.flatten ++ [n] := by
  rcases snoc_cases gs with rfl | ⟨i, g, rfl⟩
  · simp [putG]
  · rw [putG_snoc]
    split <;> simp
theorem putG_ne {gs : List (List Nt)} (h : ∀ g ∈ gs, g ≠ []) (n : Nt) : ∀ g ∈ putG gs n, g ≠ [] := by
  rcases snoc_cases gs with rfl | ⟨i, g, rfl⟩
  · simp [putG]
  · rw [putG_snoc]
    intro x hx
    split at hx
    · rcases List.mem_append.1 hx with h1 | h1
      · exact h x (by simp [h1])
      · simp at h1
        subst h1
        simp
    · simp at hx
      rcases hx with h1 | rfl | rfl
      · exact h x (by simp [h1])
      · exact h x (by simp)
      · simp
/-- No segment is longer than 4096, but where one note alone is. -/
def Fit (g : List Nt) : Prop := (encAll g).length ≤ 4096 ∨ ∃ n, g = [n]
theorem putG_fit {gs : List (List Nt)} (h : ∀ g ∈ gs, Fit g) (n : Nt) : ∀ g ∈ putG gs n, Fit g := by
  rcases snoc_cases gs with rfl | ⟨i, g, rfl⟩
  · intro x hx
    simp [putG] at hx
    subst hx
    exact .inr ⟨n, rfl⟩
  · rw [putG_snoc]
    intro x hx
    split at hx
    · rename_i hle
      rcases List.mem_append.1 hx with h1 | h1
      · exact h x (by simp [h1])
      · simp at h1
        subst h1
        left
        rw [encAll_snoc, List.length_append]
        exact hle
    · simp at hx
      rcases hx with h1 | rfl | rfl
      · exact h x (by simp [h1])
      · exact h x (by simp)
      · exact .inr ⟨n, rfl⟩
theorem tot_cont (ss : List Sg) (gs : List (List Nt)) (h : cont ss = contG gs) : tot ss = gs.flatten.length := by
  have e : tot ss = ((cont ss).map (·.2)).sum := by
    unfold tot cont
    rw [List.map_map]
    rfl
  rw [e, h]
  unfold contG
  rw [List.map_map, List.length_flatten]
  rfl
theorem len_cont {ss : List Sg} {gs : List (List Nt)} (h : cont ss = contG gs) : ss.length = gs.length := by
  have := congrArg List.length h
  simpa [cont, contG] using this
theorem len_flat {gs : List (List Nt)} (h : ∀ g ∈ gs, g ≠ []) : gs.length ≤ gs.flatten.length := by
  induction gs with
  | nil => simp
  | cons g gs ih =>
    have h1 := List.length_pos_iff.2 (h g List.mem_cons_self)
    have h2 := ih (fun x hx => h x (List.mem_cons_of_mem _ hx))
    rw [List.flatten_cons, List.length_append, List.length_cons]
    omega
theorem LogAt.typed {fr : Bool} {ok : Nat → Prop} {w : World} {l : Nat} {v : Value} {ss : List Sg} (h : LogAt fr ok w l v ss) : LogAt fr (fun k => ok k ∧ ∃ c q m, w.heap[k]? = some (.cells c q m) ∧ (q = 88 ∨ q = 89 ∨ q = 99 ∨ q = 5)) w l v ss :=
  ⟨h.blk, ⟨h.okl, _, _, _, h.blk, .inl rfl⟩, h.row, fun k hk => ⟨h.okv k hk, by
    obtain ⟨c, hc⟩ := own_typed h.row k hk
    exact ⟨_, _, _, hc, .inr (.inl rfl)⟩⟩, fun s hs => ⟨(h.segs s hs).1, ⟨(h.segs s hs).2.1, _, _, _, (h.segs s hs).1.blk, .inr (.inr (.inl rfl))⟩, ⟨(h.segs s hs).2.2, by
    obtain ⟨cur, mk, hb, _⟩ := (h.segs s hs).1.buf
    exact ⟨_, _, _, hb, .inr (.inr (.inr rfl))⟩⟩⟩, h.apart⟩
def LogTy (q : Nat) : Prop := q = 88 ∨ q = 89 ∨ q = 99 ∨ q = 5
def Typed (w : World) (ok : Nat → Prop) (k : Nat) : Prop := ok k ∧ ∃ c q m, w.heap[k]? = some (.cells c q m) ∧ LogTy q
theorem LogAt.ty {fr : Bool} {ok : Nat → Prop} {w : World} {l : Nat} {v : Value} {ss : List Sg} (h : LogAt fr ok w l v ss) : LogAt fr (Typed w ok) w l v ss := h.typed
/-- Another row stays where only the log's blocks turn. -/
theorem R_log {α : Type} {d : Kd α} {e base : Nat} {w w1 : World} {ok okL : Nat → Prop} {v : Value} {xs : List α} (h : d.R e w base ok v xs) (hE : ∀ q ∈ e :: d.E, ¬ LogTy q) (hc : Chg (Typed w okL) w w1) : d.R e w1 base ok v xs :=
  Kd.R_mono (Kd.R_step (Kd.R_bound h) (fun k hk hlt => hc.block k hlt (fun ⟨_, c, q, m, h1, h2⟩ => by
    obtain ⟨_, _, _, q', hq', c', h3⟩ := hk
    rw [h1] at h3
    injection h3 with h3
    injection h3 with _ h3 _
    rw [← h3] at hq'
    exact hE q hq' h2))) (fun _ hk => hk.1)
/-- The log stays where only another row turns. -/
theorem LogAt.row_chg {fr : Bool} {ok : Nat → Prop} {w w1 : World} {l : Nat} {v : Value} {ss : List Sg} (h : LogAt fr ok w l v ss) {base e size n : Nat} {v' : Value} {xs : List Value} (ho : w.ownsRow base e size v' n xs) (he : ¬ LogTy e) (hc : Chg (fun k => some k = v'.ownBlock) w w1) : LogAt fr ok w1 l v ss :=
  (h.ty.chg hc (fun k hk ⟨_, c, q, m, h1, h2⟩ hs => by
    obtain ⟨c', h3⟩ := own_typed ho k hs.symm
    rw [h1] at h3
    injection h3 with h3
    injection h3 with _ h3 _
    rw [h3] at h2
    exact he h2)).mono (fun _ _ hk => hk.1)
theorem blk_log {w w1 : World} {g t : Nat} {cs : Array Value} {m : Nat × Nat} {okL : Nat → Prop} (h : w.heap[g]? = some (.cells cs t m)) (ht : ¬ LogTy t) (hc : Chg (Typed w okL) w w1) : w1.heap[g]? = some (.cells cs t m) :=
  hc.blk h (fun ⟨_, c, q, m', h1, h2⟩ => by
    rw [h1] at h
    injection h with h
    injection h with _ h _
    rw [h] at h2
    exact ht h2)
def encS (n : Nt) : ByteArray := strOfNums (encNt n)
theorem encNt_short {n : Nt} (h : OkNt n) (hp : n.path.length ≤ 1600) : (encNt n).length ≤ 3222 := by
  have h1 := vb_len10 (zz_lt h.b)
  have h2 := vb_len10 (zz_lt h.s)
  have h3 := vb_len 2 n.path.length (by omega) (by omega)
  have h4 := pathB_len h.ds
  simp only [encNt, List.length_append]
  omega
theorem info9s : (Try.prog.info? 9).map (fun i => (i.zero, i.size, i.bytes)) = some (some (.string ByteArray.empty), 1, 16) := by kernel_rfl
end Go.Proofs.Ytebbikihhkjaaaa.Hand
/- A log that holds notes: Put, Len, Segments and Take over it. -/
namespace Go.Proofs.Ytebbikihhkjaaaa.Hand
open Go.RowKit Go.Proofs.YtebbikihhkjaaaaW.PrintWords Go.Proofs.YtebbikihhkjaaaaW.PrintMore Go.Proofs.Ytebbikihhkjaaaa.PSpillBytes

/-- A log made by puts: its segments' notes, in order, each segment as Put leaves it. -/
structure Holds (fr : Bool) (w0 w : World) (l : Nat) (ns : List Nt) (gs : List (List Nt)) : Prop where
  log : ∃ v ss, LogAt fr (fun k => w0.heap.size ≤ k) w l v ss ∧ cont ss = contG gs
  flat : gs.flatten = ns
  ne : ∀ g ∈ gs, g ≠ []
  fit : ∀ g ∈ gs, Fit g
theorem Holds.move {fr : Bool} {w0 w w1 : World} {l : Nat} {ns : List Nt} {gs : List (List Nt)} (h : Holds fr w0 w l ns gs) (hb : Below w.heap.size w w1) : Holds fr w0 w1 l ns gs := by
  obtain ⟨⟨v, ss, hL, hc⟩, h2, h3, h4⟩ := h
  exact ⟨⟨v, ss, hL.below hb, hc⟩, h2, h3, h4⟩
theorem Holds.row_chg {fr : Bool} {w0 w w1 : World} {l : Nat} {ns : List Nt} {gs : List (List Nt)} (h : Holds fr w0 w l ns gs) {α : Type} {d : Kd α} {e base : Nat} {ok : Nat → Prop} {v' : Value} {xs : List α} (ho : d.R e w base ok v' xs) (he : ¬ LogTy e) (hc : Chg (fun k => some k = v'.ownBlock) w w1) : Holds fr w0 w1 l ns gs := by
  obtain ⟨⟨v, ss, hL, hcc⟩, h2, h3, h4⟩ := h
  obtain ⟨inner, hown⟩ := Kd.R_own ho
  exact ⟨⟨v, ss, hL.row_chg hown he hc, hcc⟩, h2, h3, h4⟩
theorem ty9 : ¬ LogTy 9 := by unfold LogTy; decide
theorem ty28 : ¬ LogTy 28 := by unfold LogTy; decide
theorem ty3 : ¬ LogTy 3 := by unfold LogTy; decide
theorem below_log {w0 w w1 : World} {B : Nat} (hb : Below B w0 w) (hB : B ≤ w0.heap.size) (hc : Chg (Typed w (fun k => B ≤ k)) w w1) : Below B w0 w1 :=
  hb.trans ⟨hc.os, hc.tape, hc.output, hc.size, fun k hk => hc.block k (Nat.lt_of_lt_of_le hk (Nat.le_trans hB hb.size)) (fun ⟨h1, _⟩ => by omega)⟩
theorem holds_put {w0 w : World} {l : Nat} {ns : List Nt} {gs : List (List Nt)} (h : Holds false w0 w l ns gs) (hn : ns.length ≤ 90000) (hw : w0.heap.size ≤ w.heap.size) (A : Option Addr) (c : Nat) (nt : Nt) (hC : Kd.C (Kd.int .i64) w A nt.path.length nt.path) (hO : OkNt nt) :
    Calls Try.prog 17 #[ptr l, .agg #[.int .i64 nt.b, .int .i64 nt.path.length, .int .i64 nt.s, .slice A nt.path.length c]] w fun e w' => e = .returned (.int .i64 0) ∧ Holds false w0 w' l (ns ++ [nt]) (putG gs nt) ∧ Chg (Typed w (fun k => w0.heap.size ≤ k)) w w' := by
  obtain ⟨⟨v, ss, hL, hc⟩, h2, h3, h4⟩ := h
  have ht : tot ss = ns.length := by rw [tot_cont ss gs hc, h2]
  have hl : ss.length ≤ ns.length := by rw [len_cont hc, ← h2]; exact len_flat h3
  refine (put_ok l v ss nt.b nt.s A c nt.path w hL.ty (by omega) (by omega) hC hO).mono ?_
  rintro e w' ⟨v', ss', rfl, hL', hc', ht', hg⟩
  refine ⟨rfl, ⟨⟨v', ss', hL'.mono (fun k _ hk => hk.elim (fun h => h.1) (fun h => Nat.le_trans hw h)), ?_⟩, ?_, putG_ne h3 nt, putG_fit h4 nt⟩, hg⟩
  · rw [hc', hc]
    exact putC_G gs nt
  · rw [putG_flat, h2]


theorem holds_len {fr : Bool} {w0 w : World} {l : Nat} {ns : List Nt} {gs : List (List Nt)} (h : Holds fr w0 w l ns gs) : Calls Try.prog 24 #[ptr l] w fun e w' => e = .returned (.int .i64 (ns.length : Int)) ∧ w = w' := by
  obtain ⟨⟨v, ss, hL, hc⟩, h2, _, _⟩ := h
  have := len_any w l v ss hL
  rw [tot_cont ss gs hc, h2] at this
  exact this
theorem lens_G {ss : List Sg} {gs : List (List Nt)} (h : cont ss = contG gs) : lens ss = gs.map fun g => ((encAll g).length : Int) := by
  have e : lens ss = (cont ss).map fun p => (p.1.length : Int) := by
    unfold lens cont
    rw [List.map_map]
    rfl
  rw [e, h]
  unfold contG
  rw [List.map_map]
  rfl
theorem holds_segs {fr : Bool} {w0 w : World} {l : Nat} {ns : List Nt} {gs : List (List Nt)} (h : Holds fr w0 w l ns gs) (hn : ns.length ≤ 90000) :
    Calls Try.prog 25 #[ptr l] w fun e w' => ∃ A n c, e = .returned (.slice A n c) ∧ Kd.R (Kd.int .i64) 3 w' w.heap.size (fun _ => True) (.slice A n c) (gs.map fun g => ((encAll g).length : Int)) ∧ Below w.heap.size w w' := by
  obtain ⟨⟨v, ss, hL, hc⟩, h2, h3, _⟩ := h
  have := segments_any w l v ss hL (by rw [len_cont hc]; have := len_flat h3; rw [h2] at this; omega)
  rw [lens_G hc] at this
  exact this
theorem encAll_pos {g : List Nt} (h : g ≠ []) : 0 < (encAll g).length := by
  cases g with
  | nil => exact absurd rfl h
  | cons n g =>
    have e : encAll (n :: g) = encNt n ++ encAll g := by simp [encAll]
    have := List.length_pos_iff.2 (encNt_ne n)
    rw [e, List.length_append]
    omega
theorem Holds.small {fr : Bool} {w0 w : World} {l : Nat} {ns : List Nt} {gs : List (List Nt)} (h : Holds fr w0 w l ns gs) (hs : ∀ n ∈ ns, (encNt n).length ≤ 4096) : ∀ g ∈ gs, 0 < (encAll g).length ∧ (encAll g).length ≤ 4096 := by
  intro g hg
  refine ⟨encAll_pos (h.ne g hg), ?_⟩
  rcases h.fit g hg with h1 | ⟨n, rfl⟩
  · exact h1
  · have e : encAll [n] = encNt n := by simp [encAll]
    rw [e]
    refine hs n ?_
    rw [← h.flat]
    exact List.mem_flatten.2 ⟨[n], hg, by simp⟩
theorem holds_none {fr : Bool} {w0 w : World} {l : Nat} {ns : List Nt} (h : Holds fr w0 w l ns []) : Calls Try.prog 27 #[ptr l] w fun e w' => e = .returned (.tuple #[.slice none 0 0, .int .i64 11]) ∧ w = w' := by
  obtain ⟨⟨v, ss, hL, hc⟩, _, _, _⟩ := h
  obtain rfl : ss = [] := List.eq_nil_of_length_eq_zero (len_cont hc)
  exact take_none w l v hL
theorem holds_take {fr : Bool} {w0 w : World} {l : Nat} {ns g : List Nt} {rest : List (List Nt)} (h : Holds fr w0 w l ns (g :: rest)) (hn : ns.length ≤ 90000) (hw : w0.heap.size ≤ w.heap.size) (hok : ∀ n ∈ ns, OkNt n) :
    Calls Try.prog 27 #[ptr l] w fun e w' => ∃ vo, e = .returned (.tuple #[vo, .int .i64 0]) ∧ Kd.R k28 28 w' w.heap.size (fun _ => True) vo (g.map toS) ∧ Holds fr w0 w' l rest.flatten rest ∧ Chg (Typed w (fun k => w0.heap.size ≤ k)) w w' := by
  obtain ⟨⟨v, ss, hL, hc⟩, h2, h3, h4⟩ := h
  have ht : tot ss = ns.length := by rw [tot_cont ss _ hc, h2]
  have hlen := len_cont hc
  have hl2 := len_flat h3
  rw [h2] at hl2
  cases ss with
  | nil => simp at hlen
  | cons s ss =>
    simp only [cont, contG, List.map_cons, List.cons.injEq, Prod.mk.injEq] at hc
    obtain ⟨⟨hb, hnn⟩, hrest⟩ := hc
    have hokg : ∀ n ∈ g, OkNt n := fun n hn => hok n (by rw [← h2]; exact List.mem_flatten.2 ⟨g, by simp, hn⟩)
    refine (take_any w l v s ss g hL.ty (by simp at hlen hl2; omega) (by rw [hb]; exact dAll_enc hokg) (by rw [hnn]; exact List.length_pos_iff.2 (h3 g (by simp))) (by omega)).mono ?_
    rintro e w' ⟨vo, v', rfl, hR, hL', hg⟩
    refine ⟨vo, rfl, hR, ⟨⟨v', ss, hL'.mono (fun k _ hk => hk.elim (fun h => h.1) (fun h => Nat.le_trans hw h)), hrest⟩, rfl, fun x hx => h3 x (by simp [hx]), fun x hx => h4 x (by simp [hx])⟩, hg.mono (fun k _ hk => ?_)⟩
    rcases hk with rfl | rfl
    · exact hL.ty.okl
    · exact (hL.ty.segs s (by simp)).2.2
theorem str_at {w : World} {A : Option Addr} {q : Nat} {ns : List Nt} (h : Kd.string.C w A q (ns.map encS)) (i : Nat) (nt : Nt) (hi : ns[i]? = some nt) : ∃ ad, A = some ad ∧ w.cell? (ad.add i) = some (.string (strOfNums (encNt nt))) := by
  have hlt : i < ns.length := (List.getElem?_eq_some_iff.1 hi).1
  have hq : q = ns.length := by
    have := h.1
    rw [List.length_map] at this
    exact this.symm
  obtain ⟨ad, e, hc⟩ := Kd.at_string h (i : Int) (by omega) (by omega)
  refine ⟨ad, e, ?_⟩
  rw [Int.toNat_natCast] at hc
  rw [hc]
  have e2 : rdOf ByteArray.empty (ns.map encS) (i : Int) = strOfNums (encNt nt) := by
    unfold rdOf
    rw [Int.toNat_natCast, List.getD_eq_getElem?_getD, List.getElem?_map, hi]
    rfl
  rw [e2]
theorem nat_at {w : World} {A : Option Addr} {q : Nat} {xs : List Int} (h : (Kd.int .i64).C w A q xs) (i : Nat) (x : Int) (hi : xs[i]? = some x) : ∃ ad, A = some ad ∧ w.cell? (ad.add i) = some (.int .i64 x) := by
  have hlt : i < xs.length := (List.getElem?_eq_some_iff.1 hi).1
  have hq : q = xs.length := h.1.symm
  obtain ⟨ad, e, hc⟩ := Kd.at_int h (i : Int) (by omega) (by omega)
  refine ⟨ad, e, ?_⟩
  rw [Int.toNat_natCast] at hc
  rw [hc]
  have e2 : rd xs (i : Int) = x := by
    unfold rd
    rw [Int.toNat_natCast, List.getD_eq_getElem?_getD, hi]
    rfl
  rw [e2]
end Go.Proofs.Ytebbikihhkjaaaa.Hand
