/- Two logs side by side: Take of one leaves the other. What was saved is loaded again. -/
import Derived.Test.YtebbikihhkjaaaaLoad
namespace Go.Proofs.Ytebbikihhkjaaaa.Hand
open Go.RowKit Go.Proofs.YtebbikihhkjaaaaW.PrintWords Go.Proofs.YtebbikihhkjaaaaW.PrintMore Go.Proofs.Ytebbikihhkjaaaa.PSpillBytes
theorem segsOf_spec (ns : List Nt) : ∀ gs : List (List Nt), (∀ g ∈ gs, g ≠ []) → (ns.foldl putG gs).flatten = gs.flatten ++ ns ∧ (∀ g ∈ ns.foldl putG gs, g ≠ []) := by
  induction ns with
  | nil => intro gs h; exact ⟨by simp, h⟩
  | cons n ns ih =>
    intro gs h
    obtain ⟨h1, h2⟩ := ih (putG gs n) (putG_ne h n)
    refine ⟨?_, h2⟩
    rw [List.foldl_cons, h1, putG_flat]
    simp
theorem segsOf_flat (ns : List Nt) : (segsOf ns).flatten = ns := by
  have := (segsOf_spec ns [] (by simp)).1
  simpa [segsOf] using this
theorem segsOf_ne (ns : List Nt) : ∀ g ∈ segsOf ns, g ≠ [] := (segsOf_spec ns [] (by simp)).2
theorem ldAll_save : ∀ (gs : List (List Nt)), (∀ g ∈ gs, g ≠ []) → (∀ g ∈ gs, ∀ n ∈ g, OkNt n) → (∀ g ∈ gs, (encAll g).length < 18446744073709551616) → ldAll (saveB (gs.map encAll)) = some gs.flatten
  | [], _, _, _ => by simp [saveB, ldAll_nil]
  | g :: gs, h1, h2, h3 => by
    have ih := ldAll_save gs (fun x hx => h1 x (List.mem_cons_of_mem _ hx)) (fun x hx => h2 x (List.mem_cons_of_mem _ hx)) (fun x hx => h3 x (List.mem_cons_of_mem _ hx))
    have e : saveB ((g :: gs).map encAll) = vb (encAll g).length ++ (encAll g ++ saveB (gs.map encAll)) := by simp [saveB]
    have hdv := dv_vb0 (encAll g).length (encAll g ++ saveB (gs.map encAll)) (h3 g List.mem_cons_self)
    have hda := dAll_enc (h2 g List.mem_cons_self)
    have hseg : ldSeg (vb (encAll g).length ++ (encAll g ++ saveB (gs.map encAll))) = some (g, saveB (gs.map encAll)) := by
      have hg := h1 g List.mem_cons_self
      unfold ldSeg
      rw [hdv]
      simp only
      rw [if_pos (by rw [List.length_append]; omega), List.take_left, List.drop_left, hda]
      cases g with
      | nil => exact absurd rfl hg
      | cons x xs => rfl
    rw [e, ldAll_some (by simp [vb_ne]) hseg, ih]
    simp
theorem load_save (ns : List Nt) (hok : ∀ n ∈ ns, OkNt n) (hl : ns.length ≤ 90000) : loadR (strOfNums (saveB ((segsOf ns).map encAll))) = some ns := by
  have hmem : ∀ g ∈ segsOf ns, ∀ n ∈ g, n ∈ ns := fun g hg n hn => by
    rw [← segsOf_flat ns]
    exact List.mem_flatten.2 ⟨g, hg, hn⟩
  have hby : Byt (saveB ((segsOf ns).map encAll)) := by
    intro x hx
    unfold saveB at hx
    obtain ⟨b, hb, hx⟩ := List.mem_flatMap.1 hx
    obtain ⟨g, _, rfl⟩ := List.mem_map.1 hb
    rcases List.mem_append.1 hx with h | h
    · exact vb_byt _ x h
    · exact encAll_byt g x h
  have h := ldAll_save (segsOf ns) (segsOf_ne ns) (fun g hg n hn => hok n (hmem g hg n hn)) (fun g hg => by
    have h1 := encAll_len (fun n hn => hok n (hmem g hg n hn))
    have h2 : g.length ≤ ns.length := by
      rw [← segsOf_flat ns]
      obtain ⟨l1, l2, e⟩ := List.append_of_mem hg
      rw [e]
      simp
      omega
    omega)
  unfold loadR
  rw [bytesOf_str hby, h, segsOf_flat]
  exact if_pos rfl

theorem log_other {fr : Bool} {ok : Nat → Prop} {w w' : World} {l l2 b2 : Nat} {v : Value} {ss : List Sg} {c1 c2 : Array Value} {m1 m2 : Nat × Nat} (h : LogAt fr ok w l v ss) (h88 : w.heap[l2]? = some (.cells c1 88 m1)) (h5 : w.heap[b2]? = some (.cells c2 5 m2)) (hl : l ≠ l2) (hb : ∀ s ∈ ss, s.b ≠ b2) (hc : Chg (fun k => k = l2 ∨ k = b2) w w') : LogAt fr ok w' l v ss := by
  have ne : ∀ {g g2 t t2 : Nat} {cs cs2 : Array Value} {m m' : Nat × Nat}, w.heap[g]? = some (.cells cs t m) → w.heap[g2]? = some (.cells cs2 t2 m') → t ≠ t2 → g ≠ g2 := fun {g g2 t t2 cs cs2 m m'} hg hg2 ht e => by
    rw [e, hg2] at hg
    injection hg with hg
    injection hg with _ hg _
    exact ht hg.symm
  refine ⟨hc.blk h.blk (fun e => e.elim hl (ne h.blk h5 (by decide))), h.okl, hc.own h.row (fun k hk e => ?_), h.okv, fun t ht => ⟨?_, (h.segs t ht).2⟩, h.apart⟩
  · obtain ⟨c, hk2⟩ := own_typed h.row k hk
    exact e.elim (ne hk2 h88 (by decide)) (ne hk2 h5 (by decide))
  · have hT := (h.segs t ht).1
    obtain ⟨cur, mk, hbuf, _⟩ := hT.buf
    exact hT.step (hc.block _ hT.glt (fun e => e.elim (ne hT.blk h88 (by decide)) (ne hT.blk h5 (by decide)))) (hc.block _ hT.blt (fun e => e.elim (ne hbuf h88 (by decide)) (hb t ht)))
theorem take_cont {fr : Bool} {ok : Nat → Prop} (w : World) (l : Nat) (v : Value) (ss : List Sg) (g : List Nt) (rest : List (List Nt)) (h : LogAt fr ok w l v ss) (hc : cont ss = contG (g :: rest)) (hok : ∀ n ∈ g, OkNt n) (hg0 : g ≠ []) (hl : ss.length ≤ 90000) (ht : tot ss ≤ 90000) :
    ∃ s ss', ss = s :: ss' ∧ cont ss' = contG rest ∧ Calls Try.prog 27 #[ptr l] w fun e w' => ∃ vo v', e = .returned (.tuple #[vo, .int .i64 0]) ∧ Kd.R k28 28 w' w.heap.size (fun _ => True) vo (g.map toS) ∧ LogAt fr (fun k => ok k ∨ w.heap.size ≤ k) w' l v' ss' ∧ Chg (fun k => k = l ∨ k = s.b) w w' := by
  have hlen := len_cont hc
  cases ss with
  | nil => simp at hlen
  | cons s ss =>
    simp only [cont, contG, List.map_cons, List.cons.injEq, Prod.mk.injEq] at hc
    obtain ⟨⟨hb, hnn⟩, hrest⟩ := hc
    exact ⟨s, ss, rfl, hrest, take_any w l v s ss g h (by simp at hl; omega) (by rw [hb]; exact dAll_enc hok) (by rw [hnn]; exact List.length_pos_iff.2 hg0) (by omega)⟩
end Go.Proofs.Ytebbikihhkjaaaa.Hand
/- Two logs that hold alike: Len and Take over them. -/
namespace Go.Proofs.Ytebbikihhkjaaaa.Hand
open Go.RowKit Go.Proofs.YtebbikihhkjaaaaW.PrintWords Go.Proofs.YtebbikihhkjaaaaW.PrintMore Go.Proofs.Ytebbikihhkjaaaa.PSpillBytes
/-- Two logs with these notes, the first one's buffers below B, the second one's from B on; both from A0 on. -/
structure Pair (A0 B : Nat) (w : World) (l1 l2 : Nat) (gs1 gs2 : List (List Nt)) : Prop where
  log1 : ∃ v ss, LogAt true (fun k => A0 ≤ k) w l1 v ss ∧ cont ss = contG gs1 ∧ ∀ s ∈ ss, s.b < B
  log2 : ∃ v ss, LogAt true (fun k => A0 ≤ k) w l2 v ss ∧ cont ss = contG gs2 ∧ ∀ s ∈ ss, B ≤ s.b
  ne : l1 ≠ l2
  low : A0 ≤ w.heap.size
theorem Pair.move {A0 B : Nat} {w w1 : World} {l1 l2 : Nat} {gs1 gs2 : List (List Nt)} (h : Pair A0 B w l1 l2 gs1 gs2) (hb : Below w.heap.size w w1) : Pair A0 B w1 l1 l2 gs1 gs2 := by
  obtain ⟨⟨v1, s1, a1, b1, c1⟩, ⟨v2, s2, a2, b2, c2⟩, h3, h4⟩ := h
  exact ⟨⟨v1, s1, a1.below hb, b1, c1⟩, ⟨v2, s2, a2.below hb, b2, c2⟩, h3, Nat.le_trans h4 hb.size⟩
theorem pair_len1 {A0 B : Nat} {w : World} {l1 l2 : Nat} {gs1 gs2 : List (List Nt)} (h : Pair A0 B w l1 l2 gs1 gs2) : Calls Try.prog 24 #[ptr l1] w fun e w' => e = .returned (.int .i64 (gs1.flatten.length : Int)) ∧ w = w' := by
  obtain ⟨⟨v, ss, hL, hc, _⟩, _⟩ := h
  have := len_any w l1 v ss hL
  rw [tot_cont ss gs1 hc] at this
  exact this
theorem pair_len2 {A0 B : Nat} {w : World} {l1 l2 : Nat} {gs1 gs2 : List (List Nt)} (h : Pair A0 B w l1 l2 gs1 gs2) : Calls Try.prog 24 #[ptr l2] w fun e w' => e = .returned (.int .i64 (gs2.flatten.length : Int)) ∧ w = w' := by
  obtain ⟨_, ⟨v, ss, hL, hc, _⟩, _⟩ := h
  have := len_any w l2 v ss hL
  rw [tot_cont ss gs2 hc] at this
  exact this
theorem pair_take1 {A0 B : Nat} {w : World} {l1 l2 : Nat} {g : List Nt} {rest gs2 : List (List Nt)} (h : Pair A0 B w l1 l2 (g :: rest) gs2) (hok : ∀ n ∈ g, OkNt n) (hne : ∀ x ∈ g :: rest, x ≠ []) (hl : (g :: rest).flatten.length ≤ 90000) :
    Calls Try.prog 27 #[ptr l1] w fun e w' => ∃ vo, e = .returned (.tuple #[vo, .int .i64 0]) ∧ Kd.R k28 28 w' w.heap.size (fun _ => True) vo (g.map toS) ∧ Pair A0 B w' l1 l2 rest gs2 ∧ Chg (Typed w (fun k => A0 ≤ k)) w w' := by
  obtain ⟨⟨v, ss, hL, hc, hB⟩, ⟨v2, ss2, hL2, hc2, hB2⟩, h3, h4⟩ := h
  have hlen : ss.length ≤ 90000 := by
    rw [len_cont hc]
    exact Nat.le_trans (len_flat hne) hl
  obtain ⟨s, ss', rfl, hc', hcall⟩ := take_cont w l1 v ss g rest hL hc hok (hne g (by simp)) hlen (by rw [tot_cont _ _ hc]; exact hl)
  refine hcall.mono ?_
  rintro e w' ⟨vo, v', rfl, hR, hL', hg⟩
  obtain ⟨cur, mk, hbuf, _⟩ := (hL.segs s (by simp)).1.buf
  refine ⟨vo, rfl, hR, ⟨⟨v', ss', hL'.mono (fun k _ hk => hk.elim id (fun h => Nat.le_trans h4 h)), hc', fun t ht => hB t (by simp [ht])⟩, ⟨v2, ss2, log_other hL2 hL.blk hbuf h3.symm (fun t ht e => ?_) hg, hc2, hB2⟩, h3, Nat.le_trans h4 hg.size⟩, hg.mono (fun k _ hk => ?_)⟩
  · have a1 := hB2 t ht
    have a2 := hB s (by simp)
    omega
  · rcases hk with rfl | rfl
    · exact hL.ty.okl
    · exact (hL.ty.segs s (by simp)).2.2
theorem pair_take2 {A0 B : Nat} {w : World} {l1 l2 : Nat} {g : List Nt} {gs1 rest : List (List Nt)} (h : Pair A0 B w l1 l2 gs1 (g :: rest)) (hok : ∀ n ∈ g, OkNt n) (hne : ∀ x ∈ g :: rest, x ≠ []) (hl : (g :: rest).flatten.length ≤ 90000) :
    Calls Try.prog 27 #[ptr l2] w fun e w' => ∃ vo, e = .returned (.tuple #[vo, .int .i64 0]) ∧ Kd.R k28 28 w' w.heap.size (fun _ => True) vo (g.map toS) ∧ Pair A0 B w' l1 l2 gs1 rest ∧ Chg (Typed w (fun k => A0 ≤ k)) w w' := by
  obtain ⟨⟨v2, ss2, hL2, hc2, hB2⟩, ⟨v, ss, hL, hc, hB⟩, h3, h4⟩ := h
  have hlen : ss.length ≤ 90000 := by
    rw [len_cont hc]
    exact Nat.le_trans (len_flat hne) hl
  obtain ⟨s, ss', rfl, hc', hcall⟩ := take_cont w l2 v ss g rest hL hc hok (hne g (by simp)) hlen (by rw [tot_cont _ _ hc]; exact hl)
  refine hcall.mono ?_
  rintro e w' ⟨vo, v', rfl, hR, hL', hg⟩
  obtain ⟨cur, mk, hbuf, _⟩ := (hL.segs s (by simp)).1.buf
  refine ⟨vo, rfl, hR, ⟨⟨v2, ss2, log_other hL2 hL.blk hbuf h3 (fun t ht e => ?_) hg, hc2, hB2⟩, ⟨v', ss', hL'.mono (fun k _ hk => hk.elim id (fun h => Nat.le_trans h4 h)), hc', fun t ht => hB t (by simp [ht])⟩, h3, Nat.le_trans h4 hg.size⟩, hg.mono (fun k _ hk => ?_)⟩
  · have a1 := hB2 t ht
    have a2 := hB s (by simp)
    omega
  · rcases hk with rfl | rfl
    · exact hL.ty.okl
    · exact (hL.ty.segs s (by simp)).2.2
theorem pair_of {A0w w5 w6 : World} {lg lg2 : Nat} {ns : List Nt} {gs : List (List Nt)} (h1 : Holds true A0w w5 lg ns gs) (h2 : Holds true w5 w6 lg2 ns gs) (hb : Below w5.heap.size w5 w6) (hA : A0w.heap.size ≤ w5.heap.size) : Pair A0w.heap.size w5.heap.size w6 lg lg2 gs gs := by
  obtain ⟨⟨v1, s1, a1, c1⟩, _, _, _⟩ := h1
  obtain ⟨⟨v2, s2, a2, c2⟩, _, _, _⟩ := h2
  refine ⟨⟨v1, s1, a1.below hb, c1, fun s hs => (a1.segs s hs).1.blt⟩, ⟨v2, s2, a2.mono (fun k _ hk => Nat.le_trans hA hk), c2, fun s hs => (a2.segs s hs).2.2⟩, fun e => ?_, Nat.le_trans hA hb.size⟩
  have x1 := a1.blk.lt
  have x2 := a2.okl
  omega
theorem saveB_len4 {bss : List (List Int)} (h : ∀ b ∈ bss, b.length ≤ 4096) : (saveB bss).length ≤ 4106 * bss.length := by
  induction bss with
  | nil => simp [saveB]
  | cons b bss ih =>
    have e : saveB (b :: bss) = (vb b.length ++ b) ++ saveB bss := by simp [saveB]
    have h1 := h b List.mem_cons_self
    have h2 := vb_len10 (n := b.length) (by omega)
    have h3 := ih (fun x hx => h x (List.mem_cons_of_mem _ hx))
    rw [e, List.length_append, List.length_append, List.length_cons]
    omega
end Go.Proofs.Ytebbikihhkjaaaa.Hand
