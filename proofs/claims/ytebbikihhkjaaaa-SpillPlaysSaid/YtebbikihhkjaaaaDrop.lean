/- Drop: two logs that share no block; what goes, and what stays. -/
import Derived.Test.YtebbikihhkjaaaaOput
namespace Go.Proofs.Ytebbikihhkjaaaa.Hand
open Go.RowKit Go.Proofs.YtebbikihhkjaaaaW.PrintWords Go.Proofs.YtebbikihhkjaaaaW.PrintMore Go.Proofs.Ytebbikihhkjaaaa.PSpillBytes
theorem chg_typed {w w1 w2 : World} {B : Nat} (h1 : Chg (Typed w (fun k => B ≤ k)) w w1) (h2 : Chg (Typed w1 (fun k => B ≤ k)) w1 w2) : Chg (Typed w (fun k => B ≤ k)) w w2 :=
  h1.then_ h2 (fun k hk ht => by
    by_cases hn : Typed w (fun k => B ≤ k) k
    · exact hn
    · obtain ⟨a, c, q, m, hc, hq⟩ := ht
      exact ⟨a, c, q, m, (h1.block k hk hn).symm.trans hc, hq⟩)
theorem typed_below {w w1 : World} {B : Nat} (h : Below w.heap.size w w1) : Chg (Typed w (fun k => B ≤ k)) w w1 := Chg.of_below h
/-- Two logs from w0 on that share no block. -/
structure Two (w0 w : World) (l1 l2 : Nat) (gs1 gs2 : List (List Nt)) : Prop where
  logs : ∃ (S : Nat → Prop) (v1 : Value) (ss1 : List Sg) (v2 : Value) (ss2 : List Sg), LogAt false (fun k => (w0.heap.size ≤ k ∧ S k) ∧ k < w.heap.size) w l1 v1 ss1 ∧ cont ss1 = contG gs1 ∧ LogAt false (fun k => (w0.heap.size ≤ k ∧ ¬ S k) ∧ k < w.heap.size) w l2 v2 ss2 ∧ cont ss2 = contG gs2
  low : w0.heap.size ≤ w.heap.size
theorem two_new {w0 w w' : World} {l1 l2 : Nat} {v1 v2 : Value} {ss1 : List Sg} {gs1 : List (List Nt)} (h1 : LogAt false (fun k => w0.heap.size ≤ k) w l1 v1 ss1) (hc : cont ss1 = contG gs1) (hlow : w0.heap.size ≤ w.heap.size) (h2 : LogAt false (fun k => w.heap.size ≤ k) w' l2 v2 []) (hb : Below w.heap.size w w') : Two w0 w' l1 l2 gs1 [] := by
  refine ⟨⟨fun k => k < w.heap.size, v1, ss1, v2, [], ?_, hc, ?_, rfl⟩, Nat.le_trans hlow hb.size⟩
  · exact (h1.bound.below hb).mono (fun k hk ho => ⟨ho, hk⟩)
  · exact h2.mono (fun k hk ho => ⟨⟨Nat.le_trans hlow ho, by omega⟩, hk⟩)
namespace Two
variable {w0 w w1 : World} {l1 l2 : Nat} {gs1 gs2 : List (List Nt)}
theorem move (h : Two w0 w l1 l2 gs1 gs2) (hb : Below w.heap.size w w1) : Two w0 w1 l1 l2 gs1 gs2 := by
  obtain ⟨⟨S, v1, ss1, v2, ss2, a1, c1, a2, c2⟩, hl⟩ := h
  refine ⟨⟨fun k => S k ∧ k < w.heap.size, v1, ss1, v2, ss2, ?_, c1, ?_, c2⟩, Nat.le_trans hl hb.size⟩
  · exact (a1.below hb).mono (fun k hk ho => ⟨⟨ho.1.1, ho.1.2, ho.2⟩, hk⟩)
  · exact (a2.below hb).mono (fun k hk ho => ⟨⟨ho.1.1, fun h => ho.1.2 h.1⟩, hk⟩)
theorem row_chg (h : Two w0 w l1 l2 gs1 gs2) {α : Type} {d : Kd α} {e base : Nat} {ok : Nat → Prop} {v' : Value} {xs : List α} (ho : d.R e w base ok v' xs) (he : ¬ LogTy e) (hc : Chg (fun k => some k = v'.ownBlock) w w1) : Two w0 w1 l1 l2 gs1 gs2 := by
  obtain ⟨⟨S, v1, ss1, v2, ss2, a1, c1, a2, c2⟩, hl⟩ := h
  obtain ⟨inner, hown⟩ := Kd.R_own ho
  refine ⟨⟨fun k => S k ∧ k < w.heap.size, v1, ss1, v2, ss2, ?_, c1, ?_, c2⟩, Nat.le_trans hl hc.size⟩
  · exact (a1.row_chg hown he hc).mono (fun k hk ho => ⟨⟨ho.1.1, ho.1.2, ho.2⟩, hk⟩)
  · exact (a2.row_chg hown he hc).mono (fun k hk ho => ⟨⟨ho.1.1, fun h => ho.1.2 h.1⟩, hk⟩)
theorem blk (h : Two w0 w l1 l2 gs1 gs2) : ∃ v, Row88 w l1 v (gs1.flatten.length : Int) := by
  obtain ⟨⟨S, v1, ss1, v2, ss2, a1, c1, _⟩, _⟩ := h
  have := a1.blk
  rw [tot_cont _ _ c1] at this
  exact ⟨v1, this⟩
theorem blk2 (h : Two w0 w l1 l2 gs1 gs2) : ∃ v, Row88 w l2 v (gs2.flatten.length : Int) := by
  obtain ⟨⟨S, v1, ss1, v2, ss2, _, _, a2, c2⟩, _⟩ := h
  have := a2.blk
  rw [tot_cont _ _ c2] at this
  exact ⟨v2, this⟩
theorem take {g : List Nt} {rest : List (List Nt)} (h : Two w0 w l1 l2 (g :: rest) gs2) (hok : ∀ n ∈ g, OkNt n) (hne : ∀ x ∈ g :: rest, x ≠ []) (hl : (g :: rest).flatten.length ≤ 90000) :
    Calls Try.prog 27 #[ptr l1] w fun e w' => ∃ vo, e = .returned (.tuple #[vo, .int .i64 0]) ∧ Kd.R k28 28 w' w.heap.size (fun _ => True) vo (g.map toS) ∧ Two w0 w' l1 l2 rest gs2 ∧ Chg (Typed w (fun k => w0.heap.size ≤ k)) w w' := by
  obtain ⟨⟨S, v1, ss1, v2, ss2, a1, c1, a2, c2⟩, hlow⟩ := h
  have hlen : ss1.length ≤ 90000 := by
    rw [len_cont c1]
    exact Nat.le_trans (len_flat hne) hl
  obtain ⟨s, ss', rfl, hc', hcall⟩ := take_cont w l1 v1 ss1 g rest a1 c1 hok (hne g (by simp)) hlen (by rw [tot_cont _ _ c1]; exact hl)
  refine hcall.mono ?_
  rintro e w' ⟨vo, v', rfl, hR, hL', hg⟩
  have sb := (a1.segs s (by simp)).2.2
  refine ⟨vo, rfl, hR, ⟨⟨fun k => (S k ∧ k < w.heap.size) ∨ w.heap.size ≤ k, v', ss', v2, ss2, ?_, hc', ?_, c2⟩, Nat.le_trans hlow hg.size⟩, hg.mono (fun k _ hk => ?_)⟩
  · refine hL'.mono (fun k hk ho => ⟨⟨?_, ?_⟩, hk⟩)
    · rcases ho with ho | ho
      · exact ho.1.1
      · exact Nat.le_trans hlow ho
    · rcases ho with ho | ho
      · exact .inl ⟨ho.1.2, ho.2⟩
      · exact .inr ho
  · refine (a2.chg hg (fun k _ ho hc => ?_)).mono (fun k hk ho => ⟨⟨ho.1.1, fun hS => ?_⟩, hk⟩)
    · rcases hc with rfl | rfl
      · exact ho.1.2 a1.okl.1.2
      · exact ho.1.2 sb.1.2
    · rcases hS with hS | hS
      · exact ho.1.2 hS.1
      · have := ho.2; omega
  · rcases hk with rfl | rfl
    · exact (a1.ty.mono (fun k _ hk => ⟨hk.1.1.1, hk.2⟩)).okl
    · exact ⟨sb.1.1, (a1.ty.segs s (by simp)).2.2.2⟩
theorem put (h : Two w0 w l1 l2 gs1 gs2) (hne : ∀ x ∈ gs2, x ≠ []) (hn : gs2.flatten.length ≤ 90000) (A : Option Addr) (c : Nat) (nt : Nt) (hC : Kd.C (Kd.int .i64) w A nt.path.length nt.path) (hO : OkNt nt) :
    Calls Try.prog 17 #[ptr l2, .agg #[.int .i64 nt.b, .int .i64 nt.path.length, .int .i64 nt.s, .slice A nt.path.length c]] w fun e w' => e = .returned (.int .i64 0) ∧ Two w0 w' l1 l2 gs1 (putG gs2 nt) ∧ Chg (Typed w (fun k => w0.heap.size ≤ k)) w w' := by
  obtain ⟨⟨S, v1, ss1, v2, ss2, a1, c1, a2, c2⟩, hlow⟩ := h
  have ht : tot ss2 = gs2.flatten.length := tot_cont _ _ c2
  have hl : ss2.length ≤ gs2.flatten.length := by rw [len_cont c2]; exact len_flat hne
  refine (put_ok l2 v2 ss2 nt.b nt.s A c nt.path w a2.ty (by omega) (by omega) hC hO).mono ?_
  rintro e w' ⟨v', ss', rfl, hL', hc', _, hg⟩
  refine ⟨rfl, ⟨⟨fun k => S k ∧ k < w.heap.size, v1, ss1, v', ss', ?_, c1, ?_, ?_⟩, Nat.le_trans hlow hg.size⟩, hg.mono (fun k _ hk => ⟨hk.1.1.1, hk.2⟩)⟩
  · exact (a1.chg hg (fun k _ ho hc => hc.1.1.2 ho.1.2)).mono (fun k hk ho => ⟨⟨ho.1.1, ho.1.2, ho.2⟩, hk⟩)
  · refine hL'.mono (fun k hk ho => ⟨⟨?_, fun hS => ?_⟩, hk⟩)
    · rcases ho with ho | ho
      · exact ho.1.1.1
      · exact Nat.le_trans hlow ho
    · rcases ho with ho | ho
      · exact ho.1.1.2 hS.1
      · have := hS.2; omega
  · rw [hc', c2]
    exact putC_G gs2 nt
/-- The first log is made the second one: its row and its number. -/
theorem over (h : Two w0 w l1 l2 [] gs2) : ∃ v2, (∃ A n c, v2 = .slice A n c) ∧ Row88 w l2 v2 (gs2.flatten.length : Int) ∧ ∀ w', w' = (w.setCell ⟨l1, 0, none⟩ v2).setCell ⟨l1, 1, none⟩ (.int .i64 gs2.flatten.length) → (∃ ss, LogAt false (fun k => w0.heap.size ≤ k) w' l1 v2 ss ∧ cont ss = contG gs2) ∧ Chg (Typed w (fun k => w0.heap.size ≤ k)) w w' := by
  obtain ⟨⟨S, v1, ss1, v2, ss2, a1, c1, a2, c2⟩, hlow⟩ := h
  have ht := tot_cont _ _ c2
  refine ⟨v2, ⟨_, _, _, (own_slice a2.row).choose_spec.choose_spec.1⟩, by rw [← ht]; exact a2.blk, fun w' hw => ?_⟩
  have hg : Chg (fun k => k = l1) w w' := by
    rw [hw]
    exact Chg.setCell (S := fun k => k = l1) (Chg.setCell (S := fun k => k = l1) (Chg.refl _ _) (p := ⟨l1, 0, none⟩) (.inl rfl) _) (p := ⟨l1, 1, none⟩) (.inl rfl) _
  have hb : Row88 w' l1 v2 (tot ss2) := by
    rw [hw, ht]
    exact (a1.blk.set0 v2).set1 _
  have hk := a2.chg hg (fun k _ ho e => ho.1.2 (by rw [e]; exact a1.okl.1.2))
  refine ⟨⟨ss2, ⟨hb, a1.okl.1.1, hk.row, fun k hk' => (hk.okv k hk').1.1, fun s hs => ⟨(hk.segs s hs).1, (hk.segs s hs).2.1.1.1, (hk.segs s hs).2.2.1.1⟩, hk.apart⟩, c2⟩, hg.mono (fun k _ e => ?_)⟩
  rw [e]
  exact (a1.ty.mono (fun k _ hk => ⟨hk.1.1.1, hk.2⟩)).okl
end Two

theorem segsOf_fit (ns : List Nt) : ∀ g ∈ segsOf ns, Fit g := by
  have : ∀ (ns : List Nt) (gs : List (List Nt)), (∀ g ∈ gs, Fit g) → ∀ g ∈ ns.foldl putG gs, Fit g := by
    intro ns
    induction ns with
    | nil => intro gs h; exact h
    | cons n ns ih => intro gs h; exact ih _ (putG_fit h n)
  exact this ns [] (by simp)
def goneB (b : Int) (n : Nt) : Bool := decide (b ≤ n.b)
def goneL (b : Int) (l : List Nt) : List Nt := l.filter (goneB b)
def leftL (b : Int) (l : List Nt) : List Nt := l.filter (fun n => !goneB b n)
theorem goneL_yes {b : Int} {l : List Nt} {n : Nt} (h : b ≤ n.b) : goneL b (l ++ [n]) = goneL b l ++ [n] ∧ leftL b (l ++ [n]) = leftL b l := by
  have : goneB b n = true := decide_eq_true h
  constructor <;> simp [goneL, leftL, this]
theorem goneL_no {b : Int} {l : List Nt} {n : Nt} (h : ¬ b ≤ n.b) : goneL b (l ++ [n]) = goneL b l ∧ leftL b (l ++ [n]) = leftL b l ++ [n] := by
  have : goneB b n = false := decide_eq_false h
  constructor <;> simp [goneL, leftL, this]
theorem k28_E : ∀ q ∈ 28 :: k28.E, ¬ LogTy q := by
  intro q hq
  simp [k28, Kd.iso, Kd.pair, Kd.slice, Kd.int, Kd.scalar, k26] at hq
  rcases hq with rfl | rfl <;> (unfold LogTy; decide)
/-- A note's cells, and its path's row, of a row of one's own. -/
theorem own_note {W : World} {base : Nat} {A : Option Addr} {n c : Nat} {ns : List Nt} {ok : Nat → Prop} (h : k28.R 28 W base ok (.slice A n c) (ns.map toS)) (i : Nat) (nt : Nt) (hi : ns[i]? = some nt) :
    ∃ ad A3 c3, A = some ad ∧ W.cell? (ad.add (i * 4)) = some (.int .i64 nt.b) ∧ W.cell? ⟨(ad.add (i * 4)).block, (ad.add (i * 4)).off + 1, none⟩ = some (.int .i64 nt.path.length) ∧ W.cell? ⟨(ad.add (i * 4)).block, (ad.add (i * 4)).off + 2, none⟩ = some (.int .i64 nt.s) ∧
      W.cell? ⟨(ad.add (i * 4)).block, (ad.add (i * 4)).off + 3, none⟩ = some (.slice A3 nt.path.length c3) ∧ (Kd.int .i64).R 3 W base ok (.slice A3 nt.path.length c3) nt.path := by
  have hr := R_rows h
  have hlt : i < ns.length := (List.getElem?_eq_some_iff.1 hi).1
  have hn : n = ns.length := by have := hr.1; rw [List.length_map] at this; exact this.symm
  obtain ⟨ad, ea, hrow⟩ := hr.2.2 (by omega)
  obtain ⟨cs, hcl, hM, hcell⟩ := hrow i (toS nt) (by rw [List.getElem?_map, hi]; rfl)
  obtain ⟨v3, rfl, hR⟩ := k28_openM hM
  obtain ⟨A3, n3, c3, rfl, _⟩ := R_open hR
  have h3 := (Kd.R_reads' hR).1
  have h3' : n3 = nt.path.length := h3
  subst h3'
  have e4 : k28.sz = 4 := rfl
  rw [e4] at hcell
  refine ⟨ad, A3, c3, ea, hcell 0 _ rfl, ?_, ?_, ?_, hR⟩
  · rw [← add_field _ _ 1 (by omega)]; exact hcell 1 _ rfl
  · rw [← add_field _ _ 2 (by omega)]; exact hcell 2 _ rfl
  · rw [← add_field _ _ 3 (by omega)]; exact hcell 3 _ rfl
def NotN (W : World) (k : Nat) : Prop := ∃ c q, W.heap[k]? = some (.cells c q (0, 0)) ∧ q ≠ 28
theorem note_MS {W : World} {base : Nat} {nt : Nt} {A3 : Option Addr} {c3 : Nat} {ok : Nat → Prop} (hp : (Kd.int .i64).R 3 W base ok (.slice A3 nt.path.length c3) nt.path) : k28.M W base (NotN W) (toS nt) [.int .i64 nt.b, .int .i64 nt.path.length, .int .i64 nt.s, .slice A3 nt.path.length c3] := by
  have h2 : (Kd.int .i64).R 3 W base (NotN W) (.slice A3 nt.path.length c3) nt.path := Kd.R_mono (Kd.R_bound hp) (fun k hk => by
    obtain ⟨_, _, _, q, hq, cells, hc⟩ := hk
    simp [Kd.int, Kd.scalar] at hq
    exact ⟨cells, q, hc, by rw [hq]; decide⟩)
  exact k28_mkM W base (NotN W) (toS nt) h2
theorem notN_ne {base : Nat} {W : World} {v : Value} {xs : List S28} {ok : Nat → Prop} (h : k28.R 28 W base ok v xs) : ∀ k, NotN W k → True ∧ some k ≠ v.ownBlock := by
  rintro k ⟨c, q, hc, hq⟩
  exact ⟨trivial, Kd.R_ne h hc (fun e => hq e.symm)⟩

set_option maxHeartbeats 4000000 in
set_option maxRecDepth 100000 in
theorem drop_any {w0 : World} (w : World) (l : Nat) (b : Int) (ns : List Nt) (gs : List (List Nt)) (h : Holds false w0 w l ns gs) (hok : ∀ n ∈ ns, OkNt n) (hn : ns.length ≤ 80000) (hw0 : w0.heap.size ≤ w.heap.size) :
    Calls Try.prog 28 #[ptr l, .int .i64 b] w fun e w' => ∃ vo, e = .returned (.tuple #[vo, .int .i64 0]) ∧ Kd.R k28 28 w' w.heap.size (fun _ => True) vo ((goneL b ns).map toS) ∧ Holds false w0 w' l (leftL b ns) (segsOf (leftL b ns)) ∧ Chg (Typed w (fun k => w0.heap.size ≤ k)) w w' := by
  have HH := Aside0.mk h
  have HOK := Aside0.mk hok
  have HN := Aside0.mk hn
  have HW := Aside0.mk hw0
  have hlt := Aside0.mk (show l < w.heap.size by obtain ⟨⟨v, ss, hL, _⟩, _⟩ := h; exact hL.blk.lt)
  clear h hok hn hw0
  have hu := Try.underlying28
  have hu2 := Try.underlying88
  unfold ptr
  go_enter Try.func28, Try.ntmps28
  go_wp2_with fail
  refine (new_any _).mono ?_
  rintro e w1 ⟨lf, rfl, hL1, hB1⟩
  have T1 : Aside0 (Two w0 w1 l lf gs []) := ⟨by
    obtain ⟨⟨v, ss, hL, hc⟩, _, _, _⟩ := HH.out
    exact two_new hL hc HW.out hL1 hB1⟩
  have C1 : Aside0 (Chg (Typed w (fun k => w0.heap.size ≤ k)) w w1) := ⟨typed_below hB1⟩
  clear hL1 hB1
  unfold ptr
  go_wp2_with fail
  go_loopg [4, 5, 6] gs.length (fun kq v4 v5 v6 wr => ∃ (A6 : Option Addr) (n6 c6 : Nat) (dn : List Nt) (gr1 : List (List Nt)), v4 = .slice none 0 0 ∧ v5 = .int .i64 0 ∧ v6 = .slice A6 n6 c6 ∧ Aside0 (Kd.R k28 28 wr w.heap.size (fun _ => True) (.slice A6 n6 c6) ((goneL b dn).map toS)) ∧ Aside0 (Two w0 wr l lf gr1 (segsOf (leftL b dn))) ∧ Aside0 (ns = dn ++ gr1.flatten ∧ (∀ g ∈ gr1, g ≠ []) ∧ gr1.length ≤ kq) ∧ Aside0 (Chg (Typed w (fun k => w0.heap.size ≤ k)) w wr))
  case atStart => exact ⟨none, 0, 0, [], gs, rfl, rfl, rfl, ⟨Kd.R_nil _ _ _ _ _⟩, T1, ⟨HH.out.flat.symm, HH.out.ne, Nat.le_refl _⟩, C1⟩
  case round =>
    clear T1 C1
    obtain ⟨A6, n6, c6, dn, gr1, rfl, rfl, rfl, O6, T, D, C⟩ := hrel
    cases gr1 with
    | nil =>
      obtain ⟨v1, hb⟩ := T.out.blk
      have f1 : wr.cell? ⟨l, 1, none⟩ = some (.int .i64 0) := hb.c1
      obtain ⟨v2, ⟨A2, n2, c2, rfl⟩, h2, h3⟩ := T.out.over
      rw [segsOf_flat] at h2 h3
      obtain ⟨z, hz⟩ : ∃ z, z = (leftL b dn).length := ⟨_, rfl⟩
      rw [← hz] at h2 h3
      have OV := Aside0.mk h3
      have q0 := h2.c0
      have q1 := h2.c1
      have q0l := hb.c0
      have z0 := hb.fz 0
      have z1 := hb.fz 1
      clear hb h2 h3 hz
      go_wp2_with fail
      clear f1 q0 q1 q0l z0 z1
      go_ret2
      have ed : dn = ns := by have := D.out.1; simpa using this.symm
      subst ed
      obtain ⟨⟨ss, hL, hc⟩, hg⟩ := OV.out _ rfl
      refine ⟨_, rfl, R_log O6.out k28_E hg, ⟨⟨_, ss, hL, hc⟩, segsOf_flat _, segsOf_ne _, segsOf_fit _⟩, chg_typed C.out hg⟩
    | cons g rest =>
      have hgne : g ≠ [] := D.out.2.1 g (by simp)
      have hg0 : 0 < g.length := List.length_pos_iff.2 hgne
      have hsub : (g :: rest).flatten.length ≤ ns.length := by rw [D.out.1, List.length_append]; omega
      have hgl : g.length ≤ 80000 := by have := HN.out; rw [List.flatten_cons, List.length_append] at hsub; omega
      obtain ⟨v1, hb⟩ := T.out.blk
      obtain ⟨z, hz⟩ : ∃ z, z = (g :: rest).flatten.length := ⟨_, rfl⟩
      have hz0 : 0 < z := by rw [hz, List.flatten_cons, List.length_append]; omega
      rw [← hz] at hb
      have f1 : wr.cell? ⟨l, 1, none⟩ = some (.int .i64 z) := hb.c1
      have OKG : Aside0 (∀ x ∈ g, OkNt x) := ⟨fun x hx => HOK.out x (by rw [D.out.1]; simp [hx])⟩
      have TK := Aside0.mk (T.out.take OKG.out D.out.2.1 (by have := HN.out; omega))
      have DN : Aside0 (ns = dn ++ g ++ rest.flatten) := ⟨by rw [D.out.1]; simp⟩
      have DR : Aside0 ((∀ x ∈ rest, x ≠ []) ∧ rest.length + 1 ≤ gk) := ⟨fun x hx => D.out.2.1 x (by simp [hx]), by have := D.out.2.2; simpa using this⟩
      clear hb hz hsub hgne D
      unfold ptr at TK
      go_wp2_with fail
      clear f1
      refine TK.out.mono ?_
      rintro e w3 ⟨vo, rfl, hR, hT, hg⟩
      have O3 := Aside0.mk (R_log O6.out k28_E hg)
      have R3 := Aside0.mk (Kd.R_lower (Kd.R_new' hR (fun k hk => own_lt (Kd.R_own O6.out).choose_spec hk)) C.out.size)
      have T3 := Aside0.mk hT
      have C3 := Aside0.mk (chg_typed C.out hg)
      clear hR hT hg O6 T C TK
      obtain ⟨Ag, ng, cg, rfl, _⟩ := R_open R3.out
      obtain ⟨rfl, hcg, _⟩ := Kd.R_reads' R3.out
      obtain ⟨q, hq⟩ : ∃ q, q = g.length := ⟨_, rfl⟩
      rw [List.length_map, ← hq] at R3 hcg ⊢
      rw [← hq] at hgl hg0
      have HQ := Aside0.mk hq
      clear hq
      go_wp2_with fail
      go_loopw [6, 30] (fun v6 v30 wq => ∃ (i : Nat) (A6 : Option Addr) (n6 c6 : Nat), i ≤ q ∧ v6 = .slice A6 n6 c6 ∧ v30 = .int .i64 i ∧ Aside0 (Kd.R k28 28 wq w.heap.size (fun _ => True) (.slice A6 n6 c6) ((goneL b (dn ++ g.take i)).map toS)) ∧ Aside0 (Two w0 wq l lf rest (segsOf (leftL b (dn ++ g.take i)))) ∧ Aside0 (Kd.R k28 28 wq w.heap.size (fun k => True ∧ some k ≠ (Value.slice A6 n6 c6).ownBlock) (.slice Ag q cg) (g.map toS)) ∧ Aside0 (Chg (Typed w (fun k => w0.heap.size ≤ k)) w wq)) (fun _ v _ => q - (intOf v).toNat)
      case atStart => exact ⟨0, A6, n6, c6, Nat.zero_le _, rfl, rfl, ⟨by rw [List.take_zero, List.append_nil]; exact O3.out⟩, ⟨by rw [List.take_zero, List.append_nil]; exact T3.out⟩, R3, C3⟩
      case round =>
        clear O3 T3 R3 C3
        obtain ⟨i, A7, n7, c7, hi, rfl, rfl, O4, T4, R4, C4⟩ := hrel
        by_cases hlt2 : i < q
        · obtain ⟨nt, hnt⟩ : ∃ nt, g[i]? = some nt := ⟨g[i]'(by have := HQ.out; omega), List.getElem?_eq_getElem _⟩
          have OKN := Aside0.mk (OKG.out nt (List.mem_of_getElem? hnt))
          obtain ⟨ad, A3, c3, rfl, x0, x1, x2, x3, hP⟩ := own_note R4.out i nt hnt
          have TI : Aside0 (dn ++ g.take (i + 1) = (dn ++ g.take i) ++ [nt]) := ⟨by rw [take_snoc' g i nt hnt, List.append_assoc]⟩
          have PP := Aside0.mk hP
          clear hnt hP
          by_cases hbd : b ≤ nt.b
          · have HLN : Aside0 ((((goneL b (dn ++ g.take i)).map toS).length + 1) * 48 ≤ 140737488355328) := ⟨by
              have h1 : (goneL b (dn ++ g.take i)).length ≤ (dn ++ g.take i).length := List.length_filter_le _ _
              have h2 := congrArg List.length DN.out
              have h3 := HN.out
              rw [List.length_append, List.length_append] at h2
              rw [List.length_append, List.length_take] at h1
              rw [List.length_map]
              omega⟩
            have b1 : Below wr.heap.size wr (wr.alloc (.cells #[.int .i64 nt.b, .int .i64 nt.path.length, .int .i64 nt.s, .slice A3 nt.path.length c3] 28)) := below_alloc (Below.refl _ _) _
            have OB := Aside0.mk (Kd.R_below O4.out b1)
            have TB := Aside0.mk (T4.out.move b1)
            have RB := Aside0.mk (Kd.R_below R4.out b1)
            have PB := Aside0.mk (Kd.R_below PP.out b1)
            have CB := Aside0.mk (chg_typed C4.out (typed_below b1))
            have hd1 : decide (b ≤ nt.b) = true := decide_eq_true hbd
            have FL := Aside0.mk (goneL_yes (l := dn ++ g.take i) hbd)
            clear O4 T4 R4 PP C4 b1
            go_wp2_with (at_builtin; go_must (refine R_append_q k28 (w0 := wr.alloc (.cells #[.int .i64 nt.b, .int .i64 nt.path.length, .int .i64 nt.s, .slice A3 nt.path.length c3] 28)) w.heap.size rfl (.tmp 39) (.tmp 41) 33 28 (.agg #[(.int .i64 0), (.int .i64 0), (.int .i64 0), (.slice none 0 0)]) 48 rfl Try.underlying33 info28 rfl (by show 0 < 4; omega) (by omega) (.slice A7 n7 c7) ((goneL b (dn ++ g.take i)).map toS) (toS nt) [.int .i64 nt.b, .int .i64 nt.path.length, .int .i64 nt.s, .slice A3 nt.path.length c3] (fun _ => True) (NotN (wr.alloc (.cells #[.int .i64 nt.b, .int .i64 nt.path.length, .int .i64 nt.s, .slice A3 nt.path.length c3] 28))) rfl (wr.heap.size + 1) rfl (by simp) (note_MS PB.out) (notN_ne OB.out) (fun _ _ => trivial) OB.out (Below.refl _ _) CB.out.size HLN.out ?_); intro v8 w8 ho8 _ hg8 hat8; have R8 := Aside0.mk (Kd.R_after RB.out hg8 hat8); have T8 := Aside0.mk (TB.out.row_chg OB.out ty28 (Chg.of_grown hg8)); have C8 : Aside0 (Chg (Typed w (fun k => w0.heap.size ≤ k)) w w8) := ⟨CB.out.then_ (Chg.of_grown hg8) (fun k hk e => absurd (own_base (Kd.R_own OB.out).choose_spec k e.symm) (by omega))⟩; obtain ⟨A8, n8, c8, rfl, _⟩ := R_open ho8; have O8 := Aside0.mk ho8; clear ho8 hg8 hat8)
            clear x0 x1 x2 x3 hd1
            go_roundw
            case measure => simp [intOf]; omega
            case rel => exact ⟨i + 1, A8, n8, c8, by omega, rfl, by go_num, ⟨by rw [TI.out, FL.out.1, List.map_append]; exact O8.out⟩, ⟨by rw [TI.out, FL.out.2]; exact T8.out⟩, R8, C8⟩
          · have b1 : Below wr.heap.size wr (wr.alloc (.cells #[.int .i64 nt.b, .int .i64 nt.path.length, .int .i64 nt.s, .slice A3 nt.path.length c3] 28)) := below_alloc (Below.refl _ _) _
            have OB := Aside0.mk (Kd.R_below O4.out b1)
            have RB := Aside0.mk (Kd.R_below R4.out b1)
            have CB := Aside0.mk (chg_typed C4.out (typed_below b1))
            have FL := Aside0.mk (goneL_no (l := dn ++ g.take i) hbd)
            have PUT := Aside0.mk ((T4.out.move b1).put (segsOf_ne _) (by
              rw [segsOf_flat]
              have h1 : (leftL b (dn ++ g.take i)).length ≤ (dn ++ g.take i).length := List.length_filter_le _ _
              have h2 := congrArg List.length DN.out
              have h3 := HN.out
              rw [List.length_append, List.length_append] at h2
              rw [List.length_append, List.length_take] at h1
              omega) A3 c3 nt (Kd.R_reads' (Kd.R_below PP.out b1)).2.2 OKN.out)
            have hd1 : decide (b ≤ nt.b) = false := decide_eq_false hbd
            unfold ptr at PUT
            clear O4 T4 R4 PP C4 b1
            go_wp2_with fail
            clear x0 x1 x2 x3 hd1
            refine PUT.out.mono ?_
            rintro e w8 ⟨rfl, hT, hg⟩
            have O8 := Aside0.mk (R_log OB.out k28_E hg)
            have R8 := Aside0.mk (R_log RB.out k28_E hg)
            have T8 := Aside0.mk hT
            have C8 := Aside0.mk (chg_typed CB.out hg)
            clear hT hg
            go_wp2_with fail
            go_roundw
            case measure => simp [intOf]; omega
            case rel => exact ⟨i + 1, A7, n7, c7, by omega, rfl, by go_num, ⟨by rw [TI.out, FL.out.1]; exact O8.out⟩, ⟨by rw [TI.out, FL.out.2, segsOf_snoc]; exact T8.out⟩, R8, C8⟩
        · obtain rfl : i = q := by omega
          have eg : g.take i = g := by rw [HQ.out, List.take_length]
          rw [eg] at O4 T4
          go_wp2_with fail
          go_roundg rest.length
          case measure => have := DR.out.2; omega
          case rel => exact ⟨A7, n7, c7, dn ++ g, rest, rfl, rfl, rfl, O4, T4, ⟨by rw [DN.out], DR.out.1, Nat.le_refl _⟩, C4⟩

def NotX (W : World) (k : Nat) : Prop := ∃ c q, W.heap[k]? = some (.cells c q (0, 0)) ∧ q ≠ 30
theorem notX_ne {base : Nat} {W : World} {v : Value} {xs : List S30} {ok : Nat → Prop} (h : k30.R 30 W base ok v xs) : ∀ k, NotX W k → True ∧ some k ≠ v.ownBlock := by
  rintro k ⟨c, q, hc, hq⟩
  exact ⟨trivial, Kd.R_ne h hc (fun e => hq e.symm)⟩
theorem note_MX {W : World} {base : Nat} {nt : Nt} {A3 : Option Addr} {c3 : Nat} {ok : Nat → Prop} (hp : (Kd.int .i64).R 3 W base ok (.slice A3 nt.path.length c3) nt.path) : k30.M W base (NotX W) (toR nt) [.int .i64 nt.b, .int .i64 nt.path.length, .int .i64 nt.s, .slice A3 nt.path.length c3] := by
  have h2 : (Kd.int .i64).R 3 W base (NotX W) (.slice A3 nt.path.length c3) nt.path := Kd.R_mono (Kd.R_bound hp) (fun k hk => by
    obtain ⟨_, _, _, q, hq, cells, hc⟩ := hk
    simp [Kd.int, Kd.scalar] at hq
    exact ⟨cells, q, hc, by rw [hq]; decide⟩)
  exact k30_mkM W base (NotX W) (toR nt) h2
theorem path_ok {W : World} {base b0 : Nat} {u v : Value} {xs : List S30} {ys : List Int} {ok ok' : Nat → Prop} (hp : (Kd.int .i64).R 3 W b0 ok' v ys) (h : k30.R 30 W base ok u xs) : (Kd.int .i64).R 3 W b0 (fun k => True ∧ some k ≠ u.ownBlock) v ys :=
  Kd.R_reok rfl hp (fun k hk => by
    obtain ⟨_, h2⟩ := Kd.R_own hp
    obtain ⟨c, hc⟩ := own_typed h2 k hk
    exact ⟨trivial, Kd.R_ne h hc (by decide)⟩)
/-- A group's row, and its notes' cells, of segments of one's own. -/
theorem own_group {W : World} {base : Nat} {A : Option Addr} {n c : Nat} {gs : List (List Nt)} {ok : Nat → Prop} (h : gK.Q 37 W base ok (.slice A n c) (gr gs)) (i : Nat) (g : List Nt) (hi : gs[i]? = some g) :
    ∃ ad AG cG, A = some ad ∧ W.cell? (ad.add i) = some (.slice AG g.length cG) ∧ k30.R 30 W base ok (.slice AG g.length cG) (g.map toR) := by
  have hr := Q_rows h
  have hlt : i < gs.length := (List.getElem?_eq_some_iff.1 hi).1
  have hn : n = gs.length := by have := hr.1; rw [gr_len] at this; exact this.symm
  obtain ⟨ad, ea, hrow⟩ := hr.2.2 (by omega)
  obtain ⟨cs, hcl, ⟨vg, rfl, hRG⟩, hcell⟩ := hrow i (g.map toR) (by unfold gr; rw [List.getElem?_map, hi]; rfl)
  obtain ⟨AG, nG, cG, rfl, _⟩ := R_open hRG
  have hg := (Kd.R_reads' hRG).1
  rw [List.length_map] at hg
  subst hg
  have := hcell 0 _ rfl
  rw [show gK.sz = 1 from rfl, Nat.mul_one, Nat.add_zero] at this
  exact ⟨ad, AG, cG, ea, this, hRG⟩
theorem own_noteR {W : World} {base : Nat} {A : Option Addr} {n c : Nat} {ns : List Nt} {ok : Nat → Prop} (h : k30.R 30 W base ok (.slice A n c) (ns.map toR)) (i : Nat) (nt : Nt) (hi : ns[i]? = some nt) :
    ∃ ad A3 c3, A = some ad ∧ W.cell? (ad.add (i * 4)) = some (.int .i64 nt.b) ∧ W.cell? ⟨(ad.add (i * 4)).block, (ad.add (i * 4)).off + 1, none⟩ = some (.int .i64 nt.path.length) ∧ W.cell? ⟨(ad.add (i * 4)).block, (ad.add (i * 4)).off + 2, none⟩ = some (.int .i64 nt.s) ∧
      W.cell? ⟨(ad.add (i * 4)).block, (ad.add (i * 4)).off + 3, none⟩ = some (.slice A3 nt.path.length c3) ∧ (Kd.int .i64).R 3 W base ok (.slice A3 nt.path.length c3) nt.path := by
  have hr := R_rows h
  have hlt : i < ns.length := (List.getElem?_eq_some_iff.1 hi).1
  have hn : n = ns.length := by have := hr.1; rw [List.length_map] at this; exact this.symm
  obtain ⟨ad, ea, hrow⟩ := hr.2.2 (by omega)
  obtain ⟨cs, hcl, hM, hcell⟩ := hrow i (toR nt) (by rw [List.getElem?_map, hi]; rfl)
  obtain ⟨v3, rfl, hR⟩ := k30_openM hM
  obtain ⟨A3, n3, c3, rfl, _⟩ := R_open hR
  have h3' : n3 = nt.path.length := (Kd.R_reads' hR).1
  subst h3'
  have e4 : k30.sz = 4 := rfl
  rw [e4] at hcell
  refine ⟨ad, A3, c3, ea, hcell 0 _ rfl, ?_, ?_, ?_, hR⟩
  · rw [← add_field _ _ 1 (by omega)]; exact hcell 1 _ rfl
  · rw [← add_field _ _ 2 (by omega)]; exact hcell 2 _ rfl
  · rw [← add_field _ _ 3 (by omega)]; exact hcell 3 _ rfl

set_option maxHeartbeats 4000000 in
set_option maxRecDepth 100000 in
theorem rdrop_any (w : World) (b0 : Nat) (A : Option Addr) (n c : Nat) (b : Int) (gs : List (List Nt)) (hr : gK.Q 37 w b0 (fun _ => True) (.slice A n c) (gr gs)) (hok : ∀ x ∈ gs.flatten, OkNt x) (hne : ∀ g ∈ gs, g ≠ []) (hn : gs.flatten.length ≤ 80000) (hb0 : b0 ≤ w.heap.size) :
    Calls Try.prog 29 #[.slice A n c, .int .i64 b] w fun e w' => ∃ vo vl, e = .returned (.tuple #[vo, vl]) ∧ k30.R 30 w' b0 (fun _ => True) vo ((goneL b gs.flatten).map toR) ∧ gK.R 37 w' b0 (fun _ => True) vl (gr (segsOf (leftL b gs.flatten))) ∧ Below w.heap.size w w' := by
  have hnl : n = gs.length := by have := (Kd.Q_reads' hr).1; rwa [gr_len] at this
  have HR := Aside0.mk hr
  have OKG := Aside0.mk hok
  have HL := Aside0.mk hn
  have HB0 := Aside0.mk hb0
  have hn9 : n ≤ 80000 := by rw [hnl]; exact Nat.le_trans (len_flat hne) hn
  have HN := Aside0.mk hnl
  clear hr hok hne hn hb0 hnl
  have hu := Try.underlying30
  go_enter Try.func29, Try.ntmps29
  go_wp2_with fail
  go_loopw [6, 7, 8] (fun v6 v7 v8 wr => ∃ (k : Nat) (A6 : Option Addr) (n6 c6 : Nat) (A7 : Option Addr) (n7 c7 : Nat), k ≤ n ∧ v6 = .slice A6 n6 c6 ∧ v7 = .slice A7 n7 c7 ∧ v8 = .int .i64 k ∧ Aside0 (∀ k, (Value.slice A6 n6 c6).ownBlock = some k → w.heap.size ≤ k) ∧ Aside0 (k30.R 30 wr b0 (fun _ => True) (.slice A6 n6 c6) ((goneL b (gs.take k).flatten).map toR)) ∧ Aside0 (gK.R 37 wr b0 (fun k => True ∧ some k ≠ (Value.slice A6 n6 c6).ownBlock) (.slice A7 n7 c7) (gr (segsOf (leftL b (gs.take k).flatten)))) ∧ Aside0 (Below w.heap.size w wr)) (fun _ _ v _ => n - (intOf v).toNat)
  case atStart => exact ⟨0, none, 0, 0, none, 0, 0, Nat.zero_le _, rfl, rfl, rfl, ⟨fun k hk => by simp [Value.ownBlock] at hk⟩, ⟨Kd.R_nil _ _ _ _ _⟩, ⟨Kd.R_nil _ _ _ _ _⟩, ⟨Below.refl _ _⟩⟩
  case round =>
    obtain ⟨k, A6, n6, c6, A7, n7, c7, hk, rfl, rfl, rfl, G6, O6, O7, BR⟩ := hrel
    by_cases hlt : k < n
    · obtain ⟨g, hg⟩ : ∃ g, gs[k]? = some g := ⟨gs[k]'(by have := HN.out; omega), List.getElem?_eq_getElem _⟩
      obtain ⟨ad, AG, cG, rfl, fg, hRG⟩ := own_group HR.out k g hg
      have TK := Aside0.mk (take_snoc' gs k g hg)
      have OKN : Aside0 (∀ x ∈ g, OkNt x) := ⟨fun x hx => OKG.out x (List.mem_flatten.2 ⟨g, List.mem_of_getElem? hg, hx⟩)⟩
      have hgl : g.length ≤ 80000 := Nat.le_trans (mem_flat_len (List.mem_of_getElem? hg)) HL.out
      have TL : Aside0 ((gs.take k).flatten.length + g.length ≤ 80000) := ⟨by
        have h1 := take_flat gs (k + 1)
        rw [TK.out, List.flatten_append, List.length_append] at h1
        simp only [List.flatten_cons, List.flatten_nil, List.append_nil] at h1
        have := HL.out
        omega⟩
      obtain ⟨m, hm⟩ : ∃ m, m = g.length := ⟨_, rfl⟩
      rw [← hm] at fg hgl hRG TL
      have RG := Aside0.mk hRG
      have HM := Aside0.mk hm
      have FG := Aside0.mk fg
      clear hg hm hRG fg
      obtain ⟨dn, hdn⟩ : ∃ dn, dn = (gs.take k).flatten := ⟨_, rfl⟩
      rw [← hdn] at O6 O7 TL
      have TK2 : Aside0 ((gs.take (k + 1)).flatten = dn ++ g) := ⟨by rw [TK.out, List.flatten_append, hdn]; simp⟩
      have OKD : Aside0 (∀ x ∈ dn, OkNt x) := ⟨fun x hx => by
        rw [hdn] at hx
        obtain ⟨y, hy, hx⟩ := List.mem_flatten.1 hx
        exact OKG.out x (List.mem_flatten.2 ⟨y, List.mem_of_mem_take hy, hx⟩)⟩
      clear hdn TK
      go_wp2_with fail
      go_loopw [6, 7, 9] (fun v6 v7 v9 wr => ∃ (i : Nat) (A6 : Option Addr) (n6 c6 : Nat) (A7 : Option Addr) (n7 c7 : Nat), i ≤ m ∧ v6 = .slice A6 n6 c6 ∧ v7 = .slice A7 n7 c7 ∧ v9 = .int .i64 i ∧ Aside0 (∀ k, (Value.slice A6 n6 c6).ownBlock = some k → w.heap.size ≤ k) ∧ Aside0 (k30.R 30 wr b0 (fun _ => True) (.slice A6 n6 c6) ((goneL b (dn ++ g.take i)).map toR)) ∧ Aside0 (gK.R 37 wr b0 (fun k => True ∧ some k ≠ (Value.slice A6 n6 c6).ownBlock) (.slice A7 n7 c7) (gr (segsOf (leftL b (dn ++ g.take i))))) ∧ Aside0 (Below w.heap.size w wr)) (fun _ _ v _ => m - (intOf v).toNat)
      case atStart => exact ⟨0, A6, n6, c6, A7, n7, c7, Nat.zero_le _, rfl, rfl, rfl, G6, ⟨by rw [List.take_zero, List.append_nil]; exact O6.out⟩, ⟨by rw [List.take_zero, List.append_nil]; exact O7.out⟩, BR⟩
      case round =>
        clear O6 O7 BR G6
        obtain ⟨i, A8, n8, c8, A9, n9, c9, hi, rfl, rfl, rfl, G8, O8, O9, BW⟩ := hrel
        have fg := pw_cell_below BW.out FG.out
        by_cases hlt2 : i < m
        · obtain ⟨nt, hnt⟩ : ∃ nt, g[i]? = some nt := ⟨g[i]'(by have := HM.out; omega), List.getElem?_eq_getElem _⟩
          have OKX := Aside0.mk (OKN.out nt (List.mem_of_getElem? hnt))
          obtain ⟨aw, A3, c3, rfl, x0, x1, x2, x3, hP⟩ := own_noteR RG.out i nt hnt
          have TI : Aside0 (dn ++ g.take (i + 1) = (dn ++ g.take i) ++ [nt]) := ⟨by rw [take_snoc' g i nt hnt, List.append_assoc]⟩
          have PP := Aside0.mk hP
          have p0 := pw_cell_below BW.out x0
          have p1 := pw_cell_below BW.out x1
          have p2 := pw_cell_below BW.out x2
          have p3 := pw_cell_below BW.out x3
          have TLI : Aside0 ((dn ++ g.take i).length ≤ 80000) := ⟨by
            have := TL.out
            rw [List.length_append, List.length_take]
            omega⟩
          clear hnt hP x0 x1 x2 x3
          by_cases hbd : b ≤ nt.b
          · have HLN : Aside0 ((((goneL b (dn ++ g.take i)).map toR).length + 1) * 48 ≤ 140737488355328) := ⟨by
              have h1 : (goneL b (dn ++ g.take i)).length ≤ (dn ++ g.take i).length := List.length_filter_le _ _
              have := TLI.out
              rw [List.length_map]
              omega⟩
            have hd1 : decide (b ≤ nt.b) = true := decide_eq_true hbd
            have FL := Aside0.mk (goneL_yes (l := dn ++ g.take i) hbd)
            have PB := Aside0.mk (Kd.R_below PP.out BW.out)
            go_wp2_with (at_builtin; go_must (refine R_append_q k30 (w0 := wr) b0 rfl (.tmp 35) (.tmp 43) 37 30 (.agg #[(.int .i64 0), (.int .i64 0), (.int .i64 0), (.slice none 0 0)]) 48 rfl Try.underlying37 info30 rfl (by show 0 < 4; omega) (by omega) (.slice A8 n8 c8) ((goneL b (dn ++ g.take i)).map toR) (toR nt) [.int .i64 nt.b, .int .i64 nt.path.length, .int .i64 nt.s, .slice A3 nt.path.length c3] (fun _ => True) (NotX wr) rfl wr.heap.size rfl rfl (note_MX PB.out) (notX_ne O8.out) (fun _ _ => trivial) O8.out (Below.mono (Below.refl _ _) (Nat.le_trans HB0.out BW.out.size)) (Nat.le_trans HB0.out BW.out.size) HLN.out ?_); intro v10 w10 ho10 _ hg10 hat10; have R10 := Aside0.mk (Kd.R_after O9.out hg10 hat10); have B10 := Aside0.mk (pw_below_grown BW.out _ BW.out.size hg10 G8.out); have G10 : Aside0 (∀ k, v10.ownBlock = some k → w.heap.size ≤ k) := ⟨fun k hk => by { rcases hat10 with h | ⟨b, h, h2⟩; exact G8.out k (h ▸ hk); (rw [h] at hk; injection hk with hk; have := BW.out.size; omega) }⟩; obtain ⟨A10, n10, c10, rfl, _⟩ := R_open ho10; have O10 := Aside0.mk ho10; clear ho10 hg10 hat10)
            clear p0 p1 p2 p3 fg hd1
            go_roundw
            case measure => simp [intOf]; omega
            case rel => exact ⟨i + 1, A10, n10, c10, A9, n9, c9, by omega, rfl, rfl, by go_num, G10, ⟨by rw [TI.out, FL.out.1, List.map_append]; exact O10.out⟩, ⟨by rw [TI.out, FL.out.2]; exact R10.out⟩, B10⟩
          · have hd1 : decide (b ≤ nt.b) = false := decide_eq_false hbd
            have FL := Aside0.mk (goneL_no (l := dn ++ g.take i) hbd)
            have PUT := Aside0.mk (oput_any wr (ok := fun k => True ∧ some k ≠ (Value.slice A8 n8 c8).ownBlock) (fun k hk => ⟨trivial, fun e => by
              have := own_lt (Kd.R_own O8.out).choose_spec e.symm
              omega⟩) b0 A9 n9 c9 (segsOf (leftL b (dn ++ g.take i))) nt A3 c3 (Kd.Q_of_R O9.out) (path_ok (Kd.R_below PP.out BW.out) O8.out) OKX.out (flat_ok (by
                rw [segsOf_flat]
                intro x hx
                have hx2 := (List.mem_filter.1 hx).1
                rcases List.mem_append.1 hx2 with h | h
                · exact OKD.out x h
                · exact OKN.out x (List.mem_of_mem_take h))) (segsOf_ne _) (by
                rw [segsOf_flat]
                have h1 : (leftL b (dn ++ g.take i)).length ≤ (dn ++ g.take i).length := List.length_filter_le _ _
                have := TLI.out
                omega) (Nat.le_trans HB0.out BW.out.size))
            go_wp2_with fail
            clear p0 p1 p2 p3 fg hd1
            refine PUT.out.mono ?_
            rintro e w10 ⟨A10, c10, rfl, ho10, hb10⟩
            have e10 : putG (segsOf (leftL b (dn ++ g.take i))) nt = segsOf (leftL b (dn ++ g.take (i + 1))) := by rw [TI.out, FL.out.2, segsOf_snoc]
            rw [e10] at ho10 ⊢
            have O10 := Aside0.mk ho10
            have R10 := Aside0.mk (Kd.R_below O8.out hb10)
            have B10 := Aside0.mk (bthen BW.out hb10)
            clear ho10 hb10 e10 PUT O8 O9 BW
            go_wp2_with fail
            go_roundw
            case measure => simp [intOf]; omega
            case rel => exact ⟨i + 1, A8, n8, c8, A10, _, c10, by omega, rfl, rfl, by go_num, G8, ⟨by rw [TI.out, FL.out.1]; exact R10.out⟩, O10, B10⟩
        · obtain rfl : i = m := by omega
          have eg : g.take i = g := by rw [HM.out, List.take_length]
          rw [eg] at O8 O9
          go_wp2_with fail
          clear fg
          go_roundw
          case measure => simp [intOf]; omega
          case rel => exact ⟨k + 1, A8, n8, c8, A9, n9, c9, by omega, rfl, rfl, by go_num, G8, ⟨by rw [TK2.out]; exact O8.out⟩, ⟨by rw [TK2.out]; exact O9.out⟩, BW⟩
    · obtain rfl : k = n := by omega
      have eg : gs.take k = gs := by rw [HN.out, List.take_length]
      rw [eg] at O6 O7
      go_wp2_with fail
      go_ret2
      exact ⟨_, _, rfl, O6.out, Kd.R_mono O7.out (fun _ _ => trivial), BR.out⟩
end Go.Proofs.Ytebbikihhkjaaaa.Hand
