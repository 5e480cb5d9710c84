/- open in one statement; Put. -/
import Derived.Test.YtebbikihhkjaaaaLog
namespace Go.Proofs.Ytebbikihhkjaaaa.Hand
open Go.RowKit Go.Proofs.YtebbikihhkjaaaaW.PrintWords Go.Proofs.YtebbikihhkjaaaaW.PrintMore

/-- What stands behind open: the segment that is open, and the others. -/
structure AfterOpen (ok : Nat → Prop) (w : World) (l : Nat) (init : List Sg) (g : Nat) (bs : List Int) (nb T : Nat) (a : Option Addr) (vb v' : Value) (w' : World) : Prop where
  seg : SegBlk w' g a vb nb
  adr : a = none ∨ a = some ⟨g, 0, none⟩
  buf : w'.ownsRow 0 5 1 vb bs.length (nums .u8 bs)
  byt : Byt bs
  sm : bs.length ≤ 8222
  blk : Row88 w' l v' T
  row : w'.ownsRow 0 89 1 v' (init.length + 1) (ptrs init ++ [ptr g])
  okl : ok l
  okg : ok g ∨ w.heap.size ≤ g
  okb : ∀ k, vb.ownBlock = some k → ok k ∨ w.heap.size ≤ k
  okv : ∀ k, v'.ownBlock = some k → ok k ∨ w.heap.size ≤ k
  segs : ∀ s ∈ init, SgAt false w' s ∧ ok s.g ∧ ok s.b ∧ s.g ≠ g ∧ vb.ownBlock ≠ some s.b
  apart : init.Pairwise (fun s t => s.g ≠ t.g ∧ s.b ≠ t.b)
  chg : Chg ok w w'

def OpenC (ss : List Sg) (n : Nat) (init : List Sg) (bs : List Int) (nb : Nat) : Prop :=
  (∃ s, ss = init ++ [s] ∧ s.bs = bs ∧ s.n = nb ∧ bs.length + n ≤ 4096) ∨ (ss = init ∧ bs = [] ∧ nb = 0 ∧ ∀ s, ss.getLast? = some s → 4096 < s.bs.length + n)

theorem opened_after {ok : Nat → Prop} {w w' : World} {l : Nat} {v : Value} {ss : List Sg} {e : Ending} (h : LogAt false ok w l v ss) (ho : Opened w l v ss e w') :
    ∃ g v', e = .returned (ptr g) ∧ AfterOpen ok w l ss g [] 0 (tot ss) none (.slice none 0 0) v' w' := by
  obtain ⟨g, v', rfl, h1, h2, h3, h4, h5, h6⟩ := ho
  have hc : Chg ok w w' := h6.mono (fun k hk hs => hs.elim (fun e => by rw [e]; exact h.okl) (fun e => h.okv k e.symm))
  refine ⟨g, v', rfl, ⟨h2, .inl rfl, own_nil _ _ _ _, Byt.nil, by simp, h3, h4, h.okl, .inr h1, fun k hk => by simp [Value.ownBlock] at hk, fun k hk => ?_, fun s hs => ?_, h.apart, hc⟩⟩
  · rcases h5 k hk with h | h'
    · exact .inl (LogAt.okv (by assumption) k h)
    · exact .inr h'
  · have hs1 := h.segs s hs
    have hg := hs1.1.glt
    have hb := hs1.1.blt
    refine ⟨hs1.1.step (h6.block _ hg ?_) (h6.block _ hb ?_), hs1.2.1, hs1.2.2, by omega, by simp [Value.ownBlock]⟩
    · rintro (e | e)
      · have e1 := hs1.1.blk
        have e2 := h.blk
        unfold SegBlk at e1
        unfold Row88 at e2
        rw [e, e2] at e1
        cases e1
      · exact row_ne h.row hs1.1.blk (by decide) e
    · obtain ⟨cur, mk, e1, _⟩ := hs1.1.buf
      rintro (e | e)
      · have e2 := h.blk
        unfold Row88 at e2
        rw [e, e2] at e1
        cases e1
      · exact row_ne h.row e1 (by decide) e

theorem open_any {ok : Nat → Prop} (w : World) (l : Nat) (v : Value) (ss : List Sg) (n : Nat) (h : LogAt false ok w l v ss) (hn : n ≤ 10000) (hl : ss.length < 1000000) :
    Calls Try.prog 38 #[ptr l, .int .i64 (n : Int)] w fun e w' => ∃ init g bs nb a vb v', e = .returned (ptr g) ∧ AfterOpen ok w l init g bs nb (tot ss) a vb v' w' ∧ OpenC ss n init bs nb := by
  rcases List.eq_nil_or_concat ss with rfl | ⟨init, s, hs⟩
  · refine (open_new0 w l v n h (by omega)).mono ?_
    intro e w' ho
    obtain ⟨g, v', rfl, ha⟩ := opened_after h ho
    exact ⟨[], g, [], 0, _, _, v', rfl, ha, .inr ⟨rfl, rfl, rfl, fun s hs => by cases hs⟩⟩
  · rw [List.concat_eq_append] at hs
    subst hs
    simp only [List.length_append, List.length_cons, List.length_nil] at hl
    by_cases hroom : s.bs.length + n ≤ 4096
    · refine (open_last w l v init s n h hroom (by omega)).mono ?_
      rintro e w' ⟨rfl, rfl⟩
      have hs := h.segs s (by simp)
      have ho := hs.1.own
      have hp := List.pairwise_append.1 h.apart
      refine ⟨init, s.g, s.bs, s.n, _, _, v, rfl, ⟨hs.1.blk, .inr rfl, ho, hs.1.byt, hs.1.sm, h.blk, ?_, h.okl, .inl hs.2.1, fun k hk => ?_, fun k hk => .inl (h.okv k hk), fun t ht => ?_, hp.1, Chg.refl _ _⟩, .inl ⟨s, rfl, rfl, rfl, hroom⟩⟩
      · have := h.row
        simpa [ptrs] using this
      · simp [Value.ownBlock] at hk
        subst hk
        exact .inl hs.2.2
      · have h1 := h.segs t (by simp [ht])
        have h2 := hp.2.2 t ht s (by simp)
        refine ⟨h1.1, h1.2.1, h1.2.2, h2.1, ?_⟩
        simp [Value.ownBlock]
        exact fun e => h2.2 e.symm
    · refine (open_new1 w l v init s n h (by omega) (by omega) (by omega)).mono ?_
      intro e w' ho
      obtain ⟨g, v', rfl, ha⟩ := opened_after h ho
      exact ⟨_, g, [], 0, _, _, v', rfl, ha, .inr ⟨rfl, rfl, rfl, fun t ht => by simp at ht; subst ht; omega⟩⟩

def cont (ss : List Sg) : List (List Int × Nat) := ss.map fun s => (s.bs, s.n)
/-- Segments' bytes and numbers of notes with a note's bytes more. -/
def putC (c : List (List Int × Nat)) (e : List Int) : List (List Int × Nat) :=
  match c.getLast? with
  | some (bs, n) => if bs.length + e.length ≤ 4096 then c.dropLast ++ [(bs ++ e, n + 1)] else c ++ [(e, 1)]
  | none => [(e, 1)]
theorem putC_open {ss init : List Sg} {e bs : List Int} {nb : Nat} (h : OpenC ss e.length init bs nb) : putC (cont ss) e = cont init ++ [(bs ++ e, nb + 1)] := by
  rcases h with ⟨s, rfl, rfl, rfl, hr⟩ | ⟨rfl, rfl, rfl, hr⟩
  · simp [putC, cont, hr]
  · unfold putC
    rcases List.eq_nil_or_concat ss with rfl | ⟨i2, s, hs⟩
    · simp [cont]
    · rw [List.concat_eq_append] at hs
      subst hs
      have := hr s (by simp)
      have h2 : ¬ (s.bs.length + e.length ≤ 4096) := by omega
      simp [cont, h2]

theorem tot_open {ss init : List Sg} {n nb : Nat} {bs : List Int} (h : OpenC ss n init bs nb) : tot ss = tot init + nb := by
  rcases h with ⟨s, rfl, rfl, rfl, hr⟩ | ⟨rfl, rfl, rfl, hr⟩
  · simp [tot]
  · simp
theorem len_open {ss init : List Sg} {n nb : Nat} {bs : List Int} (h : OpenC ss n init bs nb) : init.length ≤ ss.length := by
  rcases h with ⟨s, rfl, rfl, rfl, hr⟩ | ⟨rfl, rfl, rfl, hr⟩
  · simp
  · exact Nat.le_refl _
theorem small_open {ss init : List Sg} {n nb : Nat} {bs : List Int} (h : OpenC ss n init bs nb) (hn : n ≤ 8222) : bs.length + n ≤ 8222 := by
  rcases h with ⟨s, rfl, rfl, rfl, hr⟩ | ⟨rfl, rfl, rfl, hr⟩
  · omega
  · simpa using hn

set_option maxHeartbeats 400000 in
theorem put_nil (b d s : Int) (A : Option Addr) (c : Nat) (path : List Int) (w : World) (h : Kd.C (Kd.int .i64) w A path.length path) (hs : path.length ≤ 17592186044416) (hb : I64 b) (hq : I64 s) :
    Calls Try.prog 17 #[.pointer none, .agg #[.int .i64 b, .int .i64 d, .int .i64 s, .slice A path.length c]] w fun e w' => e = .returned (.int .i64 1) ∧ Below w.heap.size w w' := by
  have H := Aside0.mk h
  clear h
  have hu := Try.underlying28
  go_enter Try.func17, Try.ntmps17
  go_wp2_with fail
  refine (encode_any b d s A c path _ (Kd.C_below H.out (below_alloc (Below.refl _ _) _)) hs hb hq).mono ?_
  rintro e w1 ⟨rfl, hb1⟩
  have B1 := Aside0.mk hb1
  clear hb1
  go_wp2
  go_ret
  exact ⟨rfl, below_box (by simpa using B1.out)⟩

set_option maxHeartbeats 400000 in
theorem put_bad (l : Nat) (b d s : Int) (A : Option Addr) (c : Nat) (path : List Int) (w : World) (h : Kd.C (Kd.int .i64) w A path.length path) (hs : path.length ≤ 17592186044416) (hb : I64 b) (hq : I64 s) (hm : mayB d path = false) :
    Calls Try.prog 17 #[ptr l, .agg #[.int .i64 b, .int .i64 d, .int .i64 s, .slice A path.length c]] w fun e w' => e = .returned (.int .i64 2) ∧ Below w.heap.size w w' := by
  have H := Aside0.mk h
  have HM := Aside0.mk hm
  clear h hm
  have hu := Try.underlying28
  unfold ptr
  go_enter Try.func17, Try.ntmps17
  go_wp2_with fail
  refine (encode_any b d s A c path _ (Kd.C_below H.out (below_alloc (Below.refl _ _) _)) hs hb hq).mono ?_
  rintro e w1 ⟨rfl, hb1⟩
  have B1 := Aside0.mk hb1
  clear hb1
  have e1 : encB b d s path = ⟨#[]⟩ := by unfold encB; rw [HM.out]; rfl
  rw [e1]
  clear e1
  go_wp2
  go_ret
  exact ⟨rfl, below_box (by simpa using B1.out)⟩

/-- What Put leaves. -/
def PutPost (ok : Nat → Prop) (w : World) (l : Nat) (ss : List Sg) (e : List Int) (en : Ending) (w' : World) : Prop :=
  ∃ v' ss', en = .returned (.int .i64 0) ∧ LogAt false (fun k => ok k ∨ w.heap.size ≤ k) w' l v' ss' ∧ cont ss' = putC (cont ss) e ∧ tot ss' = tot ss + 1 ∧ Chg ok w w'

set_option maxHeartbeats 1000000 in
set_option maxRecDepth 100000 in
theorem put_ok {ok : Nat → Prop} (l : Nat) (v : Value) (ss : List Sg) (b s : Int) (A : Option Addr) (c : Nat) (path : List Int) (w : World) (hL : LogAt false ok w l v ss) (hl : ss.length < 1000000) (ht : tot ss < 1000000) (h : Kd.C (Kd.int .i64) w A path.length path) (hO : OkNt ⟨b, s, path⟩) :
    Calls Try.prog 17 #[ptr l, .agg #[.int .i64 b, .int .i64 path.length, .int .i64 s, .slice A path.length c]] w (PutPost ok w l ss (encNt ⟨b, s, path⟩)) := by
  have H := Aside0.mk h
  have HO := Aside0.mk hO
  have HL := Aside0.mk hL
  have HT := Aside0.mk ht
  have HLL := Aside0.mk hl
  have hlen : path.length ≤ 4096 := hO.len
  clear h hO hL ht hl
  have hu := Try.underlying28
  unfold ptr
  go_enter Try.func17, Try.ntmps17
  go_wp2_with fail
  refine (encode_any b path.length s A c path _ (Kd.C_below H.out (below_alloc (Below.refl _ _) _)) (by omega) HO.out.b HO.out.s).mono ?_
  rintro e w1 ⟨rfl, hb1⟩
  have B1 := Aside0.mk (below_box (by simpa using hb1))
  clear hb1
  have e1 : encB b path.length s path = strOfNums (encNt ⟨b, s, path⟩) := by
    unfold encB
    rw [if_pos (mayB_iff.2 ⟨hlen, rfl, HO.out.ds⟩)]
  rw [e1]
  clear e1
  have L1 := Aside0.mk (HL.out.below B1.out)
  obtain ⟨E, hE⟩ : ∃ E, E = strOfNums (encNt ⟨b, s, path⟩) := ⟨_, rfl⟩
  have HE : Aside0 (E.size = (encNt ⟨b, s, path⟩).length) := ⟨by rw [hE, strOfNums_size]⟩
  have HEb : Aside0 (Lib.strCells E = nums .u8 (encNt ⟨b, s, path⟩)) := ⟨by
    have : Lib.strCells E = nums .u8 (bytesOf E) := by simp [nums, bytesOf, Lib.strCells]
    rw [this, hE, bytesOf_str (encNt_byt _)]⟩
  rw [← hE]
  clear hE
  have hsz : E.size ≤ 8222 := by rw [HE.out]; exact encNt_len HO.out
  have g1 : E.toList.isEmpty = false := by
    have : E.size ≠ 0 := by rw [HE.out]; intro h; exact encNt_ne _ (List.eq_nil_of_length_eq_zero h)
    have h2 : E.toList.length = E.size := by rw [ByteArray.toList_eq, data_length]
    cases h3 : E.toList with
    | nil => rw [h3] at h2; simp at h2; omega
    | cons _ _ => rfl
  go_wp2_with fail
  clear g1
  refine (open_any (ok := ok) _ l v ss E.size L1.out (by omega) HLL.out).mono ?_
  rintro e w2 ⟨init, g, bs, nb, a, vb, v', rfl, ha, hc⟩
  have A2 := Aside0.mk ha
  have C2 := Aside0.mk hc
  clear ha hc
  unfold ptr
  go_wp2_with fail
  refine (writeString_any g bs.length a vb nb _ E _ A2.out.seg A2.out.adr A2.out.buf (by have := A2.out.sm; omega) (fun e => row_ne A2.out.buf A2.out.seg (by decide) e.symm)).mono ?_
  rintro e w3 ⟨vb3, rfl, h31, h32, h33, h34⟩
  have S3 := Aside0.mk h31
  have O3 := Aside0.mk h32
  have T3 := Aside0.mk h33
  have D3 := Aside0.mk h34
  clear h31 h32 h33 h34
  have hgl : Aside0 (l ≠ g) := ⟨fun e => by
    have e1 := A2.out.seg
    have e2 := A2.out.blk
    unfold SegBlk at e1
    unfold Row88 at e2
    rw [e, e1] at e2
    cases e2⟩
  have B3 : Aside0 (Row88 w3 l v' (tot ss)) := ⟨D3.out.blk A2.out.blk (fun h => h.elim hgl.out (row_ne A2.out.buf A2.out.blk (by decide)))⟩
  have hnb : nb ≤ 1000000 := by have := tot_open C2.out; have := HT.out; omega
  have htt : tot ss ≤ 1000000 := by have := HT.out; omega
  have f1 := S3.out.c2
  have f2 := S3.out.fz 2
  have f3 : ∀ u, (w3.setCell ⟨g, 2, none⟩ u).cell? ⟨l, 1, none⟩ = some (.int .i64 (tot ss : Nat)) := fun u => by
    rw [World.cell?_of_block (Below.heap_setCell w3 ⟨g, 2, none⟩ u l hgl.out)]
    exact B3.out.c1
  have f4 : ∀ u, (w3.setCell ⟨g, 2, none⟩ u).frozen? ⟨l, 1, none⟩ = false := fun u => by
    rw [World.frozen?_of_block (Below.heap_setCell w3 ⟨g, 2, none⟩ u l hgl.out)]
    exact B3.out.fz 1
  go_wp2
  clear f1 f2 f3 f4
  go_ret
  have hby : Byt (bs ++ encNt ⟨b, s, path⟩) := A2.out.byt.append (encNt_byt _)
  have e32 := O3.out
  rw [HEb.out, ← nums_append, HE.out, ← List.length_append] at e32
  have hne3 : bs ++ encNt ⟨b, s, path⟩ ≠ [] := by simp [encNt_ne]
  -- the two stores
  have S4 : SegBlk (w3.setCell ⟨g, 2, none⟩ (.int .i64 ((nb + 1 : Nat) : Int))) g (some ⟨g, 0, none⟩) vb3 ((nb + 1 : Nat) : Int) := S3.out.set2 _
  have B4 : Row88 (w3.setCell ⟨g, 2, none⟩ (.int .i64 ((nb + 1 : Nat) : Int))) l v' (tot ss) := by
    unfold Row88
    rw [Below.heap_setCell w3 ⟨g, 2, none⟩ _ l hgl.out]
    exact B3.out
  have c5 : Chg (fun k => k = g ∨ k = l) w3 ((w3.setCell ⟨g, 2, none⟩ (.int .i64 ((nb + 1 : Nat) : Int))).setCell ⟨l, 1, none⟩ (.int .i64 ((tot ss + 1 : Nat) : Int))) :=
    Chg.setCell (Chg.setCell (Chg.refl _ _) (p := ⟨g, 2, none⟩) (.inl (.inl rfl)) _) (p := ⟨l, 1, none⟩) (.inl (.inr rfl)) _
  have S5 : SegBlk ((w3.setCell ⟨g, 2, none⟩ (.int .i64 ((nb + 1 : Nat) : Int))).setCell ⟨l, 1, none⟩ (.int .i64 ((tot ss + 1 : Nat) : Int))) g (some ⟨g, 0, none⟩) vb3 ((nb + 1 : Nat) : Int) := by
    unfold SegBlk
    rw [Below.heap_setCell _ _ _ _ (fun e => hgl.out e.symm)]
    exact S4
  have B5 : Row88 ((w3.setCell ⟨g, 2, none⟩ (.int .i64 ((nb + 1 : Nat) : Int))).setCell ⟨l, 1, none⟩ (.int .i64 ((tot ss + 1 : Nat) : Int))) l v' ((tot ss + 1 : Nat) : Int) := B4.set1 _
  have O5 := Chg.own c5 e32 (fun k hk h => h.elim (fun e => row_ne e32 S3.out (by decide) (by rw [← e]; exact hk.symm)) (fun e => row_ne e32 B3.out (by decide) (by rw [← e]; exact hk.symm)))
  have hR3 := D3.out.own A2.out.row (fun k hk h => h.elim (fun e => row_ne A2.out.row A2.out.seg (by decide) (by rw [← e]; exact hk.symm)) (fun e => (own_type_ne A2.out.row A2.out.buf (by decide)).elim (fun h2 => by rw [hk] at h2; cases h2) (fun h2 => h2 (hk.trans e))))
  have R5 := c5.own hR3 (fun k hk h => h.elim (fun e => row_ne hR3 S3.out (by decide) (by rw [← e]; exact hk.symm)) (fun e => row_ne hR3 B3.out (by decide) (by rw [← e]; exact hk.symm)))
  obtain ⟨b3, cap3, rfl, hS⟩ := SgAt.of_own S5 O5 hne3 hby (by have := small_open C2.out (by omega); rw [HE.out] at this; simpa using this)
  have hw2 := A2.out.chg
  have sz2 := B1.out.size
  have sz3 := hw2.size
  have segs5 : ∀ t ∈ init, SgAt false ((w3.setCell ⟨g, 2, none⟩ (.int .i64 ((nb + 1 : Nat) : Int))).setCell ⟨l, 1, none⟩ (.int .i64 ((tot ss + 1 : Nat) : Int))) t := fun t ht => by
    obtain ⟨h1, _, _, h4, h5⟩ := A2.out.segs t ht
    obtain ⟨cur, mk, hb, _⟩ := h1.buf
    have n1 : ¬ (t.g = g ∨ some t.g = vb.ownBlock) := fun h => h.elim h4 (row_ne A2.out.buf h1.blk (by decide))
    have n2 : ¬ (t.b = g ∨ some t.b = vb.ownBlock) := fun h => h.elim (fun e => by
      have e1 := A2.out.seg
      unfold SegBlk at e1
      rw [← e, hb] at e1
      cases e1) (fun e => h5 e.symm)
    have s3 := h1.step (D3.out.block _ h1.glt n1) (D3.out.block _ h1.blt n2)
    have n3 : t.g ≠ l := fun e => by
      have e1 := h1.blk
      have e2 := A2.out.blk
      unfold SegBlk at e1
      unfold Row88 at e2
      rw [e, e2] at e1
      cases e1
    have n4 : t.b ≠ l := fun e => by
      have e2 := A2.out.blk
      unfold Row88 at e2
      rw [e, e2] at hb
      cases hb
    exact s3.step (c5.block _ s3.glt (fun h => h.elim h4 n3)) (c5.block _ s3.blt (fun h => h.elim (fun e => n2 (.inl e)) n4))
  refine ⟨v', init ++ [⟨g, b3, cap3, bs ++ encNt ⟨b, s, path⟩, nb + 1⟩], rfl, ⟨?_, .inl A2.out.okl, ?_, ?_, ?_, ?_⟩, ?_, ?_, ?_⟩
  · have : tot (init ++ [⟨g, b3, cap3, bs ++ encNt ⟨b, s, path⟩, nb + 1⟩]) = tot ss + 1 := by
      rw [tot_open C2.out]; simp [tot]; omega
    rw [this]
    exact B5
  · simpa [ptrs] using R5
  · intro k hk
    exact (A2.out.okv k hk).imp id (fun h => by omega)
  · intro t ht
    rcases List.mem_append.1 ht with h | h
    · obtain ⟨_, h2, h3, _, _⟩ := A2.out.segs t h
      exact ⟨segs5 t h, .inl h2, .inl h3⟩
    · simp at h
      subst h
      refine ⟨hS, A2.out.okg.imp id (fun h => show w.heap.size ≤ g by omega), ?_⟩
      rcases T3.out with h | h
      · exact (A2.out.okb b3 (by rw [← h]; rfl)).imp id (fun h => show w.heap.size ≤ b3 by omega)
      · simp [Value.ownBlock] at h
        exact .inr (show w.heap.size ≤ b3 by omega)
  · refine List.pairwise_append.2 ⟨A2.out.apart, List.pairwise_singleton _ _, fun t ht u hu => ?_⟩
    simp at hu
    subst hu
    obtain ⟨h1, _, _, h4, h5⟩ := A2.out.segs t ht
    refine ⟨h4, fun e => ?_⟩
    simp only at e
    rcases T3.out with h | h
    · exact h5 (by rw [← h, e]; rfl)
    · simp [Value.ownBlock] at h
      have := h1.blt
      omega
  · have := C2.out
    rw [HE.out] at this
    rw [putC_open this]
    simp [cont]
  · rw [tot_open C2.out]; simp [tot]; omega
  · have k1 : Chg ok w w2 := (Chg.of_below B1.out).trans hw2
    have k2 : Chg ok w w3 := k1.then_ D3.out (fun k hk h => h.elim
      (fun e => A2.out.okg.elim (fun h => by rw [e]; exact h) (fun h => by omega))
      (fun e => (A2.out.okb k e.symm).elim id (fun h => by omega)))
    exact k2.then_ c5 (fun k hk h => h.elim
      (fun e => A2.out.okg.elim (fun h => by rw [e]; exact h) (fun h => by omega))
      (fun e => by rw [e]; exact A2.out.okl))
end Go.Proofs.Ytebbikihhkjaaaa.Hand
