/- The least match of a table in plain Lean, part 5: a way is turned; all rows are matched. No condition. -/
import Derived.Test.YtelabmhhnpfegaaJd
namespace Go.Proofs.Ytelabmhhnpfegaa.Hand
theorem way_of {t : Tb} {r : Nat} {s : St} {L : List Nat} (h : Look t r s L) (m : Nat) : ∀ (l1 l2 : List Nat) (k : Nat), l2.length ≤ m → L = l1 ++ l2 → (s.from_ k = -1 ∨ ∃ b ∈ l2, s.from_ k = (b : Int)) → ∃ W : List Nat, Way s (k :: W) ∧ W.Sublist l2 := by
  induction m with
  | zero =>
    intro l1 l2 k hm _ hk
    obtain rfl := List.eq_nil_of_length_eq_zero (Nat.le_zero.1 hm)
    rcases hk with e | ⟨b, hb, _⟩
    · exact ⟨[], e, List.nil_sublist _⟩
    · cases hb
  | succ m ih =>
    intro l1 l2 k hm hL hk
    rcases hk with e | ⟨b, hb, e⟩
    · exact ⟨[], e, List.nil_sublist _⟩
    · obtain ⟨m1, m2, rfl⟩ := List.append_of_mem hb
      have hw := h.way (l1 ++ m1) b m2 (by rw [hL, List.append_assoc])
      obtain ⟨W, h1, h2⟩ := ih (l1 ++ m1 ++ [b]) m2 b (by simp at hm; omega) (by rw [hL]; simp) hw
      exact ⟨b :: W, ⟨e, h1⟩, (List.Sublist.cons_cons b h2).trans (List.sublist_append_right _ _)⟩
theorem way_next {s : St} : ∀ (P : List Nat), Way s P → ∀ j ∈ P, s.from_ j = -1 ∨ ∃ b ∈ P, s.from_ j = (b : Int)
  | [], _, j, hj => by cases hj
  | [k], h, j, hj => by
    rw [List.mem_singleton.1 hj]
    exact .inl h
  | k :: k' :: l, h, j, hj => by
    rcases List.mem_cons.1 hj with rfl | hj
    · exact .inr ⟨k', by simp, h.1⟩
    · rcases way_next (k' :: l) h.2 j hj with e | ⟨b, hb, e⟩
      · exact .inl e
      · exact .inr ⟨b, List.mem_cons_of_mem _ hb, e⟩
/-- Who comes behind one: of the tail. -/
theorem way_tail {s : St} : ∀ (P : List Nat) (k : Nat), Way s (k :: P) → ∀ j ∈ k :: P, s.from_ j = -1 ∨ ∃ b ∈ P, s.from_ j = (b : Int)
  | [], k, h, j, hj => by
    rw [List.mem_singleton.1 hj]
    exact .inl h
  | k' :: l, k, h, j, hj => by
    rcases List.mem_cons.1 hj with rfl | hj
    · exact .inr ⟨k', by simp, h.1⟩
    · rcases way_tail l k' h.2 j hj with e | ⟨b, hb, e⟩
      · exact .inl e
      · exact .inr ⟨b, List.mem_cons_of_mem _ hb, e⟩
theorem way_inj {s : St} : ∀ (P : List Nat), P.Nodup → Way s P → ∀ i ∈ P, ∀ j ∈ P, s.from_ i = s.from_ j → i = j
  | [], _, _, i, hi, _, _, _ => by cases hi
  | [k], _, _, i, hi, j, hj, _ => by rw [List.mem_singleton.1 hi, List.mem_singleton.1 hj]
  | k :: k' :: l, hn, h, i, hi, j, hj, e => by
    rw [List.nodup_cons] at hn
    have key : ∀ x ∈ k' :: l, s.from_ x ≠ (k' : Int) := fun x hx e2 => by
      rcases way_tail l k' h.2 x hx with e3 | ⟨b, hb, e3⟩
      · omega
      · have : b = k' := by omega
        subst this
        exact (List.nodup_cons.1 hn.2).1 hb
    rcases List.mem_cons.1 hi with hi2 | hi2
    · rcases List.mem_cons.1 hj with hj2 | hj2
      · rw [hi2, hj2]
      · rw [hi2, h.1] at e
        exact absurd e.symm (key j hj2)
    · rcases List.mem_cons.1 hj with hj2 | hj2
      · rw [hj2, h.1] at e
        exact absurd e (key i hi2)
      · exact way_inj (k' :: l) hn.2 h.2 i hi2 j hj2 e
theorem turnF_spec {s : St} (r : Nat) : ∀ (P : List Nat) (o : Nat → Int), P.Nodup → Way s P → (∀ j ∈ P.tail, 0 ≤ o j) → (∀ j, j ∉ P → turnF r P o j = o j) ∧ ∀ j ∈ P, turnF r P o j = (rowOf o r (s.from_ j) : Int)
  | [], o, _, _, _ => ⟨fun _ _ => rfl, fun j hj => by cases hj⟩
  | [k], o, _, h, _ => ⟨fun j hj => upd_ne _ _ (by simpa using hj), fun j hj => by
      have hj := List.mem_singleton.1 hj
      subst hj
      have e : s.from_ j = -1 := h
      show upd o j (r : Int) j = _
      rw [upd_self, e]
      rfl⟩
  | k :: k' :: l, o, hn, h, ho => by
    rw [List.nodup_cons] at hn
    have ho' : ∀ j ∈ l, 0 ≤ upd o k (o k') j := fun j hj => by
      have : j ≠ k := fun e => hn.1 (e ▸ List.mem_cons_of_mem _ hj)
      rw [upd_ne _ _ this]
      exact ho j (by simp [hj])
    obtain ⟨h1, h2⟩ := turnF_spec r (k' :: l) (upd o k (o k')) hn.2 h.2 ho'
    refine ⟨fun j hj => ?_, fun j hj => ?_⟩
    · show turnF r (k' :: l) (upd o k (o k')) j = o j
      have : j ≠ k := fun e => hj (by simp [e])
      rw [h1 j (fun x => hj (List.mem_cons_of_mem _ x)), upd_ne _ _ this]
    · show turnF r (k' :: l) (upd o k (o k')) j = _
      rcases List.mem_cons.1 hj with rfl | hj
      · rw [h1 j hn.1, upd_self, h.1]
        have h0 := ho k' (by simp)
        have : ¬ ((k' : Int) < 0) := by omega
        unfold rowOf
        rw [if_neg this]
        simp
        omega
      · rw [h2 j hj]
        rcases way_tail l k' h.2 j hj with e | ⟨b, hb, e⟩
        · rw [e]; rfl
        · rw [e]
          have : ¬ ((b : Int) < 0) := by omega
          have hbk : b ≠ k := fun x => hn.1 (x ▸ List.mem_cons_of_mem _ hb)
          unfold rowOf
          rw [if_neg this, if_neg this]
          simp only [Int.toNat_natCast]
          rw [upd_ne _ _ hbk]
/-- The nearest column is free: the way to it is turned, and one row more is matched. -/
theorem turn_ok {t : Tb} (ht : TbOk t) {r : Nat} {s : St} {L : List Nat} (h : Spread t r s L) {k : Nat} (hk : k < t.n) (hkL : k ∉ L) (hkf : s.far k = false) (hk0 : s.least k = 0) (hown : ∀ j, j < t.n → t.no r j = false → s.u r + s.v j ≤ t.c r j) (hof : s.of k = -1) :
    ∃ W : List Nat, Way s (k :: W) ∧ (∀ j ∈ k :: W, j < t.n) ∧ (k :: W).length ≤ t.n ∧ Inv t (r + 1) s.u s.v (turnF r (k :: W) s.of) := by
  have hc := h.comes k hk hkL hkf
  obtain ⟨W, hW, hsub⟩ := way_of h.toLook L.length [] L k (Nat.le_refl _) rfl hc.1
  have hnd : (k :: W).Nodup := List.nodup_cons.2 ⟨fun x => hkL (hsub.subset x), hsub.nodup h.nodup⟩
  have hmem : ∀ j ∈ W, j ∈ L := fun j hj => hsub.subset hj
  have hlt : ∀ j ∈ k :: W, j < t.n := fun j hj => by
    rcases List.mem_cons.1 hj with rfl | hj
    · exact hk
    · exact (h.lin j (hmem j hj)).1
  obtain ⟨t1, t2⟩ := turnF_spec r (k :: W) s.of hnd hW (fun j hj => (h.lin j (hmem j hj)).2)
  have hedge : ∀ j ∈ k :: W, t.no (rowOf s.of r (s.from_ j)) j = false ∧ s.u (rowOf s.of r (s.from_ j)) + s.v j = t.c (rowOf s.of r (s.from_ j)) j := fun j hj => by
    rcases List.mem_cons.1 hj with rfl | hj
    · refine ⟨hc.2.1, ?_⟩
      have := hc.2.2
      rw [hk0] at this
      omega
    · exact h.edge j (hmem j hj)
  have hfrom : ∀ j ∈ k :: W, s.from_ j = -1 ∨ ∃ b ∈ W, s.from_ j = (b : Int) := way_tail W k hW
  have hrow : ∀ j ∈ k :: W, (s.from_ j = -1 ∧ rowOf s.of r (s.from_ j) = r) ∨ ∃ b ∈ W, s.from_ j = (b : Int) ∧ s.of b = (rowOf s.of r (s.from_ j) : Int) ∧ rowOf s.of r (s.from_ j) < r := fun j hj => by
    rcases hfrom j hj with e | ⟨b, hb, e⟩
    · exact .inl ⟨e, by rw [e]; rfl⟩
    · obtain ⟨h1, h2⟩ := h.lin b (hmem b hb)
      have hn : ¬ ((b : Int) < 0) := by omega
      have e2 : rowOf s.of r (b : Int) = (s.of b).toNat := by simp [rowOf, hn]
      rcases h.range b h1 with e3 | ⟨i, e3, hi⟩
      · rw [e3] at h2; omega
      · exact .inr ⟨b, hb, e, by rw [e, e2, e3]; simp, by rw [e, e2, e3]; simpa using hi⟩
  have hlen := h.toLook.len
  have hn64 := ht.n64
  have hrl := h.rlt
  have hvk := h.free k hk hof
  have hlb := h.lb k hk hkL hkf
  have hP : (k :: W).length ≤ t.n := pigeon t.n _ hnd hlt
  refine ⟨W, hW, hlt, hP, ⟨?_, ?_, ?_, ?_, ?_, ?_, ?_, ?_⟩⟩
  · intro j hj
    by_cases hjP : j ∈ k :: W
    · rw [t2 j hjP]
      refine .inr ⟨_, rfl, ?_⟩
      rcases hrow j hjP with ⟨_, e⟩ | ⟨b, _, _, _, hlt2⟩ <;> omega
    · rw [t1 j hjP]
      rcases h.range j hj with e | ⟨i, e, hi⟩
      · exact .inl e
      · exact .inr ⟨i, e, by omega⟩
  · intro i hi
    have hlast : ∃ j ∈ k :: W, s.from_ j = -1 := by
      have : ∀ (P : List Nat) (k : Nat), Way s (k :: P) → ∃ j ∈ k :: P, s.from_ j = -1 := by
        intro P
        induction P with
        | nil => intro k h; exact ⟨k, by simp, h⟩
        | cons a P ih =>
          intro k h
          obtain ⟨j, hj, e⟩ := ih a h.2
          exact ⟨j, List.mem_cons_of_mem _ hj, e⟩
      exact this W k hW
    by_cases hir : i = r
    · obtain ⟨j, hj, e⟩ := hlast
      refine ⟨j, hlt j hj, ?_⟩
      rw [t2 j hj, e, hir]
      rfl
    · obtain ⟨j, hj, e⟩ := h.onto i (by omega)
      by_cases hjP : j ∈ k :: W
      · have hjW : j ∈ W := by
          rcases List.mem_cons.1 hjP with rfl | hj2
          · omega
          · exact hj2
        have hpred : ∀ (P : List Nat) (k : Nat), Way s (k :: P) → ∀ j ∈ P, ∃ q ∈ k :: P, s.from_ q = (j : Int) := by
          intro P
          induction P with
          | nil => intro k _ j hj; cases hj
          | cons a P ih =>
            intro k h j hj
            rcases List.mem_cons.1 hj with rfl | hj
            · exact ⟨k, by simp, h.1⟩
            · obtain ⟨q, hq, e⟩ := ih a h.2 j hj
              exact ⟨q, List.mem_cons_of_mem _ hq, e⟩
        obtain ⟨q, hq, e2⟩ := hpred W k hW j hjW
        refine ⟨q, hlt q hq, ?_⟩
        rw [t2 q hq, e2]
        have hn : ¬ ((j : Int) < 0) := by omega
        unfold rowOf
        rw [if_neg hn]
        simp
        rw [e]
        simp
      · exact ⟨j, hj, by rw [t1 j hjP]; exact e⟩
  · intro j j' hj hj' e h0
    by_cases hjP : j ∈ k :: W
    · by_cases hjP' : j' ∈ k :: W
      · rw [t2 j hjP, t2 j' hjP'] at e
        refine way_inj _ hnd hW j hjP j' hjP' ?_
        rcases hrow j hjP with ⟨e1, e2⟩ | ⟨b, hb, e1, e2, e3⟩
        · rcases hrow j' hjP' with ⟨f1, f2⟩ | ⟨b', hb', f1, f2, f3⟩
          · rw [e1, f1]
          · omega
        · rcases hrow j' hjP' with ⟨f1, f2⟩ | ⟨b', hb', f1, f2, f3⟩
          · omega
          · have := h.inj b b' (h.lin b (hmem b hb)).1 (h.lin b' (hmem b' hb')).1 (by rw [e2, f2]; exact e) (h.lin b (hmem b hb)).2
            rw [e1, f1, this]
      · rw [t2 j hjP, t1 j' hjP'] at e
        rcases hrow j hjP with ⟨e1, e2⟩ | ⟨b, hb, e1, e2, e3⟩
        · rcases h.range j' hj' with f | ⟨i, f, hi⟩ <;> omega
        · have := h.inj b j' (h.lin b (hmem b hb)).1 hj' (by rw [e2]; exact e) (h.lin b (hmem b hb)).2
          exact absurd (List.mem_cons_of_mem _ (this ▸ hb)) hjP'
    · rw [t1 j hjP] at e h0
      by_cases hjP' : j' ∈ k :: W
      · rw [t2 j' hjP'] at e
        rcases hrow j' hjP' with ⟨e1, e2⟩ | ⟨b, hb, e1, e2, e3⟩
        · rcases h.range j hj with f | ⟨i, f, hi⟩ <;> omega
        · have := h.inj b j (h.lin b (hmem b hb)).1 hj (by rw [e2]; exact e.symm) (h.lin b (hmem b hb)).2
          exact absurd (List.mem_cons_of_mem _ (this ▸ hb)) hjP
      · rw [t1 j' hjP'] at e
        exact h.inj j j' hj hj' e h0
  · intro j i hj e
    by_cases hjP : j ∈ k :: W
    · rw [t2 j hjP] at e
      have : i = rowOf s.of r (s.from_ j) := by omega
      rw [this]
      exact hedge j hjP
    · rw [t1 j hjP] at e
      exact h.tight j i hj e
  · intro i j hi hj hno
    by_cases hir : i = r
    · subst hir
      exact hown j hj hno
    · exact h.fair i j (by omega) hj hno
  · intro j hj e
    by_cases hjP : j ∈ k :: W
    · rw [t2 j hjP] at e
      omega
    · rw [t1 j hjP] at e
      exact h.free j hj e
  · intro j hj
    by_cases hjL : j ∈ L
    · have := h.sb j hjL
      rw [hk0, hvk] at hlb
      unfold M at *
      omega
    · exact h.vb j hj hjL
  · intro i hi
    exact h.rest i (by omega)
/-- All rows are matched: the match, what it comes to, and that nothing comes to less. -/
structure Done (t : Tb) (u v of : Nat → Int) (σ : Nat → Nat) : Prop where
  pm : PM t.n t.no σ
  col : ∀ i, i < t.n → of (σ i) = (i : Int)
  fair : Fair t.n t.c t.no u v
  sum : cost t.n t.c σ = sumTo t.n u + sumTo t.n v
  ub : ∀ i, i < t.n → -(256 * M) ≤ u i ∧ u i ≤ 256 * M
  vb : ∀ i, i < t.n → -(256 * M) ≤ v i ∧ v i ≤ 256 * M
theorem inv_done {t : Tb} (ht : TbOk t) {u v of : Nat → Int} (h : Inv t t.n u v of) : ∃ σ, Done t u v of σ := by
  have hex : ∀ i, ∃ k, i < t.n → (k < t.n ∧ of k = (i : Int)) := fun i => by
    by_cases hi : i < t.n
    · obtain ⟨k, hk⟩ := h.onto i hi
      exact ⟨k, fun _ => hk⟩
    · exact ⟨0, fun x => absurd x hi⟩
  obtain ⟨σ, hσ⟩ : ∃ σ : Nat → Nat, ∀ i, i < t.n → σ i < t.n ∧ of (σ i) = (i : Int) := ⟨fun i => (hex i).choose, fun i hi => (hex i).choose_spec hi⟩
  have hinj : Inj t.n σ := ⟨fun i hi => (hσ i hi).1, fun i j hi hj e => by
    have h1 := (hσ i hi).2
    rw [e, (hσ j hj).2] at h1
    omega⟩
  have hub := h.ub ht (Nat.le_refl _)
  refine ⟨σ, ⟨⟨hinj, fun i hi => (h.tight (σ i) i (hσ i hi).1 (hσ i hi).2).1⟩, fun i hi => (hσ i hi).2, ⟨fun i k hi hk hno => h.fair i k hi hk hno⟩, ?_, fun i hi => ?_, fun i hi => ?_⟩⟩
  · unfold cost
    rw [← hinj.sum v, ← sumTo_add]
    exact sumTo_congr (fun i hi => (h.tight (σ i) i (hσ i hi).1 (hσ i hi).2).2.symm)
  · have := hub i hi
    unfold M at *
    omega
  · have := h.vb i hi
    unfold M at *
    omega
theorem Done.least {t : Tb} {u v of : Nat → Int} {σ : Nat → Nat} (h : Done t u v of σ) : IsLeast t.n t.c t.no (some (cost t.n t.c σ)) :=
  ⟨⟨σ, h.pm, rfl⟩, fun τ hτ => by rw [h.sum]; exact dual_le h.fair hτ⟩
end Go.Proofs.Ytelabmhhnpfegaa.Hand
