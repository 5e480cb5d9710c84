/- The least match of a table in plain Lean, part 3: each step keeps what is said of the search. No condition. -/
import Derived.Test.YtelabmhhnpfegaaJb
namespace Go.Proofs.Ytelabmhhnpfegaa.Hand
theorem tree_next {t : Tb} {r : Nat} {s : St} {L : List Nat} (h : Look t r s L) (i : Nat) : Tree s r L i ↔ (L ≠ [] ∧ Tree s r L.tail i) ∨ i = nextRow s r L := by
  cases L with
  | nil => simp [Tree, nextRow]
  | cons k L =>
    have h0 := (h.lin k List.mem_cons_self).2
    simp only [Tree, nextRow, List.tail_cons, List.mem_cons]
    constructor
    · rintro (rfl | ⟨b, rfl | hb, e⟩)
      · exact .inl ⟨by simp, .inl rfl⟩
      · exact .inr (by omega)
      · exact .inl ⟨by simp, .inr ⟨b, hb, e⟩⟩
    · rintro (⟨_, rfl | ⟨b, hb, e⟩⟩ | e)
      · exact .inl rfl
      · exact .inr ⟨b, .inr hb, e⟩
      · exact .inr ⟨k, .inl rfl, by omega⟩
theorem next_row_lt {t : Tb} {r : Nat} {s : St} {L : List Nat} (h : Look t r s L) : nextRow s r L < t.n := by
  cases L with
  | nil => exact h.rlt
  | cons k L =>
    obtain ⟨h1, h2⟩ := h.lin k List.mem_cons_self
    have := h.rlt
    rcases h.range k h1 with e | ⟨i, e, hi⟩
    · rw [e] at h2; omega
    · show (s.of k).toNat < t.n
      rw [e]
      simp
      omega
theorem row_next {s : St} {r : Nat} {L : List Nat} : rowOf s.of r (nextBy L) = nextRow s r L := by
  cases L with
  | nil => rfl
  | cons k L =>
    have : ¬ ((k : Int) < 0) := by omega
    simp [rowOf, nextBy, nextRow, this]
theorem spreadC_seen {t : Tb} {s : St} {row k : Nat} (h : s.seen k = true) : spreadC t s row k = false := by simp [spreadC, h]
theorem Look.from_eq {t : Tb} {r : Nat} {s s' : St} {L : List Nat} (h : Look t r s L) (hu : s'.u = s.u) (hv : s'.v = s.v) (ho : s'.of = s.of) (hs : s'.seen = s.seen) (hf : ∀ k ∈ L, s'.from_ k = s.from_ k) : Look t r s' L := by
  obtain ⟨a1, a2, a3, a4, a5, a6, a7, a8, a9, a10, a11, a12, a13, a14, a15, a16⟩ := h
  refine ⟨a1, by rw [ho]; exact a2, by rw [ho]; exact a3, by rw [ho]; exact a4, by rw [ho, hu, hv]; exact a5, by rw [hu, hv]; exact a6, by rw [ho, hv]; exact a7, by rw [hu]; exact a8, a9, by rw [hs]; exact a10, by rw [ho]; exact a11, by rw [hv]; exact a12, by rw [hu, hv]; exact a13, by rw [hu]; exact a14, ?_, ?_⟩
  · intro l1 k l2 e
    rw [hf k (by rw [e]; simp)]
    exact a15 l1 k l2 e
  · intro k hk
    rw [hf k hk, ho, hu, hv]
    exact a16 k hk
theorem spread_ok {t : Tb} (ht : TbOk t) {r : Nat} {s : St} {L : List Nat} (h : Ahead t r s L) : Spread t r (spread t s (nextRow s r L) (nextBy L)) L := by
  obtain ⟨row, hrow⟩ : ∃ row, row = nextRow s r L := ⟨_, rfl⟩
  have hrl : row < t.n := by rw [hrow]; exact next_row_lt h.toLook
  have hseen : ∀ k, k < t.n → k ∈ L → spreadC t s row k = false := fun k hk hL => spreadC_seen ((h.sees k hk).2 hL)
  have hns : ∀ k, k < t.n → k ∉ L → s.seen k = false := fun k hk hL => by
    cases e : s.seen k with
    | false => rfl
    | true => exact absurd ((h.sees k hk).1 e) hL
  have hC : ∀ k, k < t.n → k ∉ L → (spreadC t s row k = true ↔ t.no row k = false ∧ (s.far k = true ∨ t.c row k - s.u row - s.v k < s.least k)) := fun k hk hL => by
    simp [spreadC, hns k hk hL]
  have hT : ∀ i, Tree s r L i ↔ (L ≠ [] ∧ Tree s r L.tail i) ∨ i = row := fun i => by rw [hrow]; exact tree_next h.toLook i
  have hL' : Look t r (spread t s row (nextBy L)) L := h.toLook.from_eq rfl rfl rfl rfl (fun k hk => by
    show spreadB t s row (nextBy L) t.n k = s.from_ k
    unfold spreadB
    rw [if_neg]
    rintro ⟨h1, h2⟩
    rw [hseen k h1 hk] at h2
    cases h2)
  rw [← hrow]
  have eT : ∀ i, Tree (spread t s row (nextBy L)) r L i ↔ Tree s r L i := fun i => Iff.rfl
  refine ⟨hL', ?_, ?_, ?_, ?_, ?_, h.own⟩
  · intro k hk hkL hf
    have hf' : spreadF t s row t.n k = true := hf
    unfold spreadF at hf'
    split at hf'
    · cases hf'
    · rename_i hc
      show spreadL t s row t.n k = 0
      unfold spreadL
      rw [if_neg hc]
      exact h.fbnd k hk hkL hf'
  · intro k hk hkL
    show spreadF t s row t.n k = true ↔ _
    unfold spreadF
    have h1 := h.fars k hk hkL
    by_cases hc : spreadC t s row k = true
    · rw [if_pos ⟨hk, hc⟩]
      have h2 := (hC k hk hkL).1 hc
      constructor
      · intro h; cases h
      · intro hall
        have := hall row ((hT row).2 (.inr rfl))
        rw [h2.1] at this
        cases this
    · rw [if_neg (fun x => hc x.2), h1]
      constructor
      · intro hall i hi
        rcases (hT i).1 hi with ⟨a, b⟩ | rfl
        · exact hall i a b
        · cases e : t.no i k with
          | true => rfl
          | false => exact absurd ((hC k hk hkL).2 ⟨e, .inl (h1.2 hall)⟩) hc
      · intro hall i a b
        exact hall i ((hT i).2 (.inl ⟨a, b⟩))
  · intro k hk hkL hf
    have hf' : spreadF t s row t.n k = false := hf
    show (spreadB t s row (nextBy L) t.n k = -1 ∨ ∃ b ∈ L, spreadB t s row (nextBy L) t.n k = (b : Int)) ∧ t.no (rowOf s.of r (spreadB t s row (nextBy L) t.n k)) k = false ∧ spreadL t s row t.n k = t.c (rowOf s.of r (spreadB t s row (nextBy L) t.n k)) k - s.u (rowOf s.of r (spreadB t s row (nextBy L) t.n k)) - s.v k
    unfold spreadB spreadL
    unfold spreadF at hf'
    by_cases hc : spreadC t s row k = true
    · rw [if_pos ⟨hk, hc⟩, if_pos ⟨hk, hc⟩, row_next, ← hrow]
      refine ⟨?_, ((hC k hk hkL).1 hc).1, rfl⟩
      cases L with
      | nil => exact .inl rfl
      | cons b L => exact .inr ⟨b, List.mem_cons_self, rfl⟩
    · rw [if_neg (fun x => hc x.2)] at hf' ⊢
      rw [if_neg (fun x => hc x.2)]
      obtain ⟨h1, h2, h3⟩ := h.comes k hk hkL hf'
      exact ⟨h1.imp id (fun ⟨b, hb, e⟩ => ⟨b, List.mem_of_mem_tail hb, e⟩), h2, h3⟩
  · intro k hk hkL i hi hno
    show spreadL t s row t.n k ≤ t.c i k - s.u i - s.v k
    unfold spreadL
    by_cases hc : spreadC t s row k = true
    · rw [if_pos ⟨hk, hc⟩]
      have h2 := (hC k hk hkL).1 hc
      rcases (hT i).1 hi with ⟨a, b⟩ | rfl
      · rcases h2.2 with hf | hlt
        · have := (h.fars k hk hkL).1 hf i a b
          rw [hno] at this
          cases this
        · have := h.min k hk hkL i a b hno
          omega
      · exact Int.le_refl _
    · rw [if_neg (fun x => hc x.2)]
      rcases (hT i).1 hi with ⟨a, b⟩ | rfl
      · exact h.min k hk hkL i a b hno
      · refine Classical.byContradiction fun hlt => hc ((hC k hk hkL).2 ⟨hno, .inr (by omega)⟩)
  · intro k hk hkL hf
    have hf' : spreadF t s row t.n k = false := hf
    show -((2 * (L.length : Int) + 1) * M) ≤ spreadL t s row t.n k + s.v k + s.u r ∧ spreadL t s row t.n k + s.v k + s.u r ≤ (2 * (L.length : Int) + 1) * M
    unfold spreadL
    unfold spreadF at hf'
    by_cases hc : spreadC t s row k = true
    · rw [if_pos ⟨hk, hc⟩]
      have hm := ht.mag row k hrl hk
      cases L with
      | nil =>
        obtain rfl : row = r := hrow
        simp
        unfold M
        omega
      | cons b L =>
        obtain ⟨hb1, hb2⟩ := h.lin b List.mem_cons_self
        have hrb : s.of b = (row : Int) := by
          have : row = (s.of b).toNat := hrow
          omega
        have ht1 := (h.tight b row hb1 hrb).2
        have hm2 := ht.mag row b hrl hb1
        have hs := h.sb b List.mem_cons_self
        unfold M at *
        rw [List.length_cons] at hs ⊢
        omega
    · rw [if_neg (fun x => hc x.2)] at hf' ⊢
      have := h.lb k hk hkL hf'
      unfold M at *
      omega

theorem near_spec (s : St) (m : Nat) : (near s m = -1 ∧ ∀ j, j < m → s.seen j = true ∨ s.far j = true) ∨ ∃ k : Nat, near s m = (k : Int) ∧ k < m ∧ s.seen k = false ∧ s.far k = false ∧ ∀ j, j < m → s.seen j = false → s.far j = false → s.least k ≤ s.least j := by
  induction m with
  | zero => exact .inl ⟨rfl, fun j h => absurd h (Nat.not_lt_zero _)⟩
  | succ m ih =>
    by_cases hc : nearC s (near s m) m = true
    · have e : near s (m + 1) = (m : Int) := if_pos hc
      simp only [nearC, Bool.and_eq_true, Bool.not_eq_true', Bool.or_eq_true, decide_eq_true_eq] at hc
      refine .inr ⟨m, e, by omega, hc.1.1, hc.1.2, fun j hj h1 h2 => ?_⟩
      rcases Nat.lt_succ_iff_lt_or_eq.1 hj with h3 | rfl
      · rcases ih with ⟨e0, h4⟩ | ⟨k, e0, hk, a1, a2, a3⟩
        · rcases h4 j h3 with h5 | h5
          · rw [h1] at h5; cases h5
          · rw [h2] at h5; cases h5
        · have h6 := a3 j h3 h1 h2
          rcases hc.2 with h7 | h7
          · omega
          · rw [e0] at h7
            simp at h7
            omega
      · exact Int.le_refl _
    · have e : near s (m + 1) = near s m := if_neg hc
      rw [e]
      have hc' : ¬ (s.seen m = false ∧ s.far m = false ∧ (near s m < 0 ∨ s.least m < s.least (near s m).toNat)) := by
        intro hh
        apply hc
        simp only [nearC, Bool.and_eq_true, Bool.not_eq_true', Bool.or_eq_true, decide_eq_true_eq]
        exact ⟨⟨hh.1, hh.2.1⟩, hh.2.2⟩
      rcases ih with ⟨e0, h4⟩ | ⟨k, e0, hk, a1, a2, a3⟩
      · refine .inl ⟨e0, fun j hj => ?_⟩
        rcases Nat.lt_succ_iff_lt_or_eq.1 hj with h3 | rfl
        · exact h4 j h3
        · cases h5 : s.seen j with
          | true => exact .inl rfl
          | false =>
            cases h6 : s.far j with
            | true => exact .inr rfl
            | false => exact absurd ⟨h5, h6, .inl (by rw [e0]; omega)⟩ hc'
      · refine .inr ⟨k, e0, by omega, a1, a2, fun j hj h1 h2 => ?_⟩
        rcases Nat.lt_succ_iff_lt_or_eq.1 hj with h3 | rfl
        · exact a3 j h3 h1 h2
        · refine Classical.byContradiction fun hlt => hc' ⟨h1, h2, .inr ?_⟩
          rw [e0]
          simp
          omega

theorem sub_len : ∀ (L l : List Nat), l.Nodup → (∀ x ∈ l, x ∈ L) → l.length ≤ L.length := by
  intro L
  induction L with
  | nil =>
    intro l _ h
    cases l with
    | nil => simp
    | cons x l => exact absurd (h x List.mem_cons_self) (by simp)
  | cons a L ih =>
    intro l hn h
    have h1 := ih (l.erase a) (hn.erase a) (fun x hx => by
      have h2 := h x (List.mem_of_mem_erase hx)
      rcases List.mem_cons.1 h2 with rfl | h2
      · exact absurd hx hn.not_mem_erase
      · exact h2)
    by_cases hm : a ∈ l
    · rw [List.length_erase_of_mem hm] at h1
      rw [List.length_cons]
      omega
    · rw [List.erase_of_not_mem hm] at h1
      rw [List.length_cons]
      omega
theorem Look.rows {t : Tb} {r : Nat} {s : St} {L : List Nat} (h : Look t r s L) : (r :: L.map fun k => (s.of k).toNat).Nodup ∧ ∀ i ∈ (r :: L.map fun k => (s.of k).toNat), i < t.n ∧ Tree s r L i := by
  have hlt : ∀ k ∈ L, (s.of k).toNat < r ∧ s.of k = ((s.of k).toNat : Int) := fun k hk => by
    obtain ⟨h1, h2⟩ := h.lin k hk
    rcases h.range k h1 with e | ⟨i, e, hi⟩
    · rw [e] at h2; omega
    · rw [e]; simp; omega
  refine ⟨?_, fun i hi => ?_⟩
  · rw [List.nodup_cons]
    refine ⟨fun hm => ?_, ?_⟩
    · obtain ⟨k, hk, e⟩ := List.mem_map.1 hm
      have := (hlt k hk).1
      omega
    · have : ∀ l : List Nat, l.Nodup → (∀ k ∈ l, k ∈ L) → (l.map fun k => (s.of k).toNat).Nodup := by
        intro l
        induction l with
        | nil => intro _ _; simp
        | cons a l ih =>
          intro hn hl
          rw [List.nodup_cons] at hn
          rw [List.map_cons, List.nodup_cons]
          refine ⟨fun hm => ?_, ih hn.2 (fun k hk => hl k (List.mem_cons_of_mem _ hk))⟩
          obtain ⟨b, hb, e⟩ := List.mem_map.1 hm
          have h1 := hl a List.mem_cons_self
          have h2 := hl b (List.mem_cons_of_mem _ hb)
          have e2 := h.inj a b (h.lin a h1).1 (h.lin b h2).1 (by have := (hlt a h1).2; have := (hlt b h2).2; omega) (h.lin a h1).2
          exact hn.1 (e2 ▸ hb)
      exact this L h.nodup (fun _ hk => hk)
  · have := h.rlt
    rcases List.mem_cons.1 hi with rfl | hi
    · exact ⟨this, .inl rfl⟩
    · obtain ⟨k, hk, rfl⟩ := List.mem_map.1 hi
      exact ⟨by have := (hlt k hk).1; omega, .inr ⟨k, hk, (hlt k hk).2⟩⟩
/-- Nothing is near: there is no match. -/
theorem no_match {t : Tb} {r : Nat} {s : St} {L : List Nat} (h : Spread t r s L) (hn : near s t.n = -1) : ∀ σ, ¬ PM t.n t.no σ := by
  intro σ hσ
  have hall : ∀ j, j < t.n → s.seen j = true ∨ s.far j = true := by
    rcases near_spec s t.n with ⟨_, h1⟩ | ⟨k, e, _⟩
    · exact h1
    · rw [hn] at e; omega
  obtain ⟨h1, h2⟩ := h.toLook.rows
  have hin : ∀ x ∈ (r :: L.map fun k => (s.of k).toNat).map σ, x ∈ L := fun x hx => by
    obtain ⟨i, hi, rfl⟩ := List.mem_map.1 hx
    obtain ⟨h3, h4⟩ := h2 i hi
    have h5 := hσ.inj.lt i h3
    refine Classical.byContradiction fun hL => ?_
    rcases hall (σ i) h5 with h6 | h6
    · exact hL ((h.sees _ h5).1 h6)
    · have := (h.fars _ h5 hL).1 h6 i h4
      rw [hσ.may i h3] at this
      cases this
  have hnd : ((r :: L.map fun k => (s.of k).toNat).map σ).Nodup := by
    have : ∀ l : List Nat, l.Nodup → (∀ i ∈ l, i < t.n) → (l.map σ).Nodup := by
      intro l
      induction l with
      | nil => intro _ _; simp
      | cons a l ih =>
        intro hn hl
        rw [List.nodup_cons] at hn
        rw [List.map_cons, List.nodup_cons]
        refine ⟨fun hm => ?_, ih hn.2 (fun k hk => hl k (List.mem_cons_of_mem _ hk))⟩
        obtain ⟨b, hb, e⟩ := List.mem_map.1 hm
        exact hn.1 (hσ.inj.inj b a (hl b (List.mem_cons_of_mem _ hb)) (hl a List.mem_cons_self) e ▸ hb)
    exact this _ h1 (fun i hi => (h2 i hi).1)
  have := sub_len L _ hnd hin
  simp at this
  omega
end Go.Proofs.Ytelabmhhnpfegaa.Hand
/- The least match of a table in plain Lean, part 4: the prices are shifted; the way is turned. No condition. -/
namespace Go.Proofs.Ytelabmhhnpfegaa.Hand
theorem shiftU_spec {t : Tb} {r : Nat} {s : St} {L : List Nat} (h : Look t r s L) (d : Int) (m : Nat) (hm : m ≤ t.n) :
    ∀ i, shiftU s r d m i = s.u i + (if i = r ∨ ∃ k, k < m ∧ s.seen k = true ∧ s.of k = (i : Int) then d else 0) := by
  induction m with
  | zero =>
    intro i
    simp only [shiftU, upd]
    by_cases hi : i = r
    · subst hi; rw [if_pos rfl, if_pos (.inl rfl)]
    · rw [if_neg hi, if_neg]
      · omega
      · rintro (e | ⟨k, hk, _⟩)
        · exact hi e
        · omega
  | succ m ih =>
    intro i
    have ih := ih (by omega)
    simp only [shiftU]
    by_cases hs : s.seen m = true
    · rw [if_pos hs]
      obtain ⟨hml, hmo⟩ := h.lin m ((h.sees m (by omega)).1 hs)
      have hmr : (s.of m).toNat < r ∧ s.of m = ((s.of m).toNat : Int) := by
        rcases h.range m hml with e | ⟨j, e, hj⟩
        · rw [e] at hmo; omega
        · rw [e]; simp; omega
      by_cases hi : i = (s.of m).toNat
      · subst hi
        rw [upd_self, ih, if_neg, if_pos]
        · omega
        · exact .inr ⟨m, by omega, hs, hmr.2⟩
        · rintro (e | ⟨k, hk, hks, e⟩)
          · omega
          · have := h.inj k m (by omega) hml (by rw [e]; exact hmr.2.symm) (by rw [e]; omega)
            omega
      · rw [upd_ne _ _ hi, ih]
        congr 1
        have : (i = r ∨ ∃ k, k < m ∧ s.seen k = true ∧ s.of k = (i : Int)) ↔ (i = r ∨ ∃ k, k < m + 1 ∧ s.seen k = true ∧ s.of k = (i : Int)) := by
          constructor
          · rintro (e | ⟨k, hk, a, b⟩)
            · exact .inl e
            · exact .inr ⟨k, by omega, a, b⟩
          · rintro (e | ⟨k, hk, a, b⟩)
            · exact .inl e
            · rcases Nat.lt_succ_iff_lt_or_eq.1 hk with h1 | rfl
              · exact .inr ⟨k, h1, a, b⟩
              · exact absurd (show i = (s.of k).toNat by omega) hi
        simp only [this]
    · rw [if_neg hs, ih]
      congr 1
      have : (i = r ∨ ∃ k, k < m ∧ s.seen k = true ∧ s.of k = (i : Int)) ↔ (i = r ∨ ∃ k, k < m + 1 ∧ s.seen k = true ∧ s.of k = (i : Int)) := by
        constructor
        · rintro (e | ⟨k, hk, a, b⟩)
          · exact .inl e
          · exact .inr ⟨k, by omega, a, b⟩
        · rintro (e | ⟨k, hk, a, b⟩)
          · exact .inl e
          · rcases Nat.lt_succ_iff_lt_or_eq.1 hk with h1 | rfl
            · exact .inr ⟨k, h1, a, b⟩
            · exact absurd a hs
      simp only [this]
theorem shift_u {t : Tb} {r : Nat} {s : St} {L : List Nat} (h : Look t r s L) (d : Int) (i : Nat) : (Tree s r L i → (shift t.n s r d).u i = s.u i + d) ∧ (¬ Tree s r L i → (shift t.n s r d).u i = s.u i) := by
  have h1 := shiftU_spec h d t.n (Nat.le_refl _) i
  have e : (i = r ∨ ∃ k, k < t.n ∧ s.seen k = true ∧ s.of k = (i : Int)) ↔ Tree s r L i := by
    unfold Tree
    constructor
    · rintro (e | ⟨k, hk, a, b⟩)
      · exact .inl e
      · exact .inr ⟨k, (h.sees k hk).1 a, b⟩
    · rintro (e | ⟨k, hk, b⟩)
      · exact .inl e
      · have := (h.lin k hk).1
        exact .inr ⟨k, this, (h.sees k this).2 hk, b⟩
  constructor
  · intro hT
    rw [if_pos (e.2 hT)] at h1
    exact h1
  · intro hT
    rw [if_neg (fun x => hT (e.1 x))] at h1
    rw [show (shift t.n s r d).u i = shiftU s r d t.n i from rfl, h1]
    omega
theorem shift_v {t : Tb} {r : Nat} {s : St} {L : List Nat} (h : Look t r s L) (d : Int) {k : Nat} (hk : k < t.n) : (k ∈ L → (shift t.n s r d).v k = s.v k - d) ∧ (k ∉ L → (shift t.n s r d).v k = s.v k) := by
  constructor
  · intro hL
    exact if_pos ⟨hk, (h.sees k hk).2 hL⟩
  · intro hL
    exact if_neg (fun x => hL ((h.sees k hk).1 x.2))
theorem shift_l {t : Tb} {r : Nat} {s : St} {L : List Nat} (h : Look t r s L) (d : Int) {k : Nat} (hk : k < t.n) (hL : k ∉ L) : (s.far k = false → (shift t.n s r d).least k = s.least k - d) ∧ (s.far k = true → (shift t.n s r d).least k = s.least k) := by
  have hs : s.seen k = false := by
    cases e : s.seen k with
    | false => rfl
    | true => exact absurd ((h.sees k hk).1 e) hL
  constructor
  · intro hf
    exact if_pos ⟨hk, hs, hf⟩
  · intro hf
    refine if_neg (fun x => ?_)
    rw [hf] at x
    cases x.2.2
theorem rowOf_tree {t : Tb} {r : Nat} {s : St} {L : List Nat} (h : Look t r s L) {f : Int} (hf : f = -1 ∨ ∃ b ∈ L, f = (b : Int)) : Tree s r L (rowOf s.of r f) ∧ rowOf s.of r f ≤ r := by
  rcases hf with rfl | ⟨b, hb, rfl⟩
  · exact ⟨.inl rfl, Nat.le_refl _⟩
  · obtain ⟨h1, h2⟩ := h.lin b hb
    have e : rowOf s.of r (b : Int) = (s.of b).toNat := by
      have : ¬ ((b : Int) < 0) := by omega
      simp [rowOf, this]
    rw [e]
    rcases h.range b h1 with e2 | ⟨i, e2, hi⟩
    · rw [e2] at h2; omega
    · exact ⟨.inr ⟨b, hb, by rw [e2]; simp⟩, by rw [e2]; simp; omega⟩
/-- Behind the shift: the same, and the nearest column's place costs what its prices are; the first row is fair. -/
theorem shift_ok {t : Tb} (ht : TbOk t) {r : Nat} {s : St} {L : List Nat} (h : Spread t r s L) {k : Nat} (hk : k < t.n) (hkL : k ∉ L) (hkf : s.far k = false) (hmin : ∀ j, j < t.n → s.seen j = false → s.far j = false → s.least k ≤ s.least j) :
    Spread t r (shift t.n s r (s.least k)) L ∧ (shift t.n s r (s.least k)).least k = 0 ∧ ∀ j, j < t.n → t.no r j = false → (shift t.n s r (s.least k)).u r + (shift t.n s r (s.least k)).v j ≤ t.c r j := by
  obtain ⟨d, hd⟩ : ∃ d, d = s.least k := ⟨_, rfl⟩
  rw [← hd]
  have hU := fun i => shift_u h.toLook d i
  have hV := fun {j : Nat} (hj : j < t.n) => shift_v h.toLook d hj
  have hLe := fun {j : Nat} (hj : j < t.n) (hL : j ∉ L) => shift_l h.toLook d hj hL
  have hns : ∀ j, j < t.n → j ∉ L → s.seen j = false := fun j hj hL => by
    cases e : s.seen j with
    | false => rfl
    | true => exact absurd ((h.sees j hj).1 e) hL
  have hdle : ∀ j, j < t.n → j ∉ L → ∀ i, Tree s r L i → t.no i j = false → d ≤ t.c i j - s.u i - s.v j := fun j hj hjL i hT hno => by
    have hf : s.far j = false := by
      cases e : s.far j with
      | false => rfl
      | true =>
        have := (h.fars j hj hjL).1 e i hT
        rw [hno] at this
        cases this
    have h1 := h.min j hj hjL i hT hno
    have h2 := hmin j hj (hns j hj hjL) hf
    omega
  have hcomes := h.comes k hk hkL hkf
  have hd0 : L ≠ [] → 0 ≤ d := fun hne => by
    obtain ⟨h1, h2, h3⟩ := hcomes
    obtain ⟨hT, hle⟩ := rowOf_tree h.toLook h1
    have hfair : s.u (rowOf s.of r (s.from_ k)) + s.v k ≤ t.c (rowOf s.of r (s.from_ k)) k := by
      rcases Nat.lt_or_ge (rowOf s.of r (s.from_ k)) r with h4 | h4
      · exact h.fair _ k h4 hk h2
      · have e : rowOf s.of r (s.from_ k) = r := by omega
        rw [e] at h2 ⊢
        exact h.own hne k hk h2
    omega
  have hlb := h.lb k hk hkL hkf
  have hvk := h.vb k hk hkL
  have hlen := h.toLook.len
  have hn64 := ht.n64
  have hrl := h.rlt
  have hUr : (shift t.n s r d).u r = s.u r + d := (hU r).1 (.inl rfl)
  have hlook : Look t r (shift t.n s r d) L := by
    refine ⟨h.rlt, h.range, h.onto, h.inj, ?_, ?_, ?_, ?_, h.nodup, h.sees, h.lin, ?_, ?_, ?_, h.way, ?_⟩
    · intro j i hj e
      obtain ⟨h1, h2⟩ := h.tight j i hj e
      refine ⟨h1, ?_⟩
      by_cases hjL : j ∈ L
      · rw [(hU i).1 (.inr ⟨j, hjL, e⟩), (hV hj).1 hjL]
        omega
      · have hnT : ¬ Tree s r L i := by
          rintro (e2 | ⟨b, hb, e2⟩)
          · rcases h.range j hj with e3 | ⟨i', e3, hi'⟩
            · have e' : s.of j = (i : Int) := e
              omega
            · have e' : s.of j = (i : Int) := e
              omega
          · have := h.inj b j (h.lin b hb).1 hj (by rw [e2]; exact e.symm) (by rw [e2]; omega)
            exact hjL (this ▸ hb)
        rw [(hU i).2 hnT, (hV hj).2 hjL]
        exact h2
    · intro i j hi hj hno
      have hf := h.fair i j hi hj hno
      by_cases hT : Tree s r L i
      · rw [(hU i).1 hT]
        by_cases hjL : j ∈ L
        · rw [(hV hj).1 hjL]; omega
        · rw [(hV hj).2 hjL]
          have := hdle j hj hjL i hT hno
          omega
      · rw [(hU i).2 hT]
        by_cases hjL : j ∈ L
        · rw [(hV hj).1 hjL]
          have := hd0 (fun e => by rw [e] at hjL; cases hjL)
          omega
        · rw [(hV hj).2 hjL]; exact hf
    · intro j hj e
      have hjL : j ∉ L := fun hb => by
        have h1 := (h.lin j hb).2
        have e' : s.of j = -1 := e
        omega
      rw [(hV hj).2 hjL]
      exact h.free j hj e
    · intro i hi
      have hnT : ¬ Tree s r L i := by
        rintro (e | ⟨b, hb, e⟩)
        · omega
        · rcases h.range b (h.lin b hb).1 with e2 | ⟨i', e2, hi'⟩ <;> omega
      rw [(hU i).2 hnT]
      exact h.rest i hi
    · intro j hj hjL
      rw [(hV hj).2 hjL]
      exact h.vb j hj hjL
    · intro j hjL
      rw [(hV (h.lin j hjL).1).1 hjL, hUr]
      have := h.sb j hjL
      omega
    · rw [hUr, hd]
      unfold M at *
      omega
    · intro j hjL
      show t.no (rowOf s.of r (s.from_ j)) j = false ∧ (shift t.n s r d).u (rowOf s.of r (s.from_ j)) + (shift t.n s r d).v j = t.c (rowOf s.of r (s.from_ j)) j
      obtain ⟨h1, h2⟩ := h.edge j hjL
      refine ⟨h1, ?_⟩
      obtain ⟨l1, l2, e⟩ := List.append_of_mem hjL
      have hw := h.way l1 j l2 e
      have hT := (rowOf_tree h.toLook (hw.imp id (fun ⟨b, hb, e2⟩ => ⟨b, by rw [e]; simp [hb], e2⟩))).1
      rw [(hU _).1 hT, (hV (h.lin j hjL).1).1 hjL]
      omega
  have hown : ∀ j, j < t.n → t.no r j = false → (shift t.n s r d).u r + (shift t.n s r d).v j ≤ t.c r j := fun j hj hno => by
    rw [hUr]
    by_cases hjL : j ∈ L
    · rw [(hV hj).1 hjL]
      have := h.own (fun e => by rw [e] at hjL; cases hjL) j hj hno
      omega
    · rw [(hV hj).2 hjL]
      have := hdle j hj hjL r (.inl rfl) hno
      omega
  refine ⟨⟨hlook, ?_, h.fars, ?_, ?_, ?_, fun _ => hown⟩, ?_, hown⟩
  · intro j hj hjL hf
    rw [(hLe hj hjL).2 hf]
    exact h.fbnd j hj hjL hf
  · intro j hj hjL hf
    obtain ⟨h1, h2, h3⟩ := h.comes j hj hjL hf
    refine ⟨h1, h2, ?_⟩
    show (shift t.n s r d).least j = t.c (rowOf s.of r (s.from_ j)) j - (shift t.n s r d).u (rowOf s.of r (s.from_ j)) - (shift t.n s r d).v j
    rw [(hLe hj hjL).1 hf, (hU _).1 (rowOf_tree h.toLook h1).1, (hV hj).2 hjL]
    omega
  · intro j hj hjL i hT hno
    have hf : s.far j = false := by
      cases e : s.far j with
      | false => rfl
      | true =>
        have := (h.fars j hj hjL).1 e i hT
        rw [hno] at this
        cases this
    rw [(hLe hj hjL).1 hf, (hU i).1 hT, (hV hj).2 hjL]
    have := h.min j hj hjL i hT hno
    omega
  · intro j hj hjL hf
    rw [(hLe hj hjL).1 hf, (hV hj).2 hjL, hUr]
    have := h.lb j hj hjL hf
    omega
  · rw [(hLe hk hkL).1 hkf, hd]
    omega
/-- The nearest column has a row: it is seen now. -/
theorem see_ok {t : Tb} {r : Nat} {s : St} {L : List Nat} (h : Spread t r s L) {k : Nat} (hk : k < t.n) (hkL : k ∉ L) (hkf : s.far k = false) (hk0 : s.least k = 0) (hown : ∀ j, j < t.n → t.no r j = false → s.u r + s.v j ≤ t.c r j) (hof : 0 ≤ s.of k) :
    Ahead t r { s with seen := upd s.seen k true } (k :: L) := by
  have hc := h.comes k hk hkL hkf
  have hlen : ((k :: L).length : Int) = (L.length : Int) + 1 := by simp
  refine ⟨⟨h.rlt, h.range, h.onto, h.inj, h.tight, h.fair, h.free, h.rest, List.nodup_cons.2 ⟨hkL, h.nodup⟩, ?_, ?_, ?_, ?_, h.rb, ?_, ?_⟩, ?_, ?_, ?_, ?_, ?_, fun _ => hown⟩
  · intro j hj
    show upd s.seen k true j = true ↔ _
    rw [List.mem_cons]
    by_cases e : j = k
    · subst e; rw [upd_self]; simp
    · rw [upd_ne _ _ e, h.sees j hj]
      constructor
      · exact .inr
      · rintro (e2 | e2)
        · exact absurd e2 e
        · exact e2
  · intro j hj
    rcases List.mem_cons.1 hj with rfl | hj
    · exact ⟨hk, hof⟩
    · exact h.lin j hj
  · intro j hj hjL
    exact h.vb j hj (fun x => hjL (List.mem_cons_of_mem _ x))
  · intro j hj
    rw [hlen]
    rcases List.mem_cons.1 hj with rfl | hj
    · have := h.lb j hk hkL hkf
      rw [hk0] at this
      show -((2 * ((L.length : Int) + 1) - 1) * M) ≤ s.v j + s.u r ∧ s.v j + s.u r ≤ (2 * ((L.length : Int) + 1) - 1) * M
      unfold M at *
      omega
    · have := h.sb j hj
      show -((2 * ((L.length : Int) + 1) - 1) * M) ≤ s.v j + s.u r ∧ s.v j + s.u r ≤ (2 * ((L.length : Int) + 1) - 1) * M
      unfold M at *
      omega
  · intro l1 j l2 e
    cases l1 with
    | nil =>
      simp at e
      obtain ⟨rfl, rfl⟩ := e
      exact hc.1
    | cons a l1 =>
      simp at e
      exact h.way l1 j l2 e.2
  · intro j hj
    rcases List.mem_cons.1 hj with rfl | hj
    · refine ⟨hc.2.1, ?_⟩
      have := hc.2.2
      rw [hk0] at this
      show s.u (rowOf s.of r (s.from_ j)) + s.v j = t.c (rowOf s.of r (s.from_ j)) j
      omega
    · exact h.edge j hj
  · intro j hj hjL
    exact h.fbnd j hj (fun x => hjL (List.mem_cons_of_mem _ x))
  · intro j hj hjL
    have := h.fars j hj (fun x => hjL (List.mem_cons_of_mem _ x))
    exact ⟨fun hf i _ hT => this.1 hf i hT, fun hall => this.2 (fun i hT => hall i (by simp) hT)⟩
  · intro j hj hjL hf
    exact h.comes j hj (fun x => hjL (List.mem_cons_of_mem _ x)) hf
  · intro j hj hjL i _ hT hno
    exact h.min j hj (fun x => hjL (List.mem_cons_of_mem _ x)) i hT hno
  · intro j hj hjL hf
    rw [hlen]
    have := h.lb j hj (fun x => hjL (List.mem_cons_of_mem _ x)) hf
    show -((2 * ((L.length : Int) + 1) - 1) * M) ≤ s.least j + s.v j + s.u r ∧ s.least j + s.v j + s.u r ≤ (2 * ((L.length : Int) + 1) - 1) * M
    unfold M at *
    omega
end Go.Proofs.Ytelabmhhnpfegaa.Hand
