/- The least match of a table in plain Lean, part 4: the prices are shifted; the way is turned. No condition. -/
import Derived.Test.YtelabmhhnpfegaaHc
namespace Go.Proofs.Ytelabmhhnpfegaa.Hand
theorem shiftU_spec {t : Tb} {r : Nat} {s : St} {L : List Nat} (h : Look t r s L) (d : Int) (m : Nat) (hm : m ≤ t.n) :
    ∀ i, shiftU s r d m i = s.u i + (if i = r ∨ ∃ k, k < m ∧ s.seen k = true ∧ s.of k = (i : Int) then d else 0) := by
  induction m with
  | zero =>
    intro i
    simp only [shiftU, upd]
    by_cases hi : i = r
    · subst hi; rw [if_pos rfl, if_pos (.inl rfl)]
    · rw [if_neg hi, if_neg]
      · omega
      · rintro (e | ⟨k, hk, _⟩)
        · exact hi e
        · omega
  | succ m ih =>
    intro i
    have ih := ih (by omega)
    simp only [shiftU]
    by_cases hs : s.seen m = true
    · rw [if_pos hs]
      obtain ⟨hml, hmo⟩ := h.lin m ((h.sees m (by omega)).1 hs)
      have hmr : (s.of m).toNat < r ∧ s.of m = ((s.of m).toNat : Int) := by
        rcases h.range m hml with e | ⟨j, e, hj⟩
        · rw [e] at hmo; omega
        · rw [e]; simp; omega
      by_cases hi : i = (s.of m).toNat
      · subst hi
        rw [upd_self, ih, if_neg, if_pos]
        · omega
        · exact .inr ⟨m, by omega, hs, hmr.2⟩
        · rintro (e | ⟨k, hk, hks, e⟩)
          · omega
          · have := h.inj k m (by omega) hml (by rw [e]; exact hmr.2.symm) (by rw [e]; omega)
            omega
      · rw [upd_ne _ _ hi, ih]
        congr 1
        have : (i = r ∨ ∃ k, k < m ∧ s.seen k = true ∧ s.of k = (i : Int)) ↔ (i = r ∨ ∃ k, k < m + 1 ∧ s.seen k = true ∧ s.of k = (i : Int)) := by
          constructor
          · rintro (e | ⟨k, hk, a, b⟩)
            · exact .inl e
            · exact .inr ⟨k, by omega, a, b⟩
          · rintro (e | ⟨k, hk, a, b⟩)
            · exact .inl e
            · rcases Nat.lt_succ_iff_lt_or_eq.1 hk with h1 | rfl
              · exact .inr ⟨k, h1, a, b⟩
              · exact absurd (show i = (s.of k).toNat by omega) hi
        simp only [this]
    · rw [if_neg hs, ih]
      congr 1
      have : (i = r ∨ ∃ k, k < m ∧ s.seen k = true ∧ s.of k = (i : Int)) ↔ (i = r ∨ ∃ k, k < m + 1 ∧ s.seen k = true ∧ s.of k = (i : Int)) := by
        constructor
        · rintro (e | ⟨k, hk, a, b⟩)
          · exact .inl e
          · exact .inr ⟨k, by omega, a, b⟩
        · rintro (e | ⟨k, hk, a, b⟩)
          · exact .inl e
          · rcases Nat.lt_succ_iff_lt_or_eq.1 hk with h1 | rfl
            · exact .inr ⟨k, h1, a, b⟩
            · exact absurd a hs
      simp only [this]
theorem shift_u {t : Tb} {r : Nat} {s : St} {L : List Nat} (h : Look t r s L) (d : Int) (i : Nat) : (Tree s r L i → (shift t.n s r d).u i = s.u i + d) ∧ (¬ Tree s r L i → (shift t.n s r d).u i = s.u i) := by
  have h1 := shiftU_spec h d t.n (Nat.le_refl _) i
  have e : (i = r ∨ ∃ k, k < t.n ∧ s.seen k = true ∧ s.of k = (i : Int)) ↔ Tree s r L i := by
    unfold Tree
    constructor
    · rintro (e | ⟨k, hk, a, b⟩)
      · exact .inl e
      · exact .inr ⟨k, (h.sees k hk).1 a, b⟩
    · rintro (e | ⟨k, hk, b⟩)
      · exact .inl e
      · have := (h.lin k hk).1
        exact .inr ⟨k, this, (h.sees k this).2 hk, b⟩
  constructor
  · intro hT
    rw [if_pos (e.2 hT)] at h1
    exact h1
  · intro hT
    rw [if_neg (fun x => hT (e.1 x))] at h1
    rw [show (shift t.n s r d).u i = shiftU s r d t.n i from rfl, h1]
    omega
theorem shift_v {t : Tb} {r : Nat} {s : St} {L : List Nat} (h : Look t r s L) (d : Int) {k : Nat} (hk : k < t.n) : (k ∈ L → (shift t.n s r d).v k = s.v k - d) ∧ (k ∉ L → (shift t.n s r d).v k = s.v k) := by
  constructor
  · intro hL
    exact if_pos ⟨hk, (h.sees k hk).2 hL⟩
  · intro hL
    exact if_neg (fun x => hL ((h.sees k hk).1 x.2))
theorem shift_l {t : Tb} {r : Nat} {s : St} {L : List Nat} (h : Look t r s L) (d : Int) {k : Nat} (hk : k < t.n) (hL : k ∉ L) : (s.far k = false → (shift t.n s r d).least k = s.least k - d) ∧ (s.far k = true → (shift t.n s r d).least k = s.least k) := by
  have hs : s.seen k = false := by
    cases e : s.seen k with
    | false => rfl
    | true => exact absurd ((h.sees k hk).1 e) hL
  constructor
  · intro hf
    exact if_pos ⟨hk, hs, hf⟩
  · intro hf
    refine if_neg (fun x => ?_)
    rw [hf] at x
    cases x.2.2
theorem rowOf_tree {t : Tb} {r : Nat} {s : St} {L : List Nat} (h : Look t r s L) {f : Int} (hf : f = -1 ∨ ∃ b ∈ L, f = (b : Int)) : Tree s r L (rowOf s.of r f) ∧ rowOf s.of r f ≤ r := by
  rcases hf with rfl | ⟨b, hb, rfl⟩
  · exact ⟨.inl rfl, Nat.le_refl _⟩
  · obtain ⟨h1, h2⟩ := h.lin b hb
    have e : rowOf s.of r (b : Int) = (s.of b).toNat := by
      have : ¬ ((b : Int) < 0) := by omega
      simp [rowOf, this]
    rw [e]
    rcases h.range b h1 with e2 | ⟨i, e2, hi⟩
    · rw [e2] at h2; omega
    · exact ⟨.inr ⟨b, hb, by rw [e2]; simp⟩, by rw [e2]; simp; omega⟩
/-- Behind the shift: the same, and the nearest column's place costs what its prices are; the first row is fair. -/
theorem shift_ok {t : Tb} (ht : TbOk t) {r : Nat} {s : St} {L : List Nat} (h : Spread t r s L) {k : Nat} (hk : k < t.n) (hkL : k ∉ L) (hkf : s.far k = false) (hmin : ∀ j, j < t.n → s.seen j = false → s.far j = false → s.least k ≤ s.least j) :
    Spread t r (shift t.n s r (s.least k)) L ∧ (shift t.n s r (s.least k)).least k = 0 ∧ ∀ j, j < t.n → t.no r j = false → (shift t.n s r (s.least k)).u r + (shift t.n s r (s.least k)).v j ≤ t.c r j := by
  obtain ⟨d, hd⟩ : ∃ d, d = s.least k := ⟨_, rfl⟩
  rw [← hd]
  have hU := fun i => shift_u h.toLook d i
  have hV := fun {j : Nat} (hj : j < t.n) => shift_v h.toLook d hj
  have hLe := fun {j : Nat} (hj : j < t.n) (hL : j ∉ L) => shift_l h.toLook d hj hL
  have hns : ∀ j, j < t.n → j ∉ L → s.seen j = false := fun j hj hL => by
    cases e : s.seen j with
    | false => rfl
    | true => exact absurd ((h.sees j hj).1 e) hL
  have hdle : ∀ j, j < t.n → j ∉ L → ∀ i, Tree s r L i → t.no i j = false → d ≤ t.c i j - s.u i - s.v j := fun j hj hjL i hT hno => by
    have hf : s.far j = false := by
      cases e : s.far j with
      | false => rfl
      | true =>
        have := (h.fars j hj hjL).1 e i hT
        rw [hno] at this
        cases this
    have h1 := h.min j hj hjL i hT hno
    have h2 := hmin j hj (hns j hj hjL) hf
    omega
  have hcomes := h.comes k hk hkL hkf
  have hd0 : L ≠ [] → 0 ≤ d := fun hne => by
    obtain ⟨h1, h2, h3⟩ := hcomes
    obtain ⟨hT, hle⟩ := rowOf_tree h.toLook h1
    have hfair : s.u (rowOf s.of r (s.from_ k)) + s.v k ≤ t.c (rowOf s.of r (s.from_ k)) k := by
      rcases Nat.lt_or_ge (rowOf s.of r (s.from_ k)) r with h4 | h4
      · exact h.fair _ k h4 hk h2
      · have e : rowOf s.of r (s.from_ k) = r := by omega
        rw [e] at h2 ⊢
        exact h.own hne k hk h2
    omega
  have hlb := h.lb k hk hkL hkf
  have hvk := h.vb k hk hkL
  have hlen := h.toLook.len
  have hn64 := ht.n64
  have hrl := h.rlt
  have hUr : (shift t.n s r d).u r = s.u r + d := (hU r).1 (.inl rfl)
  have hlook : Look t r (shift t.n s r d) L := by
    refine ⟨h.rlt, h.range, h.onto, h.inj, ?_, ?_, ?_, ?_, h.nodup, h.sees, h.lin, ?_, ?_, ?_, h.way, ?_⟩
    · intro j i hj e
      obtain ⟨h1, h2⟩ := h.tight j i hj e
      refine ⟨h1, ?_⟩
      by_cases hjL : j ∈ L
      · rw [(hU i).1 (.inr ⟨j, hjL, e⟩), (hV hj).1 hjL]
        omega
      · have hnT : ¬ Tree s r L i := by
          rintro (e2 | ⟨b, hb, e2⟩)
          · rcases h.range j hj with e3 | ⟨i', e3, hi'⟩
            · have e' : s.of j = (i : Int) := e
              omega
            · have e' : s.of j = (i : Int) := e
              omega
          · have := h.inj b j (h.lin b hb).1 hj (by rw [e2]; exact e.symm) (by rw [e2]; omega)
            exact hjL (this ▸ hb)
        rw [(hU i).2 hnT, (hV hj).2 hjL]
        exact h2
    · intro i j hi hj hno
      have hf := h.fair i j hi hj hno
      by_cases hT : Tree s r L i
      · rw [(hU i).1 hT]
        by_cases hjL : j ∈ L
        · rw [(hV hj).1 hjL]; omega
        · rw [(hV hj).2 hjL]
          have := hdle j hj hjL i hT hno
          omega
      · rw [(hU i).2 hT]
        by_cases hjL : j ∈ L
        · rw [(hV hj).1 hjL]
          have := hd0 (fun e => by rw [e] at hjL; cases hjL)
          omega
        · rw [(hV hj).2 hjL]; exact hf
    · intro j hj e
      have hjL : j ∉ L := fun hb => by
        have h1 := (h.lin j hb).2
        have e' : s.of j = -1 := e
        omega
      rw [(hV hj).2 hjL]
      exact h.free j hj e
    · intro i hi
      have hnT : ¬ Tree s r L i := by
        rintro (e | ⟨b, hb, e⟩)
        · omega
        · rcases h.range b (h.lin b hb).1 with e2 | ⟨i', e2, hi'⟩ <;> omega
      rw [(hU i).2 hnT]
      exact h.rest i hi
    · intro j hj hjL
      rw [(hV hj).2 hjL]
      exact h.vb j hj hjL
    · intro j hjL
      rw [(hV (h.lin j hjL).1).1 hjL, hUr]
      have := h.sb j hjL
      omega
    · rw [hUr, hd]
      unfold M at *
      omega
    · intro j hjL
      show t.no (rowOf s.of r (s.from_ j)) j = false ∧ (shift t.n s r d).u (rowOf s.of r (s.from_ j)) + (shift t.n s r d).v j = t.c (rowOf s.of r (s.from_ j)) j
      obtain ⟨h1, h2⟩ := h.edge j hjL
      refine ⟨h1, ?_⟩
      obtain ⟨l1, l2, e⟩ := List.append_of_mem hjL
      have hw := h.way l1 j l2 e
      have hT := (rowOf_tree h.toLook (hw.imp id (fun ⟨b, hb, e2⟩ => ⟨b, by rw [e]; simp [hb], e2⟩))).1
      rw [(hU _).1 hT, (hV (h.lin j hjL).1).1 hjL]
      omega
  have hown : ∀ j, j < t.n → t.no r j = false → (shift t.n s r d).u r + (shift t.n s r d).v j ≤ t.c r j := fun j hj hno => by
    rw [hUr]
    by_cases hjL : j ∈ L
    · rw [(hV hj).1 hjL]
      have := h.own (fun e => by rw [e] at hjL; cases hjL) j hj hno
      omega
    · rw [(hV hj).2 hjL]
      have := hdle j hj hjL r (.inl rfl) hno
      omega
  refine ⟨⟨hlook, ?_, h.fars, ?_, ?_, ?_, fun _ => hown⟩, ?_, hown⟩
  · intro j hj hjL hf
    rw [(hLe hj hjL).2 hf]
    exact h.fbnd j hj hjL hf
  · intro j hj hjL hf
    obtain ⟨h1, h2, h3⟩ := h.comes j hj hjL hf
    refine ⟨h1, h2, ?_⟩
    show (shift t.n s r d).least j = t.c (rowOf s.of r (s.from_ j)) j - (shift t.n s r d).u (rowOf s.of r (s.from_ j)) - (shift t.n s r d).v j
    rw [(hLe hj hjL).1 hf, (hU _).1 (rowOf_tree h.toLook h1).1, (hV hj).2 hjL]
    omega
  · intro j hj hjL i hT hno
    have hf : s.far j = false := by
      cases e : s.far j with
      | false => rfl
      | true =>
        have := (h.fars j hj hjL).1 e i hT
        rw [hno] at this
        cases this
    rw [(hLe hj hjL).1 hf, (hU i).1 hT, (hV hj).2 hjL]
    have := h.min j hj hjL i hT hno
    omega
  · intro j hj hjL hf
    rw [(hLe hj hjL).1 hf, (hV hj).2 hjL, hUr]
    have := h.lb j hj hjL hf
    omega
  · rw [(hLe hk hkL).1 hkf, hd]
    omega
/-- The nearest column has a row: it is seen now. -/
theorem see_ok {t : Tb} {r : Nat} {s : St} {L : List Nat} (h : Spread t r s L) {k : Nat} (hk : k < t.n) (hkL : k ∉ L) (hkf : s.far k = false) (hk0 : s.least k = 0) (hown : ∀ j, j < t.n → t.no r j = false → s.u r + s.v j ≤ t.c r j) (hof : 0 ≤ s.of k) :
    Ahead t r { s with seen := upd s.seen k true } (k :: L) := by
  have hc := h.comes k hk hkL hkf
  have hlen : ((k :: L).length : Int) = (L.length : Int) + 1 := by simp
  refine ⟨⟨h.rlt, h.range, h.onto, h.inj, h.tight, h.fair, h.free, h.rest, List.nodup_cons.2 ⟨hkL, h.nodup⟩, ?_, ?_, ?_, ?_, h.rb, ?_, ?_⟩, ?_, ?_, ?_, ?_, ?_, fun _ => hown⟩
  · intro j hj
    show upd s.seen k true j = true ↔ _
    rw [List.mem_cons]
    by_cases e : j = k
    · subst e; rw [upd_self]; simp
    · rw [upd_ne _ _ e, h.sees j hj]
      constructor
      · exact .inr
      · rintro (e2 | e2)
        · exact absurd e2 e
        · exact e2
  · intro j hj
    rcases List.mem_cons.1 hj with rfl | hj
    · exact ⟨hk, hof⟩
    · exact h.lin j hj
  · intro j hj hjL
    exact h.vb j hj (fun x => hjL (List.mem_cons_of_mem _ x))
  · intro j hj
    rw [hlen]
    rcases List.mem_cons.1 hj with rfl | hj
    · have := h.lb j hk hkL hkf
      rw [hk0] at this
      show -((2 * ((L.length : Int) + 1) - 1) * M) ≤ s.v j + s.u r ∧ s.v j + s.u r ≤ (2 * ((L.length : Int) + 1) - 1) * M
      unfold M at *
      omega
    · have := h.sb j hj
      show -((2 * ((L.length : Int) + 1) - 1) * M) ≤ s.v j + s.u r ∧ s.v j + s.u r ≤ (2 * ((L.length : Int) + 1) - 1) * M
      unfold M at *
      omega
  · intro l1 j l2 e
    cases l1 with
    | nil =>
      simp at e
      obtain ⟨rfl, rfl⟩ := e
      exact hc.1
    | cons a l1 =>
      simp at e
      exact h.way l1 j l2 e.2
  · intro j hj
    rcases List.mem_cons.1 hj with rfl | hj
    · refine ⟨hc.2.1, ?_⟩
      have := hc.2.2
      rw [hk0] at this
      show s.u (rowOf s.of r (s.from_ j)) + s.v j = t.c (rowOf s.of r (s.from_ j)) j
      omega
    · exact h.edge j hj
  · intro j hj hjL
    exact h.fbnd j hj (fun x => hjL (List.mem_cons_of_mem _ x))
  · intro j hj hjL
    have := h.fars j hj (fun x => hjL (List.mem_cons_of_mem _ x))
    exact ⟨fun hf i _ hT => this.1 hf i hT, fun hall => this.2 (fun i hT => hall i (by simp) hT)⟩
  · intro j hj hjL hf
    exact h.comes j hj (fun x => hjL (List.mem_cons_of_mem _ x)) hf
  · intro j hj hjL i _ hT hno
    exact h.min j hj (fun x => hjL (List.mem_cons_of_mem _ x)) i hT hno
  · intro j hj hjL hf
    rw [hlen]
    have := h.lb j hj (fun x => hjL (List.mem_cons_of_mem _ x)) hf
    show -((2 * ((L.length : Int) + 1) - 1) * M) ≤ s.least j + s.v j + s.u r ∧ s.least j + s.v j + s.u r ≤ (2 * ((L.length : Int) + 1) - 1) * M
    unfold M at *
    omega
end Go.Proofs.Ytelabmhhnpfegaa.Hand
