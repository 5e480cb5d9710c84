/- Texts El Km Ka Ej, cut to what is used. -/
import Derived.Test.YtelabmhhnpfegaaZa0
import Derived.Test.YtelabmhhnpfegaaZc4
set_option linter.unusedVariables false
set_option linter.unusedSimpArgs false
section
namespace Go.Proofs.Ytelabmhhnpfegaa.Hand
open Go.RowKit Go.Proofs.YtelabmhhnpfegaaW.PrintWords Go.Proofs.YtelabmhhnpfegaaW.PrintLast Go.Proofs.YtelabmhhnpfegaaW.PrintMore Go.Proofs.Ytelabmhhnpfegaa.PDynCells
def msC (x : PI) (k : Nat) : Nat := mskE (x.sets.getD k ⟨0, []⟩).f1
def csC (x : PI) (k : Nat) : Int := (x.sets.getD k ⟨0, []⟩).f0
def AheadC (K S k g : Nat) (k' h' : Nat) (_ : Bool) : Prop := k' < K ∧ h' < S ∧ (k' < k ∨ k' = k ∧ h' < g)
theorem CvI.bd {K S : Nat} {ms : Nat → Nat} {cs : Nat → Int} {P : Nat → Nat → Bool → Prop} {T : Nat → S152} (h : CvI K S ms cs P T) (hc : ∀ k, 0 ≤ cs k ∧ cs k ≤ 2147483648) : ∀ (f X : Nat), X ≤ f → (T X).f1 = true → 0 ≤ (T X).f0 ∧ (T X).f0 ≤ 2147483648 * X
 | f, X, hf, hok => by
  by_cases e : X = 0
  ·subst e
   rw [h.zero]
   exact ⟨Int.le_refl _, Int.le_refl _⟩
  ·obtain ⟨k, g, b, a1, a2, a3, a4⟩ := h.link X e hok
   have hp := h.part _ _ _ a1
   have hlt : k * S + g < X := by
    rw [a3]
    exact Nat.lt_of_lt_of_le (src_lt (Nat.le_refl k) hp.2) (tgtC_ge k g b)
   match f, hf with
   | 0, hf => omega
   | f + 1, hf =>
    have ih := CvI.bd h hc f (k * S + g) (by omega) a2
    have := hc k
    rw [a4]
    cases b with
    | true =>
     show 0 ≤ (T (k * S + g)).f0 + cs k ∧ (T (k * S + g)).f0 + cs k ≤ 2147483648 * (X : Int)
     omega
    | false =>
     show 0 ≤ (T (k * S + g)).f0 ∧ (T (k * S + g)).f0 ≤ 2147483648 * (X : Int)
     omega
theorem ascB_bd {size : Int} : ∀ (l : List Int) (a : Int), -1 ≤ a → ascB size a l = true → ∀ e ∈ l, 0 ≤ e ∧ e < size
 | [], _, _, _, _, h => by cases h
 | y :: t, a, ha, h, e, he => by
  unfold ascB at h
  split at h
  ·cases h
  ·split at h
   ·cases h
   ·rcases List.mem_cons.1 he with rfl | he
    ·omega
    ·exact ascB_bd t y (by omega) h e he
theorem mskE_lt {n : Nat} (l : List Int) (h : ∀ e ∈ l, 0 ≤ e ∧ e < n) : mskE l < 2 ^ n := by
 unfold mskE
 have key : ∀ (l : List Int) (m : Nat), m < 2 ^ n → (∀ e ∈ l, 0 ≤ e ∧ e < n) → l.foldl (fun m e => m ||| 2 ^ e.toNat) m < 2 ^ n := by
  intro l
  induction l with
  | nil => exact fun m hm _ => hm
  | cons e t ih =>
   intro m hm hl
   have he := hl e List.mem_cons_self
   exact ih _ (Nat.or_lt_two_pow hm (Nat.pow_lt_pow_right (by omega) (by omega))) (fun y hy => hl y (List.mem_cons_of_mem _ hy))
 exact key l 0 (Nat.pow_pos (by omega)) h
def IsLeastC (K n : Nat) (ms : Nat → Nat) (cs : Nat → Int) : Option Int → Prop
 | none => ∀ γ, unC ms γ K ≠ 2 ^ n - 1
 | some z => (∃ β, unC ms β K = 2 ^ n - 1 ∧ sumC cs β K = z) ∧ ∀ γ, unC ms γ K = 2 ^ n - 1 → z ≤ sumC cs γ K
theorem IsLeastC.uniq {K n : Nat} {ms : Nat → Nat} {cs : Nat → Int} {a b : Option Int} (ha : IsLeastC K n ms cs a) (hb : IsLeastC K n ms cs b) : a = b := by
 match a, b, ha, hb with
 | none, none, _, _ => rfl
 | none, some z, ha, hb =>
  obtain ⟨⟨β, h1, _⟩, _⟩ := hb
  exact absurd h1 (ha β)
 | some z, none, ha, hb =>
  obtain ⟨⟨β, h1, _⟩, _⟩ := ha
  exact absurd h1 (hb β)
 | some z, some y, ⟨⟨β, h1, h2⟩, h3⟩, ⟨⟨γ, g1, g2⟩, g3⟩ =>
  have := h3 γ g1
  have := g3 β h1
  congr 1
  omega
theorem CvI.tells {K n : Nat} {ms : Nat → Nat} {cs : Nat → Int} {P : Nat → Nat → Bool → Prop} {T : Nat → S152} (h : CvI K (2 ^ n) ms cs P T) (hP : ∀ k g b, k < K → g < 2 ^ n → P k g b) (hm : ∀ k, k < K → ms k < 2 ^ n) :
  IsLeastC K n ms cs (if (T (K * 2 ^ n + (2 ^ n - 1))).f1 = true then some (T (K * 2 ^ n + (2 ^ n - 1))).f0 else none) := by
 obtain ⟨h1, h2⟩ := h.least hP hm
 split
 ·rename_i hok
  obtain ⟨β, b1, b2, b3, _⟩ := h1 hok
  exact ⟨⟨β, b1, b2.symm⟩, b3⟩
 ·rename_i hok
  exact h2 (by simpa using hok)
end Go.Proofs.Ytelabmhhnpfegaa.Hand
end
section
namespace Go.Proofs.Ytelabmhhnpfegaa.Hand
open Go.RowKit Go.Proofs.YtelabmhhnpfegaaW.PrintWords Go.Proofs.YtelabmhhnpfegaaW.PrintLast Go.Proofs.YtelabmhhnpfegaaW.PrintMore Go.Proofs.Ytelabmhhnpfegaa.PDynCells
theorem set4_chg {w : World} {g : Nat} (i0 i1 i2 i3 : Nat) (v0 v1 v2 v3 : Value) : Chg (fun k => k = g) w ((((w.setCell ⟨g, i0, none⟩ v0).setCell ⟨g, i1, none⟩ v1).setCell ⟨g, i2, none⟩ v2).setCell ⟨g, i3, none⟩ v3) :=
 ((((Chg.refl (fun k => k = g) w).setCell (p := ⟨g, i0, none⟩) (.inl rfl) v0).setCell (p := ⟨g, i1, none⟩) (.inl rfl) v1).setCell (p := ⟨g, i2, none⟩) (.inl rfl) v2).setCell (p := ⟨g, i3, none⟩) (.inl rfl) v3
set_option maxHeartbeats 1000000 in
set_option maxRecDepth 100000 in
theorem offer_chg (w : World) (g n i : Nat) (f : Nat → S152) (a p q : Int) (h : SB w g n f) (hi : i < n) :
  Calls Try.prog 92 #[.pointer (some ⟨g, i * 4, none⟩), .int .i64 a, .int .i64 p, .int .i64 q] w fun e w' => e = .returned (.tuple #[]) ∧ Aside0 (SB w' g n (upd f i (offS (f i) a p q)) ∧ Chg (fun k => k = g) w w') := by
 have H := Aside0.mk h
 have c0 := h.c0 hi
 have c1 := h.c1 hi
 have c2 := h.c2 hi
 have c3 := h.c3 hi
 have hz : ∀ j, w.frozen? ⟨g, j, none⟩ = false := h.z
 obtain ⟨s, hs⟩ : ∃ s, s = f i := ⟨_, rfl⟩
 rw [← hs] at c0 c1 c2 c3 ⊢
 have HS := Aside0.mk hs
 clear h hs
 have hu152 := Try.underlying152
 obtain ⟨f0, f1, f2, f3⟩ := s
 cases f1 with
 | false =>
  have d0 : w.cell? ⟨g, i * 4, none⟩ = some (.int .i64 f0) := c0
  have d1 : w.cell? ⟨g, i * 4 + 1, none⟩ = some (.bool false) := c1
  have d2 : w.cell? ⟨g, i * 4 + 2, none⟩ = some (.int .i64 f2) := c2
  have d3 : w.cell? ⟨g, i * 4 + 3, none⟩ = some (.int .i64 f3) := c3
  clear c0 c1 c2 c3
  go_enter Try.func92, Try.ntmps92
  go_wp2_with fail
  first | go_end0 | ((try simp only [Exit.inBlock, Exit.then]); refine bodyPost_ret (results_none rfl _ _ _) rfl ?_)
  exact ⟨rfl, ⟨H.out.set i ⟨a, true, p, q⟩, set4_chg _ _ _ _ _ _ _ _⟩⟩
 | true =>
  have d0 : w.cell? ⟨g, i * 4, none⟩ = some (.int .i64 f0) := c0
  have d1 : w.cell? ⟨g, i * 4 + 1, none⟩ = some (.bool true) := c1
  have d2 : w.cell? ⟨g, i * 4 + 2, none⟩ = some (.int .i64 f2) := c2
  have d3 : w.cell? ⟨g, i * 4 + 3, none⟩ = some (.int .i64 f3) := c3
  clear c0 c1 c2 c3
  by_cases hlt : a < f0
  ·have e : offS ⟨f0, true, f2, f3⟩ a p q = ⟨a, true, p, q⟩ := if_neg (fun h => h.2 hlt)
   rw [e]
   go_enter Try.func92, Try.ntmps92
   go_wp2_with fail
   first | go_end0 | ((try simp only [Exit.inBlock, Exit.then]); refine bodyPost_ret (results_none rfl _ _ _) rfl ?_)
   exact ⟨rfl, ⟨H.out.set i ⟨a, true, p, q⟩, set4_chg _ _ _ _ _ _ _ _⟩⟩
  ·have e : offS ⟨f0, true, f2, f3⟩ a p q = ⟨f0, true, f2, f3⟩ := if_pos ⟨rfl, hlt⟩
   rw [e, HS.out, updI_same]
   go_enter Try.func92, Try.ntmps92
   go_wp2_with fail
   first | go_end0 | ((try simp only [Exit.inBlock, Exit.then]); refine bodyPost_ret (results_none rfl _ _ _) rfl ?_)
   exact ⟨rfl, ⟨H.out, Chg.refl _ _⟩⟩
theorem wrap_small {N : Nat} (h : N ≤ 20000) : wrap64 (N : Int) = (N : Int) := by unfold wrap64; omega
theorem wrap_s {z : Int} {N : Nat} (e : z = (N : Int)) (h : N ≤ 20000) : wrap64 z = (N : Int) := by rw [e]; exact wrap_small h
theorem wrap_k {z : Int} {N : Nat} (e : z = (N : Int)) (h : N ≤ 20000) : IntKind.i64.wrap z = (N : Int) := by rw [i64_w]; exact wrap_s e h
theorem pow_facts {n S : Nat} (hS : S = 2 ^ n) (n8 : n ≤ 8) : S ≤ 256 ∧ 0 < S ∧ ((2 : Int) ^ n) = (S : Int) := by
 subst hS
 refine ⟨Nat.le_trans (Nat.pow_le_pow_right (by omega) n8) (by decide), Nat.pow_pos (by omega), ?_⟩
 rw [Int.natCast_pow]
 rfl
theorem prod_cast {K S N : Nat} (h : N = (K + 1) * S) : ((K : Int) + 1) * (S : Int) = (N : Int) := by
 subst h
 rw [Int.natCast_mul, Int.natCast_add]
 rfl
theorem prod_cast0 {K S N : Nat} (h : N = K * S) : (K : Int) * (S : Int) = (N : Int) := by
 subst h
 rw [Int.natCast_mul]
theorem prod_le {K S N : Nat} (h : N = (K + 1) * S) (hK : K ≤ 64) (hS : S ≤ 256) (h0 : 0 < S) : N ≤ 20000 ∧ 0 < N := by
 subst h
 exact ⟨Nat.le_trans (Nat.mul_le_mul (show K + 1 ≤ 65 by omega) hS) (by decide), Nat.mul_pos (by omega) h0⟩
theorem mkS' {N : Nat} (h : N ≤ 20000) (W : World) : (Instr.makeSlice 150 (.int .i64 (N : Int)) (.int .i64 (N : Int))).run Try.prog W = .ok (.slice (some ⟨W.heap.size, 0, none⟩) N N) (W.alloc (.cells (tabS N fun _ => z152) 152)) := mkS N (Nat.le_trans h (by decide)) W
end Go.Proofs.Ytelabmhhnpfegaa.Hand
end
section
namespace Go.Proofs.Ytelabmhhnpfegaa.Hand
open Go.RowKit Go.Proofs.YtelabmhhnpfegaaW.PrintWords Go.Proofs.YtelabmhhnpfegaaW.PrintLast Go.Proofs.YtelabmhhnpfegaaW.PrintMore Go.Proofs.Ytelabmhhnpfegaa.PDynCells
theorem csC_bd {x : PI} (h : IOk x) (k : Nat) : 0 ≤ csC x k ∧ csC x k ≤ 2147483648 := by
 unfold csC
 by_cases hk : k < x.sets.length
 ·rw [List.getD_eq_getElem?_getD, List.getElem?_eq_getElem hk, Option.getD_some]
  exact h.costs _ (List.getElem_mem _)
 ·rw [List.getD_eq_getElem?_getD, List.getElem?_eq_none (by omega)]
  decide
theorem msC_lt {x : PI} (h : IOk x) {n : Nat} (hn : x.size = (n : Int)) (k : Nat) : msC x k < 2 ^ n := by
 unfold msC
 by_cases hk : k < x.sets.length
 ·rw [List.getD_eq_getElem?_getD, List.getElem?_eq_getElem hk, Option.getD_some]
  refine mskE_lt _ (fun e he => ?_)
  have := ascB_bd _ (-1) (by omega) (h.elems _ (List.getElem_mem hk)) e he
  rw [hn] at this
  exact this
 ·rw [List.getD_eq_getElem?_getD, List.getElem?_eq_none (by omega)]
  exact Nat.pow_pos (by omega)
theorem ahead_next {K S k g : Nat} (hk : k < K) (hg : g < S) (k' h' : Nat) (b' : Bool) : ((AheadC K S k g k' h' b' ∨ (k' = k ∧ h' = g ∧ b' = false)) ∨ (k' = k ∧ h' = g ∧ b' = true)) ↔ AheadC K S k (g + 1) k' h' b' := by
 unfold AheadC
 cases b' <;> simp <;> omega
theorem ahead_skip {K S k g : Nat} (hk : k < K) (hg : g < S) (k' h' : Nat) (b' : Bool) : (AheadC K S k g k' h' b' ∨ (k' = k ∧ h' = g)) ↔ AheadC K S k (g + 1) k' h' b' := by
 unfold AheadC
 omega
theorem ahead_row {K S k : Nat} (hk : k < K) (k' h' : Nat) (b' : Bool) : AheadC K S k S k' h' b' ↔ AheadC K S (k + 1) 0 k' h' b' := by
 unfold AheadC
 omega
theorem ahead_le {K S k g k' h' : Nat} {b' : Bool} (h : AheadC K S k g k' h' b') : k' ≤ k := by
 unfold AheadC at h
 omega
theorem CvI.both {K S : Nat} {ms : Nat → Nat} {cs : Nat → Int} {T : Nat → S152} {k g : Nat} (h : CvI K S ms cs (AheadC K S k g) T) (hk : k < K) (hg : g < S) (hok : (T (k * S + g)).f1 = true) {T1 T2 : Nat → S152}
  (h1 : T1 = upd T ((k + 1) * S + g) (offS (T ((k + 1) * S + g)) (T (k * S + g)).f0 (T (k * S + g)).f2 (T (k * S + g)).f3))
  (h2 : T2 = upd T1 ((k + 1) * S + (g ||| ms k)) (offS (T1 ((k + 1) * S + (g ||| ms k))) ((T (k * S + g)).f0 + cs k) (k : Int) ((k * S + g : Nat) : Int))) :
  CvI K S ms cs (AheadC K S k (g + 1)) T2 := by
 have p1 := h.put (b := false) hk hg (fun k' h' b' hh => ahead_le hh) hok
 have e1 : tgtC S ms k g false = (k + 1) * S + g := rfl
 rw [e1] at p1
 have e2 : giveC S cs (T (k * S + g)) k g false = ⟨(T (k * S + g)).f0, true, (T (k * S + g)).f2, (T (k * S + g)).f3⟩ := rfl
 rw [e2, ← h1] at p1
 have hsame : T1 (k * S + g) = T (k * S + g) := by
  rw [h1]
  refine upd_ne _ _ ?_
  rw [Nat.succ_mul]
  omega
 have p2 := p1.put (b := true) hk hg (fun k' h' b' hh => by
  rcases hh with hh | ⟨rfl, _⟩
  ·exact ahead_le hh
  ·exact Nat.le_refl _) (by rw [hsame]; exact hok)
 have e3 : tgtC S ms k g true = (k + 1) * S + (g ||| ms k) := rfl
 rw [e3, hsame] at p2
 have e4 : giveC S cs (T (k * S + g)) k g true = ⟨(T (k * S + g)).f0 + cs k, true, (k : Int), ((k * S + g : Nat) : Int)⟩ := rfl
 rw [e4, ← h2] at p2
 exact p2.same (ahead_next hk hg)
set_option maxHeartbeats 1000000 in
set_option maxRecDepth 100000 in
theorem cover_any (w : World) (x : PI) (v : Value) (h : InstC w x v) (hi : IOk x) (hx : PIok x) (h8 : x.size ≤ 8) (hK : x.sets.length ≤ 64) (o : Option Int) (ho : IsLeastC x.sets.length x.size.toNat (msC x) (csC x) o) :
  Calls Try.prog 57 #[v] w fun e w' => ∃ vr, e = .returned (.tuple #[vr, .int .i64 (o.getD 0), .bool o.isSome]) ∧ Aside0 ((∃ l, (Kd.int .i64).R 3 w' w.heap.size (fun _ => True) vr l ∧ (o = none → l = []) ∧
   (o.isSome = true → ∃ β, unC (msC x) β x.sets.length = 2 ^ x.size.toNat - 1 ∧ some (sumC (csC x) β x.sets.length) = o ∧ l = ((List.range x.sets.length).filter β).map fun (r : Nat) => (r : Int))) ∧ Below w.heap.size w w') := by
 have HI := Aside0.mk h
 have IOa := Aside0.mk hi
 have HPX := Aside0.mk hx
 have HO := Aside0.mk ho
 obtain ⟨n, hn⟩ : ∃ n : Nat, x.size = (n : Int) := ⟨x.size.toNat, by have := hi.size.1; omega⟩
 obtain ⟨A2, c2, A3, c3, A5, c5, rfl, h2, l2, h3, l3, h5, l5⟩ := h
 have H5 := Aside0.mk h5
 obtain ⟨K, hK1⟩ : ∃ K, K = x.sets.length := ⟨_, rfl⟩
 rw [← hK1] at HI H5 HO hK l5 ⊢
 rw [hn] at HI HO ⊢
 rw [Int.toNat_natCast] at HO ⊢
 have HN := Aside0.mk hn
 have HKK := Aside0.mk hK1
 have n8 : n ≤ 8 := by omega
 clear h2 h3 h5 l2 l3 hi hx ho hK1 hn
 have hu54 := Try.underlying54
 have hu102 := Try.underlying102
 have hu152 := Try.underlying152
 obtain ⟨ms, hms⟩ : ∃ f, f = msC x := ⟨_, rfl⟩
 obtain ⟨cs, hcs⟩ : ∃ f, f = csC x := ⟨_, rfl⟩
 rw [← hms, ← hcs] at HO ⊢
 have HMC := Aside0.mk (And.intro hms hcs)
 clear hms hcs
 obtain ⟨S, hS⟩ : ∃ S : Nat, S = 2 ^ n := ⟨_, rfl⟩
 rw [← hS]
 obtain ⟨hS5, hS0, e0⟩ := pow_facts hS n8
 have e1 : IntKind.i64.wrap ((2 : Int) ^ n) = (S : Int) := wrap_k e0 (by omega)
 have e2 : wrap64 ((2 : Int) ^ n) = (S : Int) := wrap_s e0 (by omega)
 have e3 : IntKind.i64.wrap ((2 : Int) ^ min n 64) = (S : Int) := by rw [Nat.min_eq_left (by omega)]; exact e1
 have e4 : wrap64 ((2 : Int) ^ min n 64) = (S : Int) := by rw [Nat.min_eq_left (by omega)]; exact e2
 have e5 : IntKind.i64.wrap (1 * (2 : Int) ^ min n 64) = (S : Int) := by rw [Int.one_mul]; exact e3
 have e6 : wrap64 (1 * (2 : Int) ^ min n 64) = (S : Int) := by rw [Int.one_mul]; exact e4
 obtain ⟨N, hN⟩ : ∃ N : Nat, N = (K + 1) * S := ⟨_, rfl⟩
 obtain ⟨hN5, hN0⟩ := prod_le hN hK hS5 hS0
 have m0 := prod_cast hN
 have m3 : wrap64 (N : Int) = (N : Int) := wrap_small hN5
 have m1 : wrap64 (((K : Int) + 1) * (S : Int)) = (N : Int) := wrap_s m0 hN5
 have m2 : IntKind.i64.wrap (((K : Int) + 1) * (S : Int)) = (N : Int) := wrap_k m0 hN5
 have HS := Aside0.mk hS
 have HNN := Aside0.mk hN
 clear hS hN e0
 have mk1 := mkS' hN5
 have HN5 := Aside0.mk hN5
 go_enter Try.func57, Try.ntmps57
 go_upto_region 2 with fail
 clear e1 e2 e3 e4 e5 e6
 go_upto_region 3 with fail
 clear mk1 m0 m1 m2 m3 hN5
 obtain ⟨W0, hW0⟩ : ∃ W, W = w.alloc (.cells #[.int .i64 x.kind, .int .i64 x.cap, .slice A2 x.items.length c2, .slice A3 x.cost.length c3, .int .i64 (n : Int), .slice A5 K c5] 54) := ⟨_, rfl⟩
 rw [← hW0]
 have B0 : Aside0 (Below w.heap.size w W0) := ⟨by rw [hW0]; exact below_alloc (Below.refl _ _) _⟩
 obtain ⟨W1, hW1⟩ : ∃ W, W = W0.alloc (.cells (tabS N fun _ => z152) 152) := ⟨_, rfl⟩
 rw [← hW1]
 obtain ⟨g, hg⟩ : ∃ g, g = w.heap.size + 1 := ⟨_, rfl⟩
 rw [← hg]
 have hg2 : g = W0.heap.size := by rw [hg, hW0, al_size]
 have S1 : Aside0 (SB W1 g N (fun _ => z152)) := ⟨by rw [hW1, hg2]; exact heap_alloc_new _ _⟩
 have B1 : Aside0 (Below W0.heap.size W0 W1) := ⟨by rw [hW1]; exact below_alloc (Below.refl _ _) _⟩
 obtain ⟨p1, hp1⟩ : ∃ p, p = w.heap.size := ⟨_, rfl⟩
 have Q0 : Aside0 (W0.heap[p1]? = some (.cells #[.int .i64 x.kind, .int .i64 x.cap, .slice A2 x.items.length c2, .slice A3 x.cost.length c3, .int .i64 (n : Int), .slice A5 K c5] 54 (0, 0))) := ⟨by rw [hW0, hp1]; exact heap_alloc_new _ _⟩
 rw [← hp1]
 have HG : Aside0 (W0.heap.size ≤ g) := ⟨by omega⟩
 clear hW0 hW1 hg hp1 hg2
 have q0 : W1.cell? ⟨g, 0, none⟩ = some (.int .i64 0) := S1.out.c0 hN0
 have q1 : W1.cell? ⟨g, 1, none⟩ = some (.bool false) := S1.out.c1 hN0
 have q2 : W1.cell? ⟨g, 2, none⟩ = some (.int .i64 0) := S1.out.c2 hN0
 have q3 : W1.cell? ⟨g, 3, none⟩ = some (.int .i64 0) := S1.out.c3 hN0
 have hz : ∀ j, W1.frozen? ⟨g, j, none⟩ = false := S1.out.z
 go_upto_region 4 with fail
 clear q0 q1 q2 q3 hz
 obtain ⟨W2, hW2⟩ : ∃ W, W = (((W1.setCell ⟨g, 0, none⟩ (Value.int .i64 0)).setCell ⟨g, 1, none⟩ (Value.bool true)).setCell ⟨g, 2, none⟩ (Value.int .i64 (-1))).setCell ⟨g, 3, none⟩ (Value.int .i64 0) := ⟨_, rfl⟩
 rw [← hW2]
 have K0 : Aside0 (∃ T, SB W2 g N T ∧ CvI K S ms cs (AheadC K S 0 0) T ∧ Below W0.heap.size W0 W2) := ⟨_, by rw [hW2]; exact S1.out.set 0 ⟨0, true, -1, 0⟩, CvI.start.same (fun k h b => ⟨fun h => h.elim, fun h => by unfold AheadC at h; omega⟩), by rw [hW2]; exact set4_below B1.out HG.out _ _ _ _ _ _ _ _⟩
 have q5 : W2.cell? ⟨p1, 5, none⟩ = some (.slice A5 K c5) := (blk_cell (blk_below Q0.out (by rw [hW2]; exact set4_below B1.out HG.out _ _ _ _ _ _ _ _)) 5).trans rfl
 clear hW2 S1 B1
 go_wp2_with fail
 clear q5
 go_loopw [30] (fun v30 wr => ∃ k : Nat, k ≤ K ∧ v30 = .int .i64 (k : Int) ∧ Aside0 (∃ T, SB wr g N T ∧ CvI K S ms cs (AheadC K S k 0) T ∧ Below W0.heap.size W0 wr)) (fun v30 _ => K - (intOf v30).toNat)
 case atStart => exact ⟨0, Nat.zero_le _, rfl, K0⟩
 case round =>
  clear K0
  obtain ⟨k, hk, rfl, KK⟩ := hrel
  by_cases hlt : k < K
  ·obtain ⟨ad, AE, cE, rfl, a0', a1', lE, hE⟩ := at_T102 H5.out (k : Int) (by omega) (by omega)
   obtain ⟨wo, hwo⟩ : ∃ wo : World, wo = wr := ⟨_, rfl⟩
   rw [← hwo] at KK ⊢
   clear hwo
   have BW : Aside0 (Below w.heap.size w wo) := ⟨by
    obtain ⟨T, t1, t2, t3⟩ := KK.out
    exact B0.out.trans (t3.mono B0.out.size)⟩
   have a0 := pw_cell_below BW.out a0'
   have a1 := pw_cell_below BW.out a1'
   rw [Int.toNat_natCast] at a0 a1
   have hkl : k < x.sets.length := by rw [← HKK.out]; exact hlt
   have hm : rd_T102 x.sets (k : Int) = x.sets.getD k ⟨0, []⟩ := by
    unfold rd_T102
    rw [Int.toNat_natCast]
    rfl
   obtain ⟨el, hl0⟩ : ∃ z, z = (x.sets.getD k ⟨0, []⟩).f1 := ⟨_, rfl⟩
   obtain ⟨u, hu⟩ : ∃ z, z = (x.sets.getD k ⟨0, []⟩).f0 := ⟨_, rfl⟩
   rw [hm, ← hl0] at a1 hE lE
   rw [hm, ← hu] at a0
   have hel : ascB x.size (-1) el = true := by
    rw [hl0]
    exact IOa.out.elems _ (by
     rw [List.getD_eq_getElem?_getD, List.getElem?_eq_getElem hkl]
     exact List.getElem_mem hkl)
   have hucs : u = cs k := by rw [hu, HMC.out.2]; rfl
   have hems : mskE el = ms k := by rw [hl0, HMC.out.1]; rfl
   have ub : 0 ≤ u ∧ u ≤ 2147483648 := by
    rw [hu]
    exact csC_bd IOa.out k
   have HEB : Aside0 (∀ e ∈ el, 0 ≤ e ∧ e < 8) := ⟨fun e he => by
    have h1 := ascB_bd el (-1) (by omega) hel e he
    rw [HN.out] at h1
    omega⟩
   obtain ⟨nE, hnE⟩ : ∃ n, n = el.length := ⟨_, rfl⟩
   rw [← hnE] at a1 hE lE
   have HEN : Aside0 (nE ≤ 17592186044416) := ⟨by
    rw [hnE, hl0]
    exact HPX.out.els _ (by
     rw [List.getD_eq_getElem?_getD, List.getElem?_eq_getElem hkl]
     exact List.getElem_mem hkl)⟩
   have HE := Aside0.mk (Kd.C_below hE BW.out)
   have HUM := Aside0.mk (And.intro hucs hems)
   obtain ⟨ub0, ub1⟩ := ub
   clear a0' a1' hl0 hu hE hnE hm hel hucs hems hkl
   go_upto_region 7 with fail
   obtain ⟨W4, hW4⟩ : ∃ W, W = wo.alloc (.cells #[.int .i64 u, .slice AE nE cE] 102) := ⟨_, rfl⟩
   rw [← hW4]
   obtain ⟨p4, hp4⟩ : ∃ p, p = wo.heap.size := ⟨_, rfl⟩
   have B4 : Aside0 (Below wo.heap.size wo W4) := ⟨by rw [hW4]; exact below_alloc (Below.refl _ _) _⟩
   have Q4 : Aside0 (W4.heap[p4]? = some (.cells #[.int .i64 u, .slice AE nE cE] 102 (0, 0))) := ⟨by rw [hW4, hp4]; exact heap_alloc_new _ _⟩
   rw [← hp4]
   have G4 : Aside0 (p4 ≠ g) := ⟨by
    obtain ⟨T, t1, _⟩ := KK.out
    have := (Array.getElem?_eq_some_iff.1 t1).1
    omega⟩
   clear hW4 hp4 a0 a1
   have a0 : W4.cell? ⟨p4, 0, none⟩ = some (.int .i64 u) := (blk_cell Q4.out 0).trans rfl
   have a1 : W4.cell? ⟨p4, 1, none⟩ = some (.slice AE nE cE) := (blk_cell Q4.out 1).trans rfl
   go_wp2_with fail
   refine (elements_any W4 AE u nE cE el (Kd.C_below HE.out B4.out) HEN.out HEB.out).mono ?_
   rintro _ w5 ⟨rfl, hm8, hb5⟩
   have B5 : Aside0 (Below wo.heap.size wo w5) := ⟨B4.out.trans (hb5.mono B4.out.size)⟩
   have Q5 : Aside0 (w5.heap[p4]? = some (.cells #[.int .i64 u, .slice AE nE cE] 102 (0, 0))) := ⟨blk_below Q4.out hb5⟩
   rw [HUM.out.2] at hm8
   rw [HUM.out.2]
   obtain ⟨m, hmm⟩ : ∃ m, m = ms k := ⟨_, rfl⟩
   rw [← hmm] at hm8 ⊢
   have HM := Aside0.mk hmm
   clear hmm a0 a1 hb5 B4 Q4 HEB HEN HE
   obtain ⟨a, ha⟩ : ∃ a : Nat, a = k * S := ⟨_, rfl⟩
   have ha2 : a + S + S ≤ N := by
    have h1 : (k + 1) * S ≤ K * S := Nat.mul_le_mul_right S (by omega)
    rw [Nat.succ_mul] at h1
    rw [ha, HNN.out, Nat.succ_mul]
    omega
   have ha5 : a ≤ 20000 := Nat.le_trans (Nat.le_trans (Nat.le_trans (Nat.le_add_right a S) (Nat.le_add_right (a + S) S)) ha2) HN5.out
   have HA5 := Aside0.mk ha5
   have EA := Aside0.mk (prod_cast0 ha)
   have EA1 := Aside0.mk (wrap_s (prod_cast0 ha) ha5)
   have EA2 := Aside0.mk (wrap_k (prod_cast0 ha) ha5)
   have HA := Aside0.mk ha
   have J0 : Aside0 (∃ T, SB w5 g N T ∧ CvI K S ms cs (AheadC K S k 0) T ∧ Chg (fun b => b = g) w5 w5) := ⟨by
    obtain ⟨T, t1, t2, t3⟩ := KK.out
    exact ⟨T, blk_below t1 B5.out, t2, Chg.refl _ _⟩⟩
   have B50 : Aside0 (Below W0.heap.size W0 w5) := ⟨by
    obtain ⟨T, t1, t2, t3⟩ := KK.out
    exact t3.trans (B5.out.mono t3.size)⟩
   clear ha ha5 KK
   go_wp2_with fail
   go_loopw [38] (fun v38 wr => ∃ h : Nat, h ≤ S ∧ v38 = .int .i64 (h : Int) ∧ Aside0 (∃ T, SB wr g N T ∧ CvI K S ms cs (AheadC K S k h) T ∧ Chg (fun b => b = g) w5 wr)) (fun v38 _ => S - (intOf v38).toNat)
   case atStart => exact ⟨0, Nat.zero_le _, rfl, J0⟩
   case round =>
    clear J0
    obtain ⟨h, hh, rfl, KJ⟩ := hrel
    by_cases hlh : h < S
    ·obtain ⟨X, hX⟩ : ∃ X, X = a + h := ⟨_, rfl⟩
     have hXN : X < N := by omega
     have eX : (a : Int) + (h : Int) = (X : Int) := by omega
     have hX2 : X ≤ 20000 := Nat.le_trans (Nat.le_of_lt hXN) HN5.out
     have wX : wrap64 (X : Int) = (X : Int) := wrap_small hX2
     have HX2 := Aside0.mk hX2
     clear hX2
     have HX : Aside0 (X = k * S + h) := ⟨by rw [hX, HA.out]⟩
     obtain ⟨wo2, hwo2⟩ : ∃ wo2 : World, wo2 = wr := ⟨_, rfl⟩
     rw [← hwo2] at KJ ⊢
     clear hwo2
     obtain ⟨T, t1, t2, t3⟩ := KJ.out
     have KT0 := Aside0.mk (And.intro t1 (And.intro t2 t3))
     have c0 := t1.c0 hXN
     have c1 := t1.c1 hXN
     have c2' := t1.c2 hXN
     have c3' := t1.c3 hXN
     have sb := t2.bd (fun k => by rw [HMC.out.2]; exact csC_bd IOa.out k) X X (Nat.le_refl _)
     clear t1 t2 t3 KJ hX
     obtain ⟨s, hs⟩ : ∃ s, s = T X := ⟨_, rfl⟩
     rw [← hs] at c0 c1 c2' c3' sb
     have HS1 := Aside0.mk hs
     clear hs
     obtain ⟨s0, s1, s2, s3⟩ := s
     simp only at c0 c1 c2' c3' sb
     cases s1 with
     | false =>
      clear sb
      go_upto_region 11 with fail
      have ea := EA.out
      have ea1 := EA1.out
      have wa : wrap64 (a : Int) = (a : Int) := wrap_small HA5.out
      go_upto_region 12 with fail
      clear ea ea1 wa
      go_wp2_with fail
      have N1 : Aside0 (∃ T, SB (wo2.alloc (.cells #[.int .i64 s0, .bool false, .int .i64 s2, .int .i64 s3] 152)) g N T ∧ CvI K S ms cs (AheadC K S k (h + 1)) T ∧ Chg (fun b => b = g) w5 (wo2.alloc (.cells #[.int .i64 s0, .bool false, .int .i64 s2, .int .i64 s3] 152))) :=
       ⟨T, blk_below KT0.out.1 (below_alloc (Below.refl _ _) _), (KT0.out.2.1.skip hlt hlh (by rw [← HX.out, ← HS1.out])).same (ahead_skip hlt hlh), KT0.out.2.2.alloc _⟩
      exact ⟨⟨h + 1, by omega, by go_num, N1⟩, by simp [intOf]; omega⟩
     | true =>
      have SB0 := Aside0.mk (sb rfl)
      clear sb
      go_upto_region 11 with fail
      have ea := EA.out
      have ea1 := EA1.out
      have wa : wrap64 (a : Int) = (a : Int) := wrap_small HA5.out
      go_upto_region 12 with fail
      clear ea ea1 wa
      go_upto_region 14 with fail
      rw [wX]
      clear wX c0 c1 c2' c3'
      obtain ⟨W6, hW6⟩ : ∃ W, W = wo2.alloc (.cells #[.int .i64 s0, .bool true, .int .i64 s2, .int .i64 s3] 152) := ⟨_, rfl⟩
      rw [← hW6]
      obtain ⟨p6, hp6⟩ : ∃ p, p = wo2.heap.size := ⟨_, rfl⟩
      have Q6 : Aside0 (W6.heap[p6]? = some (.cells #[.int .i64 s0, .bool true, .int .i64 s2, .int .i64 s3] 152 (0, 0))) := ⟨by rw [hW6, hp6]; exact heap_alloc_new _ _⟩
      have KT : Aside0 (SB W6.drew g N T ∧ Chg (fun b => b = g) w5 W6.drew) := ⟨by rw [hW6]; exact blk_below KT0.out.1 (below_drew (below_alloc (Below.refl _ _) _)), by rw [hW6]; exact (KT0.out.2.2.alloc _).drew⟩
      have G6 : Aside0 (p6 ≠ g) := ⟨by
       have := (Array.getElem?_eq_some_iff.1 KT0.out.1).1
       omega⟩
      rw [← hp6]
      clear hW6 hp6
      obtain ⟨Y, hY⟩ : ∃ Y, Y = X + S := ⟨_, rfl⟩
      have hYN : Y < N := by omega
      have eY : (X : Int) + (S : Int) = (Y : Int) := by omega
      have wY : wrap64 (Y : Int) = (Y : Int) := wrap_small (Nat.le_trans (Nat.le_of_lt hYN) HN5.out)
      have kY : IntKind.i64.wrap (Y : Int) = (Y : Int) := by rw [i64_w]; exact wY
      have HY := Aside0.mk hY
      have z0 : W6.drew.cell? ⟨p6, 0, none⟩ = some (.int .i64 s0) := (blk_cell Q6.out 0).trans rfl
      have z2 : W6.drew.cell? ⟨p6, 2, none⟩ = some (.int .i64 s2) := (blk_cell Q6.out 2).trans rfl
      have z3 : W6.drew.cell? ⟨p6, 3, none⟩ = some (.int .i64 s3) := (blk_cell Q6.out 3).trans rfl
      clear hY
      refine start_ (n := 12) (S := fun w' => w'.cell? ⟨p6, 0, none⟩ = some (.int .i64 s0) ∧ w'.cell? ⟨p6, 2, none⟩ = some (.int .i64 s2) ∧ w'.cell? ⟨p6, 3, none⟩ = some (.int .i64 s3)) (ds := [11]) #[false, false, false, false, false, false, false, false, false, false, false, false] (by kernel_rfl) rfl rfl ⟨z0, z2, z3⟩ (fun hHeld => ?_)
      clear z0 z2 z3
      refine puU 0 (some 52) ?_ rfl rfl (by kernel_rfl) (fun _ _ _ h => h) (Or.inl ⟨by rfl, ?_⟩) ?_ ?_ ?_
      rotate_left
      ·intro w'
       go_simp
       with_reducible rfl
      rotate_left
      ·simp only [Act.put, lsA, lsB, lsC]
       rfl
      refine puU 1 (some 53) ?_ rfl rfl (by kernel_rfl) (fun _ _ _ h => h) (Or.inl ⟨by rfl, ?_⟩) ?_ ?_ ?_
      rotate_left
      ·intro w'
       go_simp
       with_reducible rfl
      rotate_left
      ·simp only [Act.put, lsA, lsB, lsC]
       rfl
      refine puU 2 (some 54) ?_ rfl rfl (by kernel_rfl) (fun _ _ _ h => h) (Or.inl ⟨by rfl, ?_⟩) ?_ ?_ ?_
      rotate_left
      ·intro w'
       go_simp
       with_reducible rfl
      rotate_left
      ·simp only [Act.put, lsA, lsB, lsC]
       rfl
      refine puU 3 (some 55) ?_ rfl rfl (by kernel_rfl) (fun _ _ _ h => h) (Or.inl ⟨by rfl, ?_⟩) ?_ ?_ ?_
      rotate_left
      ·intro w'
       go_simp
       with_reducible rfl
      rotate_left
      ·simp only [Act.put, lsA, lsB, lsC]
       rfl
      refine puU 4 (some 56) ?_ rfl rfl (by kernel_rfl) (fun _ _ _ h => h) (Or.inl ⟨by rfl, ?_⟩) ?_ ?_ ?_
      rotate_left
      ·intro w'
       go_simp
       with_reducible rfl
      rotate_left
      ·simp only [Act.put, lsA, lsB, lsC]
       rfl
      refine puU 5 (some 57) ?_ rfl rfl (by kernel_rfl) (fun _ _ _ h => h) (Or.inl ⟨by rfl, ?_⟩) ?_ ?_ ?_
      rotate_left
      ·intro w'
       go_simp
       with_reducible rfl
      rotate_left
      ·simp only [Act.put, lsA, lsB, lsC]
       rfl
      refine taU 6 (some 58) ?_ rfl rfl (by kernel_rfl) (fun _ _ _ h => h) (Or.inl ⟨by rfl, ?_⟩) hHeld ?_ ?_ ?_
      rotate_left
      ·rintro w' ⟨s0, s1, s2⟩
       go_simp
       with_reducible rfl
      rotate_left
      ·simp only [Act.put, lsA, lsB, lsC]
       rfl
      refine puU 7 (some 59) ?_ rfl rfl (by kernel_rfl) (fun _ _ _ h => h) (Or.inl ⟨by rfl, ?_⟩) ?_ ?_ ?_
      rotate_left
      ·intro w'
       go_simp
       with_reducible rfl
      rotate_left
      ·simp only [Act.put, lsA, lsB, lsC]
       rfl
      refine taU 8 (some 60) ?_ rfl rfl (by kernel_rfl) (fun _ _ _ h => h) (Or.inl ⟨by rfl, ?_⟩) hHeld ?_ ?_ ?_
      rotate_left
      ·rintro w' ⟨s0, s1, s2⟩
       go_simp
       with_reducible rfl
      rotate_left
      ·simp only [Act.put, lsA, lsB, lsC]
       rfl
      refine puU 9 (some 61) ?_ rfl rfl (by kernel_rfl) (fun _ _ _ h => h) (Or.inl ⟨by rfl, ?_⟩) ?_ ?_ ?_
      rotate_left
      ·intro w'
       go_simp
       with_reducible rfl
      rotate_left
      ·simp only [Act.put, lsA, lsB, lsC]
       rfl
      refine taU 10 (some 62) ?_ rfl rfl (by kernel_rfl) (fun _ _ _ h => h) (Or.inl ⟨by rfl, ?_⟩) hHeld ?_ ?_ ?_
      rotate_left
      ·rintro w' ⟨s0, s1, s2⟩
       go_simp
       with_reducible rfl
      rotate_left
      ·simp only [Act.put, lsA, lsB, lsC]
       rfl
      refine last_ (i := 11) (N := some 63) #[true, true, true, true, true, true, true, true, true, true, true, true] rfl rfl (by kernel_rfl) (by decide) (fun K hK => ?_)
      refine goes_ Try.func92 (by kernel_rfl) rfl #[.pointer (some ⟨g, Y * 4, none⟩), .int .i64 s0, .int .i64 s2, .int .i64 s3] (by rfl) rfl rfl (by (try simp only [List.map_toArray, List.map_cons, List.map_nil]); first | done | rfl) ?_
      refine (offer_chg W6.drew g N Y T _ _ _ KT.out.1 hYN).mono ?_
      rintro _ w7 ⟨rfl, H7⟩
      refine ⟨_, rfl, ?_⟩
      refine hK.out _ _ ?_
      clear hK K
      refine norm_ (a' := ?_) ?_ ?_
      rotate_left
      ·show Act.put _ (some 63) _ = _
       simp only [Act.put, lsA, lsB, lsC]
       rfl
      refine done_ (by kernel_rfl) ?_
      clear hHeld eY wY kY
      have Q6b : Aside0 (w7.heap[p6]? = some (.cells #[.int .i64 s0, .bool true, .int .i64 s2, .int .i64 s3] 152 (0, 0))) := ⟨H7.out.2.blk Q6.out G6.out⟩
      have Q4b : Aside0 (w7.heap[p4]? = some (.cells #[.int .i64 u, .slice AE nE cE] 102 (0, 0))) := ⟨(KT.out.2.trans H7.out.2).blk Q5.out G4.out⟩
      go_upto_region 15 with fail
      obtain ⟨c, hc⟩ : ∃ c, c = a + S := ⟨_, rfl⟩
      have hcN : c + S ≤ N := by rw [hc]; exact ha2
      have HZ : Aside0 (c + (h ||| m) = (k + 1) * S + (h ||| ms k)) := ⟨by rw [hc, HA.out, HM.out, Nat.succ_mul]⟩
      have hor := or_8 ⟨h, Nat.lt_of_lt_of_le hlh hS5⟩ ⟨m, hm8⟩
      simp only at hor
      have hol : (h ||| m) < S := by
       rw [HS.out]
       refine Nat.or_lt_two_pow (by rw [← HS.out]; exact hlh) ?_
       rw [HM.out, HMC.out.1]
       exact msC_lt IOa.out HN.out k
      obtain ⟨hm', hhm⟩ : ∃ q, q = (h ||| m) := ⟨_, rfl⟩
      rw [← hhm] at hor hol HZ
      obtain ⟨Z, hZ⟩ : ∃ Z, Z = c + hm' := ⟨_, rfl⟩
      have hZN : Z < N := by omega
      have eZ : (c : Int) + (hm' : Int) = (Z : Int) := by omega
      have wZ : wrap64 (Z : Int) = (Z : Int) := wrap_small (Nat.le_trans (Nat.le_of_lt hZN) HN5.out)
      have kZ : IntKind.i64.wrap (Z : Int) = (Z : Int) := by rw [i64_w]; exact wZ
      rw [← hZ] at HZ
      have pc := prod_cast (K := k) (S := S) (N := c) (by rw [hc, HA.out, Nat.succ_mul])
      have wc := wrap_s pc (Nat.le_trans (Nat.le_trans (Nat.le_add_right c S) hcN) HN5.out)
      have kc := wrap_k pc (Nat.le_trans (Nat.le_trans (Nat.le_add_right c S) hcN) HN5.out)
      have wcc : wrap64 (c : Int) = (c : Int) := by rw [← pc]; exact wc.trans pc.symm
      have kcc : IntKind.i64.wrap (c : Int) = (c : Int) := by rw [i64_w]; exact wcc
      have k1 : wrap64 ((k : Int) + 1) = (k : Int) + 1 := by unfold wrap64; omega
      have kk1 : IntKind.i64.wrap ((k : Int) + 1) = (k : Int) + 1 := by rw [i64_w]; exact k1
      have hX2 := HX2.out
      have sb0 := SB0.out.1
      have sb1 : s0 ≤ 43000000000000 := by have := SB0.out.2; omega
      have v1 : wrap64 (s0 + u) = s0 + u := by unfold wrap64; omega
      have v2 : IntKind.i64.wrap (s0 + u) = s0 + u := by rw [i64_w]; exact v1
      have z0 : w7.drew.cell? ⟨p6, 0, none⟩ = some (.int .i64 s0) := (blk_cell Q6b.out 0).trans rfl
      have z1 : w7.drew.cell? ⟨p4, 0, none⟩ = some (.int .i64 u) := (blk_cell Q4b.out 0).trans rfl
      clear hc hcN hhm hZ hX2 hol sb0 sb1 ha2
      refine start_ (n := 18) (S := fun w' => w'.cell? ⟨p6, 0, none⟩ = some (.int .i64 s0) ∧ w'.cell? ⟨p4, 0, none⟩ = some (.int .i64 u)) (ds := [17]) #[false, false, false, false, false, false, false, false, false, false, false, false, false, false, false, false, false, false] (by kernel_rfl) rfl rfl ⟨z0, z1⟩ (fun hHeld => ?_)
      clear z0 z1
      refine puU 0 (some 64) ?_ rfl rfl (by kernel_rfl) (fun _ _ _ h => h) (Or.inl ⟨by rfl, ?_⟩) ?_ ?_ ?_
      rotate_left
      ·intro w'
       go_simp
       with_reducible rfl
      rotate_left
      ·simp only [Act.put, lsA, lsB, lsC]
       rfl
      refine puU 1 (some 65) ?_ rfl rfl (by kernel_rfl) (fun _ _ _ h => h) (Or.inl ⟨by rfl, ?_⟩) ?_ ?_ ?_
      rotate_left
      ·intro w'
       go_simp
       with_reducible rfl
      rotate_left
      ·simp only [Act.put, lsA, lsB, lsC]
       rfl
      refine puU 2 (some 66) ?_ rfl rfl (by kernel_rfl) (fun _ _ _ h => h) (Or.inl ⟨by rfl, ?_⟩) ?_ ?_ ?_
      rotate_left
      ·intro w'
       go_simp
       with_reducible rfl
      rotate_left
      ·simp only [Act.put, lsA, lsB, lsC]
       rfl
      refine puU 3 (some 67) ?_ rfl rfl (by kernel_rfl) (fun _ _ _ h => h) (Or.inl ⟨by rfl, ?_⟩) ?_ ?_ ?_
      rotate_left
      ·intro w'
       go_simp
       with_reducible rfl
      rotate_left
      ·simp only [Act.put, lsA, lsB, lsC]
       rfl
      refine puU 4 (some 68) ?_ rfl rfl (by kernel_rfl) (fun _ _ _ h => h) (Or.inl ⟨by rfl, ?_⟩) ?_ ?_ ?_
      rotate_left
      ·intro w'
       go_simp
       with_reducible rfl
      rotate_left
      ·simp only [Act.put, lsA, lsB, lsC]
       rfl
      refine puU 5 (some 69) ?_ rfl rfl (by kernel_rfl) (fun _ _ _ h => h) (Or.inl ⟨by rfl, ?_⟩) ?_ ?_ ?_
      rotate_left
      ·intro w'
       go_simp
       with_reducible rfl
      rotate_left
      ·simp only [Act.put, lsA, lsB, lsC]
       rfl
      refine puU 6 (some 70) ?_ rfl rfl (by kernel_rfl) (fun _ _ _ h => h) (Or.inl ⟨by rfl, ?_⟩) ?_ ?_ ?_
      rotate_left
      ·intro w'
       go_simp
       with_reducible rfl
      rotate_left
      ·simp only [Act.put, lsA, lsB, lsC]
       rfl
      refine puU 7 (some 71) ?_ rfl rfl (by kernel_rfl) (fun _ _ _ h => h) (Or.inl ⟨by rfl, ?_⟩) ?_ ?_ ?_
      rotate_left
      ·intro w'
       go_simp
       with_reducible rfl
      rotate_left
      ·simp only [Act.put, lsA, lsB, lsC]
       rfl
      refine puU 8 (some 72) ?_ rfl rfl (by kernel_rfl) (fun _ _ _ h => h) (Or.inl ⟨by rfl, ?_⟩) ?_ ?_ ?_
      rotate_left
      ·intro w'
       go_simp
       with_reducible rfl
      rotate_left
      ·simp only [Act.put, lsA, lsB, lsC]
       rfl
      refine puU 9 (some 73) ?_ rfl rfl (by kernel_rfl) (fun _ _ _ h => h) (Or.inl ⟨by rfl, ?_⟩) ?_ ?_ ?_
      rotate_left
      ·intro w'
       go_simp
       with_reducible rfl
      rotate_left
      ·simp only [Act.put, lsA, lsB, lsC]
       rfl
      refine puU 10 (some 74) ?_ rfl rfl (by kernel_rfl) (fun _ _ _ h => h) (Or.inl ⟨by rfl, ?_⟩) ?_ ?_ ?_
      rotate_left
      ·intro w'
       go_simp
       with_reducible rfl
      rotate_left
      ·simp only [Act.put, lsA, lsB, lsC]
       rfl
      refine taU 11 (some 75) ?_ rfl rfl (by kernel_rfl) (fun _ _ _ h => h) (Or.inl ⟨by rfl, ?_⟩) hHeld ?_ ?_ ?_
      rotate_left
      ·rintro w' ⟨s0, s1⟩
       go_simp
       with_reducible rfl
      rotate_left
      ·simp only [Act.put, lsA, lsB, lsC]
       rfl
      refine puU 12 (some 76) ?_ rfl rfl (by kernel_rfl) (fun _ _ _ h => h) (Or.inl ⟨by rfl, ?_⟩) ?_ ?_ ?_
      rotate_left
      ·intro w'
       go_simp
       with_reducible rfl
      rotate_left
      ·simp only [Act.put, lsA, lsB, lsC]
       rfl
      refine taU 13 (some 77) ?_ rfl rfl (by kernel_rfl) (fun _ _ _ h => h) (Or.inl ⟨by rfl, ?_⟩) hHeld ?_ ?_ ?_
      rotate_left
      ·rintro w' ⟨s0, s1⟩
       go_simp
       with_reducible rfl
      rotate_left
      ·simp only [Act.put, lsA, lsB, lsC]
       rfl
      refine puU 14 (some 78) ?_ rfl rfl (by kernel_rfl) (fun _ _ _ h => h) (Or.inl ⟨by rfl, ?_⟩) ?_ ?_ ?_
      rotate_left
      ·intro w'
       go_simp
       with_reducible rfl
      rotate_left
      ·simp only [Act.put, lsA, lsB, lsC]
       rfl
      refine puU 15 (some 79) ?_ rfl rfl (by kernel_rfl) (fun _ _ _ h => h) (Or.inl ⟨by rfl, ?_⟩) ?_ ?_ ?_
      rotate_left
      ·intro w'
       go_simp
       with_reducible rfl
      rotate_left
      ·simp only [Act.put, lsA, lsB, lsC]
       rfl
      refine puU 16 (some 80) ?_ rfl rfl (by kernel_rfl) (fun _ _ _ h => h) (Or.inl ⟨by rfl, ?_⟩) ?_ ?_ ?_
      rotate_left
      ·intro w'
       go_simp
       with_reducible rfl
      rotate_left
      ·simp only [Act.put, lsA, lsB, lsC]
       rfl
      refine last_ (i := 17) (N := some 81) #[true, true, true, true, true, true, true, true, true, true, true, true, true, true, true, true, true, true] rfl rfl (by kernel_rfl) (by decide) (fun K hK => ?_)
      refine goes_ Try.func92 (by kernel_rfl) rfl #[.pointer (some ⟨g, Z * 4, none⟩), .int .i64 (s0 + u), .int .i64 (k : Int), .int .i64 (X : Int)] (by rfl) rfl rfl (by (try simp only [List.map_toArray, List.map_cons, List.map_nil]); first | done | rfl) ?_
      refine (offer_chg w7.drew g N Z _ _ _ _ H7.out.1 hZN).mono ?_
      rintro _ w8 ⟨rfl, H8⟩
      refine ⟨_, rfl, ?_⟩
      refine hK.out _ _ ?_
      clear hK K
      refine norm_ (a' := ?_) ?_ ?_
      rotate_left
      ·show Act.put _ (some 81) _ = _
       simp only [Act.put, lsA, lsB, lsC]
       rfl
      refine done_ (by kernel_rfl) ?_
      clear hHeld
      have N1 : Aside0 (∃ T, SB w8 g N T ∧ CvI K S ms cs (AheadC K S k (h + 1)) T ∧ Chg (fun b => b = g) w5 w8) := ⟨_, H8.out.1, KT0.out.2.1.both hlt hlh (by rw [← HX.out, ← HS1.out]) (by rw [← HX.out, ← HS1.out, Nat.succ_mul, Nat.add_right_comm, ← HX.out, ← HY.out]) (by rw [← HX.out, ← HS1.out, ← HZ.out, ← HUM.out.1]), ((KT.out.2.trans H7.out.2).drew).trans H8.out.2⟩
      clear wc kc pc wcc kcc wZ kZ eZ
      go_wp2_with fail
      exact ⟨⟨h + 1, by omega, by go_num, N1⟩, by simp [intOf]; omega⟩
    ·obtain rfl : S = h := by omega
     have N1 : Aside0 (∃ T, SB wr g N T ∧ CvI K S ms cs (AheadC K S (k + 1) 0) T ∧ Below W0.heap.size W0 wr) := ⟨by
      obtain ⟨T, t1, t2, t3⟩ := KJ.out
      exact ⟨T, t1, t2.same (ahead_row hlt), ⟨t3.os.trans B50.out.os, t3.tape.trans B50.out.tape, t3.output.trans B50.out.output, Nat.le_trans B50.out.size t3.size, fun b hb => (t3.block b (Nat.lt_of_lt_of_le hb B50.out.size) (by have := HG.out; omega)).trans (B50.out.block b hb)⟩⟩⟩
     go_wp2_with fail
     exact ⟨⟨k + 1, by omega, by go_num, N1⟩, by simp [intOf]; omega⟩
  ·obtain rfl : K = k := by omega
   obtain ⟨F, hF⟩ : ∃ F, N = F + 1 := ⟨N - 1, by omega⟩
   have d1 : (N : Int) - 1 = (F : Int) := by omega
   have hFN : F < N := by omega
   have dF : wrap64 (F : Int) = (F : Int) := wrap_small (Nat.le_trans (Nat.le_of_lt hFN) HN5.out)
   have d2 : wrap64 ((N : Int) - 1) = (F : Int) := wrap_s d1 (Nat.le_trans (Nat.le_of_lt hFN) HN5.out)
   have HF : Aside0 (F = K * S + (S - 1)) := ⟨by
    have h1 := HNN.out
    rw [hF, Nat.succ_mul] at h1
    omega⟩
   clear hF
   obtain ⟨wo, hwo⟩ : ∃ wo : World, wo = wr := ⟨_, rfl⟩
   rw [← hwo] at KK ⊢
   clear hwo
   obtain ⟨T, t1, t2, t3⟩ := KK.out
   have hP : ∀ k g b, k < K → g < 2 ^ n → AheadC K S K 0 k g b := fun k g b hk hg => ⟨hk, by rw [HS.out]; exact hg, .inl hk⟩
   have hms : ∀ k, k < K → ms k < 2 ^ n := fun k _ => by
    rw [HMC.out.1]
    exact msC_lt IOa.out HN.out k
   rw [HS.out] at t2
   have t5 : AheadC K (2 ^ n) K 0 = AheadC K S K 0 := by rw [HS.out]
   have hto := t2.tells (by rw [t5]; exact hP) hms
   have hle := t2.least (by rw [t5]; exact hP) hms
   rw [← HS.out, ← HF.out] at hto hle
   have hoo := hto.uniq HO.out
   have c0 := t1.c0 hFN
   have c1 := t1.c1 hFN
   have KT : Aside0 (SB wo.drew g N T ∧ Below W0.heap.size W0 wo.drew) := ⟨t1, below_drew t3⟩
   have BW : Aside0 (Below w.heap.size w wo) := ⟨B0.out.trans (t3.mono B0.out.size)⟩
   obtain ⟨z, hz⟩ : ∃ z, z = (T F).f0 := ⟨_, rfl⟩
   rw [← hz] at c0 hoo hle
   have HOO := Aside0.mk hoo
   have HLE := Aside0.mk hle
   clear hoo hle hto hP hms t1 t2 t3 t5 KK hz
   cases hf1 : (T F).f1 with
   | false =>
    rw [hf1] at c1
    have E : Aside0 (o = none) := ⟨by
     have := HOO.out
     rw [hf1] at this
     exact this.symm⟩
    clear hf1
    go_wp2_with fail
    refine bodyPost_ret (v := .tuple #[.slice none 0 0, .int .i64 0, .bool false]) (by simp [results, Try.results57, go_sem]) rfl ?_
    refine ⟨.slice none 0 0, by rw [E.out]; rfl, ⟨⟨[], Kd.R_nil _ _ _ _ _, fun _ => rfl, fun h => ?_⟩, BW.out⟩⟩
    rw [E.out] at h
    cases h
   | true =>
    rw [hf1] at c1
    have E : Aside0 (some z = o) := ⟨by
     have := HOO.out
     rw [hf1] at this
     exact this⟩
    obtain ⟨β, b1, b2, b3, l, b4, b5⟩ := HLE.out.1 hf1
    have hll : l.length ≤ 4096 := by
     have h1 := congrArg List.length b5
     rw [List.length_reverse, List.length_map] at h1
     have h2 := List.length_filter_le β (List.range K)
     rw [List.length_range] at h2
     omega
    have CH : Aside0 (Chain N T F l ∧ l.reverse = ((List.range K).filter β).map (fun (r : Nat) => (r : Int)) ∧ l.length ≤ 4096) := ⟨by rw [HNN.out]; exact b4, b5, hll⟩
    have SG : Aside0 (unC ms β K = S - 1 ∧ some (sumC cs β K) = o) := ⟨b1, by rw [← b2]; exact E.out⟩
    clear hf1 b1 b2 b3 b4 b5 hll HLE HOO
    go_upto_region 21 with fail
    clear c1
    have z0 : wo.drew.cell? ⟨g, F * 4, none⟩ = some (.int .i64 z) := c0
    have ZZ := Aside0.mk z0
    have z1 : Aside0 (Below wo.drew.heap.size wo.drew wo.drew) := ⟨Below.refl _ _⟩
    clear c0
    refine start_ (n := 11) (S := fun w' => w'.cell? ⟨g, F * 4, none⟩ = some (.int .i64 z) ∧ Aside0 (Below wo.drew.heap.size wo.drew w')) (ds := []) #[false, false, false, false, false, false, false, false, false, false, false] (by kernel_rfl) rfl rfl ⟨z0, z1⟩ (fun hHeld => ?_)
    clear z0 z1
    refine puU 0 (some 93) ?_ rfl rfl (by kernel_rfl) (fun _ _ _ h => h) (Or.inl ⟨by rfl, ?_⟩) ?_ ?_ ?_
    rotate_left
    ·intro w'
     go_simp
     with_reducible rfl
    rotate_left
    ·simp only [Act.put, lsA, lsB, lsC]
     rfl
    refine puU 1 (some 94) ?_ rfl rfl (by kernel_rfl) (fun _ _ _ h => h) (Or.inl ⟨by rfl, ?_⟩) ?_ ?_ ?_
    rotate_left
    ·intro w'
     go_simp
     with_reducible rfl
    rotate_left
    ·simp only [Act.put, lsA, lsB, lsC]
     rfl
    refine puU 3 (some 96) ?_ rfl rfl (by kernel_rfl) (fun _ _ _ h => h) (Or.inl ⟨by rfl, ?_⟩) ?_ ?_ ?_
    rotate_left
    ·intro w'
     go_simp
     with_reducible rfl
    rotate_left
    ·simp only [Act.put, lsA, lsB, lsC]
     rfl
    refine puU 4 (some 97) ?_ rfl rfl (by kernel_rfl) (fun _ _ _ h => h) (Or.inl ⟨by rfl, ?_⟩) ?_ ?_ ?_
    rotate_left
    ·intro w'
     go_simp
     with_reducible rfl
    rotate_left
    ·simp only [Act.put, lsA, lsB, lsC]
     rfl
    refine puU 5 (some 98) ?_ rfl rfl (by kernel_rfl) (fun _ _ _ h => h) (Or.inl ⟨by rfl, ?_⟩) ?_ ?_ ?_
    rotate_left
    ·intro w'
     go_simp
     with_reducible rfl
    rotate_left
    ·simp only [Act.put, lsA, lsB, lsC]
     rfl
    refine puU 6 (some 99) ?_ rfl rfl (by kernel_rfl) (fun _ _ _ h => h) (Or.inl ⟨by rfl, ?_⟩) ?_ ?_ ?_
    rotate_left
    ·intro w'
     go_simp
     with_reducible rfl
    rotate_left
    ·simp only [Act.put, lsA, lsB, lsC]
     rfl
    refine taU 7 (some 100) ?_ rfl rfl (by kernel_rfl) (fun _ _ _ h => h) (Or.inl ⟨by rfl, ?_⟩) hHeld ?_ ?_ ?_
    rotate_left
    ·rintro w' ⟨s0, s1⟩
     go_simp
     with_reducible rfl
    rotate_left
    ·simp only [Act.put, lsA, lsB, lsC]
     rfl
    refine one_ (i := 2) (N := some 95) #[true, true, true, true, true, true, true, true, false, false, false] rfl rfl (by kernel_rfl) (by decide) (fun K hK => ?_)
    refine goes_ Try.func93 (by kernel_rfl) rfl #[.slice (some ⟨g, 0, none⟩) N N, .int .i64 (F : Int)] (by rfl) rfl rfl (by (try simp only [List.map_toArray, List.map_cons, List.map_nil]); first | done | rfl) ?_
    refine (trace_any wo.drew g N T F l KT.out.1 CH.out.1 CH.out.2.2).mono ?_
    rintro _ w6 ⟨vr, rfl, H6⟩
    refine ⟨_, rfl, ?_⟩
    refine hK.out _ _ ⟨(pw_cell_below H6.out.2 ZZ.out), ⟨H6.out.2⟩⟩ (fun _ => ?_)
    clear hK K
    refine norm_ (a' := ?_) ?_ ?_
    rotate_left
    ·show Act.put _ (some 95) _ = _
     simp only [Act.put, lsA, lsB, lsC]
     rfl
    refine puU 8 (some 2) ?_ rfl rfl (by kernel_rfl) (fun _ _ _ h => h) (Or.inl ⟨by rfl, ?_⟩) ?_ ?_ ?_
    rotate_left
    ·intro w'
     go_simp
     with_reducible rfl
    rotate_left
    ·simp only [Act.put, lsA, lsB, lsC]
     rfl
    refine puU 9 (some 3) ?_ rfl rfl (by kernel_rfl) (fun _ _ _ h => h) (Or.inl ⟨by rfl, ?_⟩) ?_ ?_ ?_
    rotate_left
    ·intro w'
     go_simp
     with_reducible rfl
    rotate_left
    ·simp only [Act.put, lsA, lsB, lsC]
     rfl
    refine puU 10 (some 4) ?_ rfl rfl (by kernel_rfl) (fun _ _ _ h => h) (Or.inl ⟨by rfl, ?_⟩) ?_ ?_ ?_
    rotate_left
    ·intro w'
     go_simp
     with_reducible rfl
    rotate_left
    ·simp only [Act.put, lsA, lsB, lsC]
     rfl
    refine done_ (by kernel_rfl) ?_
    go_wp2_with fail
    refine bodyPost_ret (v := .tuple #[vr, .int .i64 z, .bool true]) (by simp [results, Try.results57, go_sem]) rfl ?_
    refine ⟨vr, by rw [← E.out]; rfl, ⟨⟨_, Kd.R_lower H6.out.1 (Nat.le_trans BW.out.size (Nat.le_refl _)), fun h => ?_, fun _ => ⟨β, SG.out.1, SG.out.2, CH.out.2.1⟩⟩, (below_drew BW.out).trans (H6.out.2.mono BW.out.size)⟩⟩
    rw [← E.out] at h
    cases h
end Go.Proofs.Ytelabmhhnpfegaa.Hand
end
section
namespace Go.Proofs.Ytelabmhhnpfegaa.Hand
open Go.RowKit Go.Proofs.Ytelabmhhnpfegaa.PDynCells
inductive Way2 (N : Nat) (T : Nat → S152) : Nat → List Int → Prop
 | one (X : Nat) (hX : X < N) (e : (T X).f3 = -1) : Way2 N T X [(T X).f2]
 | cons (X Y : Nat) (l : List Int) (hX : X < N) (e : (T X).f3 = (Y : Int)) (hl : Way2 N T Y l) : Way2 N T X ((T X).f2 :: l)
structure TrI (n : Nat) (c : Nat → Nat → Int) (P : Nat → Nat → Nat → Prop) (T : Nat → S152) : Prop where
 part : ∀ u l k, P u l k → u < 2 ^ n ∧ l < n ∧ k < n ∧ u / 2 ^ k % 2 = 0
 base : ∀ k, k < n → (T (n * 2 ^ k + k)).f1 = true ∧ (T (n * 2 ^ k + k)).f0 ≤ c 0 (k + 1)
 link : ∀ X, (T X).f1 = true → (∃ k, k < n ∧ X = n * 2 ^ k + k ∧ T X = ⟨c 0 (k + 1), true, ((k + 1 : Nat) : Int), -1⟩) ∨
  ∃ u l k, P u l k ∧ (T (n * u + l)).f1 = true ∧ X = n * (u + 2 ^ k) + k ∧ T X = ⟨(T (n * u + l)).f0 + c (l + 1) (k + 1), true, ((k + 1 : Nat) : Int), ((n * u + l : Nat) : Int)⟩
 done : ∀ u l k, P u l k → (T (n * u + l)).f1 = true → (T (n * (u + 2 ^ k) + k)).f1 = true ∧ (T (n * (u + 2 ^ k) + k)).f0 ≤ (T (n * u + l)).f0 + c (l + 1) (k + 1)
section
variable {n : Nat} {c : Nat → Nat → Int} {P : Nat → Nat → Nat → Prop} {T : Nat → S152}
theorem cell_lt {u u' l' : Nat} (hu : u' < u) (hl : l' < n) : n * u' + l' < n * u := by
 have h1 : n * (u' + 1) ≤ n * u := Nat.mul_le_mul_left n (by omega)
 rw [Nat.mul_succ] at h1
 omega
theorem cell_eq {u l u' l' : Nat} (hl : l < n) (hl' : l' < n) (e : n * u + l = n * u' + l') : u = u' ∧ l = l' := by
 rcases Nat.lt_trichotomy u u' with h | h | h
 ·have := cell_lt h hl
  omega
 ·subst h
  exact ⟨rfl, by omega⟩
 ·have := cell_lt h hl'
  omega
theorem TrI.same (h : TrI n c P T) {Q : Nat → Nat → Nat → Prop} (hq : ∀ u l k, P u l k ↔ Q u l k) : TrI n c Q T where
 part u l k hh := h.part u l k ((hq _ _ _).2 hh)
 base := h.base
 link X hok := by
  rcases h.link X hok with a | ⟨u, l, k, a1, a2⟩
  ·exact .inl a
  ·exact .inr ⟨u, l, k, (hq _ _ _).1 a1, a2⟩
 done u l k hh := h.done u l k ((hq _ _ _).2 hh)
theorem TrI.skip (h : TrI n c P T) {u l k : Nat} (hu : u < 2 ^ n) (hl : l < n) (hk : k < n) (hb : u / 2 ^ k % 2 = 0) (hno : (T (n * u + l)).f1 = false) : TrI n c (fun u' l' k' => P u' l' k' ∨ (u' = u ∧ l' = l ∧ k' = k)) T where
 part u' l' k' hh := by
  rcases hh with hh | ⟨rfl, rfl, rfl⟩
  ·exact h.part _ _ _ hh
  ·exact ⟨hu, hl, hk, hb⟩
 base := h.base
 link X hok := by
  rcases h.link X hok with a | ⟨u', l', k', a1, a2⟩
  ·exact .inl a
  ·exact .inr ⟨u', l', k', .inl a1, a2⟩
 done u' l' k' hh hok := by
  rcases hh with hh | ⟨rfl, rfl, rfl⟩
  ·exact h.done _ _ _ hh hok
  ·rw [hno] at hok
   cases hok
theorem TrI.put (h : TrI n c P T) {u l k : Nat} (hu : u < 2 ^ n) (hl : l < n) (hk : k < n) (hb : u / 2 ^ k % 2 = 0) (hP : ∀ u' l' k', P u' l' k' → u' ≤ u) (hok : (T (n * u + l)).f1 = true) :
  TrI n c (fun u' l' k' => P u' l' k' ∨ (u' = u ∧ l' = l ∧ k' = k))
   (upd T (n * (u + 2 ^ k) + k) (offS (T (n * (u + 2 ^ k) + k)) ((T (n * u + l)).f0 + c (l + 1) (k + 1)) ((k + 1 : Nat) : Int) ((n * u + l : Nat) : Int))) := by
 have hp : 0 < 2 ^ k := Nat.pow_pos (by omega)
 obtain ⟨X0, hX0⟩ : ∃ X, X = n * (u + 2 ^ k) + k := ⟨_, rfl⟩
 obtain ⟨a, ha⟩ : ∃ a, a = (T (n * u + l)).f0 + c (l + 1) (k + 1) := ⟨_, rfl⟩
 rw [← hX0, ← ha]
 obtain ⟨v, hv⟩ : ∃ v, v = offS (T X0) a ((k + 1 : Nat) : Int) ((n * u + l : Nat) : Int) := ⟨_, rfl⟩
 obtain ⟨o1, o2, o3⟩ := offS_ok (T X0) a ((k + 1 : Nat) : Int) ((n * u + l : Nat) : Int)
 rw [← hv] at o1 o2 o3 ⊢
 have old : ∀ u' l', u' ≤ u → l' < n → upd T X0 v (n * u' + l') = T (n * u' + l') := fun u' l' a1 a2 => upd_ne _ _ (by
  have := cell_lt (n := n) (show u' < u + 2 ^ k by omega) a2
  omega)
 refine ⟨fun u' l' k' hh => ?_, fun k' hk' => ?_, fun X hXok => ?_, fun u' l' k' hh hsrc => ?_⟩
 ·rcases hh with hh | ⟨rfl, rfl, rfl⟩
  ·exact h.part _ _ _ hh
  ·exact ⟨hu, hl, hk, hb⟩
 ·have hb' := h.base k' hk'
  by_cases e : n * 2 ^ k' + k' = X0
  ·rw [e] at hb' ⊢
   rw [upd_self]
   have := o3 hb'.1
   exact ⟨o1, by omega⟩
  ·rw [upd_ne _ _ e]
   exact hb'
 ·by_cases e : X = X0
  ·subst e
   rw [upd_self] at hXok ⊢
   by_cases hkeep : (T X).f1 = true ∧ ¬ a < (T X).f0
   ·have ev : v = T X := by rw [hv]; exact if_pos hkeep
    rcases h.link X hkeep.1 with ⟨k', a1, a2, a3⟩ | ⟨u', l', k', a1, a2, a3, a4⟩
    ·exact .inl ⟨k', a1, a2, by rw [ev]; exact a3⟩
    ·have hp' := h.part _ _ _ a1
     have ho := old u' l' (hP _ _ _ a1) hp'.2.1
     exact .inr ⟨u', l', k', .inl a1, by rw [ho]; exact a2, a3, by rw [ho, ev]; exact a4⟩
   ·have ev : v = ⟨a, true, ((k + 1 : Nat) : Int), ((n * u + l : Nat) : Int)⟩ := by
     rw [hv]
     unfold offS
     rw [if_neg hkeep]
    have ho := old u l (Nat.le_refl u) hl
    exact .inr ⟨u, l, k, .inr ⟨rfl, rfl, rfl⟩, by rw [ho]; exact hok, hX0, by rw [ho, ev, ha]⟩
  ·rw [upd_ne _ _ e] at hXok ⊢
   rcases h.link X hXok with a0 | ⟨u', l', k', a1, a2, a3, a4⟩
   ·exact .inl a0
   ·have ho := old u' l' (hP _ _ _ a1) (h.part _ _ _ a1).2.1
    exact .inr ⟨u', l', k', .inl a1, by rw [ho]; exact a2, a3, by rw [ho]; exact a4⟩
 ·rcases hh with hh | ⟨rfl, rfl, rfl⟩
  ·have ho := old u' l' (hP _ _ _ hh) (h.part _ _ _ hh).2.1
   rw [ho] at hsrc ⊢
   have hd := h.done u' l' k' hh hsrc
   by_cases e : n * (u' + 2 ^ k') + k' = X0
   ·rw [e] at hd ⊢
    rw [upd_self]
    have := o3 hd.1
    exact ⟨o1, by omega⟩
   ·rw [upd_ne _ _ e]
    exact hd
  ·have ho := old u' l' (Nat.le_refl u') hl
   rw [ho, ← hX0, upd_self, ← ha]
   exact ⟨o1, o2⟩
def wayC (c : Nat → Nat → Int) (σ : Nat → Nat) : Nat → Int
 | 0 => c 0 (σ 0 + 1)
 | i + 1 => wayC c σ i + c (σ i + 1) (σ (i + 1) + 1)
theorem wayC_congr {c : Nat → Nat → Int} {σ τ : Nat → Nat} : ∀ i, (∀ r, r ≤ i → σ r = τ r) → wayC c σ i = wayC c τ i
 | 0, h => by rw [wayC, wayC, h 0 (Nat.le_refl 0)]
 | i + 1, h => by rw [wayC, wayC, wayC_congr i (fun r hr => h r (by omega)), h i (by omega), h (i + 1) (Nat.le_refl _)]
theorem TrI.le (h : TrI n c P T) (hP : ∀ u l k, u < 2 ^ n → l < n → k < n → u / 2 ^ k % 2 = 0 → P u l k) {σ : Nat → Nat} (hl : ∀ r, r < n → σ r < n) (hinj : ∀ r s, r < n → s < n → σ r = σ s → r = s) :
  ∀ i, i < n → (T (n * msk σ (i + 1) + σ i)).f1 = true ∧ (T (n * msk σ (i + 1) + σ i)).f0 ≤ wayC c σ i
 | 0, hi => by
  have := h.base (σ 0) (hl 0 hi)
  rw [msk, msk, Nat.zero_add]
  exact this
 | i + 1, hi => by
  obtain ⟨h1, h2⟩ := TrI.le h hP hl hinj i (by omega)
  obtain ⟨m1, m2, m3⟩ := msk_all (K := n) hl (Nat.le_refl n) (i + 1) (by omega) (fun r s hr hs e => hinj r s (by omega) (by omega) e)
  have hz : msk σ (i + 1) / 2 ^ σ (i + 1) % 2 = 0 := by
   have : ¬ msk σ (i + 1) / 2 ^ σ (i + 1) % 2 = 1 := fun h => by
    obtain ⟨r, hr, e⟩ := (m3 _).1 h
    have := hinj r (i + 1) (by omega) (by omega) e
    omega
   omega
  have hd := h.done _ _ _ (hP (msk σ (i + 1)) (σ i) (σ (i + 1)) m1 (hl i (by omega)) (hl (i + 1) hi) hz) h1
  rw [msk, wayC]
  exact ⟨hd.1, by have := hd.2; omega⟩
theorem TrI.real (h : TrI n c P T) : ∀ (f X : Nat), X ≤ f → (T X).f1 = true → ∃ (i : Nat) (σ : Nat → Nat), i < n ∧ (∀ r, σ r < n) ∧ (∀ r s, r ≤ i → s ≤ i → σ r = σ s → r = s) ∧ X = n * msk σ (i + 1) + σ i ∧ (T X).f0 = wayC c σ i ∧
  ∃ l, Way2 (n * 2 ^ n) T X l ∧ l.reverse = (List.range (i + 1)).map fun r => ((σ r + 1 : Nat) : Int)
 | f, X, hf, hok => by
  rcases h.link X hok with ⟨k, hk, hX, hT⟩ | ⟨u, l, k, a1, a2, a3, a4⟩
  ·refine ⟨0, fun _ => k, by omega, fun _ => hk, fun r s hr hs _ => by omega, by rw [msk, msk, Nat.zero_add]; exact hX, by rw [hT]; rfl, [(T X).f2], ?_, ?_⟩
   ·refine .one X ?_ (by rw [hT])
    rw [hX]
    exact cell_lt (Nat.pow_lt_pow_right (by omega) hk) hk
   ·rw [hT]
    rfl
  ·obtain ⟨hu, hl, hk, hb⟩ := h.part _ _ _ a1
   have hp : 0 < 2 ^ k := Nat.pow_pos (by omega)
   have hlt : n * u + l < X := by
    have := cell_lt (n := n) (show u < u + 2 ^ k by omega) hl
    omega
   match f, hf with
   | 0, hf => omega
   | f + 1, hf =>
    obtain ⟨i, σ, s0, s1, s2, s3, s4, m, s5, s6⟩ := TrI.real h f (n * u + l) (by omega) a2
    obtain ⟨e1, e2⟩ := cell_eq hl (s1 i) s3
    obtain ⟨m1, m2, m3⟩ := msk_all (K := n) (fun r _ => s1 r) (Nat.le_refl n) (i + 1) (by omega) (fun r s hr hs e => s2 r s (by omega) (by omega) e)
    rw [← e1] at m1 m2 m3
    have hno : ∀ r, r ≤ i → σ r ≠ k := fun r hr er => by
     have := (m3 k).2 ⟨r, by omega, er⟩
     omega
    have hlt2 := bit_lt n k u hu hk hb
    have hi2 : i + 1 < n := by
     have h1 := pop_add n k u hk hb
     have h2 := pop_le n n (u + 2 ^ k) hlt2
     omega
    have hmsk : msk (upd σ (i + 1) k) (i + 1 + 1) = u + 2 ^ k := by
     rw [msk, upd_self, msk_congr (τ := σ) (i + 1) (fun r hr => upd_ne _ _ (by omega)), ← e1]
    refine ⟨i + 1, upd σ (i + 1) k, hi2, fun r => ?_, fun r s hr hs ers => ?_, ?_, ?_, (T X).f2 :: m, ?_, ?_⟩
    ·by_cases er : r = i + 1
     ·rw [er, upd_self]; exact hk
     ·rw [upd_ne _ _ er]; exact s1 r
    ·by_cases er : r = i + 1
     ·by_cases es : s = i + 1
      ·omega
      ·rw [er, upd_self, upd_ne _ _ es] at ers
       exact absurd ers.symm (hno s (by omega))
     ·by_cases es : s = i + 1
      ·rw [es, upd_self, upd_ne _ _ er] at ers
       exact absurd ers (hno r (by omega))
      ·rw [upd_ne _ _ er, upd_ne _ _ es] at ers
       exact s2 r s (by omega) (by omega) ers
    ·rw [hmsk, upd_self, a3]
    ·rw [wayC, upd_self, upd_ne _ _ (show i ≠ i + 1 by omega), wayC_congr (τ := σ) i (fun r hr => upd_ne _ _ (by omega)), ← s4, a4, ← e2]
    ·refine .cons X (n * u + l) m ?_ (by rw [a4]) s5
     rw [a3]
     exact cell_lt hlt2 hk
    ·rw [List.reverse_cons, s6, List.range_succ (n := i + 1), List.map_append, a4]
     congr 1
     ·refine List.map_congr_left (fun r hr => ?_)
      rw [upd_ne _ _ (by have := List.mem_range.1 hr; omega)]
     ·show [((k + 1 : Nat) : Int)] = [((upd σ (i + 1) k (i + 1) + 1 : Nat) : Int)]
      rw [upd_self]
theorem msk_full {n : Nat} {σ : Nat → Nat} (hl : ∀ r, r < n → σ r < n) (hinj : ∀ r s, r < n → s < n → σ r = σ s → r = s) : msk σ n = 2 ^ n - 1 := by
 obtain ⟨m1, m2, _⟩ := msk_all (K := n) hl (Nat.le_refl n) n (Nat.le_refl n) hinj
 exact pop_full n n _ m1 m2
theorem TrI.there (h : TrI n c P T) (hP : ∀ u l k, u < 2 ^ n → l < n → k < n → u / 2 ^ k % 2 = 0 → P u l k) {l : Nat} (hl : l < n) : (T (n * (2 ^ n - 1) + l)).f1 = true := by
 obtain ⟨σ, hσ⟩ : ∃ σ : Nat → Nat, σ = fun r => if r = n - 1 then l else if r = l then n - 1 else r := ⟨_, rfl⟩
 have h1 : ∀ r, r < n → σ r < n := fun r hr => by
  rw [hσ]
  show (if r = n - 1 then l else if r = l then n - 1 else r) < n
  split
  ·exact hl
  ·split <;> omega
 have h2 : ∀ r s, r < n → s < n → σ r = σ s → r = s := fun r s hr hs e => by
  rw [hσ] at e
  have e' : (if r = n - 1 then l else if r = l then n - 1 else r) = (if s = n - 1 then l else if s = l then n - 1 else s) := e
  split at e' <;> split at e' <;> (try split at e') <;> (try split at e') <;> omega
 obtain ⟨m, hm⟩ : ∃ m, n = m + 1 := ⟨n - 1, by omega⟩
 have h3 := (h.le hP h1 h2 m (by omega)).1
 have h4 := msk_full h1 h2
 have h5 : σ m = l := by
  rw [hσ]
  exact if_pos (by omega)
 rw [hm] at h4
 rw [h4, h5, ← hm] at h3
 exact h3
theorem TrI.round (h : TrI n c P T) (hP : ∀ u l k, u < 2 ^ n → l < n → k < n → u / 2 ^ k % 2 = 0 → P u l k) (hn : 0 < n) :
  (∀ l, l < n → ∃ σ : Nat → Nat, (∀ r, r < n → σ r < n) ∧ (∀ r s, r < n → s < n → σ r = σ s → r = s) ∧ σ (n - 1) = l ∧ (T (n * (2 ^ n - 1) + l)).f0 = wayC c σ (n - 1) ∧
   ∃ m, Way2 (n * 2 ^ n) T (n * (2 ^ n - 1) + l) m ∧ m.reverse = (List.range n).map fun r => ((σ r + 1 : Nat) : Int)) ∧
  ∀ σ : Nat → Nat, (∀ r, r < n → σ r < n) → (∀ r s, r < n → s < n → σ r = σ s → r = s) → (T (n * (2 ^ n - 1) + σ (n - 1))).f0 ≤ wayC c σ (n - 1) := by
 have h0 : 0 < 2 ^ n := Nat.pow_pos (by omega)
 refine ⟨fun l hl => ?_, fun σ h1 h2 => ?_⟩
 ·obtain ⟨i, σ, s0, s1, s2, s3, s4, m, s5, s6⟩ := TrI.real h _ _ (Nat.le_refl _) (h.there hP hl)
  obtain ⟨e1, e2⟩ := cell_eq hl (s1 i) s3
  obtain ⟨m1, m2, _⟩ := msk_all (K := n) (fun r _ => s1 r) (Nat.le_refl n) (i + 1) (by omega) (fun r s hr hs e => s2 r s (by omega) (by omega) e)
  have hin : i + 1 = n := by
   rw [← e1] at m2
   have hall : ∀ m, pop m (2 ^ m - 1) = m := fun m => by
    induction m with
    | zero => rfl
    | succ m ih =>
     have h2 : 2 ^ (m + 1) = 2 ^ m * 2 := Nat.pow_succ ..
     have h0 : 0 < 2 ^ m := Nat.pow_pos (by omega)
     rw [pop, show (2 ^ (m + 1) - 1) / 2 = 2 ^ m - 1 by omega, ih]
     omega
   rw [← m2, hall]
  have hi : n - 1 = i := by omega
  refine ⟨σ, fun r _ => s1 r, fun r s hr hs e => s2 r s (by omega) (by omega) e, by rw [hi]; exact e2.symm, by rw [hi]; exact s4, m, s5, ?_⟩
  rw [s6, hin]
 ·have h3 := (h.le hP h1 h2 (n - 1) (by omega)).2
  rw [show n - 1 + 1 = n by omega, msk_full h1 h2] at h3
  exact h3
end
end Go.Proofs.Ytelabmhhnpfegaa.Hand
end
