/- Texts Dp, cut to what is used. -/
import Derived.Test.YtelabmhhnpfegaaZa0
import Derived.Test.YtelabmhhnpfegaaZb7
set_option linter.unusedVariables false
set_option linter.unusedSimpArgs false
section
namespace Go.Proofs.Ytelabmhhnpfegaa.Hand
open Go.RowKit Go.Proofs.YtelabmhhnpfegaaW.PrintWords Go.Proofs.YtelabmhhnpfegaaW.PrintLast Go.Proofs.YtelabmhhnpfegaaW.PrintMore Go.Proofs.Ytelabmhhnpfegaa.PDynCells
def tabU (n : Nat) (f : Nat → Int) : Array Value := ((List.range n).map fun i => Value.int .u64 (f i)).toArray
theorem tabU_get {n : Nat} {f : Nat → Int} {i : Nat} (h : i < n) : (tabU n f)[i]? = some (.int .u64 (f i)) := by simp [tabU, h]
theorem tabU_set (n : Nat) (f : Nat → Int) (i : Nat) (x : Int) : (tabU n f).setIfInBounds i (.int .u64 x) = tabU n (upd f i x) := by
 apply Array.ext_getElem?
 intro j
 rw [Array.getElem?_setIfInBounds]
 by_cases h : i = j
 ·subst h
  rw [if_pos rfl]
  by_cases hl : i < n
  ·rw [tabU_get hl, upd_self]
   simp [tabU, hl]
  ·simp [tabU, hl]
 ·rw [if_neg h]
  by_cases hl : j < n
  ·rw [tabU_get hl, tabU_get hl, upd_ne _ _ (fun e => h e.symm)]
  ·simp [tabU, hl]
def UB (w : World) (g n : Nat) (f : Nat → Int) : Prop := w.heap[g]? = some (.cells (tabU n f) 145 (0, 0))
theorem UB.c {w : World} {g n : Nat} {f : Nat → Int} (h : UB w g n f) {i : Nat} (hi : i < n) : w.cell? ⟨g, i, none⟩ = some (.int .u64 (f i)) := (blk_cell h i).trans (tabU_get hi)
theorem UB.z {w : World} {g n : Nat} {f : Nat → Int} (h : UB w g n f) (i : Nat) : w.frozen? ⟨g, i, none⟩ = false := blk_frozen h i
theorem UB.set {w : World} {g n : Nat} {f : Nat → Int} (h : UB w g n f) (i : Nat) (x : Int) : UB (w.setCell ⟨g, i, none⟩ (.int .u64 x)) g n (upd f i x) := by
 unfold UB
 rw [blk_set h, tabU_set]
def lst (n : Nat) (f : Nat → Int) : List Int := (List.range n).map f
theorem lst_len (n : Nat) (f : Nat → Int) : (lst n f).length = n := by simp [lst]
theorem UB.C {w : World} {g n : Nat} {f : Nat → Int} (h : UB w g n f) (hn : n ≤ 1002) : (Kd.int .u64).C w (some ⟨g, 0, none⟩) n (lst n f) := by
 refine Kd.C_of_reads (d := (0 : Int)) ⟨lst_len n f, by omega, fun h0 => ⟨_, rfl, fun j hj => ?_⟩⟩
 have e : (lst n f).getD j 0 = f j := by
  unfold lst
  rw [List.getD_eq_getElem?_getD, List.getElem?_map, List.getElem?_range hj]
  rfl
 rw [e]
 have := h.c hj
 rw [show (⟨g, 0, none⟩ : Addr).add j = ⟨g, j, none⟩ by unfold Addr.add; split <;> simp_all]
 exact this
theorem lst_snoc (n : Nat) (f : Nat → Int) : lst (n + 1) f = lst n f ++ [f n] := by
 unfold lst
 rw [List.range_succ, List.map_append]
 rfl
theorem lst_upd (f : Nat → Int) (i : Nat) (x : Int) : ∀ n, bval (lst n (upd f i x)) = bval (lst n f) + if i < n then (x - f i) * 65536 ^ i else 0
 | 0 => by simp [lst, bval]
 | n + 1 => by
  rw [lst_snoc, lst_snoc, bval_snoc, bval_snoc, lst_upd f i x n, lst_len, lst_len]
  by_cases h : i = n
  ·subst h
   rw [upd_self, if_neg (by omega), if_pos (by omega), Int.sub_mul]
   omega
  ·rw [upd_ne _ _ (fun e => h e.symm)]
   by_cases h2 : i < n
   ·rw [if_pos h2, if_pos (by omega)]
    omega
   ·rw [if_neg h2, if_neg (by omega), Int.add_zero, Int.add_zero]
theorem lst_dig {n : Nat} {f : Nat → Int} (h : ∀ j, 0 ≤ f j ∧ f j < 65536) : ∀ d ∈ lst n f, 0 ≤ d ∧ d < 65536 := by
 intro d hd
 obtain ⟨j, _, rfl⟩ := List.mem_map.1 hd
 exact h j
structure MI (D : List Int) (i : Nat) (f : Nat → Int) : Prop where
 dig : ∀ j, 0 ≤ f j ∧ f j < 65536
 far : ∀ j, i < j → f j = 0
 lo : f i ≤ 1
 val : bval (lst (D.length + 2) f) = 2 * bval (D.take i)
theorem lst_zero : ∀ n, bval (lst n fun _ => 0) = 0
 | 0 => rfl
 | n + 1 => by rw [lst_snoc, bval_snoc, lst_zero n]; simp
theorem MI.start (D : List Int) : MI D 0 fun _ => 0 :=
 ⟨fun _ => by omega, fun _ _ => rfl, by omega, by rw [lst_zero]; simp [bval]⟩
theorem MI.step {D : List Int} {i : Nat} {f : Nat → Int} {x : Int} (h : MI D i f) (hi : i < D.length) (hx : D.getD i 0 = x) (h0 : 0 ≤ x) (h1 : x < 65536) :
  MI D (i + 1) (upd (upd f i ((f i + x * 2) % 65536)) (i + 1) ((f i + x * 2) / 65536)) := by
 have hd := h.dig i
 have hl := h.lo
 obtain ⟨c, hc⟩ : ∃ c, c = f i + x * 2 := ⟨_, rfl⟩
 have hf := h.far (i + 1) (by omega)
 rw [← hc]
 refine ⟨fun j => ?_, fun j hj => ?_, ?_, ?_⟩
 ·by_cases e : j = i + 1
  ·rw [e, upd_self]; omega
  ·rw [upd_ne _ _ e]
   by_cases e2 : j = i
   ·rw [e2, upd_self]; omega
   ·rw [upd_ne _ _ e2]; exact h.dig j
 ·rw [upd_ne _ _ (by omega), upd_ne _ _ (by omega)]
  exact h.far j (by omega)
 ·rw [upd_self]; omega
 ·rw [lst_upd, if_pos (by omega), lst_upd, if_pos (by omega), h.val, upd_ne _ _ (by omega), hf, take_snoc hi 0, bval_snoc, hx]
  rw [List.length_take, Nat.min_eq_left (by omega), Int.pow_succ, Int.mul_add, Int.sub_zero]
  have e : (c / 65536) * (65536 ^ i * 65536) = (c / 65536 * 65536) * 65536 ^ i := by
   rw [Int.mul_assoc, Int.mul_comm (65536 ^ i)]
  have e2 : c / 65536 * 65536 = c - c % 65536 := by omega
  rw [e, e2, Int.add_assoc, ← Int.add_mul, ← Int.mul_assoc]
  congr 2
  omega
theorem upd_same {f : Nat → Int} {i : Nat} {x : Int} (h : f i = x) : upd f i x = f := by
 funext j
 by_cases e : j = i
 ·rw [e, upd_self, h]
 ·rw [upd_ne _ _ e]
theorem dg_two {D : List Int} (h : Dg D 2) : D = [2] := by
 match D, h with
 | [], h => exact absurd h.val (by decide)
 | [d], h =>
  have := h.val
  simp [bval] at this
  rw [this]
 | d :: e :: t, h => 
  exfalso
  have hv := h.val
  have h0 := h.dig d List.mem_cons_self
  have h1 := h.dig e (by simp)
  have hn : ∀ l : List Int, (∀ z ∈ l, 0 ≤ z ∧ z < 65536) → 0 ≤ bval l := by
   intro l hl
   induction l with
   | nil => exact Int.le_refl _
   | cons a t ih =>
    have := ih (fun z hz => hl z (List.mem_cons_of_mem _ hz))
    have := hl a List.mem_cons_self
    rw [bval]
    omega
  have hp : ∀ l : List Int, (∀ z ∈ l, 0 ≤ z ∧ z < 65536) → l ≠ [] → l.getD (l.length - 1) 0 ≠ 0 → 0 < bval l := by
   intro l hl hne hlast
   induction l with
   | nil => exact absurd rfl hne
   | cons a t ih =>
    have ha := hl a List.mem_cons_self
    cases t with
    | nil =>
     simp at hlast
     simp [bval]
     omega
    | cons b t =>
     have := ih (fun z hz => hl z (List.mem_cons_of_mem _ hz)) (by simp) (by simpa using hlast)
     rw [bval]
     omega
  have h3 := hp (e :: t) (fun z hz => h.dig z (List.mem_cons_of_mem _ hz)) (by simp) (by
   rcases h.top with h4 | h4
   ·simp at h4
   ·simpa using h4)
  rw [bval] at hv
  omega
theorem mkU_of (n : Nat) (hn : n ≤ 1002) (W : World) : (Instr.makeSlice 109 (.int .i64 (n : Int)) (.int .i64 (n : Int))).run Try.prog W = .ok (.slice (some ⟨W.heap.size, 0, none⟩) n n) (W.alloc (.cells (tabU n fun _ => 0) 145)) := by
 have e : madeCells #[.int .u64 0] n = tabU n (fun _ => 0) := by
  apply Array.ext_getElem?
  intro j
  by_cases hl : j < n
  ·rw [tabU_get hl]; simp [madeCells, hl, Nat.mod_one]
  ·simp [madeCells, tabU, hl]
 rw [← e]
 exact print_make_of 109 145 (.int .u64 0) 8 Try.underlying109 info145 rfl (by omega) n (by omega) W
structure MS (w wr : World) (p g n c c2 : Nat) (ad at2 : Addr) (F : Nat → Int) : Prop where
 b : Below w.heap.size w wr
 q0 : wr.heap[p]? = some (.cells #[.bool false, .slice (some ad) n c] 111 (0, 0))
 q1 : wr.heap[p + 1]? = some (.cells #[.bool false, .slice (some at2) 1 c2] 111 (0, 0))
 q2 : wr.heap[p + 2]? = some (.cells #[.bool false, .slice none 0 0] 111 (0, 0))
 f : UB wr g (n + 2) F
 hp : w.heap.size ≤ p
 hg : w.heap.size ≤ g
namespace MS
variable {w wr : World} {p g n c c2 : Nat} {ad at2 : Addr} {F : Nat → Int}
theorem set (h : MS w wr p g n c c2 ad at2 F) (i : Nat) (x : Int) : MS w (wr.setCell ⟨g, i, none⟩ (.int .u64 x)) p g n c c2 ad at2 (upd F i x) :=
 have hf : wr.heap[g]? = some (.cells (tabU (n + 2) F) 145 (0, 0)) := h.f
 ⟨h.b.setCell h.hg _, blk_far h.q0 (ty_ne h.q0 hf (by decide)) _, blk_far h.q1 (ty_ne h.q1 hf (by decide)) _, blk_far h.q2 (ty_ne h.q2 hf (by decide)) _, h.f.set i x, h.hp, h.hg⟩
theorem drewN (h : MS w wr p g n c c2 ad at2 F) (m : Nat) : MS w (wr.drewN m) p g n c c2 ad at2 F :=
 ⟨pw_below_drewN h.b m, h.q0, h.q1, h.q2, h.f, h.hp, h.hg⟩
theorem same (h : MS w wr p g n c c2 ad at2 F) {F' : Nat → Int} (e : F' = F) : MS w wr p g n c c2 ad at2 F' := by
 subst e; exact h
end MS
set_option maxHeartbeats 4000000 in
set_option maxRecDepth 100000 in
theorem mul_two (w : World) (m : Int) (va vb : Value) (ha : BigV w false m va) (hb : BigV w false 2 vb) (hlen : ∀ (ad : Addr) (n c : Nat), va = .agg #[.bool false, .slice (some ad) n c] → n ≤ 900) :
  Calls Try.prog 51 #[va, vb] w fun e w' => ∃ v, e = .returned v ∧ Aside0 (BigV w' false (2 * m) v ∧ Below w.heap.size w w') := by
 obtain ⟨ad, n, c, D, rfl, hc, hn', hD, HC, hdg, _⟩ := ha
 obtain ⟨at2, n2, c2, D2, rfl, hc2, hn2, hD2, HC2, hdg2, _⟩ := hb
 have hn := hlen _ _ _ rfl
 have e2 := dg_two hdg2
 subst e2
 obtain rfl : 1 = n2 := hD2
 have DG := Aside0.mk hdg
 have HN := Aside0.mk hD
 obtain ⟨ae, e, ht⟩ := at_U HC2 0 (by omega)
 injection e with e
 subst e
 have HT : Aside0 (w.cell? (at2.add 0) = some (.int .u64 2)) := ⟨ht⟩
 have HA := Aside0.mk HC
 clear hdg hdg2 hD HC HC2 ht hn' hn2 hlen
 have hu109 := Try.underlying109
 have hu111 := Try.underlying111
 have mk1 : ∀ W, (Instr.makeSlice 109 (.int .i64 ((n : Int) + 1 + 1)) (.int .i64 ((n : Int) + 1 + 1))).run Try.prog W = .ok (.slice (some ⟨W.heap.size, 0, none⟩) (n + 2) (n + 2)) (W.alloc (.cells (tabU (n + 2) fun _ => 0) 145)) := fun W => by
  rw [show (n : Int) + 1 + 1 = ((n + 2 : Nat) : Int) by omega]
  exact mkU_of (n + 2) (by omega) W
 go_enter Try.func51, Try.ntmps51
 go_wp2_with fail
 obtain ⟨W1, hW1⟩ : ∃ W, W = (((w.alloc (.cells #[.bool false, .slice (some ad) n c] 111)).alloc (.cells #[.bool false, .slice (some at2) 1 c2] 111)).alloc (.cells #[.bool false, .slice none 0 0] 111)).alloc (.cells (tabU (n + 2) fun _ => 0) 145) := ⟨_, rfl⟩
 rw [← hW1]
 obtain ⟨p, hp⟩ : ∃ p, p = w.heap.size := ⟨_, rfl⟩
 have M0 : Aside0 (MS w W1 p (p + 3) n c c2 ad at2 (fun _ => 0)) := ⟨by
  rw [hW1, hp]
  refine ⟨below_alloc (below_alloc (below_alloc (below_alloc (Below.refl _ _) _) _) _) _, ?_, ?_, ?_, ?_, by omega, by omega⟩
  all_goals
   try unfold UB
   simp only [al_get, al_size]
   repeat (first | rw [if_pos trivial] | rw [if_pos (by omega)] | rw [if_neg (by omega)])⟩
 rw [← hp]
 clear hW1 hp mk1
 have I0 : Aside0 (MI D 0 fun _ => 0) := ⟨MI.start D⟩
 have K0 : Aside0 (∃ f, MI D 0 f ∧ MS w W1 p (p + 3) n c c2 ad at2 f) := ⟨_, I0.out, M0.out⟩
 go_loopw [6, 7, 8] (fun v6 _ _ wr => ∃ i : Nat, i ≤ n ∧ v6 = .int .i64 i ∧ Aside0 (∃ f, MI D i f ∧ MS w wr p (p + 3) n c c2 ad at2 f)) (fun v6 _ _ _ => n - (intOf v6).toNat)
 case atStart => exact ⟨0, Nat.zero_le _, rfl, K0⟩
 case round =>
  clear K0 I0 M0
  obtain ⟨i, hi, rfl, ⟨f, I1, M1⟩⟩ := hrel
  have II := Aside0.mk I1
  have MM := Aside0.mk M1
  clear I1 M1
  have q0 : wr.cell? ⟨p, 1, none⟩ = some (.slice (some ad) n c) := (blk_cell MM.out.q0 1).trans rfl
  by_cases hlt : i < n
  ·obtain ⟨ae, e, hx'⟩ := at_U HA.out i hlt
   injection e with e
   subst e
   obtain ⟨x, hx⟩ : ∃ x, x = D.getD i 0 := ⟨_, rfl⟩
   rw [← hx] at hx'
   have hxm : x ∈ D := by
    rw [hx, List.getD_eq_getElem?_getD, List.getElem?_eq_getElem (by rw [HN.out]; exact hlt), Option.getD_some]
    exact List.getElem_mem _
   have hxb := DG.out.dig x hxm
   have XC := Aside0.mk hx'
   have XE : Aside0 (D.getD i 0 = x) := ⟨hx.symm⟩
   clear hx' hx hxm
   obtain ⟨hx0, hx1⟩ := hxb
   have IN := Aside0.mk (II.out.step (by rw [HN.out]; exact hlt) XE.out hx0 hx1)
   obtain ⟨y, hy⟩ : ∃ y, y = f i := ⟨_, rfl⟩
   have hy0 : 0 ≤ y ∧ y ≤ 1 := by
    rw [hy]
    exact ⟨(II.out.dig i).1, II.out.lo⟩
   rw [← hy] at IN
   have FI := Aside0.mk hy
   have FJ : Aside0 (f (i + 1) = 0) := ⟨II.out.far (i + 1) (by omega)⟩
   clear hy
   obtain ⟨hy0, hy1⟩ := hy0
   obtain ⟨z, hz⟩ : ∃ z, z = y + x * 2 := ⟨_, rfl⟩
   have hz0 : 0 ≤ y + x * 2 := by omega
   have hz1 : y + x * 2 < 131072 := by omega
   obtain ⟨q, hq⟩ : ∃ q, q = (y + x * 2) / 65536 := ⟨_, rfl⟩
   obtain ⟨r, hr⟩ : ∃ r, r = (y + x * 2) % 65536 := ⟨_, rfl⟩
   have hq0 : 0 ≤ q ∧ q ≤ 1 := by omega
   rw [← hq, ← hr] at IN
   have QE := Aside0.mk (And.intro hq hr)
   clear hz hq hr
   go_wp2_with fail
   clear q0
   have K0 : Aside0 ((((0 : Nat) = 0 ∧ (0 : Int) = 0 ∧ f = f) ∨ ((0 : Nat) = 1 ∧ (0 : Int) = q ∧ f = upd f i r) ∨ ((0 : Nat) = 2 ∧ (0 : Int) = 0 ∧ f = upd (upd f i r) (i + 1) q)) ∧ MS w wr p (p + 3) n c c2 ad at2 f) := ⟨.inl ⟨rfl, rfl, rfl⟩, MM.out⟩
   go_loopw [7, 8] (fun v7 v8 wr => ∃ (k : Nat) (cy : Int) (F : Nat → Int), k ≤ 2 ∧ v7 = .int .u64 cy ∧ v8 = .int .i64 k ∧ Aside0 (((k = 0 ∧ cy = 0 ∧ F = f) ∨ (k = 1 ∧ cy = q ∧ F = upd f i r) ∨ (k = 2 ∧ cy = 0 ∧ F = upd (upd f i r) (i + 1) q)) ∧ MS w wr p (p + 3) n c c2 ad at2 F)) (fun _ v8 _ => 2 - (intOf v8).toNat)
   case atStart => exact ⟨0, 0, f, by omega, rfl, rfl, K0⟩
   case round =>
    clear K0 MM
    obtain ⟨k, cy, F, hk, rfl, rfl, KK⟩ := hrel
    have M1 := KK.out.2
    have MM := Aside0.mk M1
    clear M1
    have q0 : wr.cell? ⟨p, 1, none⟩ = some (.slice (some ad) n c) := (blk_cell MM.out.q0 1).trans rfl
    have q1 : wr.cell? ⟨p + 1, 1, none⟩ = some (.slice (some at2) 1 c2) := (blk_cell MM.out.q1 1).trans rfl
    have x0 : wr.cell? (ad.add i) = some (.int .u64 x) := pw_cell_below MM.out.b XC.out
    have x1 : wr.cell? at2 = some (.int .u64 2) := by
     have := pw_cell_below MM.out.b HT.out
     rwa [show at2.add 0 = at2 by unfold Addr.add; split <;> simp_all] at this
    rcases KK.out.1 with ⟨rfl, rfl, rfl⟩ | ⟨rfl, rfl, rfl⟩ | ⟨rfl, rfl, rfl⟩
    ·clear KK
     have f0 : wr.cell? ⟨p + 3, i, none⟩ = some (.int .u64 y) := by rw [FI.out]; exact MM.out.f.c (by omega)
     have fz : ∀ j, wr.frozen? ⟨p + 3, j, none⟩ = false := MM.out.f.z
     go_upto_region 11 with fail
     go_quiet (fail)
     go_wp2_with fail
     have MZ := (MM.out.drewN nq).set i r
     rw [QE.out.2] at MZ
     exact ⟨⟨1, (y + x * 2) / 65536, upd F i r, by omega, rfl, rfl, ⟨.inr (.inl ⟨rfl, QE.out.1.symm, rfl⟩), by rw [QE.out.2]; exact MZ⟩⟩, by simp [intOf]⟩
    ·clear KK
     have HQ := Aside0.mk hq0
     have hq2 : cy = 0 ∨ cy = 1 := by omega
     clear hq0
     rcases hq2 with hq2 | hq2
     ·subst hq2
      have N1 : Aside0 (∃ f, MI D (i + 1) f ∧ MS w wr p (p + 3) n c c2 ad at2 f) := ⟨_, IN.out, MM.out.same (upd_same (by rw [upd_ne _ _ (by omega)]; exact FJ.out))⟩
      go_wp2_with fail
      exact ⟨⟨i + 1, by omega, by go_num, N1⟩, by simp [intOf]; omega⟩
     ·subst hq2
      have f1 : wr.cell? ⟨p + 3, i + 1, none⟩ = some (.int .u64 0) := by
       have h1 := MM.out.f.c (i := i + 1) (by omega)
       rw [upd_ne _ _ (by omega), FJ.out] at h1
       exact h1
      have fz : ∀ j, wr.frozen? ⟨p + 3, j, none⟩ = false := MM.out.f.z
      go_wp2_with fail
      have MZ := MM.out.set (i + 1) 1
      exact ⟨⟨2, 0, _, by omega, rfl, rfl, ⟨.inr (.inr ⟨rfl, rfl, rfl⟩), MZ⟩⟩, by simp [intOf]⟩
    ·clear KK
     have N1 : Aside0 (∃ f, MI D (i + 1) f ∧ MS w wr p (p + 3) n c c2 ad at2 f) := ⟨_, IN.out, MM.out⟩
     go_wp2_with fail
     exact ⟨⟨i + 1, by omega, by go_num, N1⟩, by simp [intOf]; omega⟩
  ·obtain rfl : n = i := by omega
   have VV : Aside0 (bval (lst (n + 2) f) = 2 * m) := ⟨by
    have h1 := II.out.val
    rw [HN.out, List.take_of_length_le (by rw [HN.out]; exact Nat.le_refl _), DG.out.val] at h1
    exact h1⟩
   have LD := Aside0.mk (lst_dig (n := n + 2) II.out.dig)
   have HC := Aside0.mk (MM.out.f.C (by omega))
   have LL := Aside0.mk (lst_len (n + 2) f)
   have TY : Aside0 (∃ cs, wr.heap[(⟨p + 3, 0, none⟩ : Addr).block]? = some (.cells cs 145 (0, 0))) := ⟨_, MM.out.f⟩
   obtain ⟨L, hL⟩ : ∃ L, L = lst (n + 2) f := ⟨_, rfl⟩
   rw [← hL] at VV LD HC LL
   clear hL II
   have h00 : wr.cell? ⟨p, 0, none⟩ = some (.bool false) := (blk_cell MM.out.q0 0).trans rfl
   have h10 : wr.cell? ⟨p + 1, 0, none⟩ = some (.bool false) := (blk_cell MM.out.q1 0).trans rfl
   go_wp2_with fail
   clear q0 h00 h10
   have TB := trim_big wr false ⟨p + 3, 0, none⟩ (n + 2) (n + 2) L LL.out HC.out TY.out (Nat.le_refl _) (by omega) LD.out (fun h => by cases h)
   refine TB.mono ?_
   clear TB
   rintro _ w9 ⟨k, rfl, H9⟩
   have Q9 : Aside0 (w9.heap[p + 2]? = some (.cells #[.bool false, .slice none 0 0] 111 (0, 0))) := ⟨blk_below MM.out.q2 H9.out.2.2⟩
   have q0 : w9.cell? ⟨p + 2, 0, none⟩ = some (.bool false) := (blk_cell Q9.out 0).trans rfl
   have q1 : w9.cell? ⟨p + 2, 1, none⟩ = some (.slice none 0 0) := (blk_cell Q9.out 1).trans rfl
   have q2 : ∀ j, w9.frozen? ⟨p + 2, j, none⟩ = false := blk_frozen Q9.out
   go_wp2_with fail
   clear q0 q1 q2
   have QZ := blk_put (blk_put Q9.out 0 (.bool false) rfl) 1 (.slice (some ⟨p + 3, 0, none⟩) k (n + 2)) rfl
   have r0 := (blk_cell QZ 0).trans rfl
   have r1 := (blk_cell QZ 1).trans rfl
   refine bodyPost_ret (v := .agg #[.bool false, .slice (some ⟨p + 3, 0, none⟩) k (n + 2)]) (by simp [results, Try.results51, go_sem, r0, r1]) rfl ?_
   have hb := MM.out.b.trans (H9.out.2.2.mono MM.out.b.size)
   refine ⟨_, rfl, ⟨?_, (hb.setCell (p := ⟨p + 2, 0, none⟩) (by have := MM.out.hp; show w.heap.size ≤ p + 2; omega) _).setCell (p := ⟨p + 2, 1, none⟩) (by have := MM.out.hp; show w.heap.size ≤ p + 2; omega) _⟩⟩
   have hv := H9.out.1
   rw [VV.out] at hv
   exact (hv.set Q9.out (by decide) 0 (.bool false)).set (blk_put Q9.out 0 (.bool false) rfl) (by decide) 1 (.slice (some ⟨p + 3, 0, none⟩) k (n + 2))
end Go.Proofs.Ytelabmhhnpfegaa.Hand
end
