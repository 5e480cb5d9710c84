/- What each room is worth: the table's last row is the best of all choices (plain law); the document's Frontier: walked. -/
import Derived.Test.YtelabmhhnpfegaaDs
namespace Go.Proofs.Ytelabmhhnpfegaa.Hand
open Go.RowKit Go.Proofs.YtelabmhhnpfegaaW.PrintWords Go.Proofs.YtelabmhhnpfegaaW.PrintLast Go.Proofs.YtelabmhhnpfegaaW.PrintMore Go.Proofs.Ytelabmhhnpfegaa.PDynCells
def mv : List S101 → Nat → Int
  | [], _ => 0
  | s :: t, m => (if m % 2 = 1 then s.f0 else 0) + mv t (m / 2)
def mw : List S101 → Nat → Int
  | [], _ => 0
  | s :: t, m => (if m % 2 = 1 then s.f1 else 0) + mw t (m / 2)
theorem mv_snoc : ∀ (l : List S101) (s : S101) (m : Nat), mv (l ++ [s]) m = mv l m + if m / 2 ^ l.length % 2 = 1 then s.f0 else 0
  | [], s, m => by simp [mv]
  | a :: t, s, m => by
    rw [List.cons_append, mv, mv, mv_snoc t s (m / 2), List.length_cons, Nat.pow_succ, Nat.div_div_eq_div_mul, Nat.mul_comm 2, Int.add_assoc]
theorem mw_snoc : ∀ (l : List S101) (s : S101) (m : Nat), mw (l ++ [s]) m = mw l m + if m / 2 ^ l.length % 2 = 1 then s.f1 else 0
  | [], s, m => by simp [mw]
  | a :: t, s, m => by
    rw [List.cons_append, mw, mw, mw_snoc t s (m / 2), List.length_cons, Nat.pow_succ, Nat.div_div_eq_div_mul, Nat.mul_comm 2, Int.add_assoc]
theorem mv_low : ∀ (l : List S101) (m q : Nat), mv l (m + 2 ^ l.length * q) = mv l m
  | [], _, _ => rfl
  | a :: t, m, q => by
    have h1 : m + 2 ^ (a :: t).length * q = m + 2 * (2 ^ t.length * q) := by rw [List.length_cons, Nat.pow_succ, Nat.mul_comm (2 ^ t.length) 2, Nat.mul_assoc]
    have h2 : (m + 2 * (2 ^ t.length * q)) % 2 = m % 2 := by omega
    have h3 : (m + 2 * (2 ^ t.length * q)) / 2 = m / 2 + 2 ^ t.length * q := by omega
    rw [h1, mv, mv, h2, h3, mv_low t]
theorem mw_low : ∀ (l : List S101) (m q : Nat), mw l (m + 2 ^ l.length * q) = mw l m
  | [], _, _ => rfl
  | a :: t, m, q => by
    have h1 : m + 2 ^ (a :: t).length * q = m + 2 * (2 ^ t.length * q) := by rw [List.length_cons, Nat.pow_succ, Nat.mul_comm (2 ^ t.length) 2, Nat.mul_assoc]
    have h2 : (m + 2 * (2 ^ t.length * q)) % 2 = m % 2 := by omega
    have h3 : (m + 2 * (2 ^ t.length * q)) / 2 = m / 2 + 2 ^ t.length * q := by omega
    rw [h1, mw, mw, h2, h3, mw_low t]
theorem mw_bd : ∀ (l : List S101) (m : Nat), (∀ s ∈ l, 0 ≤ s.f1 ∧ s.f1 ≤ 2147483648) → 0 ≤ mw l m ∧ mw l m ≤ 2147483648 * l.length
  | [], _, _ => by simp [mw]
  | s :: t, m, h => by
    have ih := mw_bd t (m / 2) (fun s hs => h s (List.mem_cons_of_mem _ hs))
    have h0 := h s List.mem_cons_self
    rw [mw, List.length_cons]
    split <;> omega
theorem mv_bd : ∀ (l : List S101) (m : Nat), (∀ s ∈ l, 0 ≤ s.f0 ∧ s.f0 ≤ 2147483648) → 0 ≤ mv l m ∧ mv l m ≤ 2147483648 * l.length
  | [], _, _ => by simp [mv]
  | s :: t, m, h => by
    have ih := mv_bd t (m / 2) (fun s hs => h s (List.mem_cons_of_mem _ hs))
    have h0 := h s List.mem_cons_self
    rw [mv, List.length_cons]
    split <;> omega
theorem mx2_l (a b : Int) : a ≤ mx2 a b := by unfold mx2; split <;> omega
theorem mx2_r (a b : Int) : b ≤ mx2 a b := by unfold mx2; split <;> omega
theorem mx2_or (a b : Int) : mx2 a b = a ∨ mx2 a b = b := by unfold mx2; split <;> simp
theorem row_ge {m : Nat} {l : List S101} (hb : ∀ s ∈ l, 0 ≤ s.f1 ∧ s.f1 ≤ 2147483648) : ∀ k, k ≤ l.length → ∀ (w mask : Nat), w < m → mw (l.take k) mask ≤ w → mv (l.take k) mask ≤ (rowK m l k).getD w 0
  | 0, _, w, mask, hw, _ => by
    rw [List.take_zero, mv, rowK, List.getD_eq_getElem?_getD, List.getElem?_replicate, if_pos hw]
    exact Int.le_refl _
  | k + 1, hk, w, mask, hw, h => by
    have hkl : k < l.length := by omega
    have hs := hb _ (by rw [List.getD_eq_getElem?_getD, List.getElem?_eq_getElem hkl, Option.getD_some]; exact List.getElem_mem _ : l.getD k z101 ∈ l)
    have hlen : (l.take k).length = k := by rw [List.length_take]; omega
    rw [take_snoc hkl z101, mw_snoc, hlen] at h
    rw [take_snoc hkl z101, mv_snoc, hlen, rowK, stepR_get (by rw [rowK_len]; exact hw)]
    have h0 := (mw_bd (l.take k) mask (fun s hs => hb s (List.mem_of_mem_take hs))).1
    by_cases hbit : mask / 2 ^ k % 2 = 1
    · rw [if_pos hbit] at h ⊢
      have h1 : (l.getD k z101).f1.toNat ≤ w := by omega
      have ih := row_ge (m := m) hb k (by omega) (w - (l.getD k z101).f1.toNat) mask (by omega) (by omega)
      rw [if_pos h1]
      have := mx2_r ((rowK m l k).getD w 0) ((rowK m l k).getD (w - (l.getD k z101).f1.toNat) 0 + (l.getD k z101).f0)
      omega
    · rw [if_neg hbit] at h ⊢
      have ih := row_ge (m := m) hb k (by omega) w mask hw (by omega)
      split
      · have := mx2_l ((rowK m l k).getD w 0) ((rowK m l k).getD (w - (l.getD k z101).f1.toNat) 0 + (l.getD k z101).f0)
        omega
      · omega
theorem row_is {m : Nat} {l : List S101} (hb : ∀ s ∈ l, 0 ≤ s.f1 ∧ s.f1 ≤ 2147483648) : ∀ k, k ≤ l.length → ∀ (w : Nat), w < m → ∃ mask, mask < 2 ^ k ∧ mw (l.take k) mask ≤ w ∧ mv (l.take k) mask = (rowK m l k).getD w 0
  | 0, _, w, hw => by
    refine ⟨0, by decide, by rw [List.take_zero, mw]; omega, ?_⟩
    rw [List.take_zero, mv, rowK, List.getD_eq_getElem?_getD, List.getElem?_replicate, if_pos hw]
    rfl
  | k + 1, hk, w, hw => by
    have hkl : k < l.length := by omega
    have hs := hb _ (by rw [List.getD_eq_getElem?_getD, List.getElem?_eq_getElem hkl, Option.getD_some]; exact List.getElem_mem _ : l.getD k z101 ∈ l)
    have hlen : (l.take k).length = k := by rw [List.length_take]; omega
    have hp : 2 ^ (k + 1) = 2 ^ k * 2 := Nat.pow_succ ..
    have hp0 : 0 < 2 ^ k := Nat.pow_pos (by omega)
    have low : ∃ mask, mask < 2 ^ (k + 1) ∧ mw (l.take (k + 1)) mask ≤ w ∧ mv (l.take (k + 1)) mask = (rowK m l k).getD w 0 := by
      obtain ⟨mask, h1, h2, h3⟩ := row_is (m := m) hb k (by omega) w hw
      have hz : mask / 2 ^ k = 0 := Nat.div_eq_of_lt h1
      refine ⟨mask, by omega, ?_, ?_⟩
      · rw [take_snoc hkl z101, mw_snoc, hlen, hz, if_neg (by decide)]
        omega
      · rw [take_snoc hkl z101, mv_snoc, hlen, hz, if_neg (by decide)]
        omega
    rw [rowK, stepR_get (by rw [rowK_len]; exact hw)]
    by_cases h1 : (l.getD k z101).f1.toNat ≤ w
    · rw [if_pos h1]
      rcases mx2_or ((rowK m l k).getD w 0) ((rowK m l k).getD (w - (l.getD k z101).f1.toNat) 0 + (l.getD k z101).f0) with e | e
      · rw [e]
        exact low
      · obtain ⟨mask, g1, g2, g3⟩ := row_is (m := m) hb k (by omega) (w - (l.getD k z101).f1.toNat) (by omega)
        have hbit : (mask + 2 ^ k * 1) / 2 ^ k % 2 = 1 := by
          rw [Nat.add_mul_div_left _ _ hp0, Nat.div_eq_of_lt g1]
        have lw := mw_low (l.take k) mask 1
        have lv := mv_low (l.take k) mask 1
        rw [hlen] at lw lv
        refine ⟨mask + 2 ^ k * 1, by omega, ?_, ?_⟩
        · rw [take_snoc hkl z101, mw_snoc, hlen, if_pos hbit, lw]
          omega
        · rw [take_snoc hkl z101, mv_snoc, hlen, if_pos hbit, lv, e, g3]
    · rw [if_neg h1]
      exact low
/-- What the document's rounds leave. -/
def outF (l : List S101) : Nat → Nat → Int
  | 0, _ => 0
  | M + 1, k => if mw l M ≤ k ∧ outF l M k < mv l M then mv l M else outF l M k
theorem outF_ge {l : List S101} {k mask : Nat} (h : mw l mask ≤ k) : ∀ M, mask < M → mv l mask ≤ outF l M k
  | 0, hm => absurd hm (Nat.not_lt_zero _)
  | M + 1, hm => by
    rw [outF]
    by_cases e : mask = M
    · subst e
      split
      · exact Int.le_refl _
      · rename_i h2
        have : ¬ outF l mask k < mv l mask := fun h3 => h2 ⟨h, h3⟩
        omega
    · have ih := outF_ge h M (by omega)
      split <;> omega
theorem outF_is {l : List S101} {k : Nat} : ∀ M, outF l M k = 0 ∨ ∃ mask, mask < M ∧ mw l mask ≤ k ∧ outF l M k = mv l mask
  | 0 => .inl rfl
  | M + 1 => by
    rw [outF]
    split
    · rename_i h
      exact .inr ⟨M, by omega, h.1, rfl⟩
    · rcases outF_is (l := l) (k := k) M with h | ⟨mask, h1, h2, h3⟩
      · exact .inl h
      · exact .inr ⟨mask, by omega, h2, h3⟩
/-- The last row is what all choices make at most. -/
theorem front_eq {m : Nat} {l : List S101} (hb : ∀ s ∈ l, 0 ≤ s.f1 ∧ s.f1 ≤ 2147483648) (hv : ∀ s ∈ l, 0 ≤ s.f0 ∧ s.f0 ≤ 2147483648) {w : Nat} (hw : w < m) : outF l (2 ^ l.length) w = (rowK m l l.length).getD w 0 := by
  obtain ⟨mask, g1, g2, g3⟩ := row_is (m := m) hb l.length (Nat.le_refl _) w hw
  rw [List.take_length] at g2 g3
  have h1 := outF_ge g2 _ g1
  have h2 : outF l (2 ^ l.length) w ≤ (rowK m l l.length).getD w 0 := by
    rcases outF_is (l := l) (k := w) (2 ^ l.length) with h | ⟨mask', _, a2, a3⟩
    · rw [h]
      exact (rowK_bd hv l.length w).1
    · rw [a3]
      have := row_ge (m := m) hb l.length (Nat.le_refl _) w mask' hw (by rw [List.take_length]; exact a2)
      rwa [List.take_length] at this
  omega
/-! ### the document's Frontier -/
def stF (l : List S101) (M wn k : Nat) : Nat → Int := fun j => if wn ≤ j ∧ j < k then outF l (M + 1) j else outF l M j
theorem stF_start (l : List S101) (M wn : Nat) : stF l M wn wn = outF l M := by
  funext j
  exact if_neg (by omega)
theorem stF_keep {l : List S101} {M wn k : Nat} (h : outF l (M + 1) k = outF l M k) : stF l M wn (k + 1) = stF l M wn k := by
  funext j
  unfold stF
  by_cases e : j = k
  · subst e
    by_cases e2 : wn ≤ j
    · rw [if_pos ⟨e2, by omega⟩, if_neg (by omega), h]
    · rw [if_neg (by omega), if_neg (by omega)]
  · by_cases e2 : wn ≤ j ∧ j < k
    · rw [if_pos ⟨e2.1, by omega⟩, if_pos e2]
    · rw [if_neg (by omega), if_neg e2]
theorem stF_put {l : List S101} {M wn k : Nat} (hk : wn ≤ k) {v : Int} (h : outF l (M + 1) k = v) : stF l M wn (k + 1) = upd (stF l M wn k) k v := by
  funext j
  unfold stF upd
  dsimp only
  by_cases e : j = k
  · subst e
    rw [if_pos ⟨hk, by omega⟩, if_pos rfl, h]
  · rw [if_neg e]
    by_cases e2 : wn ≤ j ∧ j < k
    · rw [if_pos ⟨e2.1, by omega⟩, if_pos e2]
    · rw [if_neg (by omega), if_neg e2]
theorem stF_end {l : List S101} {M wn k n : Nat} (hk : n ≤ k) (hw : mw l M = wn) : ∀ j, j < n → stF l M wn k j = outF l (M + 1) j := by
  intro j hj
  unfold stF
  by_cases e : wn ≤ j
  · rw [if_pos ⟨e, by omega⟩]
  · rw [if_neg (by omega), outF, if_neg (by omega)]
theorem mkI_of (n : Nat) (hn : n ≤ 1002) (W : World) : (Instr.makeSlice 30 (.int .i64 (n : Int)) (.int .i64 (n : Int))).run Try.prog W = .ok (.slice (some ⟨W.heap.size, 0, none⟩) n n) (W.alloc (.cells (tabI n fun _ => 0) 2)) := by
  rw [← made_I]
  exact print_make_of 30 2 (.int .i64 0) 8 Try.underlying30 info2 rfl (by omega) n (by omega) W
set_option maxHeartbeats 1000000 in
set_option maxRecDepth 100000 in
theorem rfront_any (w : World) (A : Option Addr) (n c : Nat) (l : List S101) (R : Nat) (hC : k101.C w A n l) (hn : n ≤ 12) (hR : R ≤ 1000) (hb : ∀ s ∈ l, 0 ≤ s.f1 ∧ s.f1 ≤ 2147483648) (hv : ∀ s ∈ l, 0 ≤ s.f0 ∧ s.f0 ≤ 2147483648) :
    Calls Try.prog 26 #[.slice A n c, .int .i64 (R : Int)] w fun e w' => ∃ g : Nat, e = .returned (.slice (some ⟨g, 0, none⟩) (R + 1) (R + 1)) ∧ Aside0 (IB w' g 2 (R + 1) (outF l (2 ^ n)) ∧ Below w.heap.size w w') := by
  have HC := Aside0.mk hC
  have HL : Aside0 (l.length = n) := ⟨hC.1⟩
  have HB := Aside0.mk hb
  have HV := Aside0.mk hv
  clear hC hb hv
  obtain ⟨T, hT⟩ : ∃ T : Nat, T = 2 ^ n := ⟨_, rfl⟩
  have hT2 : T ≤ 4096 := by
    rw [hT]
    exact Nat.le_trans (Nat.pow_le_pow_right (by omega) hn) (by decide)
  have e0 : ((2 : Int) ^ n) = (T : Int) := by rw [hT, Int.natCast_pow]; rfl
  have e1 : IntKind.i64.wrap ((2 : Int) ^ n) = (T : Int) := by rw [e0, i64_w]; unfold wrap64; omega
  have e2 : wrap64 ((2 : Int) ^ n) = (T : Int) := by rw [e0]; unfold wrap64; omega
  have e3 : IntKind.i64.wrap ((2 : Int) ^ min n 64) = (T : Int) := by rw [Nat.min_eq_left (by omega)]; exact e1
  have e4 : wrap64 ((2 : Int) ^ min n 64) = (T : Int) := by rw [Nat.min_eq_left (by omega)]; exact e2
  have e5 : IntKind.i64.wrap (1 * (2 : Int) ^ min n 64) = (T : Int) := by rw [Int.one_mul]; exact e3
  have e6 : wrap64 (1 * (2 : Int) ^ min n 64) = (T : Int) := by rw [Int.one_mul]; exact e4
  have HT := Aside0.mk hT
  rw [← hT]
  clear hT e0
  have mk1 : ∀ W, (Instr.makeSlice 30 (.int .i64 ((R : Int) + 1)) (.int .i64 ((R : Int) + 1))).run Try.prog W = .ok (.slice (some ⟨W.heap.size, 0, none⟩) (R + 1) (R + 1)) (W.alloc (.cells (tabI (R + 1) fun _ => 0) 2)) := fun W => by
    rw [show (R : Int) + 1 = ((R + 1 : Nat) : Int) by omega]
    exact mkI_of (R + 1) (by omega) W
  go_enter Try.func26, Try.ntmps26
  go_wp2_with fail
  clear mk1
  obtain ⟨W1, hW1⟩ : ∃ W, W = w.alloc (.cells (tabI (R + 1) fun _ => 0) 2) := ⟨_, rfl⟩
  rw [← hW1]
  obtain ⟨g, hg⟩ : ∃ p, p = w.heap.size := ⟨_, rfl⟩
  rw [← hg]
  have K0 : Aside0 (IB W1 g 2 (R + 1) (outF l 0) ∧ Below w.heap.size w W1) := ⟨by rw [hW1, hg]; exact heap_alloc_new _ _, by rw [hW1]; exact below_alloc (Below.refl _ _) _⟩
  have HG : Aside0 (w.heap.size ≤ g) := ⟨by omega⟩
  clear hW1 hg
  go_loopw [6] (fun v6 wr => ∃ M : Nat, M ≤ T ∧ v6 = .int .i64 M ∧ Aside0 (IB wr g 2 (R + 1) (outF l M) ∧ Below w.heap.size w wr)) (fun v6 _ => T - (intOf v6).toNat)
  case atStart => exact ⟨0, Nat.zero_le _, rfl, K0⟩
  case round =>
    clear K0
    obtain ⟨M, hM, rfl, KK⟩ := hrel
    by_cases hlt : M < T
    · have MW := Aside0.mk (mw_bd l M HB.out)
      have MV := Aside0.mk (mv_bd l M HV.out)
      obtain ⟨wo, hwo⟩ : ∃ wo : World, wo = wr := ⟨_, rfl⟩
      rw [← hwo] at KK ⊢
      clear hwo
      go_wp2_with fail
      have J0 : Aside0 ((0 : Int) = mv (l.take 0) M ∧ (0 : Int) = mw (l.take 0) M ∧ M = M / 2 ^ 0) := ⟨rfl, rfl, by simp⟩
      go_loop [7, 8, 9, 10] (fun v7 v8 v9 v10 => ∃ (i r : Nat) (a b : Int), i ≤ n ∧ r ≤ T ∧ 0 ≤ a ∧ a ≤ 2147483648 * i ∧ 0 ≤ b ∧ b ≤ 2147483648 * i ∧ v7 = .int .i64 a ∧ v8 = .int .i64 b ∧ v9 = .int .i64 r ∧ v10 = .int .i64 i ∧ Aside0 (a = mv (l.take i) M ∧ b = mw (l.take i) M ∧ r = M / 2 ^ i)) (fun _ _ _ v10 => n - (intOf v10).toNat)
      case atStart => exact ⟨0, M, 0, 0, by omega, by omega, by omega, by omega, by omega, by omega, rfl, rfl, rfl, rfl, J0⟩
      case round =>
        clear J0
        obtain ⟨i, r, a, b, hi, hr, a0, a1, b0, b1, rfl, rfl, rfl, rfl, KJ⟩ := hrel
        by_cases hin : i < n
        · have hil : i < l.length := by rw [HL.out]; exact hin
          obtain ⟨ad, rfl, f0', f1'⟩ := at_T101 HC.out (i : Int) (by omega) (by omega)
          have f0 := pw_cell_below KK.out.2 f0'
          have f1 := pw_cell_below KK.out.2 f1'
          rw [Int.toNat_natCast] at f0 f1
          obtain ⟨s, hs⟩ : ∃ s, s = l.getD i z101 := ⟨_, rfl⟩
          have hs2 : rd_T101 l (i : Int) = s := by rw [hs]; unfold rd_T101; rw [Int.toNat_natCast]
          rw [hs2] at f0 f1
          have sm : s ∈ l := by
            rw [hs, List.getD_eq_getElem?_getD, List.getElem?_eq_getElem hil, Option.getD_some]
            exact List.getElem_mem _
          have sv := HV.out s sm
          have sw := HB.out s sm
          have NA : Aside0 (mv (l.take (i + 1)) M = a + (if r % 2 = 1 then s.f0 else 0) ∧ mw (l.take (i + 1)) M = b + (if r % 2 = 1 then s.f1 else 0) ∧ r / 2 = M / 2 ^ (i + 1)) := ⟨by
            rw [take_snoc hil z101, mv_snoc, List.length_take, Nat.min_eq_left (by omega), ← hs, ← KJ.out.1, ← KJ.out.2.2], by
            rw [take_snoc hil z101, mw_snoc, List.length_take, Nat.min_eq_left (by omega), ← hs, ← KJ.out.2.1, ← KJ.out.2.2], by
            rw [KJ.out.2.2, Nat.pow_succ, Nat.div_div_eq_div_mul]⟩
          obtain ⟨sv0, sv1⟩ := sv
          obtain ⟨sw0, sw1⟩ := sw
          clear hs hs2 sm f0' f1' hil KJ
          have HR2 : Aside0 (((r : Int) / 2) = ((r / 2 : Nat) : Int)) := ⟨by omega⟩
          by_cases hbit : r % 2 = 1
          · have g1 : ((r : Int) % 2 == 1) = true := by rw [beq_iff_eq]; omega
            have N1 : Aside0 (a + s.f0 = mv (l.take (i + 1)) M ∧ b + s.f1 = mw (l.take (i + 1)) M ∧ r / 2 = M / 2 ^ (i + 1)) := ⟨by rw [NA.out.1, if_pos hbit], by rw [NA.out.2.1, if_pos hbit], NA.out.2.2⟩
            clear hbit
            go_wp2_with fail
            exact ⟨⟨i + 1, r / 2, a + s.f0, b + s.f1, by omega, by omega, by omega, by omega, by omega, by omega, rfl, rfl, by rw [← HR2.out], by go_num, N1⟩, by simp [intOf]; omega⟩
          · have g1 : ((r : Int) % 2 == 1) = false := by rw [beq_eq_false_iff_ne]; omega
            have N1 : Aside0 (a = mv (l.take (i + 1)) M ∧ b = mw (l.take (i + 1)) M ∧ r / 2 = M / 2 ^ (i + 1)) := ⟨by rw [NA.out.1, if_neg hbit, Int.add_zero], by rw [NA.out.2.1, if_neg hbit, Int.add_zero], NA.out.2.2⟩
            clear hbit
            go_wp2_with fail
            exact ⟨⟨i + 1, r / 2, a, b, by omega, by omega, by omega, by omega, by omega, by omega, rfl, rfl, by rw [← HR2.out], by go_num, N1⟩, by simp [intOf]; omega⟩
        · obtain rfl : n = i := by omega
          have E := Aside0.mk (show a = mv l M ∧ b = mw l M by
            have h1 := KJ.out.1
            have h2 := KJ.out.2.1
            rw [List.take_of_length_le (by rw [HL.out]; exact Nat.le_refl _)] at h1 h2
            exact ⟨h1, h2⟩)
          obtain ⟨wn, hwn⟩ : ∃ k : Nat, b = (k : Int) := ⟨b.toNat, by omega⟩
          have hwb : wn ≤ 2147483648 * 12 := by omega
          subst hwn
          have WN : Aside0 (mw l M = (wn : Int)) := ⟨E.out.2.symm⟩
          clear KJ hin hi b1 b0
          go_wp2_with fail
          have L0 : Aside0 (IB wo g 2 (R + 1) (stF l M wn wn) ∧ Below w.heap.size w wo) := ⟨by rw [stF_start]; exact KK.out.1, KK.out.2⟩
          clear KK
          go_loopw [11] (fun v11 wr => ∃ k : Nat, wn ≤ k ∧ (k ≤ R + 1 ∨ k = wn) ∧ v11 = .int .i64 (k : Int) ∧ Aside0 (IB wr g 2 (R + 1) (stF l M wn k) ∧ Below w.heap.size w wr)) (fun v11 _ => R + 1 - (intOf v11).toNat)
          case atStart => exact ⟨wn, Nat.le_refl _, .inr rfl, rfl, L0⟩
          case round =>
            clear L0
            obtain ⟨k, hk1, hk2, rfl, KL⟩ := hrel
            by_cases hkr : k ≤ R
            · have c1 := KL.out.1.c (i := k) (by omega)
              have cz : ∀ j, wr.frozen? ⟨g, j, none⟩ = false := KL.out.1.z
              obtain ⟨y, hy⟩ : ∃ y, y = stF l M wn k k := ⟨_, rfl⟩
              have YE : Aside0 (y = outF l M k) := ⟨by rw [hy]; exact if_neg (by omega)⟩
              rw [← hy] at c1
              clear hy
              have t1 : decide ((k : Int) ≤ (R : Int)) = true := decide_eq_true (by omega)
              have t2 : decide (k ≤ R) = true := decide_eq_true hkr
              by_cases hya : y < a
              · have t3 : decide (a > y) = true := decide_eq_true hya
                have t4 : decide (y < a) = true := decide_eq_true hya
                have NP : Aside0 (stF l M wn (k + 1) = upd (stF l M wn k) k a) := ⟨stF_put hk1 (by rw [outF, if_pos ⟨by rw [WN.out]; omega, by rw [← YE.out, ← E.out.1]; exact hya⟩, E.out.1])⟩
                clear hya
                go_wp2_with fail
                exact ⟨⟨k + 1, by omega, by omega, by go_num, ⟨by rw [NP.out]; exact KL.out.1.set k a, KL.out.2.setCell HG.out _⟩⟩, by simp [intOf]; omega⟩
              · have t3 : decide (a > y) = false := decide_eq_false hya
                have t4 : decide (y < a) = false := decide_eq_false hya
                have NP : Aside0 (stF l M wn (k + 1) = stF l M wn k) := ⟨stF_keep (by rw [outF, if_neg (fun h => hya (by rw [YE.out, E.out.1]; exact h.2))])⟩
                clear hya
                go_wp2_with fail
                exact ⟨⟨k + 1, by omega, by omega, by go_num, ⟨by rw [NP.out]; exact KL.out.1, KL.out.2⟩⟩, by simp [intOf]; omega⟩
            · have t1 : decide ((k : Int) ≤ (R : Int)) = false := decide_eq_false (by omega)
              have t2 : decide (k ≤ R) = false := decide_eq_false hkr
              have N1 : Aside0 (IB wr g 2 (R + 1) (outF l (M + 1)) ∧ Below w.heap.size w wr) := ⟨by
                have h1 := KL.out.1
                unfold IB at h1 ⊢
                rw [← tabI_congr (stF_end (n := R + 1) (k := k) (by omega) WN.out)]
                exact h1, KL.out.2⟩
              go_wp2_with fail
              exact ⟨⟨M + 1, by omega, by go_num, N1⟩, by simp [intOf]; omega⟩
    · obtain rfl : T = M := by omega
      go_wp2_with fail
      go_ret
      exact ⟨_, rfl, KK⟩
end Go.Proofs.Ytelabmhhnpfegaa.Hand
