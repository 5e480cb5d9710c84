/- What the reference writes; what 'same' finds. -/
import Derived.Test.YtebbikihhkjaaaaRef
namespace Go.Proofs.Ytebbikihhkjaaaa.Hand
open Go.RowKit Go.Proofs.YtebbikihhkjaaaaW.PrintWords Go.Proofs.YtebbikihhkjaaaaW.PrintMore Go.Proofs.Ytebbikihhkjaaaa.PSpillBytes

theorem str_append (a b : List Int) : strOfNums (a ++ b) = strOfNums a ++ strOfNums b := by
  apply ByteArray.ext
  apply Array.ext'
  simp [strOfNums]
theorem ref_number (d : Nat) : ∀ (n k : Nat) (l : List Int), n < 128 ^ d → n < 18446744073709551616 → d < k → l.length + d ≤ 1000000 → 0 < d → secateurref21_number.l0 k (n : Int) (strOfNums l) = some (strOfNums (l ++ vb n)) := by
  induction d with
  | zero => intro n k l _ _ _ _ h; omega
  | succ d ih =>
    intro n k l hn hn2 hk hl _
    obtain ⟨k, rfl⟩ : ∃ m, k = m + 1 := ⟨k - 1, by omega⟩
    have hs : (strOfNums l).size = l.length := strOfNums_size l
    simp only [secateurref21_number.l0, Option.bind_some]
    by_cases h : n < 128
    · rw [if_neg (by omega), vb_small h]
      have h1 : (strOfNums [(n : Int) % 256]).size = 1 := by rw [strOfNums_size]; rfl
      rw [if_pos (by rw [h1, hs]; omega)]
      have h2 : (n : Int) % 256 = n := by omega
      rw [h2, str_append]
    · rw [if_pos (by omega)]
      have h1 : Int.tmod (n : Int) 128 = ((n % 128 : Nat) : Int) := by rw [Int.tmod_eq_emod_of_nonneg (by omega)]; omega
      have h2 : IntKind.u64.wrap (128 + ((n % 128 : Nat) : Int)) % 256 = ((n % 128 + 128 : Nat) : Int) := by rw [wrap_u64_id (by omega) (by omega)]; omega
      have h3 : IntKind.u64.wrap (Int.tdiv (n : Int) 128) = ((n / 128 : Nat) : Int) := by
        rw [Int.tdiv_eq_ediv_of_nonneg (by omega), wrap_u64_id (by omega) (by omega)]; omega
      rw [h1, h2, h3]
      have h4 : (strOfNums [((n % 128 + 128 : Nat) : Int)]).size = 1 := by rw [strOfNums_size]; rfl
      rw [if_pos (by rw [h4, hs]; omega), ← str_append]
      have hd : 0 < d := by
        rcases Nat.eq_zero_or_pos d with rfl | h0
        · simp at hn; omega
        · exact h0
      rw [Nat.pow_succ, Nat.mul_comm] at hn
      rw [ih (n / 128) k _ (by omega) (by omega) (by omega) (by simp; omega) hd, vb_big h]
      simp
theorem number_f {n : Nat} (hn : n < 18446744073709551616) (k : Nat) (hk : 10 < k) : secateurref21_number.f k (n : Int) = some (strOfNums (vb n)) := by
  have := ref_number 10 n k [] (by rw [pow128_10]; omega) hn hk (by simp) (by omega)
  unfold secateurref21_number.f
  exact this
theorem sign_f {b : Int} (h : I64 b) : secateurref21_sign.f b = some (zz b : Int) := by
  unfold secateurref21_sign.f zz
  unfold I64 at h
  by_cases hb : b < 0
  · rw [if_pos hb, if_pos hb]
    congr 1
    have e1 : wrap64 (-(wrap64 (b + 1))) = -(b + 1) := by unfold wrap64; omega
    rw [e1, wrap_u64_id (n := -(b + 1)) (by omega) (by omega), wrap_u64_id (n := 2 * -(b + 1)) (by omega) (by omega), wrap_u64_id (by omega) (by omega)]
    omega
  · rw [if_neg hb, if_neg hb]
    congr 1
    rw [wrap_u64_id (n := b) (by omega) (by omega), wrap_u64_id (by omega) (by omega)]
    omega

theorem may_loop (d : Nat) : ∀ (i k : Nat) (b dd s : Int) (p : List Int), p.length ≤ 1000000 → i + d = p.length → d < k → (∀ j, j < i → badB (p.getD j 0) = false) →
    secateurref21_May.l0 k i b dd s p = some (!decide (0 ≤ badFrom p)) := by
  induction d with
  | zero =>
    intro i k b dd s p hp hi hk ho
    obtain ⟨k, rfl⟩ : ∃ m, k = m + 1 := ⟨k - 1, by omega⟩
    simp only [secateurref21_May.l0]
    rw [if_neg (by omega), badFrom_no (fun j hj => ho j (by omega))]
    rfl
  | succ d ih =>
    intro i k b dd s p hp hi hk ho
    obtain ⟨k, rfl⟩ : ∃ m, k = m + 1 := ⟨k - 1, by omega⟩
    simp only [secateurref21_May.l0]
    rw [if_pos (by omega), if_pos (by omega)]
    have hrd : rd p (i : Int) = p.getD i 0 := by simp [rd]
    rw [hrd]
    by_cases h1 : p.getD i 0 < 0
    · rw [if_pos h1, badFrom_yes (k := i) (by omega) ho (by unfold badB; simp only [Bool.or_eq_true, decide_eq_true_eq]; left; exact h1)]
      simp
    · rw [if_neg h1]
      by_cases h2 : p.getD i 0 > 4096
      · rw [if_pos h2, badFrom_yes (k := i) (by omega) ho (by unfold badB; simp only [Bool.or_eq_true, decide_eq_true_eq]; right; exact h2)]
        simp
      · rw [if_neg h2]
        have hw : wrap64 ((i : Int) + 1) = ((i + 1 : Nat) : Int) := by unfold wrap64; omega
        rw [hw]
        refine ih (i + 1) k b dd s p hp (by omega) (by omega) (fun j hj => ?_)
        rcases Nat.lt_succ_iff_lt_or_eq.1 hj with h | rfl
        · exact ho j h
        · unfold badB
          simp only [Bool.or_eq_false_iff, decide_eq_false_iff_not]
          exact ⟨h1, h2⟩
theorem may_f {b d s : Int} {p : List Int} (hp : p.length ≤ 1000000) (k : Nat) (hk : p.length + 2 < k) : secateurref21_May.f k b d s p = some (mayB d p) := by
  obtain ⟨k, rfl⟩ : ∃ m, k = m + 1 := ⟨k - 1, by omega⟩
  unfold secateurref21_May.f mayB
  by_cases h : (p.length : Int) > 4096
  · rw [if_pos h]
    simp only [secateurref21_May.j0, if_true]
    have : decide (p.length ≤ 4096) = false := decide_eq_false (by omega)
    rw [this]; rfl
  · rw [if_neg h]
    have : decide (p.length ≤ 4096) = true := decide_eq_true (by omega)
    rw [this]
    simp only [secateurref21_May.j0]
    by_cases h2 : d = (p.length : Int)
    · have e1 : (d != (p.length : Int)) = false := by simp [h2]
      have e2 : (d == (p.length : Int)) = true := by simp [h2]
      rw [e1, e2, if_neg (by simp)]
      have := may_loop p.length 0 k b d s p hp (by omega) (by omega) (fun j hj => absurd hj (Nat.not_lt_zero _))
      simpa using this
    · have e1 : (d != (p.length : Int)) = true := by simp [h2]
      have e2 : (d == (p.length : Int)) = false := by simp [h2]
      rw [e1, e2]
      simp

theorem enc_loop (d : Nat) : ∀ (i k : Nat) (l : List Int) (b dd s : Int) (p : List Int), p.length ≤ 4096 → (∀ x ∈ p, 0 ≤ x ∧ x ≤ 4096) → i + d = p.length → d + 20 < k → l.length ≤ 10000 + 2 * i →
    secateurref21_Encode.l0 k (strOfNums l) i b dd s p = some (strOfNums (l ++ pathB (p.drop i))) := by
  induction d with
  | zero =>
    intro i k l b dd s p hp hx hi hk hl
    obtain ⟨k, rfl⟩ : ∃ m, k = m + 1 := ⟨k - 1, by omega⟩
    simp only [secateurref21_Encode.l0]
    rw [if_neg (by omega), List.drop_of_length_le (by omega)]
    simp [pathB]
  | succ d ih =>
    intro i k l b dd s p hp hx hi hk hl
    obtain ⟨k, rfl⟩ : ∃ m, k = m + 1 := ⟨k - 1, by omega⟩
    have hlt : i < p.length := by omega
    have hrd : rd p (i : Int) = p[i] := by simp [rd, List.getD_eq_getElem?_getD, hlt]
    have hpi := hx p[i] (List.getElem_mem hlt)
    obtain ⟨m, hm⟩ : ∃ m : Nat, p[i] = (m : Int) := ⟨p[i].toNat, by omega⟩
    have hm2 : m ≤ 4096 := by omega
    simp only [secateurref21_Encode.l0]
    rw [if_pos (by omega), if_pos (by omega), hrd, hm, wrap_u64_id (by omega) (by omega), number_f (by omega) k (by omega)]
    simp only [Option.bind_some]
    have hv := vb_len 2 m (by omega) (by omega)
    rw [if_pos (by rw [strOfNums_size, strOfNums_size]; omega), ← str_append]
    have hw : wrap64 ((i : Int) + 1) = ((i + 1 : Nat) : Int) := by unfold wrap64; omega
    rw [hw, ih (i + 1) k _ b dd s p hp hx (by omega) (by omega) (by rw [List.length_append]; omega)]
    rw [List.drop_eq_getElem_cons hlt, hm]
    simp [pathB]
theorem ref_encode {b d s : Int} {p : List Int} (hp : p.length ≤ 1000000) (hb : I64 b) (hs : I64 s) : ∃ k, secateurref21_Encode.f k b d s p = some (encB b d s p) := by
  refine ⟨p.length + 100, ?_⟩
  unfold secateurref21_Encode.f
  rw [may_f hp _ (by omega)]
  simp only [Option.bind_some]
  unfold encB
  by_cases hm : mayB d p = true
  · obtain ⟨h1, h2, h3⟩ := mayB_iff.1 hm
    rw [if_pos hm, if_pos hm, sign_f hb, sign_f hs]
    simp only [Option.bind_some]
    rw [number_f (zz_lt hb) _ (by omega), number_f (zz_lt hs) _ (by omega)]
    simp only [Option.bind_some]
    rw [wrap_u64_id (by omega) (by omega), number_f (by omega) _ (by omega)]
    simp only [Option.bind_some]
    have v1 := vb_len10 (zz_lt hb)
    have v2 := vb_len10 (zz_lt hs)
    have v3 := vb_len10 (n := p.length) (by omega)
    rw [if_pos (by rw [strOfNums_size, strOfNums_size]; omega), ← str_append, if_pos (by rw [strOfNums_size, strOfNums_size, List.length_append]; omega), ← str_append]
    have := enc_loop p.length 0 (p.length + 100) (vb (zz b) ++ vb (zz s) ++ vb p.length) b d s p h1 h3 (by omega) (by omega) (by simp only [List.length_append]; omega)
    rw [show ((0 : Nat) : Int) = 0 from rfl] at this
    rw [this]
    simp [encNt]
  · rw [if_neg hm, if_neg hm]

/-! same -/
theorem same_in (d : Nat) : ∀ (i k o : Nat) (x1 : List S30) (x14 : List S28) (x15 : Int) (a0 a1 a2 b0 b1 b2 : Int) (p : List Int), p.length ≤ 1000000 → o ≤ 1000000 → i + d = p.length → d < k →
    secateurlaw21_same.l1 k x1 x14 x15 o p.length i a0 a1 a2 p b0 b1 b2 p = secateurlaw21_same.l0 (k - d - 1) x1 x14 x15 ((o + 1 : Nat) : Int) := by
  induction d with
  | zero =>
    intro i k o x1 x14 x15 a0 a1 a2 b0 b1 b2 p hp ho hi hk
    obtain ⟨k, rfl⟩ : ∃ m, k = m + 1 := ⟨k - 1, by omega⟩
    conv => lhs; unfold secateurlaw21_same.l1
    have hw : wrap64 ((o : Int) + 1) = ((o + 1 : Nat) : Int) := by unfold wrap64; omega
    rw [if_neg (by omega), hw]
    rfl
  | succ d ih =>
    intro i k o x1 x14 x15 a0 a1 a2 b0 b1 b2 p hp ho hi hk
    obtain ⟨k, rfl⟩ : ∃ m, k = m + 1 := ⟨k - 1, by omega⟩
    conv => lhs; unfold secateurlaw21_same.l1
    have hw : wrap64 ((i : Int) + 1) = ((i + 1 : Nat) : Int) := by unfold wrap64; omega
    rw [if_pos (by omega), if_pos (by omega), if_pos (by omega), if_pos (by omega), if_pos rfl, hw, ih (i + 1) k o x1 x14 x15 a0 a1 a2 b0 b1 b2 p hp ho (by omega) (by omega)]
    congr 1
    omega
theorem same_out (ns : List Nt) (hn : ns.length ≤ 1000000) (hp : ∀ n ∈ ns, n.path.length ≤ 1000000) (d : Nat) : ∀ (i : Nat), i + d = ns.length → ∃ K, ∀ k, K ≤ k → secateurlaw21_same.l0 k (ns.map toR) (ns.map toS) ns.length i = some true := by
  induction d with
  | zero =>
    intro i hi
    refine ⟨1, fun k hk => ?_⟩
    obtain ⟨k, rfl⟩ : ∃ m, k = m + 1 := ⟨k - 1, by omega⟩
    simp only [secateurlaw21_same.l0]
    rw [if_neg (by omega)]
  | succ d ih =>
    intro i hi
    obtain ⟨K, hK⟩ := ih (i + 1) (by omega)
    have hlt : i < ns.length := by omega
    obtain ⟨n, hnn⟩ : ∃ n, n = ns[i] := ⟨_, rfl⟩
    have hpl := hp n (by rw [hnn]; exact List.getElem_mem hlt)
    refine ⟨K + n.path.length + 4, fun k hk => ?_⟩
    obtain ⟨k, rfl⟩ : ∃ m, k = m + 1 + 1 := ⟨k - 2, by omega⟩
    have e1 : rd_T28 (ns.map toS) (i : Int) = toS n := by
      unfold rd_T28
      simp [List.getD_eq_getElem?_getD, hlt, hnn]
    have e2 : rd_T30 (ns.map toR) (i : Int) = toR n := by
      unfold rd_T30
      simp [List.getD_eq_getElem?_getD, hlt, hnn]
    conv => lhs; unfold secateurlaw21_same.l0
    rw [if_pos (by omega), if_pos (by omega), if_pos (by simp; omega), if_pos (by simp; omega), e1, e2]
    rw [if_neg (by simp [toS, toR])]
    conv => lhs; unfold secateurlaw21_same.j1
    rw [if_neg (by simp [toS, toR])]
    have := same_in n.path.length 0 k i (ns.map toR) (ns.map toS) ns.length n.b n.path.length n.s n.b n.path.length n.s n.path hpl (by omega) (by omega) (by omega)
    rw [show ((0 : Nat) : Int) = 0 from rfl] at this
    have h2 := hK (k - n.path.length - 1) (by omega)
    rw [← h2, ← this]
    rfl
theorem same_f (ns : List Nt) (hn : ns.length ≤ 1000000) (hp : ∀ n ∈ ns, n.path.length ≤ 1000000) : ∃ k, secateurlaw21_same.f k (ns.map toS) (ns.map toR) = some true := by
  obtain ⟨K, hK⟩ := same_out ns hn hp ns.length 0 (by omega)
  refine ⟨K, ?_⟩
  unfold secateurlaw21_same.f
  rw [if_pos (by simp)]
  have := hK K (Nat.le_refl _)
  simpa using this
end Go.Proofs.Ytebbikihhkjaaaa.Hand
