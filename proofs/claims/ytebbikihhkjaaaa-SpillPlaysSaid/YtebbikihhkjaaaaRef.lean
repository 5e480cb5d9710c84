/- What the reference reads and writes is what 'dv', 'dAll', 'encNt' say. -/
import Derived.Test.YtebbikihhkjaaaaPSpillBytesx7
import Derived.Test.YtebbikihhkjaaaaPSpillBytesx6
import Derived.Test.YtebbikihhkjaaaaEnc
import Derived.Test.YtebbikihhkjaaaaDec
namespace Go.Proofs.Ytebbikihhkjaaaa.Hand
open Go.RowKit Go.Proofs.YtebbikihhkjaaaaW.PrintWords Go.Proofs.YtebbikihhkjaaaaW.PrintMore Go.Proofs.Ytebbikihhkjaaaa.PSpillBytes

theorem bt_drop {s : ByteArray} {i : Nat} {c : Int} {t : List Int} (h : (bytesOf s).drop i = c :: t) : bt s (i : Int) = c ∧ i < s.size ∧ (bytesOf s).drop (i + 1) = t := by
  have hlt : i < (bytesOf s).length := by
    rcases Nat.lt_or_ge i (bytesOf s).length with h1 | h1
    · exact h1
    · rw [List.drop_of_length_le h1] at h; cases h
  rw [List.drop_eq_getElem_cons hlt] at h
  injection h with h1 h2
  refine ⟨?_, by rw [← bytesOf_length]; exact hlt, h2⟩
  rw [← rd_bytesOf]
  simp [rd, List.getD_eq_getElem?_getD, hlt, h1]
theorem m128 (i : Nat) : IntKind.u64.wrap (((128 ^ i % 18446744073709551616 : Nat) : Int) * 128) = ((128 ^ (i + 1) % 18446744073709551616 : Nat) : Int) := by
  rw [IntKind.wrap_u64, Nat.pow_succ]
  omega

theorem ref_read (L : List Int) : ∀ (s : ByteArray) (at_ i acc k : Nat), s.size ≤ 1000000 → (bytesOf s).drop (at_ + i) = L → at_ + i ≤ s.size → i ≤ 10 → acc < 128 ^ i → 2 * (11 - i) < k →
    (∀ n r, dv i acc L = some (n, r) → secateurref21_read.l0 k s at_ (acc : Int) ((128 ^ i % 18446744073709551616 : Nat) : Int) ((at_ + i : Nat) : Int) = some ((n : Int), ((s.size - r.length : Nat) : Int))) ∧
    (dv i acc L = none → secateurref21_read.l0 k s at_ (acc : Int) ((128 ^ i % 18446744073709551616 : Nat) : Int) ((at_ + i : Nat) : Int) = some (0, -1)) := by
  induction L with
  | nil =>
    intro s at_ i acc k hsz hs hle hi ha hk
    have h0 : s.size ≤ at_ + i := by
      have := congrArg List.length hs
      rw [List.length_drop, bytesOf_length] at this
      simp at this; omega
    obtain ⟨k, rfl⟩ : ∃ m, k = m + 1 := ⟨k - 1, by omega⟩
    refine ⟨fun n r h => by simp [dv] at h, fun _ => ?_⟩
    simp only [secateurref21_read.l0]
    rw [if_neg (by omega)]
  | cons c t ih =>
    intro s at_ i acc k hsz hs hle hi ha hk
    obtain ⟨hbt, hlt, htl⟩ := bt_drop hs
    have hc := bytesOf_byt s c (List.mem_of_mem_drop (by rw [hs]; exact List.mem_cons_self))
    have htlen : s.size = at_ + i + 1 + t.length := by
      have := congrArg List.length hs
      rw [List.length_drop, bytesOf_length] at this
      simp at this; omega
    have c1 : ((at_ + i : Nat) : Int) < (s.size : Int) := Int.ofNat_lt.2 hlt
    have c2 : (0 : Int) ≤ ((at_ + i : Nat) : Int) := Int.natCast_nonneg _
    have c3 : at_ + i + 1 = s.size - t.length := by rw [htlen, Nat.add_sub_cancel]
    obtain ⟨p, hp⟩ : ∃ p : Nat, p = c.toNat % 128 := ⟨_, rfl⟩
    have hp128 : p < 128 := by omega
    obtain ⟨k, rfl⟩ : ∃ m, k = m + 1 + 1 := ⟨k - 2, by omega⟩
    have hwc : IntKind.u64.wrap c = c := wrap_u64_id hc.1 (by omega)
    have hpm : Int.tmod c 128 = (p : Int) := by rw [Int.tmod_eq_emod_of_nonneg hc.1]; omega
    have hsub : wrap64 (((at_ + i : Nat) : Int) - (at_ : Int)) = (i : Int) := by unfold wrap64; omega
    have hnx : wrap64 (((at_ + i : Nat) : Int) + 1) = ((at_ + i + 1 : Nat) : Int) := by unfold wrap64; omega
    have step : secateurref21_read.l0 (k + 1 + 1) s at_ (acc : Int) ((128 ^ i % 18446744073709551616 : Nat) : Int) ((at_ + i : Nat) : Int) =
        secateurref21_read.j1 (k + 1) s at_ (acc : Int) ((128 ^ i % 18446744073709551616 : Nat) : Int) ((at_ + i : Nat) : Int) c (p : Int) (decide ((i = 9 ∧ 1 < p) ∨ 9 < i)) := by
      conv => lhs; unfold secateurref21_read.l0
      rw [if_pos c1, if_pos c2, hsub, hbt, hwc, hpm]
      by_cases h9 : i = 9
      · rw [if_pos (by omega)]
        by_cases h1 : 1 < p
        · rw [if_pos (by omega)]; congr 1; simp [h9, h1]
        · rw [if_neg (by omega)]; congr 1; simp [h9, h1]
      · rw [if_neg (by omega)]
        congr 1
        simp [h9]
        omega
    rw [step]
    clear step
    simp only [dv]
    rw [← hp]
    by_cases g1 : 9 < i
    · rw [if_pos g1]
      refine ⟨fun n r h => (by cases h), fun _ => ?_⟩
      simp only [secateurref21_read.j1]
      rw [if_pos (by simp [g1])]
    rw [if_neg g1]
    by_cases g2 : i = 9 ∧ 1 < p
    · rw [if_pos g2]
      refine ⟨fun n r h => (by cases h), fun _ => ?_⟩
      simp only [secateurref21_read.j1]
      rw [if_pos (by simp [g2])]
    rw [if_neg g2]
    have hdec : decide ((i = 9 ∧ 1 < p) ∨ 9 < i) = false := decide_eq_false (fun h => h.elim g2 g1)
    rw [hdec]
    have hfit := part_lt (i := i) hp128 (by omega) (fun e => by omega)
    have hlt128 : 128 ^ i < 18446744073709551616 := by
      have : 128 ^ i ≤ 128 ^ 9 := Nat.pow_le_pow_right (by decide) (by omega)
      rw [pow128_9] at this
      omega
    have hm : 128 ^ i % 18446744073709551616 = 128 ^ i := Nat.mod_eq_of_lt hlt128
    have hpm2 : IntKind.u64.wrap ((p : Int) * ((128 ^ i % 18446744073709551616 : Nat) : Int)) = ((p * 128 ^ i : Nat) : Int) := by
      rw [hm, ← Int.natCast_mul]
      exact wrap_u64_id (by omega) (by omega)
    have hsum : acc + p * 128 ^ i < 18446744073709551616 := by
      rcases Nat.lt_or_ge i 9 with h | h
      · have h1 : p * 128 ^ i ≤ 127 * 128 ^ i := Nat.mul_le_mul_right _ (by omega)
        have h2 : 128 ^ i ≤ 128 ^ 8 := Nat.pow_le_pow_right (by decide) (by omega)
        have h8 : (128 : Nat) ^ 8 = 72057594037927936 := by decide
        omega
      · have h : i = 9 := by omega
        subst h
        rw [pow128_9] at ha ⊢
        have : p ≤ 1 := by omega
        omega
    have hadd : IntKind.u64.wrap ((acc : Int) + ((p * 128 ^ i : Nat) : Int)) = ((acc + p * 128 ^ i : Nat) : Int) := by
      rw [← Int.natCast_add]
      exact wrap_u64_id (by omega) (by omega)
    have step : secateurref21_read.j1 (k + 1) s at_ (acc : Int) ((128 ^ i % 18446744073709551616 : Nat) : Int) ((at_ + i : Nat) : Int) c (p : Int) false =
        if c = 0 ∧ 0 < i then some (0, -1) else if c < 128 then some (((acc + p * 128 ^ i : Nat) : Int), ((at_ + i + 1 : Nat) : Int)) else secateurref21_read.l0 k s at_ ((acc + p * 128 ^ i : Nat) : Int) ((128 ^ (i + 1) % 18446744073709551616 : Nat) : Int) ((at_ + (i + 1) : Nat) : Int) := by
      conv => lhs; unfold secateurref21_read.j1
      rw [if_neg (by simp), hpm2, hadd, hnx, m128]
      by_cases g5 : c < 128
      · rw [if_pos g5]
        by_cases g3 : c = 0
        · rw [if_pos g3]
          by_cases g4 : 0 < i
          · rw [if_pos (by omega), if_pos ⟨g3, g4⟩]
          · rw [if_neg (by omega), if_neg (fun h => g4 h.2), if_pos g5]
        · rw [if_neg g3, if_neg (fun h => g3 h.1), if_pos g5]
      · rw [if_neg g5, if_neg (fun h => by omega), if_neg g5]
        rfl
    rw [step]
    clear step
    by_cases g3 : c = 0 ∧ 0 < i
    · rw [if_pos g3, if_pos g3]
      exact ⟨fun n r h => (by cases h), fun _ => rfl⟩
    rw [if_neg g3, if_neg g3]
    by_cases g4 : c < 128
    · rw [if_pos g4, if_pos g4]
      refine ⟨fun n r h => ?_, fun h => (by cases h)⟩
      simp only [Option.some.injEq, Prod.mk.injEq] at h
      obtain ⟨rfl, rfl⟩ := h
      rw [c3]
    · rw [if_neg g4, if_neg g4]
      have hacc : acc + p * 128 ^ i < 128 ^ (i + 1) := by
        rw [Nat.pow_succ, Nat.mul_comm (128 ^ i) 128]
        have : p * 128 ^ i ≤ 127 * 128 ^ i := Nat.mul_le_mul_right _ (by omega)
        omega
      exact ih s at_ (i + 1) (acc + p * 128 ^ i) k hsz htl (by omega) (by omega) hacc (by omega)

/-- The reader at a place. -/
theorem read_yes {s : ByteArray} {at_ n k : Nat} {r : List Int} (hsz : s.size ≤ 1000000) (hle : at_ ≤ s.size) (hk : 22 < k) (h : dv 0 0 ((bytesOf s).drop at_) = some (n, r)) :
    ∃ at1 : Nat, secateurref21_read.f k s at_ = some ((n : Int), (at1 : Int)) ∧ r = (bytesOf s).drop at1 ∧ at_ < at1 ∧ at1 ≤ s.size ∧ n < 18446744073709551616 := by
  have h1 := (ref_read _ s at_ 0 0 k hsz rfl (by omega) (by omega) (by simp) (by omega)).1 n r h
  have hl := dv_len h
  obtain ⟨e, hn⟩ := vb_dv0 (fun x hx => bytesOf_byt s x (List.mem_of_mem_drop hx)) h
  rw [List.length_drop, bytesOf_length] at hl
  have hsuf : r = (bytesOf s).drop (s.size - r.length) := by
    have h3 : (bytesOf s).drop (s.size - r.length) = ((bytesOf s).drop at_).drop (s.size - r.length - at_) := by
      rw [List.drop_drop]; congr 1
      omega
    rw [h3, e]
    have h4 : (vb n).length = s.size - r.length - at_ := by
      have := congrArg List.length e
      rw [List.length_drop, bytesOf_length, List.length_append] at this
      omega
    rw [← h4, List.drop_left]
  exact ⟨s.size - r.length, by simpa [secateurref21_read.f] using h1, hsuf, by omega, Nat.sub_le _ _, hn⟩
theorem read_no {s : ByteArray} {at_ k : Nat} (hsz : s.size ≤ 1000000) (hle : at_ ≤ s.size) (hk : 22 < k) (h : dv 0 0 ((bytesOf s).drop at_) = none) : secateurref21_read.f k s at_ = some (0, -1) := by
  have h1 := (ref_read _ s at_ 0 0 k hsz rfl (by omega) (by omega) (by simp) (by omega)).2 h
  simpa [secateurref21_read.f] using h1
theorem refback {n : Nat} (h : n < 18446744073709551616) : secateurref21_back.f (n : Int) = some (uz n) := by
  unfold secateurref21_back.f uz
  have e1 : Int.tmod (n : Int) 2 = ((n % 2 : Nat) : Int) := by rw [Int.tmod_eq_emod_of_nonneg (by omega)]; omega
  have e2 : Int.tdiv (n : Int) 2 = ((n / 2 : Nat) : Int) := by rw [Int.tdiv_eq_ediv_of_nonneg (by omega)]; omega
  rw [e1, e2, wrap_u64_id (by omega) (by omega)]
  by_cases h2 : n % 2 = 1
  · rw [if_pos (by omega), if_pos h2]
    congr 1
    unfold wrap64; omega
  · rw [if_neg (by omega), if_neg h2]
    congr 1
    unfold wrap64; omega

def toR (n : Nt) : S30 := ⟨n.b, n.path.length, n.s, n.path⟩

/-- The path, read by the reference; what is done behind it. -/
theorem ref_path (d : Nat) : ∀ (s : ByteArray) (out : List S30) (at_ c i k : Nat) (b dd sq : Int) (p : List Int), s.size ≤ 1000000 → at_ ≤ s.size → c - i = d → i ≤ c → c ≤ 4096 → p.length = i → out.length ≤ 1000000 → d + 40 < k →
    (∀ q r, dPath d ((bytesOf s).drop at_) = some (q, r) → ∃ at1, r = (bytesOf s).drop at1 ∧ at_ ≤ at1 ∧ at1 ≤ s.size ∧ secateurref21_Decode.l1 k s out at_ c i b dd sq p = secateurref21_Decode.l0 (k - d - 1) s (out ++ [⟨b, dd, sq, p ++ q⟩]) at1) ∧
    (dPath d ((bytesOf s).drop at_) = none → secateurref21_Decode.l1 k s out at_ c i b dd sq p = some ([], 4)) := by
  induction d with
  | zero =>
    intro s out at_ c i k b dd sq p hsz hle hd hi hc hp ho hk
    obtain ⟨k, rfl⟩ : ∃ m, k = m + 1 := ⟨k - 1, by omega⟩
    refine ⟨fun q r h => ?_, fun h => by simp [dPath] at h⟩
    simp only [dPath, Option.some.injEq, Prod.mk.injEq] at h
    obtain ⟨rfl, rfl⟩ := h
    refine ⟨at_, rfl, Nat.le_refl _, hle, ?_⟩
    conv => lhs; unfold secateurref21_Decode.l1
    rw [if_neg (by omega), if_pos (by omega), List.append_nil]
    rfl
  | succ d ih =>
    intro s out at_ c i k b dd sq p hsz hle hd hi hc hp ho hk
    obtain ⟨k, rfl⟩ : ∃ m, k = m + 1 := ⟨k - 1, by omega⟩
    have hw : IntKind.u64.wrap ((i : Int) + 1) = ((i + 1 : Nat) : Int) := by rw [wrap_u64_id (by omega) (by omega)]; rfl
    have step : secateurref21_Decode.l1 (k + 1) s out at_ c i b dd sq p = (secateurref21_read.f k s at_).bind fun bt154 => (if bt154.2 < 0 then (some (([] : List (S30)), 4)) else (if bt154.1 > 4096 then (some (([] : List (S30)), 4)) else secateurref21_Decode.l1 k s out bt154.2 c ((i + 1 : Nat) : Int) b dd sq (p ++ [wrap64 (bt154.1)]))) := by
      conv => lhs; unfold secateurref21_Decode.l1
      rw [if_pos (by omega), hw]
      congr 1
      funext x
      have : p.length < 17592186044416 := by omega
      simp only [this, if_true]
    rw [step]
    clear step
    cases e : dv 0 0 ((bytesOf s).drop at_) with
    | none =>
      refine ⟨fun q r h => by simp [dPath, e] at h, fun _ => ?_⟩
      rw [read_no hsz hle (by omega) e]
      rfl
    | some y =>
      obtain ⟨n, r1⟩ := y
      obtain ⟨q1, h1, h2, h3, h4, h5⟩ := read_yes hsz hle (k := k) (by omega) e
      rw [h1]
      simp only [Option.bind_some]
      rw [if_neg (by omega)]
      by_cases h6 : 4096 < n
      · rw [if_pos (by omega)]
        exact ⟨fun q r h => by simp [dPath, e, h6] at h, fun _ => rfl⟩
      · rw [if_neg (by omega), dPath_step e h6]
        have hw2 : wrap64 (n : Int) = n := by unfold wrap64; omega
        rw [hw2]
        obtain ⟨g1, g2⟩ := ih s out q1 c (i + 1) k b dd sq (p ++ [(n : Int)]) hsz h4 (by omega) (by omega) hc (by simp; omega) ho (by omega)
        rw [← h2] at g1 g2
        cases e2 : dPath d r1 with
        | none => exact ⟨fun q r h => (by cases h), fun _ => g2 e2⟩
        | some y2 =>
          obtain ⟨q2, r2⟩ := y2
          refine ⟨fun q r h => ?_, fun h => (by cases h)⟩
          simp only [Option.map_some, Option.some.injEq, Prod.mk.injEq] at h
          obtain ⟨rfl, rfl⟩ := h
          obtain ⟨at1, a1, a2, a3, a4⟩ := g1 q2 r2 e2
          refine ⟨at1, a1, by omega, a3, ?_⟩
          rw [a4]
          have e3 : k + 1 - (d + 1) - 1 = k - d - 1 := by omega
          rw [e3, List.append_assoc]
          rfl
def decR (l : List Int) : List S30 := match dAll l with
  | some ns => ns.map toR
  | none => []

theorem fuel_step {m m1 k c : Nat} (h1 : m1 < m) (h2 : 5000 * m + 5000 ≤ k + 1 + 1) (h3 : c ≤ 4096) : 5000 * m1 + 5000 ≤ k - c - 1 := by omega
theorem m_step {S a b m m1 : Nat} (h1 : S = a + m) (h2 : S = b + m1) (h3 : a < b) : m1 < m := by omega
theorem o_step {o m m1 : Nat} (h1 : o + m ≤ 1000000) (h2 : m1 < m) : o + 1 + m1 ≤ 1000000 := by omega
theorem fuel_big {m k c : Nat} (h2 : 5000 * m + 5000 ≤ k + 1 + 1) (h3 : c ≤ 4096) : c + 40 < k ∧ 22 < k + 1 := by omega
/-- All notes, read by the reference. -/
theorem ref_all (m : Nat) : ∀ (s : ByteArray) (out : List S30) (at_ k : Nat), s.size ≤ 1000000 → at_ ≤ s.size → s.size = at_ + m → out.length + m ≤ 1000000 → 5000 * m + 5000 ≤ k →
    secateurref21_Decode.l0 k s out at_ = match dAll ((bytesOf s).drop at_) with | some ns => some (out ++ ns.map toR, 0) | none => some ([], 4) := by
  induction m using Nat.strongRecOn with
  | ind m ih =>
    intro s out at_ k hsz hle hm ho hk
    obtain ⟨k, rfl⟩ : ∃ q, k = q + 1 + 1 := ⟨k - 2, by omega⟩
    have hk22 := (fuel_big (c := 0) hk (Nat.zero_le _)).2
    have ho2 : out.length ≤ 1000000 := by omega
    by_cases h0 : at_ = s.size
    · have e : (bytesOf s).drop at_ = [] := List.drop_of_length_le (by rw [bytesOf_length]; omega)
      rw [e, dAll_nil]
      simp only [secateurref21_Decode.l0]
      rw [if_neg (by omega)]
      simp
    · have hlt : at_ < s.size := by omega
      have hne : (bytesOf s).drop at_ ≠ [] := by
        intro e
        have := congrArg List.length e
        rw [List.length_drop, bytesOf_length] at this
        simp at this; omega
      have c1 : (at_ : Int) < (s.size : Int) := Int.ofNat_lt.2 hlt
      have step : secateurref21_Decode.l0 (k + 1 + 1) s out at_ = (secateurref21_read.f (k + 1) s at_).bind fun bt145 => (if bt145.2 < 0 then (some (([] : List (S30)), 4)) else ((secateurref21_read.f (k + 1) s bt145.2).bind fun bt147 => (if bt147.2 < 0 then (some (([] : List (S30)), 4)) else ((secateurref21_read.f (k + 1) s bt147.2).bind fun bt149 => (if bt149.2 < 0 then (secateurref21_Decode.j1 (k + 1) s out bt145.1 bt147.1 bt149.1 bt149.2 true) else (secateurref21_Decode.j1 (k + 1) s out bt145.1 bt147.1 bt149.1 bt149.2 (decide (bt149.1 > 4096)))))))) := by
        conv => lhs; unfold secateurref21_Decode.l0
        rw [if_pos c1]
      rw [step]
      clear step
      cases e1 : dv 0 0 ((bytesOf s).drop at_) with
      | none =>
        rw [dAll_none hne (by simp [dNt, e1]), read_no hsz hle hk22 e1]
        rfl
      | some y1 =>
        obtain ⟨a, l1⟩ := y1
        obtain ⟨x1, p1, p2, p3, p4, p5⟩ := read_yes hsz hle (k := k + 1) hk22 e1
        rw [p1]
        simp only [Option.bind_some]
        rw [if_neg (by omega)]
        cases e2 : dv 0 0 l1 with
        | none =>
          rw [dAll_none hne (by simp [dNt, e1, e2])]
          rw [p2] at e2
          rw [read_no hsz p4 hk22 e2]
          rfl
        | some y2 =>
          obtain ⟨b, l2⟩ := y2
          have e2' := e2
          rw [p2] at e2'
          obtain ⟨x2, q1, q2, q3, q4, q5⟩ := read_yes hsz p4 (k := k + 1) hk22 e2'
          rw [q1]
          simp only [Option.bind_some]
          rw [if_neg (by omega)]
          cases e3 : dv 0 0 l2 with
          | none =>
            rw [dAll_none hne (by simp [dNt, e1, e2, e3])]
            rw [q2] at e3
            rw [read_no hsz q4 hk22 e3]
            simp only [Option.bind_some]
            rw [if_pos (by omega)]
            simp [secateurref21_Decode.j1]
          | some y3 =>
            obtain ⟨c, l3⟩ := y3
            have e3' := e3
            rw [q2] at e3'
            obtain ⟨x3, r1, r2, r3, r4, r5⟩ := read_yes hsz q4 (k := k + 1) hk22 e3'
            rw [r1]
            simp only [Option.bind_some]
            rw [if_neg (by omega)]
            by_cases h4 : 4096 < c
            · rw [dAll_none hne (by simp [dNt, e1, e2, e3, h4])]
              have : decide (((c : Nat) : Int) > 4096) = true := decide_eq_true (by omega)
              rw [this]
              simp [secateurref21_Decode.j1]
            · have : decide (((c : Nat) : Int) > 4096) = false := decide_eq_false (by omega)
              rw [this]
              have hwc : wrap64 (c : Int) = c := by unfold wrap64; omega
              have step : secateurref21_Decode.j1 (k + 1) s out a b c (x3 : Int) false = secateurref21_Decode.l1 k s out (x3 : Int) c 0 (uz a) c (uz b) [] := by
                conv => lhs; unfold secateurref21_Decode.j1
                rw [if_neg (by simp), refback p5, refback q5]
                simp only [Option.bind_some]
                rw [hwc]
              rw [step]
              clear step
              obtain ⟨g1, g2⟩ := ref_path c s out x3 c 0 k (uz a) c (uz b) [] hsz r4 (Nat.sub_zero _) (Nat.zero_le _) (Nat.le_of_not_lt h4) rfl ho2 (fuel_big hk (Nat.le_of_not_lt h4)).1
              rw [← r2] at g1 g2
              cases e4 : dPath c l3 with
              | none =>
                rw [dAll_none hne (by simp [dNt, e1, e2, e3, h4, e4])]
                have := g2 e4
                simpa using this
              | some y4 =>
                obtain ⟨pp, l4⟩ := y4
                obtain ⟨at1, s1, s2, s3, s4⟩ := g1 pp l4 e4
                have hn : dNt ((bytesOf s).drop at_) = some (⟨uz a, uz b, pp⟩, l4) := by simp [dNt, e1, e2, e3, h4, e4]
                rw [dAll_some hne hn]
                have hpl := (dPath_len e4).2
                have s4' : secateurref21_Decode.l1 k s out (x3 : Int) c 0 (uz a) c (uz b) [] = secateurref21_Decode.l0 (k - c - 1) s (out ++ [⟨uz a, c, uz b, pp⟩]) at1 := by simpa using s4
                obtain ⟨m1, hm1⟩ : ∃ m1, s.size = at1 + m1 := ⟨s.size - at1, by rw [Nat.add_sub_cancel' s3]⟩
                have hlt1 : at_ < at1 := Nat.lt_of_lt_of_le (Nat.lt_trans p3 (Nat.lt_trans q3 r3)) s2
                have hm2 : m1 < m := m_step hm hm1 hlt1
                have ho3 : (out ++ [(⟨uz a, c, uz b, pp⟩ : S30)]).length + m1 ≤ 1000000 := by rw [List.length_append]; exact o_step ho hm2
                rw [s4', ih m1 hm2 s _ at1 _ hsz s3 hm1 ho3 (fuel_step hm2 hk (Nat.le_of_not_lt h4)), ← s1]
                cases dAll l4 with
                | none => rfl
                | some ns => simp [toR, hpl]
theorem ref_decode (s : ByteArray) (hsz : s.size ≤ 1000000) : secateurref21_Decode.f (5000 * s.size + 5000) s = some (decR (bytesOf s), decE (bytesOf s)) := by
  have h := ref_all s.size s [] 0 (5000 * s.size + 5000) hsz (Nat.zero_le _) (Nat.zero_add _).symm (by simpa using hsz) (Nat.le_refl _)
  unfold secateurref21_Decode.f
  simp only [List.drop_zero] at h
  rw [show ((0 : Nat) : Int) = 0 from rfl] at h
  rw [h]
  unfold decR decE
  cases dAll (bytesOf s) with
  | none => rfl
  | some ns => simp
end Go.Proofs.Ytebbikihhkjaaaa.Hand
