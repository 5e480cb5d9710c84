/- The bytes of numbers and notes, as lists of whole numbers: what is written, what is read, and that the one is the other's inverse. Plain: no program, no memory. -/
import Derived.Laws.BytesArg
import Derived.Laws.Bits64
import Derived.Laws.BitsLemmas
import Derived.Test.YtebbikihhkjaaaaPSpillBytesx4
namespace Go.Proofs.Ytebbikihhkjaaaa.Hand

/-- A number's bytes. -/
def vb (n : Nat) : List Int := if n < 128 then [(n : Int)] else ((n % 128 + 128 : Nat) : Int) :: vb (n / 128)
termination_by n
decreasing_by omega

theorem vb_small {n : Nat} (h : n < 128) : vb n = [(n : Int)] := by rw [vb, if_pos h]
theorem vb_big {n : Nat} (h : ¬ n < 128) : vb n = ((n % 128 + 128 : Nat) : Int) :: vb (n / 128) := by rw [vb, if_neg h]
theorem vb_ne (n : Nat) : vb n ≠ [] := by
  rw [vb]; split <;> simp
theorem vb_pos (n : Nat) : 0 < (vb n).length := List.length_pos_iff.2 (vb_ne n)

/-- A list of bytes. -/
def Byt (l : List Int) : Prop := ∀ x ∈ l, 0 ≤ x ∧ x < 256
theorem Byt.nil : Byt [] := by intro x hx; cases hx
theorem Byt.append {a b : List Int} (ha : Byt a) (hb : Byt b) : Byt (a ++ b) := by
  intro x hx
  rcases List.mem_append.1 hx with h | h
  · exact ha x h
  · exact hb x h
theorem Byt.left {a b : List Int} (h : Byt (a ++ b)) : Byt a := fun x hx => h x (List.mem_append_left _ hx)
theorem Byt.right {a b : List Int} (h : Byt (a ++ b)) : Byt b := fun x hx => h x (List.mem_append_right _ hx)
theorem vb_byt (n : Nat) : Byt (vb n) := by
  induction n using Nat.strongRecOn with
  | ind n ih =>
    by_cases h : n < 128
    · rw [vb_small h]; intro x hx; simp at hx; omega
    · rw [vb_big h]
      intro x hx
      rcases List.mem_cons.1 hx with h1 | h1
      · omega
      · exact ih (n / 128) (by omega) x h1

/-- The number at the head of bytes; i: how many of its bytes were read, acc: what they come to. -/
def dv : Nat → Nat → List Int → Option (Nat × List Int)
  | _, _, [] => none
  | i, acc, c :: r =>
    if 9 < i then none
    else if i = 9 ∧ 1 < c.toNat % 128 then none
    else if c = 0 ∧ 0 < i then none
    else if c < 128 then some (acc + c.toNat % 128 * 128 ^ i, r)
    else dv (i + 1) (acc + c.toNat % 128 * 128 ^ i) r

theorem dv_len {i acc n : Nat} {l r : List Int} (h : dv i acc l = some (n, r)) : r.length < l.length := by
  induction l generalizing i acc with
  | nil => simp [dv] at h
  | cons c t ih =>
    simp only [dv] at h
    split at h; · cases h
    split at h; · cases h
    split at h; · cases h
    split at h
    · simp only [Option.some.injEq, Prod.mk.injEq] at h; obtain ⟨_, rfl⟩ := h; simp
    · have := ih h; simp; omega

theorem pow128_9 : (128 : Nat) ^ 9 = 9223372036854775808 := by decide
theorem pow128_10 : (128 : Nat) ^ 10 = 1180591620717411303424 := by decide

/-- What is left of 2^64 behind i bytes. -/
theorem room_i {i n : Nat} (h9 : ¬ 9 < i) : n * 128 ^ i < 18446744073709551616 → i = 9 → n < 2 := by
  intro h e
  subst e
  rw [pow128_9] at h
  omega

theorem dv_vb (m : Nat) : ∀ (i acc : Nat) (r : List Int), m * 128 ^ i < 18446744073709551616 → (0 < i → 0 < m) → i ≤ 9 → dv i acc (vb m ++ r) = some (acc + m * 128 ^ i, r) := by
  induction m using Nat.strongRecOn with
  | ind m ih =>
    intro i acc r hm h0 h9
    have h2 := room_i (i := i) (n := m) (by omega) hm
    by_cases h : m < 128
    · rw [vb_small h]
      simp only [List.cons_append, List.nil_append, dv]
      have e : ((m : Int)).toNat % 128 = m := by omega
      rw [if_neg (by omega), if_neg (by omega), if_neg (by omega), if_pos (by omega), e]
    · rw [vb_big h]
      simp only [List.cons_append, dv]
      have e : (((m % 128 + 128 : Nat) : Int)).toNat % 128 = m % 128 := by omega
      rw [if_neg (by omega), if_neg (by omega), if_neg (by omega), if_neg (by omega), e]
      have hi : i ≠ 9 := by intro e; have := h2 e; omega
      have e2 : m % 128 * 128 ^ i + m / 128 * 128 ^ (i + 1) = m * 128 ^ i := by
        rw [Nat.pow_succ]
        have := Nat.div_add_mod m 128
        calc m % 128 * 128 ^ i + m / 128 * (128 ^ i * 128) = (128 * (m / 128) + m % 128) * 128 ^ i := by
              rw [Nat.add_mul, Nat.mul_comm (128 ^ i) 128, ← Nat.mul_assoc, Nat.mul_comm (m / 128) 128, Nat.add_comm]
          _ = m * 128 ^ i := by rw [this]
      have h3 : m / 128 * 128 ^ (i + 1) ≤ m * 128 ^ i := by omega
      rw [ih (m / 128) (by omega) (i + 1) _ r (by omega) (by omega) (by omega), Nat.add_assoc, e2]

theorem dv_vb0 (m : Nat) (r : List Int) (h : m < 18446744073709551616) : dv 0 0 (vb m ++ r) = some (m, r) := by
  have := dv_vb m 0 0 r (by simpa using h) (by omega) (by omega)
  simpa using this

theorem vb_dv {l : List Int} : ∀ {i acc n : Nat} {r : List Int}, Byt l → dv i acc l = some (n, r) → ∃ m, n = acc + m * 128 ^ i ∧ l = vb m ++ r ∧ (0 < i → 0 < m) ∧ (i ≤ 9 → m * 128 ^ i < 18446744073709551616) := by
  induction l with
  | nil => intro i acc n r _ h; simp [dv] at h
  | cons c t ih =>
    intro i acc n r hb h
    have hc := hb c List.mem_cons_self
    simp only [dv] at h
    by_cases g1 : 9 < i
    · rw [if_pos g1] at h; cases h
    rw [if_neg g1] at h
    by_cases g2 : i = 9 ∧ 1 < c.toNat % 128
    · rw [if_pos g2] at h; cases h
    rw [if_neg g2] at h
    by_cases g3 : c = 0 ∧ 0 < i
    · rw [if_pos g3] at h; cases h
    rw [if_neg g3] at h
    by_cases g4 : c < 128
    · rw [if_pos g4] at h
      simp only [Option.some.injEq, Prod.mk.injEq] at h
      obtain ⟨rfl, rfl⟩ := h
      have e : c.toNat % 128 = c.toNat := by omega
      refine ⟨c.toNat, by rw [e], ?_, by omega, fun h9 => ?_⟩
      · rw [vb_small (by omega)]
        simp; omega
      · rcases Nat.lt_or_ge i 9 with hi | hi
        · have : 128 ^ i ≤ 128 ^ 8 := Nat.pow_le_pow_right (by decide) (by omega)
          have h8 : (128 : Nat) ^ 8 = 72057594037927936 := by decide
          have : c.toNat * 128 ^ i ≤ 127 * 128 ^ 8 := Nat.mul_le_mul (by omega) this
          omega
        · have hi : i = 9 := by omega
          subst hi
          rw [pow128_9]
          have : c.toNat ≤ 1 := by omega
          omega
    · rw [if_neg g4] at h
      obtain ⟨m, rfl, hl, hm0, hm⟩ := ih (fun x hx => hb x (List.mem_cons_of_mem _ hx)) h
      have hpos : 0 < m := hm0 (by omega)
      have e1 : (c.toNat % 128 + 128 * m) % 128 = c.toNat % 128 := by omega
      have e2 : (c.toNat % 128 + 128 * m) / 128 = m := by omega
      have e3 : c.toNat % 128 * 128 ^ i + m * 128 ^ (i + 1) = (c.toNat % 128 + 128 * m) * 128 ^ i := by
        rw [Nat.pow_succ, Nat.add_mul, Nat.mul_comm (128 ^ i) 128, ← Nat.mul_assoc, Nat.mul_comm m 128]
      refine ⟨c.toNat % 128 + 128 * m, by rw [Nat.add_assoc, e3], ?_, by omega, fun h9 => ?_⟩
      · have hbig : ¬ (c.toNat % 128 + 128 * m < 128) := by omega
        rw [vb_big hbig, e1, e2, hl]
        simp; omega
      · rcases Nat.lt_or_ge i 9 with hi | hi
        · have := hm (by omega)
          rw [← e3]
          have hp : 0 < 128 ^ i := Nat.pow_pos (by decide)
          have h4 : m * 128 ^ (i + 1) = 128 * (m * 128 ^ i) := by rw [Nat.pow_succ, Nat.mul_comm (128 ^ i) 128, ← Nat.mul_assoc, Nat.mul_comm m 128, Nat.mul_assoc]
          have h5 : c.toNat % 128 * 128 ^ i ≤ 127 * 128 ^ i := Nat.mul_le_mul_right _ (by omega)
          rw [h4] at this ⊢
          have h7 : m * 128 ^ i < 144115188075855872 := by omega
          -- 128 * (m * 128^i) is a multiple of 128^(i+1), and 2^64 is one, too
          have h8 : 128 ^ i ∣ 144115188075855872 := by
            have : (144115188075855872 : Nat) = 128 ^ 8 * 2 := by decide
            rw [this]
            exact Nat.dvd_trans (Nat.pow_dvd_pow 128 (by omega)) (Nat.dvd_mul_right _ _)
          obtain ⟨q, hq⟩ := h8
          have h9' : m < q := by
            rw [hq, Nat.mul_comm (128 ^ i) q] at h7
            exact Nat.lt_of_mul_lt_mul_right h7
          have h10 : (m + 1) * 128 ^ i ≤ 144115188075855872 := by
            rw [hq, Nat.mul_comm (128 ^ i) q]
            exact Nat.mul_le_mul_right _ h9'
          rw [Nat.add_mul, Nat.one_mul] at h10
          omega
        · have hi : i = 9 := by omega
          subst hi
          -- nothing is read behind the tenth byte
          exfalso
          cases t with
          | nil => simp [dv] at h
          | cons c2 t2 => simp [dv] at h

theorem vb_dv0 {l r : List Int} {n : Nat} (hb : Byt l) (h : dv 0 0 l = some (n, r)) : l = vb n ++ r ∧ n < 18446744073709551616 := by
  obtain ⟨m, rfl, rfl, _, hm⟩ := vb_dv hb h
  have := hm (by omega)
  simp at this ⊢
  exact this

/-! Numbers with a sign. -/
def zz (b : Int) : Nat := if b < 0 then (2 * (-(b + 1)) + 1).toNat else (2 * b).toNat
def uz (n : Nat) : Int := if n % 2 = 1 then -((n / 2 : Nat) : Int) - 1 else ((n / 2 : Nat) : Int)
def I64 (b : Int) : Prop := -9223372036854775808 ≤ b ∧ b ≤ 9223372036854775807
theorem zz_lt {b : Int} (h : I64 b) : zz b < 18446744073709551616 := by unfold zz; unfold I64 at h; split <;> omega
theorem uz_zz {b : Int} : uz (zz b) = b := by unfold zz uz; split <;> split <;> omega
theorem zz_uz {n : Nat} : zz (uz n) = n := by unfold zz uz; split <;> split <;> omega
theorem uz_i64 {n : Nat} (h : n < 18446744073709551616) : I64 (uz n) := by unfold uz I64; split <;> omega

/-! Notes: their depth is how many decisions there are. -/
structure Nt where
  b : Int
  s : Int
  path : List Int
def pathB (l : List Int) : List Int := l.flatMap fun d => vb d.toNat
def encNt (n : Nt) : List Int := vb (zz n.b) ++ (vb (zz n.s) ++ (vb n.path.length ++ pathB n.path))
structure OkNt (n : Nt) : Prop where
  b : I64 n.b
  s : I64 n.s
  len : n.path.length ≤ 4096
  ds : ∀ d ∈ n.path, 0 ≤ d ∧ d ≤ 4096
theorem encNt_ne (n : Nt) : encNt n ≠ [] := by
  simp [encNt, vb_ne]
theorem pathB_byt (l : List Int) : Byt (pathB l) := by
  intro x hx
  obtain ⟨d, _, h⟩ := List.mem_flatMap.1 hx
  exact vb_byt _ x h
theorem encNt_byt (n : Nt) : Byt (encNt n) := (vb_byt _).append ((vb_byt _).append ((vb_byt _).append (pathB_byt _)))

def dPath : Nat → List Int → Option (List Int × List Int)
  | 0, l => some ([], l)
  | k + 1, l => match dv 0 0 l with
    | none => none
    | some (n, r) => if 4096 < n then none else match dPath k r with
      | none => none
      | some (p, r2) => some ((n : Int) :: p, r2)
def dNt (l : List Int) : Option (Nt × List Int) :=
  match dv 0 0 l with
  | none => none
  | some (a, l1) => match dv 0 0 l1 with
    | none => none
    | some (b, l2) => match dv 0 0 l2 with
      | none => none
      | some (c, l3) => if 4096 < c then none else match dPath c l3 with
        | none => none
        | some (p, l4) => some (⟨uz a, uz b, p⟩, l4)

theorem dPath_step {k n : Nat} {l r : List Int} (e : dv 0 0 l = some (n, r)) (h4 : ¬ 4096 < n) : dPath (k + 1) l = (dPath k r).map (fun x => ((n : Int) :: x.1, x.2)) := by
  simp only [dPath, e, if_neg h4]
  cases dPath k r <;> rfl
theorem dPath_len {k : Nat} : ∀ {l r p : List Int}, dPath k l = some (p, r) → r.length ≤ l.length ∧ p.length = k := by
  induction k with
  | zero => intro l r p h; simp [dPath] at h; obtain ⟨rfl, rfl⟩ := h; simp
  | succ k ih =>
    intro l r p h
    simp only [dPath] at h
    cases e : dv 0 0 l with
    | none => rw [e] at h; cases h
    | some x =>
      obtain ⟨n, r1⟩ := x
      rw [e] at h
      simp only at h
      split at h; · cases h
      cases e2 : dPath k r1 with
      | none => rw [e2] at h; cases h
      | some y =>
        obtain ⟨q, r2⟩ := y
        rw [e2] at h
        simp only [Option.some.injEq, Prod.mk.injEq] at h
        obtain ⟨rfl, rfl⟩ := h
        have h1 := dv_len e
        have h2 := ih e2
        constructor
        · omega
        · simp; omega
theorem dPath_enc (p : List Int) (r : List Int) (h : ∀ d ∈ p, 0 ≤ d ∧ d ≤ 4096) : dPath p.length (pathB p ++ r) = some (p, r) := by
  induction p with
  | nil => simp [dPath, pathB]
  | cons d p ih =>
    have hd := h d List.mem_cons_self
    have e : pathB (d :: p) ++ r = vb d.toNat ++ (pathB p ++ r) := by simp [pathB]
    rw [e]
    simp only [List.length_cons, dPath]
    rw [dv_vb0 _ _ (by omega)]
    simp only
    rw [if_neg (by omega), ih (fun x hx => h x (List.mem_cons_of_mem _ hx))]
    simp; omega
theorem enc_dPath {k : Nat} : ∀ {l r p : List Int}, Byt l → dPath k l = some (p, r) → l = pathB p ++ r ∧ ∀ d ∈ p, 0 ≤ d ∧ d ≤ 4096 := by
  induction k with
  | zero => intro l r p _ h; simp [dPath] at h; obtain ⟨rfl, rfl⟩ := h; simp [pathB]
  | succ k ih =>
    intro l r p hb h
    simp only [dPath] at h
    cases e : dv 0 0 l with
    | none => rw [e] at h; cases h
    | some x =>
      obtain ⟨n, r1⟩ := x
      rw [e] at h
      simp only at h
      split at h; · cases h
      cases e2 : dPath k r1 with
      | none => rw [e2] at h; cases h
      | some y =>
        obtain ⟨q, r2⟩ := y
        rw [e2] at h
        simp only [Option.some.injEq, Prod.mk.injEq] at h
        obtain ⟨rfl, rfl⟩ := h
        obtain ⟨rfl, hn⟩ := vb_dv0 hb e
        obtain ⟨rfl, hq⟩ := ih hb.right e2
        refine ⟨by simp [pathB], fun d hd => ?_⟩
        rcases List.mem_cons.1 hd with rfl | hd
        · omega
        · exact hq d hd
theorem dNt_len {l r : List Int} {n : Nt} (h : dNt l = some (n, r)) : r.length < l.length := by
  unfold dNt at h
  cases e1 : dv 0 0 l with
  | none => rw [e1] at h; cases h
  | some x1 =>
    obtain ⟨a, l1⟩ := x1
    rw [e1] at h; simp only at h
    cases e2 : dv 0 0 l1 with
    | none => rw [e2] at h; cases h
    | some x2 =>
      obtain ⟨b, l2⟩ := x2
      rw [e2] at h; simp only at h
      cases e3 : dv 0 0 l2 with
      | none => rw [e3] at h; cases h
      | some x3 =>
        obtain ⟨c, l3⟩ := x3
        rw [e3] at h; simp only at h
        split at h; · cases h
        cases e4 : dPath c l3 with
        | none => rw [e4] at h; cases h
        | some x4 =>
          obtain ⟨p, l4⟩ := x4
          rw [e4] at h
          simp only [Option.some.injEq, Prod.mk.injEq] at h
          obtain ⟨_, rfl⟩ := h
          have := dv_len e1; have := dv_len e2; have := dv_len e3; have := (dPath_len e4).1
          omega
theorem dNt_enc {n : Nt} (h : OkNt n) (r : List Int) : dNt (encNt n ++ r) = some (n, r) := by
  unfold dNt encNt
  rw [List.append_assoc, dv_vb0 _ _ (zz_lt h.b)]
  simp only
  rw [List.append_assoc, dv_vb0 _ _ (zz_lt h.s)]
  simp only
  have := h.len
  rw [List.append_assoc, dv_vb0 _ _ (by omega)]
  simp only
  rw [if_neg (by omega), dPath_enc _ _ h.ds]
  simp only [uz_zz]
theorem enc_dNt {l r : List Int} {n : Nt} (hb : Byt l) (h : dNt l = some (n, r)) : l = encNt n ++ r ∧ OkNt n := by
  unfold dNt at h
  cases e1 : dv 0 0 l with
  | none => rw [e1] at h; cases h
  | some x1 =>
    obtain ⟨a, l1⟩ := x1
    rw [e1] at h; simp only at h
    obtain ⟨rfl, ha⟩ := vb_dv0 hb e1
    cases e2 : dv 0 0 l1 with
    | none => rw [e2] at h; cases h
    | some x2 =>
      obtain ⟨b, l2⟩ := x2
      rw [e2] at h; simp only at h
      obtain ⟨rfl, hb2⟩ := vb_dv0 hb.right e2
      cases e3 : dv 0 0 l2 with
      | none => rw [e3] at h; cases h
      | some x3 =>
        obtain ⟨c, l3⟩ := x3
        rw [e3] at h; simp only at h
        obtain ⟨rfl, hc⟩ := vb_dv0 hb.right.right e3
        split at h; · cases h
        cases e4 : dPath c l3 with
        | none => rw [e4] at h; cases h
        | some x4 =>
          obtain ⟨p, l4⟩ := x4
          rw [e4] at h
          simp only [Option.some.injEq, Prod.mk.injEq] at h
          obtain ⟨rfl, rfl⟩ := h
          obtain ⟨rfl, hp⟩ := enc_dPath hb.right.right.right e4
          have hl := (dPath_len e4).2
          refine ⟨?_, ⟨uz_i64 ha, uz_i64 hb2, by simp only; omega, hp⟩⟩
          simp only [encNt, zz_uz, hl, List.append_assoc]

/-- All notes of bytes. -/
def dAll (l : List Int) : Option (List Nt) :=
  if l = [] then some [] else
  match _h : dNt l with
  | none => none
  | some (n, r) => match dAll r with
    | none => none
    | some ns => some (n :: ns)
termination_by l.length
decreasing_by exact dNt_len (by assumption)
def encAll (ns : List Nt) : List Int := ns.flatMap encNt
theorem dAll_nil : dAll [] = some [] := by rw [dAll]; simp
theorem dAll_none {l : List Int} (h0 : l ≠ []) (h : dNt l = none) : dAll l = none := by
  rw [dAll, if_neg h0]; split
  · rfl
  · rename_i h2; rw [h] at h2; cases h2
theorem dAll_some {l r : List Int} {n : Nt} (h0 : l ≠ []) (h : dNt l = some (n, r)) : dAll l = match dAll r with | none => none | some ns => some (n :: ns) := by
  rw [dAll, if_neg h0]; split
  · rename_i h2; rw [h] at h2; cases h2
  · rename_i n2 r2 h2; rw [h] at h2; simp only [Option.some.injEq, Prod.mk.injEq] at h2; obtain ⟨rfl, rfl⟩ := h2; rfl
theorem encAll_byt (ns : List Nt) : Byt (encAll ns) := by
  intro x hx
  obtain ⟨d, _, h⟩ := List.mem_flatMap.1 hx
  exact encNt_byt _ x h
theorem dAll_enc : ∀ {ns : List Nt}, (∀ n ∈ ns, OkNt n) → dAll (encAll ns) = some ns
  | [], _ => by simp [encAll, dAll_nil]
  | n :: ns, h => by
    have e : encAll (n :: ns) = encNt n ++ encAll ns := by simp [encAll]
    rw [e, dAll_some (by have := encNt_ne n; simp [this]) (dNt_enc (h n List.mem_cons_self) _), dAll_enc (fun x hx => h x (List.mem_cons_of_mem _ hx))]
theorem enc_dAll_len (k : Nat) : ∀ {l : List Int} {ns : List Nt}, l.length ≤ k → Byt l → dAll l = some ns → l = encAll ns ∧ ∀ n ∈ ns, OkNt n := by
  induction k with
  | zero =>
    intro l ns hk _ h
    have : l = [] := List.eq_nil_of_length_eq_zero (by omega)
    subst this
    rw [dAll_nil] at h
    cases h
    simp [encAll]
  | succ k ih =>
    intro l ns hk hb h
    by_cases h0 : l = []
    · subst h0; rw [dAll_nil] at h; cases h; simp [encAll]
    · cases e : dNt l with
      | none => rw [dAll_none h0 e] at h; cases h
      | some x =>
        obtain ⟨n, r⟩ := x
        rw [dAll_some h0 e] at h
        have hl := dNt_len e
        obtain ⟨rfl, hn⟩ := enc_dNt hb e
        cases e2 : dAll r with
        | none => rw [e2] at h; cases h
        | some ms =>
          rw [e2] at h
          cases h
          obtain ⟨rfl, hm⟩ := ih (by omega) hb.right e2
          refine ⟨by simp [encAll], fun x hx => ?_⟩
          rcases List.mem_cons.1 hx with rfl | hx
          · exact hn
          · exact hm x hx
theorem enc_dAll {l : List Int} {ns : List Nt} (hb : Byt l) (h : dAll l = some ns) : l = encAll ns ∧ ∀ n ∈ ns, OkNt n := enc_dAll_len _ (Nat.le_refl _) hb h
end Go.Proofs.Ytebbikihhkjaaaa.Hand
/- What the program's reader reads is what 'dv', 'dNt' say. -/
namespace Go.Proofs.Ytebbikihhkjaaaa.Hand
open Go.RowKit Go.Proofs.YtebbikihhkjaaaaW.PrintWords Go.Proofs.YtebbikihhkjaaaaW.PrintMore Go.Proofs.Ytebbikihhkjaaaa.PSpillBytes

theorem bytesOf_byt (s : ByteArray) : Byt (bytesOf s) := by
  intro x hx
  obtain ⟨b, _, rfl⟩ := List.mem_map.1 hx
  have := b.toNat_lt
  omega
theorem bytesOf_str {l : List Int} (h : Byt l) : bytesOf (strOfNums l) = l := by
  unfold bytesOf
  rw [strOfNums_data, List.map_map]
  conv => rhs; rw [← List.map_id l]
  apply List.map_congr_left
  intro x hx
  have := h x hx
  simp only [Function.comp_apply, UInt8.toNat_ofNat', id_eq]
  omega
theorem str_bytesOf (s : ByteArray) : strOfNums (bytesOf s) = s := by
  apply ByteArray.ext
  apply Array.ext'
  rw [strOfNums_data]
  unfold bytesOf
  rw [List.map_map]
  conv => rhs; rw [← List.map_id s.data.toList]
  apply List.map_congr_left
  intro x _
  simp
theorem bytesOf_inj {s t : ByteArray} (h : bytesOf s = bytesOf t) : s = t := by rw [← str_bytesOf s, ← str_bytesOf t, h]
theorem bt_cons {s : ByteArray} {c : Int} {t : List Int} (h : bytesOf s = c :: t) : bt s 0 = c := by rw [← rd_bytesOf, h]; simp [rd]
theorem bytesOf_tail {s : ByteArray} {c : Int} {t : List Int} (h : bytesOf s = c :: t) : bytesOf (s.extract 1 s.size) = t := by
  have e : bytesOf (s.extract 1 s.size) = (bytesOf s).drop 1 := by
    unfold bytesOf
    rw [← List.map_drop]
    congr 1
    rw [ByteArray.data_extract, Array.toList_extract, List.extract_eq_take_drop]
    exact List.take_of_length_le (by rw [List.length_drop, data_length]; exact Nat.le_refl _)
  rw [e, h]; rfl
theorem size_of_bytes {s : ByteArray} {l : List Int} (h : bytesOf s = l) : s.size = l.length := by rw [← h, bytesOf_length]

theorem wrap_u64_id {n : Int} (h0 : 0 ≤ n) (h : n < 18446744073709551616) : IntKind.u64.wrap n = n := by rw [IntKind.wrap_u64]; omega
theorem wraps_u64 (n : Int) (h₀ : 0 ≤ n) (h₁ : n < 2 ^ 64) : IntKind.u64.wrap n = n := wrap_u64_id h₀ (by simpa using h₁)
theorem and127 {c : Int} (h0 : 0 ≤ c) (h1 : c < 256) : Go.bits .and .u8 c 127 = c % 128 := bits_mask .u8 8 (by decide) wraps_u8 7 (by decide) c h0 h1
theorem and128 {c : Int} (h0 : 0 ≤ c) (h1 : c < 256) : Go.bits .and .u8 c 128 = if c < 128 then 0 else 128 := by
  obtain ⟨a, rfl⟩ := Int.eq_ofNat_of_zero_le h0
  have ha : a < 256 := by omega
  have h := (bits_nat .u8 8 (by decide) wraps_u8 a 128 ha (by decide)).1
  have h2 : ∀ a : Nat, a < 256 → (a &&& 128) = if a < 128 then 0 else 128 := by decide +kernel
  rw [h2 a ha] at h
  have e : ((128 : Nat) : Int) = 128 := rfl
  rw [e] at h
  rw [h]
  split <;> split <;> omega
theorem bits_or_comm (k : IntKind) (j : Nat) (hj : j ≤ k.bits) (hk : ∀ n : Int, 0 ≤ n → n < 2 ^ j → k.wrap n = n) (x y : Int) (hx0 : 0 ≤ x) (hx1 : x < 2 ^ j) (hy0 : 0 ≤ y) (hy1 : y < 2 ^ j) : Go.bits .or k x y = Go.bits .or k y x := by
  obtain ⟨a, rfl⟩ := Int.eq_ofNat_of_zero_le hx0
  obtain ⟨b, rfl⟩ := Int.eq_ofNat_of_zero_le hy0
  have ha : a < 2 ^ j := by exact_mod_cast hx1
  have hb : b < 2 ^ j := by exact_mod_cast hy1
  rw [(bits_nat k j hj hk a b ha hb).2, (bits_nat k j hj hk b a hb ha).2, Nat.or_comm]

/-- What a part comes to at its place. -/
theorem pow_27 (i : Nat) : (2 : Nat) ^ (7 * i) = 128 ^ i := by rw [Nat.pow_mul]
theorem part_lt {p i : Nat} (hp : p < 128) (hi : i ≤ 9) (h9 : i = 9 → p < 2) : p * 128 ^ i < 18446744073709551616 := by
  rcases Nat.lt_or_ge i 9 with h | h
  · have : 128 ^ i ≤ 128 ^ 8 := Nat.pow_le_pow_right (by decide) (by omega)
    have h8 : (128 : Nat) ^ 8 = 72057594037927936 := by decide
    have : p * 128 ^ i ≤ 127 * 128 ^ 8 := Nat.mul_le_mul (by omega) this
    omega
  · have h : i = 9 := by omega
    subst h
    rw [pow128_9]
    have := h9 rfl
    omega
theorem shl_u64 (x i : Nat) (hi : i ≤ 9) : shl .u64 (x : Int) ((7 * i : Nat) : Int) = ((x * 128 ^ i % 18446744073709551616 : Nat) : Int) := by
  unfold shl
  have e : min ((7 * i : Nat) : Int).toNat IntKind.u64.bits = 7 * i := by
    have : IntKind.u64.bits = 64 := rfl
    rw [this]; omega
  rw [e, IntKind.wrap_u64, ← pow_27]
  simp only [Int.natCast_emod, Int.natCast_mul, Int.natCast_pow, Int.cast_ofNat_Int]
theorem shr_u64 (x i : Nat) (hi : i ≤ 9) : shr .u64 (x : Int) ((7 * i : Nat) : Int) = ((x / 128 ^ i : Nat) : Int) := by
  unfold shr
  have e : min ((7 * i : Nat) : Int).toNat IntKind.u64.bits = 7 * i := by
    have : IntKind.u64.bits = 64 := rfl
    rw [this]; omega
  rw [e, ← pow_27]
  simp only [Int.natCast_ediv, Int.natCast_pow, Int.cast_ofNat_Int]
theorem fits_iff (p i : Nat) (hp : p < 128) (hi : i ≤ 9) : shr .u64 (shl .u64 (p : Int) ((7 * i : Nat) : Int)) ((7 * i : Nat) : Int) = (p : Int) ↔ ¬ (i = 9 ∧ 1 < p) := by
  rw [shl_u64 p i hi, shr_u64 _ i hi]
  have hpos : 0 < 128 ^ i := Nat.pow_pos (by decide)
  rcases Nat.lt_or_ge i 9 with h | h
  · have := part_lt hp hi (by omega)
    rw [Nat.mod_eq_of_lt this, Nat.mul_div_cancel _ hpos]
    exact ⟨fun _ h2 => by omega, fun _ => rfl⟩
  · have h : i = 9 := by omega
    subst h
    rw [pow128_9]
    constructor
    · intro h1 h2; omega
    · intro h1; have : p ≤ 1 := by omega
      omega
theorem or_part (acc p i : Nat) (hp : p < 128) (hi : i ≤ 9) (h9 : i = 9 → p < 2) (ha : acc < 128 ^ i) : Go.bits .or .u64 (acc : Int) (shl .u64 (p : Int) ((7 * i : Nat) : Int)) = ((acc + p * 128 ^ i : Nat) : Int) := by
  have h1 := part_lt hp hi h9
  have h2 : 128 ^ i ≤ 128 ^ 9 := Nat.pow_le_pow_right (by decide) hi
  rw [pow128_9] at h2
  rw [shl_u64 p i hi, Nat.mod_eq_of_lt h1]
  have e64 : (2 : Int) ^ 64 = 18446744073709551616 := by decide
  rw [bits_or_comm .u64 64 (by decide) wraps_u64 _ _ (by omega) (by omega) (by omega) (by omega)]
  rw [bits_join .u64 64 (by decide) wraps_u64 (7 * i) _ _ (by omega) ?_ (by omega) (by omega) ?_ (by omega)]
  · push_cast; rw [Int.add_comm]
  · have : ((p * 128 ^ i : Nat) : Int) % 2 ^ (7 * i) = (((p * 128 ^ i) % 2 ^ (7 * i) : Nat) : Int) := by push_cast; rfl
    rw [this, pow_27, Nat.mul_mod_left]; rfl
  · have : ((2 : Int) ^ (7 * i)) = ((2 ^ (7 * i) : Nat) : Int) := by push_cast; rfl
    rw [this, pow_27]
    exact_mod_cast ha

/-- The number at the head, read by the program. -/
theorem number_reads (L : List Int) : ∀ (s : ByteArray) (i acc k : Nat) (bad : Bool), bytesOf s = L → i ≤ 10 → acc < 128 ^ i → 3 * (11 - i) < k →
    (∀ n r, dv i acc L = some (n, r) → ∃ s1, spill_reader_number.l0 k (acc : Int) ((7 * i : Nat) : Int) s bad = some ((n : Int), s1, bad) ∧ bytesOf s1 = r) ∧
    (dv i acc L = none → ∃ s1, spill_reader_number.l0 k (acc : Int) ((7 * i : Nat) : Int) s bad = some (0, s1, true) ∧ s1.size ≤ s.size) := by
  induction L with
  | nil =>
    intro s i acc k bad hs hi ha hk
    refine ⟨fun n r h => by simp [dv] at h, fun _ => ⟨s, ?_, Nat.le_refl _⟩⟩
    have h0 : s.size = 0 := size_of_bytes hs
    obtain ⟨k, rfl⟩ : ∃ m, k = m + 1 + 1 := ⟨k - 2, by omega⟩
    simp only [spill_reader_number.l0]
    rw [if_neg (by omega)]
    simp only [spill_reader_number.j1]
    rfl
  | cons c t ih =>
    intro s i acc k bad hs hi ha hk
    have hc := bytesOf_byt s c (by rw [hs]; exact List.mem_cons_self)
    have hsz : s.size = t.length + 1 := by rw [size_of_bytes hs]; rfl
    have hbt := bt_cons hs
    have htl := bytesOf_tail hs
    have hts : (s.extract 1 s.size).size = t.length := size_of_bytes htl
    obtain ⟨k, rfl⟩ : ∃ m, k = m + 1 + 1 + 1 := ⟨k - 3, by omega⟩
    obtain ⟨p, hp⟩ : ∃ p : Nat, p = c.toNat % 128 := ⟨_, rfl⟩
    have hp128 : p < 128 := by omega
    have hpart : IntKind.u64.wrap (Go.bits .and .u8 (bt s 0) 127) = (p : Int) := by
      rw [hbt, and127 hc.1 hc.2, wrap_u64_id (by omega) (by omega)]
      omega
    have step : spill_reader_number.l0 (k + 1 + 1 + 1) (acc : Int) ((7 * i : Nat) : Int) s bad = spill_reader_number.j1 (k + 1 + 1) (acc : Int) ((7 * i : Nat) : Int) (decide (((7 * i : Nat) : Int) < 64)) s bad := by
      conv => lhs; unfold spill_reader_number.l0
      rw [if_pos (by omega)]
    rw [step]
    clear step
    by_cases h10 : 9 < i
    · -- it is too long
      have : decide (((7 * i : Nat) : Int) < 64) = false := decide_eq_false (by omega)
      rw [this]
      refine ⟨fun n r h => by simp [dv, h10] at h, fun _ => ⟨s, ?_, Nat.le_refl _⟩⟩
      simp only [spill_reader_number.j1]
      rfl
    have h9 : i ≤ 9 := by omega
    have : decide (((7 * i : Nat) : Int) < 64) = true := decide_eq_true (by omega)
    rw [this]
    have fits := fits_iff p i hp128 h9
    -- the second join
    have step : ∃ b : Bool, b = decide ((i = 9 ∧ 1 < p) ∨ (c = 0 ∧ 0 < i)) ∧ spill_reader_number.j1 (k + 1 + 1) (acc : Int) ((7 * i : Nat) : Int) true s bad = spill_reader_number.j2 (k + 1) (acc : Int) ((7 * i : Nat) : Int) c (p : Int) b (s.extract 1 s.size) bad := by
      refine ⟨_, rfl, ?_⟩
      conv => lhs; unfold spill_reader_number.j1
      rw [if_pos rfl, if_pos (by omega), if_pos (by omega), if_pos (by omega), hpart, hbt]
      by_cases hf : i = 9 ∧ 1 < p
      · rw [if_neg (fun h => (fits.1 h) hf)]
        congr 1
        simp [hf]
      · rw [if_pos (fits.2 hf)]
        by_cases hc0 : c = 0
        · rw [if_pos hc0]
          congr 1
          simp [hf, hc0]
          omega
        · rw [if_neg hc0]
          congr 1
          simp [hf, hc0]
    obtain ⟨b, hb, step⟩ := step
    rw [step]
    clear step
    have hpow : (128 : Nat) ^ (i + 1) = 128 * 128 ^ i := by rw [Nat.pow_succ, Nat.mul_comm]
    simp only [dv]
    rw [if_neg h10, ← hp]
    by_cases g2 : i = 9 ∧ 1 < p
    · have : b = true := by rw [hb]; simp [g2]
      subst this
      rw [if_pos g2]
      refine ⟨fun n r h => (by cases h), fun _ => ⟨s.extract 1 s.size, ?_, by omega⟩⟩
      simp only [spill_reader_number.j2]
      rfl
    rw [if_neg g2]
    by_cases g3 : c = 0 ∧ 0 < i
    · have : b = true := by rw [hb]; simp [g3]
      subst this
      rw [if_pos g3]
      refine ⟨fun n r h => (by cases h), fun _ => ⟨s.extract 1 s.size, ?_, by omega⟩⟩
      simp only [spill_reader_number.j2]
      rfl
    rw [if_neg g3]
    have hbf : b = false := by rw [hb]; exact decide_eq_false (fun h => h.elim g2 g3)
    subst hbf
    have hor := or_part acc p i hp128 h9 (fun e => by omega) ha
    have step : spill_reader_number.j2 (k + 1) (acc : Int) ((7 * i : Nat) : Int) c (p : Int) false (s.extract 1 s.size) bad = if c < 128 then some (((acc + p * 128 ^ i : Nat) : Int), s.extract 1 s.size, bad) else spill_reader_number.l0 k ((acc + p * 128 ^ i : Nat) : Int) ((7 * (i + 1) : Nat) : Int) (s.extract 1 s.size) bad := by
      conv => lhs; unfold spill_reader_number.j2
      rw [if_neg (by simp), if_pos (by omega), hor, and128 hc.1 hc.2]
      have hw : wrap64 (((7 * i : Nat) : Int) + 7) = ((7 * (i + 1) : Nat) : Int) := by unfold wrap64; omega
      rw [hw]
      by_cases g4 : c < 128
      · rw [if_pos g4, if_pos rfl, if_pos g4]
      · rw [if_neg g4, if_neg (by decide), if_neg g4]
    rw [step]
    clear step
    by_cases g4 : c < 128
    · rw [if_pos g4, if_pos g4]
      refine ⟨fun n r h => ?_, fun h => by cases h⟩
      simp only [Option.some.injEq, Prod.mk.injEq] at h
      obtain ⟨rfl, rfl⟩ := h
      exact ⟨_, rfl, htl⟩
    · rw [if_neg g4, if_neg g4]
      have hacc : acc + p * 128 ^ i < 128 ^ (i + 1) := by
        rw [hpow]
        have : p * 128 ^ i ≤ 127 * 128 ^ i := Nat.mul_le_mul_right _ (by omega)
        omega
      obtain ⟨h1, h2⟩ := ih (s.extract 1 s.size) (i + 1) (acc + p * 128 ^ i) k bad htl (by omega) hacc (by omega)
      refine ⟨h1, fun h => ?_⟩
      obtain ⟨s1, e1, e2⟩ := h2 h
      exact ⟨s1, e1, by omega⟩

theorem number_yes {s : ByteArray} {n : Nat} {r : List Int} (k : Nat) (bad : Bool) (hk : 33 < k) (h : dv 0 0 (bytesOf s) = some (n, r)) : ∃ s1, spill_reader_number.f k s bad = some ((n : Int), s1, bad) ∧ bytesOf s1 = r := by
  have := (number_reads _ s 0 0 k bad rfl (by omega) (by simp) (by omega)).1 n r h
  simpa [spill_reader_number.f] using this
theorem number_no {s : ByteArray} (k : Nat) (bad : Bool) (hk : 33 < k) (h : dv 0 0 (bytesOf s) = none) : ∃ s1, spill_reader_number.f k s bad = some (0, s1, true) ∧ s1.size ≤ s.size := by
  have := (number_reads _ s 0 0 k bad rfl (by omega) (by simp) (by omega)).2 h
  simpa [spill_reader_number.f] using this
/-- Whatever is read: a number, and what was bad stays bad. -/
theorem number_any (s : ByteArray) (k : Nat) (bad : Bool) (hk : 33 < k) : ∃ (n : Nat) (s1 : ByteArray) (b1 : Bool), spill_reader_number.f k s bad = some ((n : Int), s1, b1) ∧ s1.size ≤ s.size ∧ n < 18446744073709551616 ∧ (bad = true → b1 = true) := by
  cases h : dv 0 0 (bytesOf s) with
  | none =>
    obtain ⟨s1, e, hl⟩ := number_no k bad hk h
    exact ⟨0, s1, true, e, hl, by omega, fun _ => rfl⟩
  | some x =>
    obtain ⟨n, r⟩ := x
    obtain ⟨s1, e, hr⟩ := number_yes k bad hk h
    have h1 := dv_len h
    have h2 := size_of_bytes hr
    have h3 := (vb_dv0 (bytesOf_byt s) h).2
    rw [bytesOf_length] at h1
    exact ⟨n, s1, bad, e, by omega, h3, fun h => h⟩

/-! a number with a sign -/
theorem and1 {n : Nat} (h : n < 18446744073709551616) : Go.bits .and .u64 (n : Int) 1 = ((n % 2 : Nat) : Int) := by
  have := bits_mask .u64 64 (by decide) wraps_u64 1 (by decide) (n : Int) (by omega) (by omega)
  have e : (2 : Int) ^ 1 - 1 = 1 := by decide
  have e2 : (2 : Int) ^ 1 = 2 := by decide
  rw [e, e2] at this
  rw [this]; omega
theorem wrap_i64_id {n : Int} (h : I64 n) : IntKind.i64.wrap n = n := by unfold I64 at h; rw [IntKind.wrap_i64]; omega
theorem ofInt_toNat (x : Int) : ((BitVec.ofInt 64 x).toNat : Int) = x % 18446744073709551616 := by
  rw [BitVec.toNat_ofInt]
  have : (((2 ^ 64 : Nat)) : Int) = 18446744073709551616 := by decide
  rw [this]
  omega
theorem xor0_u64 {x : Int} (h0 : 0 ≤ x) (h1 : x < 18446744073709551616) : Go.bits .xor .u64 x 0 = x := by
  show IntKind.u64.wrap (((BitVec.ofInt 64 x ^^^ BitVec.ofInt 64 0).toNat : Nat) : Int) = x
  have e : BitVec.ofInt 64 0 = 0#64 := by decide
  rw [e, BitVec.xor_zero, ofInt_toNat, IntKind.wrap_u64]
  omega
theorem xor0_i64 {x : Int} (h : I64 x) : Go.bits .xor .i64 x 0 = x := by
  unfold I64 at h
  show IntKind.i64.wrap (((BitVec.ofInt 64 x ^^^ BitVec.ofInt 64 0).toNat : Nat) : Int) = x
  have e : BitVec.ofInt 64 0 = 0#64 := by decide
  rw [e, BitVec.xor_zero, ofInt_toNat, IntKind.wrap_i64]
  omega
theorem xor1_toNat (x : Int) : (((BitVec.ofInt 64 x ^^^ BitVec.allOnes 64).toNat : Nat) : Int) = 18446744073709551615 - x % 18446744073709551616 := by
  have h := ofInt_toNat x
  have hl := (BitVec.ofInt 64 x).isLt
  rw [BitVec.xor_allOnes, BitVec.toNat_not]
  have e : (2 : Nat) ^ 64 = 18446744073709551616 := by decide
  rw [e] at hl ⊢
  omega
theorem xor1_u64 {x : Int} (h0 : 0 ≤ x) (h1 : x < 18446744073709551616) : Go.bits .xor .u64 x 18446744073709551615 = 18446744073709551615 - x := by
  show IntKind.u64.wrap (((BitVec.ofInt 64 x ^^^ BitVec.ofInt 64 18446744073709551615).toNat : Nat) : Int) = _
  have e : BitVec.ofInt 64 18446744073709551615 = BitVec.allOnes 64 := by decide
  rw [e, xor1_toNat, IntKind.wrap_u64]
  omega
theorem xor1_i64 {x : Int} (h : I64 x) : Go.bits .xor .i64 x (-1) = -x - 1 := by
  unfold I64 at h
  show IntKind.i64.wrap (((BitVec.ofInt 64 x ^^^ BitVec.ofInt 64 (-1)).toNat : Nat) : Int) = _
  have e : BitVec.ofInt 64 (-1) = BitVec.allOnes 64 := by decide
  rw [e, xor1_toNat, IntKind.wrap_i64]
  omega

theorem back_of {s s1 : ByteArray} {n : Nat} {bad b1 : Bool} (k : Nat) (hn : n < 18446744073709551616) (h : spill_reader_number.f k s bad = some ((n : Int), s1, b1)) : spill_reader_back.f k s bad = some (uz n, s1, b1) := by
  unfold spill_reader_back.f
  rw [h]
  simp only [Option.bind_some]
  rw [and1 hn]
  have e1 : wrap64 ((n : Int) / 2) = ((n / 2 : Nat) : Int) := by unfold wrap64; omega
  rw [e1]
  rcases Nat.mod_two_eq_zero_or_one n with h2 | h2
  · have e2 : wrap64 (-(wrap64 ((n % 2 : Nat) : Int))) = 0 := by rw [h2]; unfold wrap64; omega
    rw [e2, xor0_i64 (by unfold I64; omega)]
    simp [uz, h2]
  · have e2 : wrap64 (-(wrap64 ((n % 2 : Nat) : Int))) = -1 := by rw [h2]; unfold wrap64; omega
    rw [e2, xor1_i64 (by unfold I64; omega)]
    simp [uz, h2]
theorem size_of_ {s s1 : ByteArray} {n : Nat} {bad b1 : Bool} (k : Nat) (h : spill_reader_number.f k s bad = some ((n : Int), s1, b1)) : spill_reader_size.f k s bad = if 4096 < n then some (0, s1, true) else some ((n : Int), s1, b1) := by
  unfold spill_reader_size.f
  rw [h]
  simp only [Option.bind_some]
  by_cases h2 : 4096 < n
  · rw [if_pos (by omega), if_pos h2]
  · rw [if_neg (by omega), if_neg h2]
    have e : wrap64 ((n : Int)) = n := by unfold wrap64; omega
    rw [e]

/-- The path, read by the program. -/
theorem path_reads (d : Nat) : ∀ (s : ByteArray) (c i k : Nat) (b x sq : Int) (p : List Int), c - i = d → i ≤ c → c ≤ 4096 → p.length = i → d + 40 < k →
    (∀ q r, dPath d (bytesOf s) = some (q, r) → ∃ s1, spill_reader_note.l0 k (c : Int) (i : Int) s false b x sq p = some (b, ((p ++ q).length : Int), sq, p ++ q, s1, false) ∧ bytesOf s1 = r) ∧
    (dPath d (bytesOf s) = none → ∃ q s1, spill_reader_note.l0 k (c : Int) (i : Int) s false b x sq p = some (b, (q.length : Int), sq, q, s1, true) ∧ s1.size ≤ s.size ∧ q.length ≤ 4096 ∧ ∀ z ∈ q, z ∈ p ∨ (0 ≤ z ∧ z ≤ 4096)) := by
  induction d with
  | zero =>
    intro s c i k b x sq p hd hi hc hp hk
    obtain ⟨k, rfl⟩ : ∃ m, k = m + 1 := ⟨k - 1, by omega⟩
    refine ⟨fun q r h => ?_, fun h => by simp [dPath] at h⟩
    simp only [dPath, Option.some.injEq, Prod.mk.injEq] at h
    obtain ⟨rfl, rfl⟩ := h
    refine ⟨s, ?_, rfl⟩
    simp only [spill_reader_note.l0]
    rw [if_neg (by omega), List.append_nil]
  | succ d ih =>
    intro s c i k b x sq p hd hi hc hp hk
    obtain ⟨k, rfl⟩ : ∃ m, k = m + 1 := ⟨k - 1, by omega⟩
    have hw : wrap64 ((i : Int) + 1) = ((i + 1 : Nat) : Int) := by unfold wrap64; omega
    have step : spill_reader_note.l0 (k + 1) (c : Int) (i : Int) s false b x sq p = (spill_reader_size.f k s false).bind fun bt127 => spill_reader_note.l0 k (c : Int) ((i + 1 : Nat) : Int) bt127.2.1 bt127.2.2 b x sq (p ++ [bt127.1]) := by
      conv => lhs; unfold spill_reader_note.l0
      rw [if_pos (by omega), if_neg (by simp), hw]
      congr 1
      funext t
      rw [if_pos (by omega)]
    rw [step]
    clear step
    cases e : dv 0 0 (bytesOf s) with
    | none =>
      refine ⟨fun q r h => by simp [dPath, e] at h, fun _ => ?_⟩
      obtain ⟨s1, h1, hl⟩ := number_no k false (by omega) e
      rw [size_of_ (n := 0) k h1]
      simp only [Option.bind_some, if_neg (show ¬ 4096 < 0 by omega)]
      obtain ⟨k, rfl⟩ : ∃ m, k = m + 1 := ⟨k - 1, by omega⟩
      refine ⟨p ++ [0], s1, ?_, hl, by simp; omega, fun z hz => ?_⟩
      · simp only [spill_reader_note.l0]
        by_cases hh : ((i + 1 : Nat) : Int) < c
        · rw [if_pos hh]; simp
        · rw [if_neg hh]; simp
      · rcases List.mem_append.1 hz with h | h
        · exact .inl h
        · simp at h; subst h; exact .inr ⟨by omega, by omega⟩
    | some y =>
      obtain ⟨n, r1⟩ := y
      obtain ⟨s1, h1, hr⟩ := number_yes k false (by omega) e
      have hl1 := dv_len e
      have hs1 := size_of_bytes hr
      rw [bytesOf_length] at hl1
      rw [size_of_ k h1]
      by_cases h4 : 4096 < n
      · refine ⟨fun q r h => by simp [dPath, e, h4] at h, fun _ => ?_⟩
        rw [if_pos h4]
        simp only [Option.bind_some]
        obtain ⟨k, rfl⟩ : ∃ m, k = m + 1 := ⟨k - 1, by omega⟩
        refine ⟨p ++ [0], s1, ?_, by omega, by simp; omega, fun z hz => ?_⟩
        · simp only [spill_reader_note.l0]
          by_cases hh : ((i + 1 : Nat) : Int) < c
          · rw [if_pos hh]; simp
          · rw [if_neg hh]
        · rcases List.mem_append.1 hz with h | h
          · exact .inl h
          · simp at h; subst h; exact .inr ⟨by omega, by omega⟩
      · rw [if_neg h4]
        simp only [Option.bind_some]
        obtain ⟨g1, g2⟩ := ih s1 c (i + 1) k b x sq (p ++ [(n : Int)]) (by omega) (by omega) hc (by simp; omega) (by omega)
        rw [hr] at g1 g2
        rw [dPath_step e h4]
        cases e2 : dPath d r1 with
        | none =>
          refine ⟨fun q r h => (by cases h), fun _ => ?_⟩
          obtain ⟨q, s2, a1, a2, a3, a4⟩ := g2 e2
          refine ⟨q, s2, a1, by omega, a3, fun z hz => ?_⟩
          rcases a4 z hz with h | h
          · rcases List.mem_append.1 h with h | h
            · exact .inl h
            · simp at h; subst h; exact .inr ⟨by omega, by omega⟩
          · exact .inr h
        | some y2 =>
          obtain ⟨q2, r2⟩ := y2
          refine ⟨fun q r h => ?_, fun h => by cases h⟩
          simp only [Option.map_some, Option.some.injEq, Prod.mk.injEq] at h
          obtain ⟨rfl, rfl⟩ := h
          obtain ⟨s2, a1, a2⟩ := g1 q2 r2 e2
          refine ⟨s2, ?_, a2⟩
          rw [a1]
          simp

/-- A note, read by the program. -/
theorem note_yes {s : ByteArray} {n : Nt} {r : List Int} (k : Nat) (hk : 4140 < k) (h : dNt (bytesOf s) = some (n, r)) :
    ∃ s1, spill_reader_note.f k s false = some (n.b, (n.path.length : Int), n.s, n.path, s1, false) ∧ bytesOf s1 = r := by
  unfold dNt at h
  unfold spill_reader_note.f
  cases e1 : dv 0 0 (bytesOf s) with
  | none => rw [e1] at h; cases h
  | some x1 =>
    obtain ⟨a, l1⟩ := x1
    rw [e1] at h; simp only at h
    obtain ⟨s1, h1, hr1⟩ := number_yes k false (by omega) e1
    have ha := (vb_dv0 (bytesOf_byt s) e1).2
    rw [back_of k ha h1]
    simp only [Option.bind_some]
    rw [← hr1] at h
    cases e2 : dv 0 0 (bytesOf s1) with
    | none => rw [e2] at h; cases h
    | some x2 =>
      obtain ⟨b, l2⟩ := x2
      rw [e2] at h; simp only at h
      obtain ⟨s2, h2, hr2⟩ := number_yes k false (by omega) e2
      have hb := (vb_dv0 (bytesOf_byt s1) e2).2
      rw [back_of k hb h2]
      simp only [Option.bind_some]
      rw [← hr2] at h
      cases e3 : dv 0 0 (bytesOf s2) with
      | none => rw [e3] at h; cases h
      | some x3 =>
        obtain ⟨c, l3⟩ := x3
        rw [e3] at h; simp only at h
        obtain ⟨s3, h3, hr3⟩ := number_yes k false (by omega) e3
        rw [size_of_ k h3]
        by_cases h4 : 4096 < c
        · rw [if_pos h4] at h; cases h
        rw [if_neg h4] at h
        rw [if_neg h4]
        simp only [Option.bind_some]
        rw [← hr3] at h
        cases e4 : dPath c (bytesOf s3) with
        | none => rw [e4] at h; cases h
        | some x4 =>
          obtain ⟨p, l4⟩ := x4
          rw [e4] at h
          simp only [Option.some.injEq, Prod.mk.injEq] at h
          obtain ⟨rfl, rfl⟩ := h
          obtain ⟨s4, h5, hr4⟩ := (path_reads c s3 c 0 k (uz a) 0 (uz b) [] (by omega) (by omega) (by omega) rfl (by omega)).1 p l4 e4
          exact ⟨s4, by simpa using h5, hr4⟩
/-- .. and where there is none. -/
theorem note_no {s : ByteArray} (k : Nat) (hk : 4140 < k) (h : dNt (bytesOf s) = none) :
    ∃ (b d sq : Int) (q : List Int) (s1 : ByteArray), spill_reader_note.f k s false = some (b, d, sq, q, s1, true) ∧ q.length ≤ 4096 := by
  have loopBad : ∀ (c : Nat) (s : ByteArray) (b x sq : Int), spill_reader_note.l0 k (c : Int) 0 s true b x sq [] = some (b, 0, sq, [], s, true) := by
    intro c s b x sq
    obtain ⟨k, rfl⟩ : ∃ m, k = m + 1 := ⟨k - 1, by omega⟩
    simp only [spill_reader_note.l0]
    by_cases hh : (0 : Int) < c
    · rw [if_pos hh]; simp
    · rw [if_neg hh]; simp
  have sizeBad : ∀ (s : ByteArray), ∃ (c : Nat) (s1 : ByteArray), spill_reader_size.f k s true = some ((c : Int), s1, true) := by
    intro s
    obtain ⟨n, s1, b1, e, _, _, hb⟩ := number_any s k true (by omega)
    obtain rfl := hb rfl
    rw [size_of_ k e]
    by_cases h4 : 4096 < n
    · rw [if_pos h4]; exact ⟨0, s1, rfl⟩
    · rw [if_neg h4]; exact ⟨n, s1, rfl⟩
  have backBad : ∀ (s : ByteArray), ∃ (c : Int) (s1 : ByteArray), spill_reader_back.f k s true = some (c, s1, true) := by
    intro s
    obtain ⟨n, s1, b1, e, _, hn, hb⟩ := number_any s k true (by omega)
    obtain rfl := hb rfl
    exact ⟨_, s1, back_of k hn e⟩
  unfold dNt at h
  unfold spill_reader_note.f
  cases e1 : dv 0 0 (bytesOf s) with
  | none =>
    obtain ⟨s1, h1, _⟩ := number_no k false (by omega) e1
    rw [back_of (n := 0) k (by omega) h1]
    simp only [Option.bind_some]
    obtain ⟨c2, s2, h2⟩ := backBad s1
    rw [h2]
    simp only [Option.bind_some]
    obtain ⟨c3, s3, h3⟩ := sizeBad s2
    rw [h3]
    simp only [Option.bind_some]
    exact ⟨_, _, _, _, _, loopBad _ _ _ _ _, by simp⟩
  | some x1 =>
    obtain ⟨a, l1⟩ := x1
    rw [e1] at h; simp only at h
    obtain ⟨s1, h1, hr1⟩ := number_yes k false (by omega) e1
    have ha := (vb_dv0 (bytesOf_byt s) e1).2
    rw [back_of k ha h1]
    simp only [Option.bind_some]
    rw [← hr1] at h
    cases e2 : dv 0 0 (bytesOf s1) with
    | none =>
      obtain ⟨s2, h2, _⟩ := number_no k false (by omega) e2
      rw [back_of (n := 0) k (by omega) h2]
      simp only [Option.bind_some]
      obtain ⟨c3, s3, h3⟩ := sizeBad s2
      rw [h3]
      simp only [Option.bind_some]
      exact ⟨_, _, _, _, _, loopBad _ _ _ _ _, by simp⟩
    | some x2 =>
      obtain ⟨b, l2⟩ := x2
      rw [e2] at h; simp only at h
      obtain ⟨s2, h2, hr2⟩ := number_yes k false (by omega) e2
      have hb := (vb_dv0 (bytesOf_byt s1) e2).2
      rw [back_of k hb h2]
      simp only [Option.bind_some]
      rw [← hr2] at h
      cases e3 : dv 0 0 (bytesOf s2) with
      | none =>
        obtain ⟨s3, h3, _⟩ := number_no k false (by omega) e3
        rw [size_of_ (n := 0) k h3, if_neg (by omega)]
        simp only [Option.bind_some]
        exact ⟨_, _, _, _, _, loopBad 0 _ _ _ _, by simp⟩
      | some x3 =>
        obtain ⟨c, l3⟩ := x3
        rw [e3] at h; simp only at h
        obtain ⟨s3, h3, hr3⟩ := number_yes k false (by omega) e3
        rw [size_of_ k h3]
        by_cases h4 : 4096 < c
        · rw [if_pos h4]
          simp only [Option.bind_some]
          exact ⟨_, _, _, _, _, loopBad 0 _ _ _ _, by simp⟩
        rw [if_neg h4] at h
        rw [if_neg h4]
        simp only [Option.bind_some]
        rw [← hr3] at h
        cases e4 : dPath c (bytesOf s3) with
        | none =>
          obtain ⟨q, s4, h5, _, h6, _⟩ := (path_reads c s3 c 0 k (uz a) 0 (uz b) [] (by omega) (by omega) (by omega) rfl (by omega)).2 e4
          exact ⟨_, _, _, _, _, h5, h6⟩
        | some x4 =>
          obtain ⟨p, l4⟩ := x4
          rw [e4] at h; cases h
end Go.Proofs.Ytebbikihhkjaaaa.Hand
