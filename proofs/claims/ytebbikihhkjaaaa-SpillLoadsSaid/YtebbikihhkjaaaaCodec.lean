/- The bytes of numbers and notes, as lists of whole numbers: what is written, what is read, and that the one is the other's inverse. Plain: no program, no memory. -/
import Derived.Laws.BytesArg
import Derived.Laws.Bits64
import Derived.Laws.BitsLemmas
namespace Go.Proofs.Ytebbikihhkjaaaa.Hand

/-- A number's bytes. -/
def vb (n : Nat) : List Int := if n < 128 then [(n : Int)] else ((n % 128 + 128 : Nat) : Int) :: vb (n / 128)
termination_by n
decreasing_by omega

theorem vb_small {n : Nat} (h : n < 128) : vb n = [(n : Int)] := by rw [vb, if_pos h]
theorem vb_big {n : Nat} (h : ¬ n < 128) : vb n = ((n % 128 + 128 : Nat) : Int) :: vb (n / 128) := by rw [vb, if_neg h]
theorem vb_ne (n : Nat) : vb n ≠ [] := by
  rw [vb]; split <;> simp
theorem vb_pos (n : Nat) : 0 < (vb n).length := List.length_pos_iff.2 (vb_ne n)

/-- A list of bytes. -/
def Byt (l : List Int) : Prop := ∀ x ∈ l, 0 ≤ x ∧ x < 256
theorem Byt.nil : Byt [] := by intro x hx; cases hx
theorem Byt.append {a b : List Int} (ha : Byt a) (hb : Byt b) : Byt (a ++ b) := by
  intro x hx
  rcases List.mem_append.1 hx with h | h
  · exact ha x h
  · exact hb x h
theorem Byt.left {a b : List Int} (h : Byt (a ++ b)) : Byt a := fun x hx => h x (List.mem_append_left _ hx)
theorem Byt.right {a b : List Int} (h : Byt (a ++ b)) : Byt b := fun x hx => h x (List.mem_append_right _ hx)
theorem vb_byt (n : Nat) : Byt (vb n) := by
  induction n using Nat.strongRecOn with
  | ind n ih =>
    by_cases h : n < 128
    · rw [vb_small h]; intro x hx; simp at hx; omega
    · rw [vb_big h]
      intro x hx
      rcases List.mem_cons.1 hx with h1 | h1
      · omega
      · exact ih (n / 128) (by omega) x h1

/-- The number at the head of bytes; i: how many of its bytes were read, acc: what they come to. -/
def dv : Nat → Nat → List Int → Option (Nat × List Int)
  | _, _, [] => none
  | i, acc, c :: r =>
    if 9 < i then none
    else if i = 9 ∧ 1 < c.toNat % 128 then none
    else if c = 0 ∧ 0 < i then none
    else if c < 128 then some (acc + c.toNat % 128 * 128 ^ i, r)
    else dv (i + 1) (acc + c.toNat % 128 * 128 ^ i) r

theorem dv_len {i acc n : Nat} {l r : List Int} (h : dv i acc l = some (n, r)) : r.length < l.length := by
  induction l generalizing i acc with
  | nil => simp [dv] at h
  | cons c t ih =>
    simp only [dv] at h
    split at h; · cases h
    split at h; · cases h
    split at h; · cases h
    split at h
    · simp only [Option.some.injEq, Prod.mk.injEq] at h; obtain ⟨_, rfl⟩ := h; simp
    · have := ih h; simp; omega

theorem pow128_9 : (128 : Nat) ^ 9 = 9223372036854775808 := by decide
theorem pow128_10 : (128 : Nat) ^ 10 = 1180591620717411303424 := by decide

/-- What is left of 2^64 behind i bytes. -/
theorem room_i {i n : Nat} (h9 : ¬ 9 < i) : n * 128 ^ i < 18446744073709551616 → i = 9 → n < 2 := by
  intro h e
  subst e
  rw [pow128_9] at h
  omega

theorem dv_vb (m : Nat) : ∀ (i acc : Nat) (r : List Int), m * 128 ^ i < 18446744073709551616 → (0 < i → 0 < m) → i ≤ 9 → dv i acc (vb m ++ r) = some (acc + m * 128 ^ i, r) := by
  induction m using Nat.strongRecOn with
  | ind m ih =>
    intro i acc r hm h0 h9
    have h2 := room_i (i := i) (n := m) (by omega) hm
    by_cases h : m < 128
    · rw [vb_small h]
      simp only [List.cons_append, List.nil_append, dv]
      have e : ((m : Int)).toNat % 128 = m := by omega
      rw [if_neg (by omega), if_neg (by omega), if_neg (by omega), if_pos (by omega), e]
    · rw [vb_big h]
      simp only [List.cons_append, dv]
      have e : (((m % 128 + 128 : Nat) : Int)).toNat % 128 = m % 128 := by omega
      rw [if_neg (by omega), if_neg (by omega), if_neg (by omega), if_neg (by omega), e]
      have hi : i ≠ 9 := by intro e; have := h2 e; omega
      have e2 : m % 128 * 128 ^ i + m / 128 * 128 ^ (i + 1) = m * 128 ^ i := by
        rw [Nat.pow_succ]
        have := Nat.div_add_mod m 128
        calc m % 128 * 128 ^ i + m / 128 * (128 ^ i * 128) = (128 * (m / 128) + m % 128) * 128 ^ i := by
              rw [Nat.add_mul, Nat.mul_comm (128 ^ i) 128, ← Nat.mul_assoc, Nat.mul_comm (m / 128) 128, Nat.add_comm]
          _ = m * 128 ^ i := by rw [this]
      have h3 : m / 128 * 128 ^ (i + 1) ≤ m * 128 ^ i := by omega
      rw [ih (m / 128) (by omega) (i + 1) _ r (by omega) (by omega) (by omega), Nat.add_assoc, e2]

theorem dv_vb0 (m : Nat) (r : List Int) (h : m < 18446744073709551616) : dv 0 0 (vb m ++ r) = some (m, r) := by
  have := dv_vb m 0 0 r (by simpa using h) (by omega) (by omega)
  simpa using this

theorem vb_dv {l : List Int} : ∀ {i acc n : Nat} {r : List Int}, Byt l → dv i acc l = some (n, r) → ∃ m, n = acc + m * 128 ^ i ∧ l = vb m ++ r ∧ (0 < i → 0 < m) ∧ (i ≤ 9 → m * 128 ^ i < 18446744073709551616) := by
  induction l with
  | nil => intro i acc n r _ h; simp [dv] at h
  | cons c t ih =>
    intro i acc n r hb h
    have hc := hb c List.mem_cons_self
    simp only [dv] at h
    by_cases g1 : 9 < i
    · rw [if_pos g1] at h; cases h
    rw [if_neg g1] at h
    by_cases g2 : i = 9 ∧ 1 < c.toNat % 128
    · rw [if_pos g2] at h; cases h
    rw [if_neg g2] at h
    by_cases g3 : c = 0 ∧ 0 < i
    · rw [if_pos g3] at h; cases h
    rw [if_neg g3] at h
    by_cases g4 : c < 128
    · rw [if_pos g4] at h
      simp only [Option.some.injEq, Prod.mk.injEq] at h
      obtain ⟨rfl, rfl⟩ := h
      have e : c.toNat % 128 = c.toNat := by omega
      refine ⟨c.toNat, by rw [e], ?_, by omega, fun h9 => ?_⟩
      · rw [vb_small (by omega)]
        simp; omega
      · rcases Nat.lt_or_ge i 9 with hi | hi
        · have : 128 ^ i ≤ 128 ^ 8 := Nat.pow_le_pow_right (by decide) (by omega)
          have h8 : (128 : Nat) ^ 8 = 72057594037927936 := by decide
          have : c.toNat * 128 ^ i ≤ 127 * 128 ^ 8 := Nat.mul_le_mul (by omega) this
          omega
        · have hi : i = 9 := by omega
          subst hi
          rw [pow128_9]
          have : c.toNat ≤ 1 := by omega
          omega
    · rw [if_neg g4] at h
      obtain ⟨m, rfl, hl, hm0, hm⟩ := ih (fun x hx => hb x (List.mem_cons_of_mem _ hx)) h
      have hpos : 0 < m := hm0 (by omega)
      have e1 : (c.toNat % 128 + 128 * m) % 128 = c.toNat % 128 := by omega
      have e2 : (c.toNat % 128 + 128 * m) / 128 = m := by omega
      have e3 : c.toNat % 128 * 128 ^ i + m * 128 ^ (i + 1) = (c.toNat % 128 + 128 * m) * 128 ^ i := by
        rw [Nat.pow_succ, Nat.add_mul, Nat.mul_comm (128 ^ i) 128, ← Nat.mul_assoc, Nat.mul_comm m 128]
      refine ⟨c.toNat % 128 + 128 * m, by rw [Nat.add_assoc, e3], ?_, by omega, fun h9 => ?_⟩
      · have hbig : ¬ (c.toNat % 128 + 128 * m < 128) := by omega
        rw [vb_big hbig, e1, e2, hl]
        simp; omega
      · rcases Nat.lt_or_ge i 9 with hi | hi
        · have := hm (by omega)
          rw [← e3]
          have hp : 0 < 128 ^ i := Nat.pow_pos (by decide)
          have h4 : m * 128 ^ (i + 1) = 128 * (m * 128 ^ i) := by rw [Nat.pow_succ, Nat.mul_comm (128 ^ i) 128, ← Nat.mul_assoc, Nat.mul_comm m 128, Nat.mul_assoc]
          have h5 : c.toNat % 128 * 128 ^ i ≤ 127 * 128 ^ i := Nat.mul_le_mul_right _ (by omega)
          rw [h4] at this ⊢
          have h7 : m * 128 ^ i < 144115188075855872 := by omega
          -- 128 * (m * 128^i) is a multiple of 128^(i+1), and 2^64 is one, too
          have h8 : 128 ^ i ∣ 144115188075855872 := by
            have : (144115188075855872 : Nat) = 128 ^ 8 * 2 := by decide
            rw [this]
            exact Nat.dvd_trans (Nat.pow_dvd_pow 128 (by omega)) (Nat.dvd_mul_right _ _)
          obtain ⟨q, hq⟩ := h8
          have h9' : m < q := by
            rw [hq, Nat.mul_comm (128 ^ i) q] at h7
            exact Nat.lt_of_mul_lt_mul_right h7
          have h10 : (m + 1) * 128 ^ i ≤ 144115188075855872 := by
            rw [hq, Nat.mul_comm (128 ^ i) q]
            exact Nat.mul_le_mul_right _ h9'
          rw [Nat.add_mul, Nat.one_mul] at h10
          omega
        · have hi : i = 9 := by omega
          subst hi
          -- nothing is read behind the tenth byte
          exfalso
          cases t with
          | nil => simp [dv] at h
          | cons c2 t2 => simp [dv] at h

theorem vb_dv0 {l r : List Int} {n : Nat} (hb : Byt l) (h : dv 0 0 l = some (n, r)) : l = vb n ++ r ∧ n < 18446744073709551616 := by
  obtain ⟨m, rfl, rfl, _, hm⟩ := vb_dv hb h
  have := hm (by omega)
  simp at this ⊢
  exact this

/-! Numbers with a sign. -/
def zz (b : Int) : Nat := if b < 0 then (2 * (-(b + 1)) + 1).toNat else (2 * b).toNat
def uz (n : Nat) : Int := if n % 2 = 1 then -((n / 2 : Nat) : Int) - 1 else ((n / 2 : Nat) : Int)
def I64 (b : Int) : Prop := -9223372036854775808 ≤ b ∧ b ≤ 9223372036854775807
theorem zz_lt {b : Int} (h : I64 b) : zz b < 18446744073709551616 := by unfold zz; unfold I64 at h; split <;> omega
theorem uz_zz {b : Int} : uz (zz b) = b := by unfold zz uz; split <;> split <;> omega
theorem zz_uz {n : Nat} : zz (uz n) = n := by unfold zz uz; split <;> split <;> omega
theorem uz_i64 {n : Nat} (h : n < 18446744073709551616) : I64 (uz n) := by unfold uz I64; split <;> omega

/-! Notes: their depth is how many decisions there are. -/
structure Nt where
  b : Int
  s : Int
  path : List Int
def pathB (l : List Int) : List Int := l.flatMap fun d => vb d.toNat
def encNt (n : Nt) : List Int := vb (zz n.b) ++ (vb (zz n.s) ++ (vb n.path.length ++ pathB n.path))
structure OkNt (n : Nt) : Prop where
  b : I64 n.b
  s : I64 n.s
  len : n.path.length ≤ 4096
  ds : ∀ d ∈ n.path, 0 ≤ d ∧ d ≤ 4096
theorem encNt_ne (n : Nt) : encNt n ≠ [] := by
  simp [encNt, vb_ne]
theorem pathB_byt (l : List Int) : Byt (pathB l) := by
  intro x hx
  obtain ⟨d, _, h⟩ := List.mem_flatMap.1 hx
  exact vb_byt _ x h
theorem encNt_byt (n : Nt) : Byt (encNt n) := (vb_byt _).append ((vb_byt _).append ((vb_byt _).append (pathB_byt _)))

def dPath : Nat → List Int → Option (List Int × List Int)
  | 0, l => some ([], l)
  | k + 1, l => match dv 0 0 l with
    | none => none
    | some (n, r) => if 4096 < n then none else match dPath k r with
      | none => none
      | some (p, r2) => some ((n : Int) :: p, r2)
def dNt (l : List Int) : Option (Nt × List Int) :=
  match dv 0 0 l with
  | none => none
  | some (a, l1) => match dv 0 0 l1 with
    | none => none
    | some (b, l2) => match dv 0 0 l2 with
      | none => none
      | some (c, l3) => if 4096 < c then none else match dPath c l3 with
        | none => none
        | some (p, l4) => some (⟨uz a, uz b, p⟩, l4)

theorem dPath_step {k n : Nat} {l r : List Int} (e : dv 0 0 l = some (n, r)) (h4 : ¬ 4096 < n) : dPath (k + 1) l = (dPath k r).map (fun x => ((n : Int) :: x.1, x.2)) := by
  simp only [dPath, e, if_neg h4]
  cases dPath k r <;> rfl
theorem dPath_len {k : Nat} : ∀ {l r p : List Int}, dPath k l = some (p, r) → r.length ≤ l.length ∧ p.length = k := by
  induction k with
  | zero => intro l r p h; simp [dPath] at h; obtain ⟨rfl, rfl⟩ := h; simp
  | succ k ih =>
    intro l r p h
    simp only [dPath] at h
    cases e : dv 0 0 l with
    | none => rw [e] at h; cases h
    | some x =>
      obtain ⟨n, r1⟩ := x
      rw [e] at h
      simp only at h
      split at h; · cases h
      cases e2 : dPath k r1 with
      | none => rw [e2] at h; cases h
      | some y =>
        obtain ⟨q, r2⟩ := y
        rw [e2] at h
        simp only [Option.some.injEq, Prod.mk.injEq] at h
        obtain ⟨rfl, rfl⟩ := h
        have h1 := dv_len e
        have h2 := ih e2
        constructor
        · omega
        · simp; omega
theorem dPath_enc (p : List Int) (r : List Int) (h : ∀ d ∈ p, 0 ≤ d ∧ d ≤ 4096) : dPath p.length (pathB p ++ r) = some (p, r) := by
  induction p with
  | nil => simp [dPath, pathB]
  | cons d p ih =>
    have hd := h d List.mem_cons_self
    have e : pathB (d :: p) ++ r = vb d.toNat ++ (pathB p ++ r) := by simp [pathB]
    rw [e]
    simp only [List.length_cons, dPath]
    rw [dv_vb0 _ _ (by omega)]
    simp only
    rw [if_neg (by omega), ih (fun x hx => h x (List.mem_cons_of_mem _ hx))]
    simp; omega
theorem enc_dPath {k : Nat} : ∀ {l r p : List Int}, Byt l → dPath k l = some (p, r) → l = pathB p ++ r ∧ ∀ d ∈ p, 0 ≤ d ∧ d ≤ 4096 := by
  induction k with
  | zero => intro l r p _ h; simp [dPath] at h; obtain ⟨rfl, rfl⟩ := h; simp [pathB]
  | succ k ih =>
    intro l r p hb h
    simp only [dPath] at h
    cases e : dv 0 0 l with
    | none => rw [e] at h; cases h
    | some x =>
      obtain ⟨n, r1⟩ := x
      rw [e] at h
      simp only at h
      split at h; · cases h
      cases e2 : dPath k r1 with
      | none => rw [e2] at h; cases h
      | some y =>
        obtain ⟨q, r2⟩ := y
        rw [e2] at h
        simp only [Option.some.injEq, Prod.mk.injEq] at h
        obtain ⟨rfl, rfl⟩ := h
        obtain ⟨rfl, hn⟩ := vb_dv0 hb e
        obtain ⟨rfl, hq⟩ := ih hb.right e2
        refine ⟨by simp [pathB], fun d hd => ?_⟩
        rcases List.mem_cons.1 hd with rfl | hd
        · omega
        · exact hq d hd
theorem dNt_len {l r : List Int} {n : Nt} (h : dNt l = some (n, r)) : r.length < l.length := by
  unfold dNt at h
  cases e1 : dv 0 0 l with
  | none => rw [e1] at h; cases h
  | some x1 =>
    obtain ⟨a, l1⟩ := x1
    rw [e1] at h; simp only at h
    cases e2 : dv 0 0 l1 with
    | none => rw [e2] at h; cases h
    | some x2 =>
      obtain ⟨b, l2⟩ := x2
      rw [e2] at h; simp only at h
      cases e3 : dv 0 0 l2 with
      | none => rw [e3] at h; cases h
      | some x3 =>
        obtain ⟨c, l3⟩ := x3
        rw [e3] at h; simp only at h
        split at h; · cases h
        cases e4 : dPath c l3 with
        | none => rw [e4] at h; cases h
        | some x4 =>
          obtain ⟨p, l4⟩ := x4
          rw [e4] at h
          simp only [Option.some.injEq, Prod.mk.injEq] at h
          obtain ⟨_, rfl⟩ := h
          have := dv_len e1; have := dv_len e2; have := dv_len e3; have := (dPath_len e4).1
          omega
theorem dNt_enc {n : Nt} (h : OkNt n) (r : List Int) : dNt (encNt n ++ r) = some (n, r) := by
  unfold dNt encNt
  rw [List.append_assoc, dv_vb0 _ _ (zz_lt h.b)]
  simp only
  rw [List.append_assoc, dv_vb0 _ _ (zz_lt h.s)]
  simp only
  have := h.len
  rw [List.append_assoc, dv_vb0 _ _ (by omega)]
  simp only
  rw [if_neg (by omega), dPath_enc _ _ h.ds]
  simp only [uz_zz]
theorem enc_dNt {l r : List Int} {n : Nt} (hb : Byt l) (h : dNt l = some (n, r)) : l = encNt n ++ r ∧ OkNt n := by
  unfold dNt at h
  cases e1 : dv 0 0 l with
  | none => rw [e1] at h; cases h
  | some x1 =>
    obtain ⟨a, l1⟩ := x1
    rw [e1] at h; simp only at h
    obtain ⟨rfl, ha⟩ := vb_dv0 hb e1
    cases e2 : dv 0 0 l1 with
    | none => rw [e2] at h; cases h
    | some x2 =>
      obtain ⟨b, l2⟩ := x2
      rw [e2] at h; simp only at h
      obtain ⟨rfl, hb2⟩ := vb_dv0 hb.right e2
      cases e3 : dv 0 0 l2 with
      | none => rw [e3] at h; cases h
      | some x3 =>
        obtain ⟨c, l3⟩ := x3
        rw [e3] at h; simp only at h
        obtain ⟨rfl, hc⟩ := vb_dv0 hb.right.right e3
        split at h; · cases h
        cases e4 : dPath c l3 with
        | none => rw [e4] at h; cases h
        | some x4 =>
          obtain ⟨p, l4⟩ := x4
          rw [e4] at h
          simp only [Option.some.injEq, Prod.mk.injEq] at h
          obtain ⟨rfl, rfl⟩ := h
          obtain ⟨rfl, hp⟩ := enc_dPath hb.right.right.right e4
          have hl := (dPath_len e4).2
          refine ⟨?_, ⟨uz_i64 ha, uz_i64 hb2, by simp only; omega, hp⟩⟩
          simp only [encNt, zz_uz, hl, List.append_assoc]

/-- All notes of bytes. -/
def dAll (l : List Int) : Option (List Nt) :=
  if l = [] then some [] else
  match _h : dNt l with
  | none => none
  | some (n, r) => match dAll r with
    | none => none
    | some ns => some (n :: ns)
termination_by l.length
decreasing_by exact dNt_len (by assumption)
def encAll (ns : List Nt) : List Int := ns.flatMap encNt
theorem dAll_nil : dAll [] = some [] := by rw [dAll]; simp
theorem dAll_none {l : List Int} (h0 : l ≠ []) (h : dNt l = none) : dAll l = none := by
  rw [dAll, if_neg h0]; split
  · rfl
  · rename_i h2; rw [h] at h2; cases h2
theorem dAll_some {l r : List Int} {n : Nt} (h0 : l ≠ []) (h : dNt l = some (n, r)) : dAll l = match dAll r with | none => none | some ns => some (n :: ns) := by
  rw [dAll, if_neg h0]; split
  · rename_i h2; rw [h] at h2; cases h2
  · rename_i n2 r2 h2; rw [h] at h2; simp only [Option.some.injEq, Prod.mk.injEq] at h2; obtain ⟨rfl, rfl⟩ := h2; rfl
theorem encAll_byt (ns : List Nt) : Byt (encAll ns) := by
  intro x hx
  obtain ⟨d, _, h⟩ := List.mem_flatMap.1 hx
  exact encNt_byt _ x h
theorem dAll_enc : ∀ {ns : List Nt}, (∀ n ∈ ns, OkNt n) → dAll (encAll ns) = some ns
  | [], _ => by simp [encAll, dAll_nil]
  | n :: ns, h => by
    have e : encAll (n :: ns) = encNt n ++ encAll ns := by simp [encAll]
    rw [e, dAll_some (by have := encNt_ne n; simp [this]) (dNt_enc (h n List.mem_cons_self) _), dAll_enc (fun x hx => h x (List.mem_cons_of_mem _ hx))]
theorem enc_dAll_len (k : Nat) : ∀ {l : List Int} {ns : List Nt}, l.length ≤ k → Byt l → dAll l = some ns → l = encAll ns ∧ ∀ n ∈ ns, OkNt n := by
  induction k with
  | zero =>
    intro l ns hk _ h
    have : l = [] := List.eq_nil_of_length_eq_zero (by omega)
    subst this
    rw [dAll_nil] at h
    cases h
    simp [encAll]
  | succ k ih =>
    intro l ns hk hb h
    by_cases h0 : l = []
    · subst h0; rw [dAll_nil] at h; cases h; simp [encAll]
    · cases e : dNt l with
      | none => rw [dAll_none h0 e] at h; cases h
      | some x =>
        obtain ⟨n, r⟩ := x
        rw [dAll_some h0 e] at h
        have hl := dNt_len e
        obtain ⟨rfl, hn⟩ := enc_dNt hb e
        cases e2 : dAll r with
        | none => rw [e2] at h; cases h
        | some ms =>
          rw [e2] at h
          cases h
          obtain ⟨rfl, hm⟩ := ih (by omega) hb.right e2
          refine ⟨by simp [encAll], fun x hx => ?_⟩
          rcases List.mem_cons.1 hx with rfl | hx
          · exact hn
          · exact hm x hx
theorem enc_dAll {l : List Int} {ns : List Nt} (hb : Byt l) (h : dAll l = some ns) : l = encAll ns ∧ ∀ n ∈ ns, OkNt n := enc_dAll_len _ (Nat.le_refl _) hb h
end Go.Proofs.Ytebbikihhkjaaaa.Hand
