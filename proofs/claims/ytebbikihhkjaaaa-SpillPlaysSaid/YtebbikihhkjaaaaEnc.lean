/- The closure of (spill.Note).may, slices.IndexFunc, slices.ContainsFunc and may. -/
import Derived.Test.YtebbikihhkjaaaaProg
import Derived.WalkKit
import Derived.WalkSpells
import Derived.WalkLawsBesides
import Derived.Outline
import Derived.Test.YtebbikihhkjaaaaWWords
import Derived.Test.YtebbikihhkjaaaaWMore
import Derived.Test.YtebbikihhkjaaaaMem
import Derived.Test.YtebbikihhkjaaaaPSpillBytesx5
import Derived.Test.YtebbikihhkjaaaaBridge
namespace Go.Proofs.Ytebbikihhkjaaaa.Hand
open Go.RowKit Go.Proofs.YtebbikihhkjaaaaW.PrintWords Go.Proofs.YtebbikihhkjaaaaW.PrintMore

def badB (d : Int) : Bool := decide (d < 0) || decide (4096 < d)

set_option maxHeartbeats 400000 in
theorem bad_any (d : Int) (w : World) :
    Calls Try.prog 46 #[.int .i64 d] w fun e w' => e = .returned (.bool (badB d)) ∧ w = w' := by
  have hb : badB d = (decide (d < 0) || decide (4096 < d)) := rfl
  rw [hb]; clear hb
  by_cases h : d < 0
  · have h1 : decide (d < 0) = true := decide_eq_true h
    go_enter Try.func46, Try.ntmps46
    go_wp2
    go_ret
    exact ⟨by simp [h], rfl⟩
  · have h1 : decide (d < 0) = false := decide_eq_false h
    go_enter Try.func46, Try.ntmps46
    go_wp2
    go_ret
    exact ⟨by simp, rfl⟩

theorem ret_int {k : IntKind} {a b : Int} (h : a = b) : Ending.returned (.int k a) = .returned (.int k b) := by rw [h]

/-- Where the first bad one stands, from place i on. -/
def badFrom (xs : List Int) : Int := match xs.findIdx? badB with
  | some i => i
  | none => -1

theorem badFrom_yes {xs : List Int} {k : Nat} (hk : k < xs.length) (ho : ∀ j, j < k → badB (xs.getD j 0) = false) (h : badB (xs.getD k 0) = true) : badFrom xs = k := by
  have : xs.findIdx? badB = some k := by
    rw [List.findIdx?_eq_some_iff_getElem]
    refine ⟨hk, ?_, fun j hj => ?_⟩
    · simpa [List.getD_eq_getElem?_getD, hk] using h
    · have := ho j hj
      simpa [List.getD_eq_getElem?_getD, Nat.lt_trans hj hk] using this
  simp [badFrom, this]
theorem badFrom_no {xs : List Int} (ho : ∀ j, j < xs.length → badB (xs.getD j 0) = false) : badFrom xs = -1 := by
  have : xs.findIdx? badB = none := by
    rw [List.findIdx?_eq_none_iff]
    intro x hx
    obtain ⟨j, hj, rfl⟩ := List.getElem_of_mem hx
    have := ho j hj
    simpa [List.getD_eq_getElem?_getD, hj] using this
  simp [badFrom, this]

set_option maxHeartbeats 400000 in
theorem index_any (A : Option Addr) (c : Nat) (xs : List Int) (w : World) (h : Kd.C (Kd.int .i64) w A xs.length xs) (hs : xs.length ≤ 17592186044416) :
    Calls Try.prog 50 #[.slice A xs.length c, .func (.func 46) #[] #[]] w fun e w' => e = .returned (.int .i64 (badFrom xs)) ∧ w = w' := by
  go_enter Try.func50, Try.ntmps50
  go_wp2
  go_loop [8] (fun i => ∃ k : Nat, k ≤ xs.length ∧ i = .int .i64 k ∧ Aside0 (∀ j, j < k → badB (xs.getD j 0) = false)) (fun i => xs.length - (intOf i).toNat)
  case atStart => exact ⟨0, Nat.zero_le _, rfl, Aside0.mk (fun j hj => absurd hj (Nat.not_lt_zero _))⟩
  case round =>
    obtain ⟨k, hk, rfl, ho⟩ := hrel
    by_cases hlt : k < xs.length
    · obtain ⟨ad, rfl, hc⟩ := Kd.at_int h k (by omega) (by omega)
      simp only [Int.toNat_natCast] at hc
      cases hb : badB (rd xs k) with
      | true =>
        have HB := Aside0.mk hb
        clear hb
        go_wp2_with (go_at_call 46; refine (bad_any _ _).mono ?_; rintro e w' ⟨rfl, rfl⟩; rw [HB.out])
        go_ret
        exact ⟨ret_int (badFrom_yes hlt ho.out HB.out).symm, rfl⟩
      | false =>
        have HB := Aside0.mk hb
        clear hb
        go_wp2_with (go_at_call 46; refine (bad_any _ _).mono ?_; rintro e w' ⟨rfl, rfl⟩; rw [HB.out])
        go_round
        case rel => exact ⟨k + 1, by omega, by go_num, Aside0.mk (fun j hj => by
          rcases Nat.lt_succ_iff_lt_or_eq.1 hj with h1 | rfl
          · exact ho.out j h1
          · exact HB.out)⟩
        case measure => simp [intOf]; omega
    · obtain rfl : k = xs.length := by omega
      go_wp2
      go_ret
      exact ⟨ret_int (badFrom_no ho.out).symm, rfl⟩

set_option maxHeartbeats 400000 in
theorem contains_any (A : Option Addr) (c : Nat) (xs : List Int) (w : World) (h : Kd.C (Kd.int .i64) w A xs.length xs) (hs : xs.length ≤ 17592186044416) :
    Calls Try.prog 47 #[.slice A xs.length c, .func (.func 46) #[] #[]] w fun e w' => e = .returned (.bool (decide (0 ≤ badFrom xs))) ∧ w = w' := by
  go_enter Try.func47, Try.ntmps47
  go_wp2_with (go_at_call 50; refine (index_any A c xs _ h hs).mono ?_; rintro e w' ⟨rfl, rfl⟩)
  go_ret
  exact ⟨rfl, rfl⟩

/-- May a note be? -/
def mayB (d : Int) (path : List Int) : Bool := decide (path.length ≤ 4096) && (d == (path.length : Int)) && !decide (0 ≤ badFrom path)

set_option maxHeartbeats 400000 in
theorem may_any (b d s : Int) (A : Option Addr) (c : Nat) (path : List Int) (w : World) (h : Kd.C (Kd.int .i64) w A path.length path) (hs : path.length ≤ 17592186044416) :
    Calls Try.prog 33 #[.agg #[.int .i64 b, .int .i64 d, .int .i64 s, .slice A path.length c]] w fun e w' => e = .returned (.bool (mayB d path)) ∧ Below w.heap.size w w' := by
  have H := Aside0.mk h
  clear h
  have hu := Try.underlying28
  unfold mayB
  by_cases h1 : path.length ≤ 4096
  · have g1 : decide (path.length ≤ 4096) = true := decide_eq_true h1
    have g1' : decide ((path.length : Int) ≤ 4096) = true := decide_eq_true (by omega)
    cases h2 : (d == (path.length : Int)) with
    | true =>
      go_enter Try.func33, Try.ntmps33
      go_wp2_with (go_at_call 47; refine (contains_any A c path _ (Kd.C_below H.out (below_alloc (Below.refl _ _) _)) hs).mono ?_; rintro e w' ⟨rfl, rfl⟩)
      go_ret
      exact ⟨by simp [h1], below_alloc (Below.refl _ _) _⟩
    | false =>
      go_enter Try.func33, Try.ntmps33
      go_wp2
      go_ret
      exact ⟨by simp, below_alloc (Below.refl _ _) _⟩
  · have g1 : decide (path.length ≤ 4096) = false := decide_eq_false h1
    have g1' : decide ((path.length : Int) ≤ 4096) = false := decide_eq_false (by omega)
    go_enter Try.func33, Try.ntmps33
    go_wp2
    go_ret
    exact ⟨by simp [h1], below_alloc (Below.refl _ _) _⟩
end Go.Proofs.Ytebbikihhkjaaaa.Hand
/- put and Encode. -/
namespace Go.Proofs.Ytebbikihhkjaaaa.Hand
open Go.RowKit Go.Proofs.YtebbikihhkjaaaaW.PrintWords Go.Proofs.YtebbikihhkjaaaaW.PrintMore Go.Proofs.Ytebbikihhkjaaaa.PSpillBytes

theorem or128 {x : Nat} : Go.bits .or .u8 ((x : Int) % 256) 128 = ((x % 128 + 128 : Nat) : Int) := by
  have h := (bits_nat .u8 8 (by decide) wraps_u8 (x % 256) 128 (by omega) (by decide)).2
  have h2 : ∀ a : Nat, a < 256 → (a ||| 128) = a % 128 + 128 := by decide +kernel
  rw [h2 _ (by omega)] at h
  have e : ((x % 256 : Nat) : Int) = (x : Int) % 256 := by omega
  have e2 : ((128 : Nat) : Int) = 128 := rfl
  rw [e, e2] at h
  rw [h]
  omega
theorem put_vb (d : Nat) : ∀ (n k : Nat) (l : List Int), n < 128 ^ d → d < k → l.length + d ≤ 140737488355328 → 0 < d → spill_put.l0 k l (n : Int) = some (l ++ vb n) := by
  induction d with
  | zero => intro n k l _ _ _ h; omega
  | succ d ih =>
    intro n k l hn hk hl _
    obtain ⟨k, rfl⟩ : ∃ m, k = m + 1 := ⟨k - 1, by omega⟩
    simp only [spill_put.l0]
    by_cases h : n < 128
    · rw [if_neg (by omega), if_pos (by omega), vb_small h]
      have : (n : Int) % 256 = n := by omega
      rw [this]
    · rw [if_pos (by omega), if_pos (by omega), or128]
      have e : (n : Int) / 128 = ((n / 128 : Nat) : Int) := by omega
      have hd : 0 < d := by
        rcases Nat.eq_zero_or_pos d with rfl | h0
        · simp at hn; omega
        · exact h0
      rw [Nat.pow_succ, Nat.mul_comm] at hn
      rw [e, ih (n / 128) k _ (by omega) (by omega) (by simp; omega) hd, vb_big h]
      simp
theorem put_f (n : Nat) (l : List Int) (hn : n < 18446744073709551616) (hl : l.length + 10 ≤ 140737488355328) : spill_put.f 11 l (n : Int) = some (l ++ vb n) :=
  put_vb 10 n 11 l (by rw [pow128_10]; omega) (by omega) hl (by omega)
theorem vb_len (d : Nat) : ∀ (n : Nat), n < 128 ^ d → 0 < d → (vb n).length ≤ d := by
  induction d with
  | zero => intro n _ h; omega
  | succ d ih =>
    intro n hn _
    by_cases h : n < 128
    · rw [vb_small h]; simp
    · rw [vb_big h]
      have hd : 0 < d := by
        rcases Nat.eq_zero_or_pos d with rfl | h0
        · simp at hn; omega
        · exact h0
      rw [Nat.pow_succ, Nat.mul_comm] at hn
      have := ih (n / 128) (by omega) hd
      simp; omega
theorem vb_len10 {n : Nat} (hn : n < 18446744073709551616) : (vb n).length ≤ 10 := vb_len 10 n (by rw [pow128_10]; omega) (by omega)
theorem pathB_len {p : List Int} (h : ∀ d ∈ p, 0 ≤ d ∧ d ≤ 4096) : (pathB p).length ≤ 2 * p.length := by
  induction p with
  | nil => simp [pathB]
  | cons d p ih =>
    have h1 := ih (fun x hx => h x (List.mem_cons_of_mem _ hx))
    have h2 := h d List.mem_cons_self
    have h3 := vb_len 2 d.toNat (by omega) (by omega)
    have e : pathB (d :: p) = vb d.toNat ++ pathB p := by simp [pathB]
    rw [e, List.length_append, List.length_cons]
    omega
theorem encNt_len {n : Nt} (h : OkNt n) : (encNt n).length ≤ 8222 := by
  have h1 := vb_len10 (zz_lt h.b)
  have h2 := vb_len10 (zz_lt h.s)
  have h3 := vb_len 2 n.path.length (by have := h.len; omega) (by omega)
  have h4 := pathB_len h.ds
  have h5 := h.len
  simp only [encNt, List.length_append]
  omega

/-- put, in plain words: the bytes are added to the call's own row. -/
theorem put_any (n : Nat) (P0 : Nat → Prop) (v : Value) (l : List Int) (w0 w : World) (hB : Below w0.heap.size w0 w) (ho : Kd.R (Kd.int .u8) 5 w w0.heap.size P0 v l) (hn : n < 18446744073709551616) (hl : l.length + 10 ≤ 140737488355328) :
    Calls Try.prog 34 #[v, .int .u64 (n : Int)] w fun e w' => ∃ v0 : Value, e = .returned v0 ∧ Kd.R (Kd.int .u8) 5 w' w0.heap.size (fun k_ => (P0 k_ ∨ w.heap.size ≤ k_)) v0 (l ++ vb n) ∧ Below w0.heap.size w0 w' ∧ Kept w w' (fun k_ => P0 k_) :=
  spill_put.calls 11 P0 v l n _ w0 w hB ho (put_f n l hn hl)

theorem signed_zz {b : Int} (h : I64 b) : spill_signed.f b = some (zz b : Int) := by
  unfold spill_signed.f zz
  unfold I64 at h
  congr 1
  by_cases hb : b < 0
  · have e1 : IntKind.u64.wrap (b / 9223372036854775808) = 18446744073709551615 := by rw [IntKind.wrap_u64]; omega
    have e2 : IntKind.u64.wrap (IntKind.u64.wrap b * 2) = 2 * b + 18446744073709551616 := by rw [IntKind.wrap_u64, IntKind.wrap_u64]; omega
    rw [e1, e2, xor1_u64 (by omega) (by omega), if_pos hb]
    omega
  · have e1 : IntKind.u64.wrap (b / 9223372036854775808) = 0 := by rw [IntKind.wrap_u64]; omega
    have e2 : IntKind.u64.wrap (IntKind.u64.wrap b * 2) = 2 * b := by rw [IntKind.wrap_u64, IntKind.wrap_u64]; omega
    rw [e1, e2, xor0_u64 (by omega) (by omega), if_neg hb]
    omega
theorem signed_any {b : Int} (h : I64 b) (w : World) : Calls Try.prog 35 #[.int .i64 b] w fun e w' => e = .returned (.int .u64 (zz b : Int)) ∧ Drawn0 w w' := spill_signed.calls b _ w (signed_zz h)

theorem badFrom_neg {xs : List Int} (h : ¬ 0 ≤ badFrom xs) : ∀ x ∈ xs, 0 ≤ x ∧ x ≤ 4096 := by
  intro x hx
  unfold badFrom at h
  cases e : xs.findIdx? badB with
  | some i => rw [e] at h; simp only at h; omega
  | none =>
    rw [List.findIdx?_eq_none_iff] at e
    have := e x hx
    simp [badB] at this
    omega
theorem badFrom_of {xs : List Int} (h : ∀ x ∈ xs, 0 ≤ x ∧ x ≤ 4096) : ¬ 0 ≤ badFrom xs := by
  unfold badFrom
  have e : xs.findIdx? badB = none := by
    rw [List.findIdx?_eq_none_iff]
    intro x hx
    have := h x hx
    simp [badB]
    omega
  rw [e]; decide
theorem mayB_iff {d : Int} {path : List Int} : mayB d path = true ↔ path.length ≤ 4096 ∧ d = path.length ∧ ∀ x ∈ path, 0 ≤ x ∧ x ≤ 4096 := by
  unfold mayB
  simp only [Bool.and_eq_true, decide_eq_true_eq, Bool.not_eq_true', decide_eq_false_iff_not, beq_iff_eq]
  constructor
  · rintro ⟨⟨h1, h2⟩, h3⟩; exact ⟨h1, h2, badFrom_neg h3⟩
  · rintro ⟨h1, h2, h3⟩; exact ⟨⟨h1, h2⟩, badFrom_of h3⟩

def encB (b d s : Int) (path : List Int) : ByteArray := if mayB d path = true then strOfNums (encNt ⟨b, s, path⟩) else ⟨#[]⟩

theorem take_pathB (p : List Int) (k : Nat) (hk : k < p.length) : pathB (p.take (k + 1)) = pathB (p.take k) ++ vb (rd p k).toNat := by
  rw [List.take_succ_eq_append_getElem hk]
  unfold pathB
  rw [List.flatMap_append]
  simp [rd, List.getD_eq_getElem?_getD, hk]

theorem box_cell {w w1 : World} {cs : Array Value} {t : TypeId} (h : Below (w.alloc (.cells cs t)).heap.size (w.alloc (.cells cs t)) w1) (j : Nat) (v : Value) (hv : cs[j]? = some v) : w1.cell? ⟨w.heap.size, j, none⟩ = some v := by
  have h1 := h.block w.heap.size (by simp)
  have h2 : (w.alloc (.cells cs t)).heap[w.heap.size]? = some (.cells cs t (0, 0)) := by simpa using heap_alloc_new w _
  rw [h2] at h1
  simp [World.cell?, h1, hv]

set_option maxHeartbeats 1000000 in
set_option maxRecDepth 100000 in
theorem encode_any (b d s : Int) (A : Option Addr) (c : Nat) (path : List Int) (w : World) (h : Kd.C (Kd.int .i64) w A path.length path) (hs : path.length ≤ 17592186044416) (hb : I64 b) (hq : I64 s) :
    Calls Try.prog 13 #[.agg #[.int .i64 b, .int .i64 d, .int .i64 s, .slice A path.length c]] w fun e w' => e = .returned (.string (encB b d s path)) ∧ Below w.heap.size w w' := by
  have H := Aside0.mk h
  have HB := Aside0.mk hb
  have HQ := Aside0.mk hq
  clear h hb hq
  have hu := Try.underlying28
  cases hm : mayB d path with
  | false =>
    have HM := Aside0.mk hm
    clear hm
    go_enter Try.func13, Try.ntmps13
    go_wp2_with fail
    refine (may_any b d s A c path _ (Kd.C_below H.out (below_alloc (Below.refl _ _) _)) hs).mono ?_
    rintro e w1 ⟨rfl, hb1⟩
    rw [HM.out]
    have B1 := Aside0.mk hb1
    clear hb1
    go_wp2
    go_ret
    exact ⟨by simp [encB, HM.out], below_then (below_alloc (Below.refl _ _) _) (by simp) B1.out⟩
  | true =>
    have HM := Aside0.mk hm
    clear hm
    go_enter Try.func13, Try.ntmps13
    go_wp2_with fail
    refine (may_any b d s A c path _ (Kd.C_below H.out (below_alloc (Below.refl _ _) _)) hs).mono ?_
    rintro e w1 ⟨rfl, hb1⟩
    rw [HM.out]
    have B1 := Aside0.mk hb1
    clear hb1
    have f0 := box_cell B1.out 0 _ rfl
    have f1 := box_cell B1.out 2 _ rfl
    have f2 := box_cell B1.out 3 _ rfl
    go_wp2_with fail
    clear f0 f1 f2
    refine (signed_any HB.out _).mono ?_
    rintro e w2 ⟨rfl, hd2⟩
    obtain ⟨m2, rfl⟩ := hd2.out
    clear hd2
    have hlen := (mayB_iff.1 HM.out).1
    have hds := Aside0.mk (mayB_iff.1 HM.out).2.2
    have B2 := Aside0.mk (pw_below_drewN B1.out m2)
    have z1 := zz_lt HB.out
    have z2 := zz_lt HQ.out
    go_wp2_with fail
    refine (put_any (zz b) (fun k => w.heap.size + 1 ≤ k) _ [] _ _ B2.out (Kd.R_nil _ _ _ _ _) z1 (by simp)).mono ?_
    rintro e w3 ⟨v3, rfl, ho3, hb3, _⟩
    have O3 := Aside0.mk (Kd.R_mono (ok' := fun k => w.heap.size + 1 ≤ k) ho3 (fun k hk => hk.elim id (fun h => by have := B2.out.size; simp at this h ⊢; omega)))
    have B3 := Aside0.mk hb3
    clear ho3 hb3
    obtain ⟨A3, n3, c3, rfl, HN3⟩ := R_open O3.out
    have f0 := box_cell B3.out 0 _ rfl
    have f1 := box_cell B3.out 2 _ rfl
    have f2 := box_cell B3.out 3 _ rfl
    go_wp2_with fail
    clear f0 f1 f2
    refine (signed_any HQ.out _).mono ?_
    rintro e w4 ⟨rfl, hd4⟩
    obtain ⟨m4, rfl⟩ := hd4.out
    clear hd4
    have B4 := Aside0.mk (pw_below_drewN B3.out m4)
    have O4 := Aside0.mk (Kd.R_drewN O3.out m4)
    go_wp2_with fail
    refine (put_any (zz s) (fun k => w.heap.size + 1 ≤ k) _ _ _ _ B4.out O4.out z2 (by have := vb_len10 z1; simp; omega)).mono ?_
    rintro e w5 ⟨v5, rfl, ho5, hb5, _⟩
    have O5 := Aside0.mk (Kd.R_mono (ok' := fun k => w.heap.size + 1 ≤ k) ho5 (fun k hk => hk.elim id (fun h => by have := B4.out.size; simp at this h ⊢; omega)))
    have B5 := Aside0.mk hb5
    clear ho5 hb5
    obtain ⟨A5, n5, c5, rfl, HN5⟩ := R_open O5.out
    have f2 := box_cell B5.out 3 _ rfl
    have g1 : IntKind.u64.wrap (path.length : Int) = path.length := wrap_u64_id (by omega) (by omega)
    go_wp2_with fail
    clear f2 g1
    have l1 := vb_len10 z1
    have l2 := vb_len10 z2
    refine (put_any path.length (fun k => w.heap.size + 1 ≤ k) _ _ _ _ B5.out O5.out (by omega) (by simp; omega)).mono ?_
    rintro e w6 ⟨v6, rfl, ho6, hb6, _⟩
    have O6 := Aside0.mk (Kd.R_mono (ok' := fun k => w.heap.size + 1 ≤ k) ho6 (fun k hk => hk.elim id (fun h => by have := B5.out.size; simp at this h ⊢; omega)))
    have B6 := Aside0.mk hb6
    clear ho6 hb6
    obtain ⟨A6, n6, c6, rfl, HN6⟩ := R_open O6.out
    have l3 := vb_len10 (n := path.length) (by omega)
    have HL1 := Aside0.mk l1
    have HL2 := Aside0.mk l2
    have HL3 := Aside0.mk l3
    clear l1 l2 l3
    have f2 := box_cell B6.out 3 _ rfl
    go_wp2_with fail
    clear f2
    go_loopw [3, 29] (fun v i wr => ∃ (k : Nat) (A7 : Option Addr) (n7 c7 : Nat), k ≤ path.length ∧ v = .slice A7 n7 c7 ∧ i = .int .i64 k ∧ Aside0 (Kd.R (Kd.int .u8) 5 wr (w.heap.size + 1) (fun k => w.heap.size + 1 ≤ k) (.slice A7 n7 c7) (vb (zz b) ++ (vb (zz s) ++ (vb path.length ++ pathB (path.take k))))) ∧ Aside0 (Below (w.heap.size + 1) (w.alloc (.cells #[.int .i64 b, .int .i64 d, .int .i64 s, .slice A path.length c] 28)) wr)) (fun _ i _ => path.length - (intOf i).toNat)
    case atStart => exact ⟨0, _, _, _, Nat.zero_le _, rfl, rfl, ⟨by have := O6.out; simpa [pathB] using this⟩, ⟨by simpa using B6.out⟩⟩
    case round =>
      obtain ⟨k, A7, n7, c7, hk, rfl, rfl, O7, B7⟩ := hrel
      by_cases hlt : k < path.length
      · obtain ⟨m, hm⟩ : ∃ m : Nat, rd path k = m := ⟨(rd path k).toNat, by have := hds.out (rd path k) (by simp [rd, List.getD_eq_getElem?_getD, hlt]); omega⟩
        have hmle : m ≤ 4096 := by have := hds.out (rd path k) (by simp [rd, List.getD_eq_getElem?_getD, hlt]); omega
        obtain ⟨ad, rfl, hc⟩ := Kd.at_int (Kd.C_below H.out (below_box B7.out)) k (by omega) (by omega)
        simp only [Int.toNat_natCast] at hc
        rw [hm] at hc
        have HMV := Aside0.mk hm
        clear hm
        go_wp2_with fail
        clear hc
        refine (put_any m (fun k => w.heap.size + 1 ≤ k) _ _ (w.alloc (.cells #[.int .i64 b, .int .i64 d, .int .i64 s, .slice (some ad) path.length c] 28)) _ (by simpa using B7.out) (by simpa using O7.out) (by omega) ?_).mono ?_
        case refine_1 =>
          have h1 := HL1.out
          have h2 := HL2.out
          have h3 := HL3.out
          have h4 := pathB_len (p := path.take k) (fun x hx => hds.out x (List.mem_of_mem_take hx))
          have h5 : (path.take k).length ≤ k := List.length_take_le _ _
          simp only [List.length_append]
          omega
        rintro e w8 ⟨v8, rfl, ho8, hb8, _⟩
        obtain ⟨A8, n8, c8, rfl, HN8⟩ := R_open ho8
        have O8 := Aside0.mk (Kd.R_mono (ok' := fun k => w.heap.size + 1 ≤ k) ho8 (fun k hk => hk.elim id (fun h => by have := B7.out.size; simp at this h ⊢; omega)))
        have B8 := Aside0.mk hb8
        clear ho8 hb8
        go_wp2
        go_roundw
        case rel =>
          refine ⟨k + 1, _, _, _, by omega, rfl, by go_num, ⟨?_⟩, ⟨by simpa using B8.out⟩⟩
          rw [take_pathB path k hlt, HMV.out]
          have := O8.out
          simpa [List.append_assoc] using this
        case measure => simp [intOf]; omega
      · obtain rfl : k = path.length := by omega
        obtain ⟨e7, _, hC⟩ := Kd.R_reads' O7.out
        rw [← e7] at hC
        have hcv := Kd.C_string (c := c7) Try.underlying82 Try.underlying5 Try.underlying9 hC
        clear hC e7
        go_wp2
        go_ret
        refine ⟨?_, below_box B7.out⟩
        unfold encB
        rw [if_pos HM.out]
        rfl
end Go.Proofs.Ytebbikihhkjaaaa.Hand
