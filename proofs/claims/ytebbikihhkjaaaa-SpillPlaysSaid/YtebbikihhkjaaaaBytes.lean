/- The walk of SpillBytes. -/
import Derived.Test.YtebbikihhkjaaaaNote
import Derived.Test.YtebbikihhkjaaaaWakes
import Derived.Test.YtebbikihhkjaaaaRefb
namespace Go.Proofs.Ytebbikihhkjaaaa.Hand
open Go.RowKit Go.Proofs.YtebbikihhkjaaaaW.PrintWords Go.Proofs.YtebbikihhkjaaaaW.PrintMore Go.Proofs.Ytebbikihhkjaaaa.PSpillBytes
attribute [local go_sem] max2_int min2_int max_two min_two

theorem refdec_any (s : ByteArray) (w : World) (hsz : s.size ≤ 1000000) : Calls Try.prog 11 #[.string s] w fun e w' => ∃ v : Value, e = .returned (.tuple #[v, .int .i64 (decE (bytesOf s))]) ∧ Kd.R k30 30 w' w.heap.size (fun _ => True) v (decR (bytesOf s)) ∧ Below w.heap.size w w' :=
  (secateurref21_Decode.calls _ s _ _ w (ref_decode s hsz)).mono (by
    rintro e w' ⟨v, rfl, h1, h2⟩
    exact ⟨v, rfl, Kd.S_R h1, h2⟩)
theorem refenc_any (b d s : Int) (A : Option Addr) (c : Nat) (p : List Int) (w : World) (h : Kd.C (Kd.int .i64) w A p.length p) (hc : p.length ≤ c) (hp : p.length ≤ 1000000) (hb : I64 b) (hs : I64 s) :
    Calls Try.prog 14 #[.agg #[.int .i64 b, .int .i64 d, .int .i64 s, .slice A p.length c]] w fun e w' => e = .returned (.string (encB b d s p)) ∧ Below w.heap.size w w' := by
  obtain ⟨k, hk⟩ := ref_encode (b := b) (d := d) (s := s) hp hb hs
  exact secateurref21_Encode.calls k b d s A c p _ w h hc hk
theorem dAll_len_le (l : List Int) (ns : List Nt) (hb : Byt l) (h : dAll l = some ns) : ns.length ≤ l.length ∧ ∀ n ∈ ns, n.path.length ≤ 4096 := by
  obtain ⟨rfl, hok⟩ := enc_dAll hb h
  refine ⟨?_, fun n hn => (hok n hn).len⟩
  clear hb h hok
  induction ns with
  | nil => simp
  | cons n ns ih =>
    have e : encAll (n :: ns) = encNt n ++ encAll ns := by simp [encAll]
    rw [e, List.length_append, List.length_cons]
    have := List.length_pos_iff.2 (encNt_ne n)
    omega
theorem same_any (s : ByteArray) (A B : Option Addr) (c1 c2 : Nat) (w : World) (hsz : s.size ≤ 1000000) (h1 : Kd.C k28 w A (decL (bytesOf s)).length (decL (bytesOf s))) (hc1 : (decL (bytesOf s)).length ≤ c1) (h2 : Kd.C k30 w B (decR (bytesOf s)).length (decR (bytesOf s))) (hc2 : (decR (bytesOf s)).length ≤ c2) :
    Calls Try.prog 15 #[.slice A (decL (bytesOf s)).length c1, .slice B (decR (bytesOf s)).length c2] w fun e w' => e = .returned (.bool true) ∧ Below w.heap.size w w' := by
  cases h : dAll (bytesOf s) with
  | none =>
    have e1 : decL (bytesOf s) = ([] : List Nt).map toS := by simp [decL, h]
    have e2 : decR (bytesOf s) = ([] : List Nt).map toR := by simp [decR, h]
    obtain ⟨k, hk⟩ := same_f [] (by simp) (by simp)
    rw [← e1, ← e2] at hk
    exact secateurlaw21_same.calls k A c1 _ B c2 _ _ w h1 hc1 h2 hc2 hk
  | some ns =>
    have e1 : decL (bytesOf s) = ns.map toS := by simp [decL, h]
    have e2 : decR (bytesOf s) = ns.map toR := by simp [decR, h]
    obtain ⟨g1, g2⟩ := dAll_len_le _ ns (bytesOf_byt s) h
    rw [bytesOf_length] at g1
    obtain ⟨k, hk⟩ := same_f ns (by omega) (fun n hn => by have := g2 n hn; omega)
    rw [← e1, ← e2] at hk
    exact secateurlaw21_same.calls k A c1 _ B c2 _ _ w h1 hc1 h2 hc2 hk

def W2830 (w1 : World) (b d sq : Int) (v : Value) : World := (w1.alloc (.cells #[.int .i64 b, .int .i64 d, .int .i64 sq, v] 28)).alloc (.cells #[.int .i64 b, .int .i64 d, .int .i64 sq, v] 30)
theorem W2830_a {w1 wr : World} {b d sq : Int} {v : Value} (h : Below (W2830 w1 b d sq v).heap.size (W2830 w1 b d sq v) wr) : wr.heap[w1.heap.size]? = some (.cells #[.int .i64 b, .int .i64 d, .int .i64 sq, v] 28 (0, 0)) := by
  rw [h.block _ (by unfold W2830; simp; omega)]
  unfold W2830
  rw [Below.heap_alloc _ _ _ (by simp)]
  exact heap_alloc_new w1 _
theorem W2830_b {w1 wr : World} {b d sq : Int} {v : Value} (h : Below (W2830 w1 b d sq v).heap.size (W2830 w1 b d sq v) wr) : wr.heap[w1.heap.size + 1]? = some (.cells #[.int .i64 b, .int .i64 d, .int .i64 sq, v] 30 (0, 0)) := by
  rw [h.block _ (by unfold W2830; simp)]
  unfold W2830
  have := heap_alloc_new (w1.alloc (.cells #[.int .i64 b, .int .i64 d, .int .i64 sq, v] 28)) (.cells #[.int .i64 b, .int .i64 d, .int .i64 sq, v] 30)
  rw [World.size_alloc] at this
  exact this
theorem W2830_below {w1 wr : World} {b d sq : Int} {v : Value} (h : Below (W2830 w1 b d sq v).heap.size (W2830 w1 b d sq v) wr) : Below w1.heap.size w1 wr := by
  have h0 : Below w1.heap.size w1 (W2830 w1 b d sq v) := below_alloc (below_alloc (Below.refl _ _) _) _
  exact h0.trans (h.mono (by unfold W2830; simp; omega))
theorem extract_size (s : ByteArray) (m : Nat) (h : m ≤ s.size) : (s.extract 0 m).size = m := by rw [ByteArray.size_extract]; omega

theorem eight_keep {w0 w w' : World} {g h : Nat} {b d s : Value} {v : Value}
    (a0 : w.cell? ⟨g, 0, none⟩ = some b) (a1 : w.cell? ⟨g, 1, none⟩ = some d) (a2 : w.cell? ⟨g, 2, none⟩ = some s) (a3 : w.cell? ⟨g, 3, none⟩ = some v)
    (b0 : w.cell? ⟨h, 0, none⟩ = some b) (b1 : w.cell? ⟨h, 1, none⟩ = some d) (b2 : w.cell? ⟨h, 2, none⟩ = some s) (b3 : w.cell? ⟨h, 3, none⟩ = some v)
    (h0 : Aside0 (Below w0.heap.size w0 w)) (hb : Below w.heap.size w w') :
    w'.cell? ⟨g, 0, none⟩ = some b ∧ w'.cell? ⟨g, 1, none⟩ = some d ∧ w'.cell? ⟨g, 2, none⟩ = some s ∧ w'.cell? ⟨g, 3, none⟩ = some v ∧
    w'.cell? ⟨h, 0, none⟩ = some b ∧ w'.cell? ⟨h, 1, none⟩ = some d ∧ w'.cell? ⟨h, 2, none⟩ = some s ∧ w'.cell? ⟨h, 3, none⟩ = some v ∧ Aside0 (Below w0.heap.size w0 w') :=
  ⟨pw_cell_below hb a0, pw_cell_below hb a1, pw_cell_below hb a2, pw_cell_below hb a3, pw_cell_below hb b0, pw_cell_below hb b1, pw_cell_below hb b2, pw_cell_below hb b3, ⟨below_then h0.out h0.out.size hb⟩⟩

theorem noteP_len (n t : Nat) (rt : Bool) (l : List Int) : (noteP (min n 40) t rt l).length ≤ 1000000 := by
  have h : (rep (1 + t % 40) (l.take (min n 40))).length ≤ 40 * 40 := by
    rw [rep_len, List.length_take]
    exact Nat.mul_le_mul (by omega) (by omega)
  unfold noteP
  split
  · rw [List.length_map]; omega
  · omega

set_option maxHeartbeats 2000000 in
set_option maxRecDepth 100000 in
theorem bytes_law (b d sq tm : Int) (rt : Bool) (A : Option Addr) (c : Nat) (l : List Int) (s : ByteArray) (w : World) (h : Kd.C (Kd.int .i64) w A l.length l) (hc : l.length ≤ c) (ht0 : 0 ≤ tm) (ht1 : tm ≤ 255) (hl : l.length ≤ 17592186044416) (hb : I64 b) (hq : I64 sq) (hs : s.size ≤ 140737488351232) :
    Calls Try.prog 3 #[.agg #[.int .i64 b, .int .i64 d, .int .i64 sq, .slice A l.length c, .int .u8 tm, .bool rt], .string s] w fun e w' => e = .returned (.bool true) ∧ Below w.heap.size w w' := by
  have H := Aside0.mk h
  have HB := Aside0.mk hb
  have HQ := Aside0.mk hq
  clear h hb hq
  have hu := Try.underlying24
  have hu2 := Try.underlying28
  have hu3 := Try.underlying30
  obtain ⟨m, hm⟩ : ∃ m : Nat, m = min s.size 2000 := ⟨_, rfl⟩
  have hm1 : m ≤ 2000 := by omega
  have hm2 : m ≤ s.size := by omega
  have hmn : (if (2000 : Int) < (s.size : Int) then (2000 : Int) else (s.size : Int)) = (m : Int) := by split <;> omega
  clear hm
  obtain ⟨n, hn⟩ : ∃ n, n = l.length := ⟨_, rfl⟩
  have HN := Aside0.mk hn
  rw [← hn] at hc hl ⊢
  clear hn
  go_enter Try.func3, Try.ntmps3
  go_wp2_with fail
  clear hmn
  rw [HN.out]
  refine (note_any b d sq tm rt A c l _ (Kd.C_below H.out (below_alloc (Below.refl _ _) _)) (by rw [← HN.out]; exact hc) ht0 ht1 (by rw [← HN.out]; exact hl)).mono ?_
  rintro e w1 ⟨A1, n1, c1, p, d1, rfl, hp, hd, ho1, hb1⟩
  have O1 := Aside0.mk ho1
  have B1 := Aside0.mk (below_box (by simpa using hb1))
  have HPL : Aside0 (p.length ≤ 1000000) := ⟨by rw [hp]; exact noteP_len _ _ _ _⟩
  clear ho1 hb1 hp hd
  go_wp2_with fail
  have HS := Aside0.mk (extract_size s m hm2)
  obtain ⟨S1, hS1⟩ : ∃ S1, S1 = s.extract 0 m := ⟨_, rfl⟩
  rw [← hS1] at HS ⊢
  clear hS1
  have hsz1 : S1.size ≤ 1000000 := by rw [HS.out]; omega
  refine (decode_any S1 _ hsz1).mono ?_
  rintro e w2 ⟨v2, rfl, ho2, hb2⟩
  have B2 : Aside0 (Below (W2830 w1 b d1 sq (.slice A1 n1 c1)).heap.size (W2830 w1 b d1 sq (.slice A1 n1 c1)) w2) := ⟨hb2⟩
  have O2 := Aside0.mk ho2
  clear ho2 hb2
  obtain ⟨A2, n2, c2, rfl, HN2⟩ := R_open O2.out
  go_wp2_with fail
  refine (refdec_any S1 _ hsz1).mono ?_
  rintro e w3 ⟨v3, rfl, ho3, hb3⟩
  have B3 := Aside0.mk (below_then B2.out B2.out.size hb3)
  have O23 := Aside0.mk (Kd.R_below O2.out hb3)
  have O3 := Aside0.mk ho3
  clear ho3 hb3
  obtain ⟨A3, n3, c3, rfl, HN3⟩ := R_open O3.out
  go_wp2_with fail
  obtain ⟨rfl, hc1, C1⟩ := Kd.R_reads' O1.out
  obtain ⟨rfl, hc2, C2⟩ := Kd.R_reads' O23.out
  obtain ⟨rfl, hc3, C3⟩ := Kd.R_reads' O3.out
  have B3a := Aside0.mk (W2830_a B3.out)
  have B3b := Aside0.mk (W2830_b B3.out)
  have C13 := Aside0.mk (Kd.C_below C1 (W2830_below B3.out))
  have C23 := Aside0.mk C2
  have C33 := Aside0.mk C3
  have HC1 := Aside0.mk hc1
  have HC2 := Aside0.mk hc2
  have HC3 := Aside0.mk hc3
  clear C1 C2 C3 hc1 hc2 hc3
  have f0 : w3.cell? ⟨w1.heap.size, 0, none⟩ = some (.int .i64 b) := (blk_c B3a.out 0).trans rfl
  have f1 : w3.cell? ⟨w1.heap.size, 1, none⟩ = some (.int .i64 d1) := (blk_c B3a.out 1).trans rfl
  have f2 : w3.cell? ⟨w1.heap.size, 2, none⟩ = some (.int .i64 sq) := (blk_c B3a.out 2).trans rfl
  have f3 : w3.cell? ⟨w1.heap.size, 3, none⟩ = some (.slice A1 p.length c1) := (blk_c B3a.out 3).trans rfl
  have g0 : w3.cell? ⟨w1.heap.size + 1, 0, none⟩ = some (.int .i64 b) := (blk_c B3b.out 0).trans rfl
  have g1 : w3.cell? ⟨w1.heap.size + 1, 1, none⟩ = some (.int .i64 d1) := (blk_c B3b.out 1).trans rfl
  have g2 : w3.cell? ⟨w1.heap.size + 1, 2, none⟩ = some (.int .i64 sq) := (blk_c B3b.out 2).trans rfl
  have g3 : w3.cell? ⟨w1.heap.size + 1, 3, none⟩ = some (.slice A1 p.length c1) := (blk_c B3b.out 3).trans rfl
  have hbb : Aside0 (Below w3.heap.size w3 w3.drew) := ⟨below_drew (Below.refl _ _)⟩
  go_region_held3 (fun w' => w'.cell? ⟨w1.heap.size, 0, none⟩ = some (.int .i64 b) ∧ w'.cell? ⟨w1.heap.size, 1, none⟩ = some (.int .i64 d1) ∧ w'.cell? ⟨w1.heap.size, 2, none⟩ = some (.int .i64 sq) ∧ w'.cell? ⟨w1.heap.size, 3, none⟩ = some (.slice A1 p.length c1) ∧
      w'.cell? ⟨w1.heap.size + 1, 0, none⟩ = some (.int .i64 b) ∧ w'.cell? ⟨w1.heap.size + 1, 1, none⟩ = some (.int .i64 d1) ∧ w'.cell? ⟨w1.heap.size + 1, 2, none⟩ = some (.int .i64 sq) ∧ w'.cell? ⟨w1.heap.size + 1, 3, none⟩ = some (.slice A1 p.length c1) ∧ Aside0 (Below w3.heap.size w3 w'))
    (first | exact ⟨f0, f1, f2, f3, g0, g1, g2, g3, hbb⟩ | (go_split_ands; exact eight_keep (by assumption) (by assumption) (by assumption) (by assumption) (by assumption) (by assumption) (by assumption) (by assumption) (by assumption) hbq))
    (first
      | (go_at_call 12; refine (wakes_any _).mono ?_; rintro e w' ⟨rfl, hbq⟩)
      | (go_at_call 13; go_split_ands; refine (encode_any b d1 sq A1 c1 p _ (Kd.C_below C13.out (Aside0.out (by assumption))) (by have := HPL.out; omega) HB.out HQ.out).mono ?_; rintro e w' ⟨rfl, hbq⟩)
      | (go_at_call 14; go_split_ands; refine (refenc_any b d1 sq A1 c1 p _ (Kd.C_below C13.out (Aside0.out (by assumption))) HC1.out HPL.out HB.out HQ.out).mono ?_; rintro e w' ⟨rfl, hbq⟩)
      | (go_at_call 15; go_split_ands; refine (same_any S1 A2 A3 c2 c3 _ hsz1 (Kd.C_below C23.out (Aside0.out (by assumption))) HC2.out (Kd.C_below C33.out (Aside0.out (by assumption))) HC3.out).mono ?_; rintro e w' ⟨rfl, hbq⟩))
  go_wp2
  go_split_ands
  have BX : Below w.heap.size w w3 := below_then B1.out B1.out.size (W2830_below B3.out)
  go_ret
  exact ⟨rfl, below_then BX BX.size (Aside0.out (by assumption))⟩
end Go.Proofs.Ytebbikihhkjaaaa.Hand
