/- Sets of bits: New, Has, With, Count walked. -/
import Derived.Test.YtofomlpdklhigaaGreatDoorKp
import Derived.Test.YtofomlpdklhigaaGreatDoorDy
namespace Go.Proofs.YtofomlpdklhigaaGreatDoor.Hand
open Go.RowKit Go.Proofs.YtofomlpdklhigaaGreatDoorW.PrintWords Go.Proofs.YtofomlpdklhigaaGreatDoorW.PrintLast Go.Proofs.YtofomlpdklhigaaGreatDoorW.PrintMore Go.Proofs.YtofomlpdklhigaaGreatDoor.PSigns
set_option linter.unusedVariables false
set_option linter.unusedSimpArgs false
/-- Words of 64 bits, and what they say. -/
structure Wd (ws : List Int) (size : Nat) (p : Nat → Bool) : Prop where
  len : ws.length = (size + 63) / 64
  out : ∀ k, size ≤ k → p k = false
  bit : ∀ i, i < ws.length → ∃ m : Nat, ws.getD i 0 = (m : Int) ∧ m < 2 ^ 64 ∧ ∀ j, j < 64 → m.testBit j = p (64 * i + j)
theorem C_own {w : World} {base g n m : Nat} {e : TypeId} {xs : List Int} (h : w.ownsRow base e 1 (.slice (some ⟨g, 0, none⟩) n m) n (nums .u64 xs)) : (Kd.int .u64).C w (some ⟨g, 0, none⟩) n xs := by
  obtain ⟨A, c, e, hr⟩ := own_reads h
  injection e with e1
  subst e1
  exact Kd.C_of_reads (readsInt_of.1 hr)
def BS (w : World) (v : Value) (size : Nat) (p : Nat → Bool) : Prop := ∃ (g c : Nat) (ws : List Int), v = .agg #[.int .i64 (size : Int), .slice (some ⟨g, 0, none⟩) ws.length c] ∧ w.ownsRow 0 126 1 (.slice (some ⟨g, 0, none⟩) ws.length c) ws.length (nums .u64 ws) ∧ Wd ws size p
theorem BS.below {w w' : World} {v : Value} {size : Nat} {p : Nat → Bool} (h : BS w v size p) (hb : Below w.heap.size w w') : BS w' v size p := by
  obtain ⟨g, c, ws, e, hc, hw⟩ := h
  exact ⟨g, c, ws, e, pw_own_below hc hb, hw⟩
/-- What a store into a block of another type leaves. -/
theorem BS.set {w : World} {v : Value} {size : Nat} {p : Nat → Bool} (h : BS w v size p) {q : Nat} {cs : Array Value} {t : TypeId} (hq : w.heap[q]? = some (.cells cs t (0, 0))) (ht : 126 ≠ t) (j : Nat) (u : Value) : BS (w.setCell ⟨q, j, none⟩ u) v size p := by
  obtain ⟨g, c, ws, e, hc, hw⟩ := h
  exact ⟨g, c, ws, e, own_setCell (p := ⟨q, j, none⟩) hc (own_ne hc hq ht) u, hw⟩
theorem BS.same {w : World} {v : Value} {size : Nat} {p q : Nat → Bool} (h : BS w v size p) (hq : ∀ k, p k = q k) : BS w v size q := by
  rw [← funext hq]
  exact h
theorem within_any (w : World) (size : Nat) (V : Value) (i : Int) : Calls Tryz.prog 148 #[.agg #[.int .i64 (size : Int), V], .int .i64 i] w fun e w' => e = .returned (.bool (decide (0 ≤ i) && decide (i < size))) ∧ Below w.heap.size w w' := by
  have hu := Tryz.underlying189
  cases h1 : decide (0 ≤ i) <;> cases h2 : decide (i < (size : Int))
  all_goals
    have h3 : decide (i ≥ 0) = _ := h1
    go_enter Tryz.func148, Tryz.ntmps148
    go_wp2
    go_ret
    exact ⟨rfl, below_alloc (Below.refl _ _) _⟩
theorem at_Uw {w : World} {a : Addr} {n : Nat} {ws : List Int} (h : (Kd.int .u64).C w (some a) n ws) (k : Nat) (hk : k < n) : w.cell? (a.add k) = some (.int .u64 (ws.getD k 0)) := by
  obtain ⟨ad, e, hc⟩ := (Kd.reads_of_C (enc := Value.int .u64) (d := (0 : Int)) h).at_ (k : Int) (by omega) (by omega)
  injection e with e
  subst e
  rw [Int.toNat_natCast] at hc
  rw [hc]
  unfold rdOf
  rw [Int.toNat_natCast]
theorem tb_div (m r : Nat) : m / 2 ^ r % 2 = if m.testBit r then 1 else 0 := by
  rw [Nat.testBit_eq_decide_div_mod_eq]
  by_cases h : m / 2 ^ r % 2 = 1
  · simp [h]
  · have : m / 2 ^ r % 2 = 0 := by omega
    simp [this]
theorem div_pow_lt {m r : Nat} (h : m < 2 ^ 64) : m / 2 ^ r < 2 ^ 64 := Nat.lt_of_le_of_lt (Nat.div_le_self _ _) h
theorem and1_u64 (d : Nat) (h : d < 2 ^ 64) : Go.bits .and .u64 (d : Int) 1 = ((d % 2 : Nat) : Int) := by
  have h1 := (bits_nat .u64 64 (by decide) (fun n h0 h1 => by rw [IntKind.wrap_u64]; omega) d 1 h (by decide)).1
  rw [Nat.and_one_is_mod] at h1
  exact h1
set_option maxHeartbeats 1000000 in
set_option maxRecDepth 100000 in
theorem has_any (w : World) (v : Value) (size : Nat) (p : Nat → Bool) (h : BS w v size p) (hs : size ≤ 4096) (i : Int) (b : Bool) (hb : b = (decide (0 ≤ i) && decide (i < size) && p i.toNat)) : Calls Tryz.prog 128 #[v, .int .i64 i] w fun e w' => e = .returned (.bool b) ∧ Aside0 (Below w.heap.size w w') := by
  obtain ⟨g0, c, ws, rfl, hc, hw⟩ := h
  replace hc := C_own hc
  obtain ⟨a, ha⟩ : ∃ a : Addr, a = ⟨g0, 0, none⟩ := ⟨_, rfl⟩
  rw [← ha] at hc ⊢
  clear ha
  have hu197 := Tryz.underlying189
  have hu109 := Tryz.underlying187
  obtain ⟨n, hn⟩ : ∃ n, n = ws.length := ⟨_, rfl⟩
  rw [← hn] at hc ⊢
  have B1 : Aside0 (Below w.heap.size w (w.alloc (.cells #[.int .i64 (size : Int), .slice (some a) n c] 189))) := ⟨below_alloc (Below.refl _ _) _⟩
  by_cases hr : 0 ≤ i ∧ i < size
  · obtain ⟨k, rfl⟩ := Int.eq_ofNat_of_zero_le hr.1
    obtain ⟨q, hq⟩ : ∃ q : Nat, q = k / 64 := ⟨_, rfl⟩
    obtain ⟨r, hr'⟩ : ∃ r : Nat, r = k % 64 := ⟨_, rfl⟩
    have hk : k < size := by omega
    have hl := hw.len
    have hqn : q < n := by omega
    obtain ⟨m, hm, hm64, htb⟩ := hw.bit q (by omega)
    have c1 := at_Uw hc q hqn
    rw [hm] at c1
    have C1 := Aside0.mk c1
    have hbit : m.testBit r = p k := by
      rw [htb r (by omega)]
      congr 1
      omega
    have e1 : ((k : Int) / 64) = (q : Int) := by omega
    have e2 : ((k : Int) % 64) = (r : Int) := by omega
    obtain ⟨d, hd⟩ : ∃ d : Nat, d = m / 2 ^ r := ⟨_, rfl⟩
    have hd64 : d < 2 ^ 64 := by rw [hd]; exact div_pow_lt hm64
    have e3 : ((m : Int) / 2 ^ r) = (d : Int) := by rw [hd, Int.natCast_ediv, Int.natCast_pow]; rfl
    have hmin : min r 64 = r := by omega
    have e4 : ((m : Int) / 2 ^ min r 64) = (d : Int) := by rw [hmin]; exact e3
    have hd2 : d % 2 = if p k then 1 else 0 := by rw [hd, tb_div, hbit]
    have hbb : b = p k := by
      rw [hb, Int.toNat_natCast, decide_eq_true hr.1, decide_eq_true hr.2]
      rfl
    have HB : Aside0 (d % 2 = if p k then 1 else 0) := ⟨hd2⟩
    have HBB := Aside0.mk hbb
    have hk0 : (0 : Int) ≤ (k : Int) := by omega
    have g1 : decide ((0 : Int) ≤ (k : Int)) = true := decide_eq_true hk0
    have g2 : decide ((k : Int) < (size : Int)) = true := decide_eq_true (by omega)
    clear hb hm hbit hd hd2 hbb hq hr' hc hw htb hl hn
    cases hp : p k with
    | true =>
      have h1 : d % 2 = 1 := by rw [HB.out, hp]; rfl
      have ea : Go.bits .and .u64 (d : Int) 1 = 1 := by rw [and1_u64 d hd64, h1]; rfl
      have ea2 : (d : Int) % 2 = 1 := by omega
      have H1 : Aside0 (b = true) := ⟨by rw [HBB.out, hp]⟩
      clear hp h1 c1
      go_enter Tryz.func128, Tryz.ntmps128
      go_upto_region 1 with fail
      obtain ⟨W1, hW1⟩ : ∃ W, W = w.alloc (.cells #[.int .i64 (size : Int), .slice (some a) n c] 189) := ⟨_, rfl⟩
      rw [← hW1]
      rw [← hW1] at B1
      obtain ⟨p1, hp1⟩ : ∃ p, p = w.heap.size := ⟨_, rfl⟩
      have Q1 : Aside0 (W1.heap[p1]? = some (.cells #[.int .i64 (size : Int), .slice (some a) n c] 189 (0, 0))) := ⟨by rw [hW1, hp1]; exact heap_alloc_new _ _⟩
      rw [← hp1]
      clear hW1 hp1
      have q0 : W1.cell? ⟨p1, 0, none⟩ = some (.int .i64 (size : Int)) := (blk_cell Q1.out 0).trans rfl
      have q1 : W1.cell? ⟨p1, 1, none⟩ = some (.slice (some a) n c) := (blk_cell Q1.out 1).trans rfl
      go_wp2_with fail
      refine (within_any _ size _ _).mono ?_
      rintro _ w2 ⟨rfl, hb2⟩
      have B2 := Aside0.mk hb2
      clear q0 q1 hb2
      rw [g1, g2]
      have d1 : w2.cell? (a.add q) = some (.int .u64 (m : Int)) := pw_cell_below B2.out (pw_cell_below B1.out C1.out)
      have d2 : w2.cell? ⟨p1, 1, none⟩ = some (.slice (some a) n c) := (blk_cell (blk_below Q1.out B2.out) 1).trans rfl
      go_wp2_with fail
      go_ret
      exact ⟨by rw [H1.out]; rfl, ⟨B1.out.trans (B2.out.mono B1.out.size)⟩⟩
    | false =>
      have h1 : d % 2 = 0 := by rw [HB.out, hp]; rfl
      have ea : Go.bits .and .u64 (d : Int) 1 = 0 := by rw [and1_u64 d hd64, h1]; rfl
      have ea2 : (d : Int) % 2 = 0 := by omega
      have H1 : Aside0 (b = false) := ⟨by rw [HBB.out, hp]⟩
      clear hp h1 c1
      go_enter Tryz.func128, Tryz.ntmps128
      go_upto_region 1 with fail
      obtain ⟨W1, hW1⟩ : ∃ W, W = w.alloc (.cells #[.int .i64 (size : Int), .slice (some a) n c] 189) := ⟨_, rfl⟩
      rw [← hW1]
      rw [← hW1] at B1
      obtain ⟨p1, hp1⟩ : ∃ p, p = w.heap.size := ⟨_, rfl⟩
      have Q1 : Aside0 (W1.heap[p1]? = some (.cells #[.int .i64 (size : Int), .slice (some a) n c] 189 (0, 0))) := ⟨by rw [hW1, hp1]; exact heap_alloc_new _ _⟩
      rw [← hp1]
      clear hW1 hp1
      have q0 : W1.cell? ⟨p1, 0, none⟩ = some (.int .i64 (size : Int)) := (blk_cell Q1.out 0).trans rfl
      have q1 : W1.cell? ⟨p1, 1, none⟩ = some (.slice (some a) n c) := (blk_cell Q1.out 1).trans rfl
      go_wp2_with fail
      refine (within_any _ size _ _).mono ?_
      rintro _ w2 ⟨rfl, hb2⟩
      have B2 := Aside0.mk hb2
      clear q0 q1 hb2
      rw [g1, g2]
      have d1 : w2.cell? (a.add q) = some (.int .u64 (m : Int)) := pw_cell_below B2.out (pw_cell_below B1.out C1.out)
      have d2 : w2.cell? ⟨p1, 1, none⟩ = some (.slice (some a) n c) := (blk_cell (blk_below Q1.out B2.out) 1).trans rfl
      go_wp2_with fail
      go_ret
      exact ⟨by rw [H1.out]; rfl, ⟨B1.out.trans (B2.out.mono B1.out.size)⟩⟩
  · have hd : (decide (0 ≤ i) && decide (i < (size : Int))) = false := by
      by_cases h0 : 0 ≤ i
      · have : ¬ i < (size : Int) := fun h => hr ⟨h0, h⟩
        simp [this]
      · simp [h0]
    have H1 : Aside0 (b = false) := ⟨by rw [hb, hd]; rfl⟩
    have HD := Aside0.mk hd
    clear hb hd hr hw hc hn
    go_enter Tryz.func128, Tryz.ntmps128
    go_upto_region 1 with fail
    obtain ⟨W1, hW1⟩ : ∃ W, W = w.alloc (.cells #[.int .i64 (size : Int), .slice (some a) n c] 189) := ⟨_, rfl⟩
    rw [← hW1]
    rw [← hW1] at B1
    obtain ⟨p1, hp1⟩ : ∃ p, p = w.heap.size := ⟨_, rfl⟩
    have Q1 : Aside0 (W1.heap[p1]? = some (.cells #[.int .i64 (size : Int), .slice (some a) n c] 189 (0, 0))) := ⟨by rw [hW1, hp1]; exact heap_alloc_new _ _⟩
    rw [← hp1]
    clear hW1 hp1
    have q0 : W1.cell? ⟨p1, 0, none⟩ = some (.int .i64 (size : Int)) := (blk_cell Q1.out 0).trans rfl
    have q1 : W1.cell? ⟨p1, 1, none⟩ = some (.slice (some a) n c) := (blk_cell Q1.out 1).trans rfl
    go_wp2_with fail
    refine (within_any _ size _ _).mono ?_
    rintro _ w2 ⟨rfl, hb2⟩
    have B2 := Aside0.mk hb2
    clear q0 q1 hb2
    rw [HD.out]
    go_wp2_with fail
    go_ret
    exact ⟨by rw [H1.out]; rfl, ⟨B1.out.trans (B2.out.mono B1.out.size)⟩⟩
end Go.Proofs.YtofomlpdklhigaaGreatDoor.Hand
