/- The document's least match: its call, over a square table of one's own. -/
import Derived.Test.YtelabmhhnpfegaaRb
import Derived.Test.YtelabmhhnpfegaaLs
namespace Go.Proofs.Ytelabmhhnpfegaa.Hand
open Go.RowKit Go.Proofs.YtelabmhhnpfegaaW.PrintWords Go.Proofs.YtelabmhhnpfegaaW.PrintLast Go.Proofs.YtelabmhhnpfegaaW.PrintMore Go.Proofs.Ytelabmhhnpfegaa.PHungLeast
theorem add_at (g i : Nat) : (⟨g, 0, none⟩ : Addr).add i = ⟨g, i, none⟩ := by unfold Addr.add; split <;> simp_all
theorem lsI_get {n i : Nat} {f : Nat → Int} {x : Int} (h : (lsI n f)[i]? = some x) : i < n ∧ x = f i := by
  have hi : i < n := by
    have := (List.getElem?_eq_some_iff.1 h).1
    rwa [lsI_len] at this
  unfold lsI at h
  simp [hi] at h
  exact ⟨hi, h.symm⟩
theorem lsB_get {n i : Nat} {f : Nat → Bool} {x : Bool} (h : (lsB n f)[i]? = some x) : i < n ∧ x = f i := by
  have hi : i < n := by
    have := (List.getElem?_eq_some_iff.1 h).1
    rwa [lsB_len] at this
  unfold lsB at h
  simp [hi] at h
  exact ⟨hi, h.symm⟩
theorem ib_C {W : World} {r n : Nat} {f : Nat → Int} (h : IB W r 2 n f) (hn : n ≤ 64) : (Kd.int .i64).C W (some ⟨r, 0, none⟩) (lsI n f).length (lsI n f) := by
  refine ⟨rfl, by rw [lsI_len]; omega, fun _ => ⟨_, rfl, fun j p hp => ?_⟩⟩
  obtain ⟨hj, rfl⟩ := lsI_get hp
  refine ⟨[.int .i64 (f j)], rfl, rfl, fun i u hu => ?_⟩
  have hi : i < 1 := (List.getElem?_eq_some_iff.1 hu).1
  obtain rfl : i = 0 := by omega
  cases hu
  rw [show j * (Kd.int .i64).sz + 0 = j from Nat.mul_one j, add_at]
  exact h.c hj
theorem bb_C {W : World} {r n : Nat} {f : Nat → Bool} (h : BB W r n f) (hn : n ≤ 64) : Kd.bool.C W (some ⟨r, 0, none⟩) (lsB n f).length (lsB n f) := by
  refine ⟨rfl, by rw [lsB_len]; omega, fun _ => ⟨_, rfl, fun j p hp => ?_⟩⟩
  obtain ⟨hj, rfl⟩ := lsB_get hp
  refine ⟨[.bool (f j)], rfl, rfl, fun i u hu => ?_⟩
  have hi : i < 1 := (List.getElem?_eq_some_iff.1 hu).1
  obtain rfl : i = 0 := by omega
  cases hu
  rw [show j * Kd.bool.sz + 0 = j from Nat.mul_one j, add_at]
  exact h.c hj
namespace Sq
variable {W : World} {lo hi : Nat} {AC AN : Option Addr} {n : Nat} {c : Nat → Nat → Int} {no : Nat → Nat → Bool} {B D : Nat → Nat}
theorem kC (h : Sq W lo hi AC AN n c no B D) (hn : n ≤ 64) : (Kd.slice 2 (Kd.int .i64)).C W AC (lsII n c).length (lsII n c) := by
  refine ⟨rfl, by rw [lsII_len]; omega, fun h0 => ?_⟩
  rw [lsII_len] at h0
  obtain ⟨g, cs, e, hb, hg, hc⟩ := h.oc h0
  refine ⟨_, e, fun j p hp => ?_⟩
  have hj : j < n := by
    have := (List.getElem?_eq_some_iff.1 hp).1
    rwa [lsII_len] at this
  unfold lsII at hp
  simp [hj] at hp
  subst hp
  refine ⟨[.slice (some ⟨B j, 0, none⟩) n n], rfl, ⟨_, n, by rw [lsI_len], by rw [lsI_len]; exact Nat.le_refl _, ib_C (h.ib j hj).2 hn⟩, fun i u hu => ?_⟩
  have hi : i < 1 := (List.getElem?_eq_some_iff.1 hu).1
  obtain rfl : i = 0 := by omega
  cases hu
  rw [show j * (Kd.slice 2 (Kd.int .i64)).sz + 0 = j from Nat.mul_one j, add_at, blk_cell hg, hc j hj]
theorem kN (h : Sq W lo hi AC AN n c no B D) (hn : n ≤ 64) : (Kd.slice 4 Kd.bool).C W AN (lsBB n no).length (lsBB n no) := by
  refine ⟨rfl, by rw [lsBB_len]; omega, fun h0 => ?_⟩
  rw [lsBB_len] at h0
  obtain ⟨g, cs, e, hb, hg, hc⟩ := h.on h0
  refine ⟨_, e, fun j p hp => ?_⟩
  have hj : j < n := by
    have := (List.getElem?_eq_some_iff.1 hp).1
    rwa [lsBB_len] at this
  unfold lsBB at hp
  simp [hj] at hp
  subst hp
  refine ⟨[.slice (some ⟨D j, 0, none⟩) n n], rfl, ⟨_, n, by rw [lsB_len], by rw [lsB_len]; exact Nat.le_refl _, bb_C (h.bb j hj).2 hn⟩, fun i u hu => ?_⟩
  have hi : i < 1 := (List.getElem?_eq_some_iff.1 hu).1
  obtain rfl : i = 0 := by omega
  cases hu
  rw [show j * (Kd.slice 4 Kd.bool).sz + 0 = j from Nat.mul_one j, add_at, blk_cell hg, hc j hj]
end Sq
theorem bb_R {W : World} {base U n : Nat} {f : Nat → Bool} (h : BB W U n f) (hb : base ≤ U) (hn : n ≤ 64) : Kd.bool.R 4 W base (fun k => k = U) (.slice (some ⟨U, 0, none⟩) n n) (lsB n f) := by
  refine Kd.R_of_own ?_ (fun k hk => by simpa [Value.ownBlock] using hk.symm)
  rw [lsB_len]
  refine ⟨by simp [encs, lsB], .inr ⟨U, n, tabB n f, rfl, hb, h, Nat.le_refl _, by unfold maxLen; omega, by simp [tabB], ?_⟩⟩
  simp only [tabB, encs, lsB, Nat.mul_one]
  rw [List.take_of_length_le (by simp), List.map_map]
  rfl
theorem ref_any {W0 w : World} {lo hi : Nat} {AC AN : Option Addr} {cC cN n : Nat} {c : Nat → Nat → Int} {no : Nat → Nat → Bool} {B D : Nat → Nat} (h : Sq W0 lo hi AC AN n c no B D) (hhi : hi ≤ W0.heap.size) (hb : Below W0.heap.size W0 w)
    (hcC : n ≤ cC) (hcN : n ≤ cN) (hn : n ≤ 64) (hm : ∀ i k, i < n → k < n → -2147483648 ≤ c i k ∧ c i k ≤ 2147483648) (U : Nat) (hU : W0.heap.size ≤ U) (hu : BB w U n (fun _ => false)) :
    Calls Try.prog 16 #[.slice AC n cC, .slice AN n cN, .int .i64 0, .slice (some ⟨U, 0, none⟩) n n] w fun e w' => e = .returned (.tuple #[.int .i64 ((lst n c no n 0 (fun _ => false)).getD 0), .bool (lst n c no n 0 (fun _ => false)).isSome]) ∧ Below W0.heap.size W0 w' := by
  obtain ⟨K, hK⟩ := least_ok (no := no) hn hm n 0 (fun _ => false) (by omega)
  have sq : ∀ W_, Kept w W_ (fun k => k = U) → Sq W_ lo hi AC AN n c no B D := fun W_ hk => (h.below hb hhi).move (fun k _ h2 => hk.2 k (by have := hb.size; omega) (by omega))
  have := secateurref29_Least.calls K AC cC (lsII n c) AN cN (lsBB n no) 0 (fun k => k = U) (.slice (some ⟨U, 0, none⟩) n n) (lsB n (fun _ => false)) _ _ _ W0 w hb (fun W_ hk => (sq W_ hk).kC hn) (by rw [lsII_len]; exact hcC) (fun W_ hk => (sq W_ hk).kN hn) (by rw [lsBB_len]; exact hcN) (bb_R hu hU hn) (hK K (Nat.le_refl _))
  rw [lsII_len, lsBB_len] at this
  exact this.mono (fun _ _ hh => ⟨hh.1, hh.2.2.1⟩)
end Go.Proofs.Ytelabmhhnpfegaa.Hand
