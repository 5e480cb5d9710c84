/- Answers: fits, in plain Lean and walked. -/
import Derived.Test.YtofomlpdklhigaaGreatDoorKh
namespace Go.Proofs.YtofomlpdklhigaaGreatDoor.Hand
open Go.RowKit Go.Proofs.YtofomlpdklhigaaGreatDoorW.PrintWords Go.Proofs.YtofomlpdklhigaaGreatDoorW.PrintLast Go.Proofs.YtofomlpdklhigaaGreatDoorW.PrintMore Go.Proofs.YtofomlpdklhigaaGreatDoor.PSigns
set_option linter.unusedVariables false
set_option linter.unusedSimpArgs false
theorem RowI_C {w : World} {A : Option Addr} {n : Nat} {l : List Int} (h : (Kd.int .i64).C w A n l) : RowI w A n (fun i => l.getD i 0) := fun k hk => at_Int h k hk
def wgtC (x : PI) (k : Int) : Int := (x.items.getD k.toNat ⟨0, 0⟩).f1
def sumL (l : List Int) : Int := sumTo l.length fun i => l.getD i 0
def fitB (x : PI) (xs : List Int) : Bool := decide (sumL (xs.map (wgtC x)) ≤ x.cap)
theorem getD_map' {f : Int → Int} {l : List Int} {i : Nat} (h : i < l.length) : (l.map f).getD i 0 = f (l.getD i 0) := by
  rw [List.getD_eq_getElem?_getD, List.getElem?_map, List.getD_eq_getElem?_getD, List.getElem?_eq_getElem h]
  rfl
theorem map_take_succ {f : Int → Int} {l : List Int} {i : Nat} (h : i < l.length) : (l.take (i + 1)).map f = (l.take i).map f ++ [f (l.getD i 0)] := by
  rw [take_snoc h 0, List.map_append]
  rfl
set_option maxHeartbeats 1000000 in
set_option maxRecDepth 100000 in
theorem fits_any (w : World) (x : PI) (v : Value) (h : InstC w x v) (hi : IOk x) (A : Option Addr) (m c : Nat) (xs : List Int) (hC : (Kd.int .i64).C w A m xs) (hm : m ≤ 4096) (hr : ∀ k ∈ xs, 0 ≤ k ∧ k < x.items.length) (r : Bool) (RR : r = fitB x xs) :
    Calls Tryz.prog 93 #[v, .slice A m c] w fun e w' => e = .returned (.bool r) ∧ Aside0 (Below w.heap.size w w') := by
  have HR := Aside0.mk RR
  have HC := Aside0.mk hC
  have HL : Aside0 (xs.length = m) := ⟨hC.1⟩
  have HI := Aside0.mk hi
  have HE := Aside0.mk hr
  obtain ⟨A2, c2, A3, c3, A5, c5, rfl, h2, l2, h3, l3, h5, l5⟩ := h
  obtain ⟨n2, hn2⟩ : ∃ n, n = x.items.length := ⟨_, rfl⟩
  obtain ⟨n3, hn3⟩ : ∃ n, n = x.cost.length := ⟨_, rfl⟩
  obtain ⟨n5, hn5⟩ : ∃ n, n = x.sets.length := ⟨_, rfl⟩
  obtain ⟨kd, hkd⟩ : ∃ n, n = x.kind := ⟨_, rfl⟩
  obtain ⟨cap, hcap⟩ : ∃ n, n = x.cap := ⟨_, rfl⟩
  obtain ⟨sz, hsz⟩ : ∃ n, n = x.size := ⟨_, rfl⟩
  have H2 := Aside0.mk h2
  have H3 := Aside0.mk h3
  have H5 := Aside0.mk h5
  rw [← hn2, ← hn3, ← hn5, ← hkd, ← hcap, ← hsz]
  rw [← hn2] at H2
  rw [← hn3] at H3
  rw [← hn5] at H5
  have HN := Aside0.mk (And.intro hn2 (And.intro hn3 hn5))
  have HF := Aside0.mk (And.intro hkd (And.intro hcap hsz))
  rw [← hn2] at HE
  clear h2 h3 h5 l2 l3 l5 hn2 hn3 hn5 hkd hcap hsz hi hr hC RR
  have hu54 := Tryz.underlying76
  have hu101 := Tryz.underlying159
  go_enter Tryz.func93, Tryz.ntmps93
  go_upto_region 1 with fail
  obtain ⟨W1, hW1⟩ : ∃ W, W = w.alloc (.cells #[.int .i64 kd, .int .i64 cap, .slice A2 n2 c2, .slice A3 n3 c3, .int .i64 sz, .slice A5 n5 c5] 76) := ⟨_, rfl⟩
  rw [← hW1]
  have B1 : Aside0 (Below w.heap.size w W1) := ⟨by rw [hW1]; exact below_alloc (Below.refl _ _) _⟩
  obtain ⟨p1, hp1⟩ : ∃ p, p = w.heap.size := ⟨_, rfl⟩
  have Q1 : Aside0 (W1.heap[p1]? = some (.cells #[.int .i64 kd, .int .i64 cap, .slice A2 n2 c2, .slice A3 n3 c3, .int .i64 sz, .slice A5 n5 c5] 76 (0, 0))) := ⟨by rw [hW1, hp1]; exact heap_alloc_new _ _⟩
  rw [← hp1]
  clear hW1 hp1
  have K0 : Aside0 ((Kd.int .i64).R 2 W1 W1.heap.size (fun _ => True) (.slice none 0 0) ((xs.take 0).map (wgtC x)) ∧ Below W1.heap.size W1 W1) := ⟨Kd.R_nil _ _ _ _ _, Below.refl _ _⟩
  go_wp2_with fail
  go_loopw [5, 12] (fun v5 v12 wr => ∃ (j : Nat) (L : Option Addr) (k cc : Nat), j ≤ m ∧ v12 = .int .i64 (j : Int) ∧ v5 = .slice L k cc ∧ Aside0 ((Kd.int .i64).R 2 wr W1.heap.size (fun _ => True) (.slice L k cc) ((xs.take j).map (wgtC x)) ∧ Below W1.heap.size W1 wr)) (fun _ v12 _ => m - (intOf v12).toNat)
  case atStart => exact ⟨0, none, 0, 0, Nat.zero_le _, rfl, rfl, K0⟩
  case round =>
    clear K0
    obtain ⟨j, L, k, cc, hj, rfl, rfl, KK⟩ := hrel
    by_cases hlt : j < m
    · have hjl : j < xs.length := by rw [HL.out]; exact hlt
      obtain ⟨ae, rfl, hx'⟩ := at_Int HC.out j hlt
      have hx := pw_cell_below (B1.out.trans (KK.out.2.mono B1.out.size)) hx'
      have hzr := HE.out (xs.getD j 0) (getD_mem' hjl)
      obtain ⟨q, hq⟩ : ∃ q : Nat, (q : Int) = xs.getD j 0 := ⟨(xs.getD j 0).toNat, by omega⟩
      rw [← hq] at hx hzr
      have hqK : q < n2 := by omega
      obtain ⟨ad, rfl, a0', a1'⟩ := at_T159 H2.out (q : Int) (by omega) (by omega)
      have a1 := pw_cell_below (B1.out.trans (KK.out.2.mono B1.out.size)) a1'
      rw [Int.toNat_natCast] at a1
      obtain ⟨z, hz⟩ : ∃ z, z = (rd_T159 x.items (q : Int)).f1 := ⟨_, rfl⟩
      rw [← hz] at a1
      have NX : Aside0 ((xs.take (j + 1)).map (wgtC x) = (xs.take j).map (wgtC x) ++ [z]) := ⟨by
        rw [map_take_succ hjl, hz, ← hq]
        unfold wgtC rd_T159
        rfl⟩
      have q2 : wr.cell? ⟨p1, 2, none⟩ = some (.slice (some ad) n2 c2) := (blk_cell (blk_below Q1.out KK.out.2) 2).trans rfl
      have HB : Aside0 ((((xs.take j).map (wgtC x)).length + 1) * 8 ≤ 140737488355328) := ⟨by
        rw [List.length_map, List.length_take]
        omega⟩
      clear hx' hzr hq a0' a1' hz hjl
      go_upto_region 6 with (at_builtin; refine Kd.R_append (Kd.int .i64) (w0 := W1) W1.heap.size rfl _ _ 71 2 (.int .i64 0) 8 rfl Tryz.underlying71 info2 rfl (by decide) (by decide) (.slice L k cc) ((xs.take j).map (wgtC x)) z [.int .i64 z] (fun _ => True) (fun _ => False) rfl rfl rfl (fun _ h => h.elim) (fun _ _ => trivial) KK.out.1 KK.out.2 KK.out.2.size HB.out ?_; intro v7 w7 ho7 hb7 _ _; obtain ⟨A7, n7, c7, rfl, _⟩ := R_open ho7; have O7 := Aside0.mk ho7; have B7 := Aside0.mk hb7; clear ho7 hb7)
      clear hx a1 q2
      have N1 : Aside0 ((Kd.int .i64).R 2 w7 W1.heap.size (fun _ => True) (.slice A7 n7 c7) ((xs.take (j + 1)).map (wgtC x)) ∧ Below W1.heap.size W1 w7) := ⟨by rw [NX.out]; exact O7.out, B7.out⟩
      go_wp2_with fail
      exact ⟨⟨j + 1, A7, n7, c7, by omega, by go_num, rfl, N1⟩, by simp [intOf]; omega⟩
    · obtain rfl : m = j := by omega
      have hall : xs.take m = xs := List.take_of_length_le (by rw [HL.out]; exact Nat.le_refl _)
      have K1 := KK.out
      rw [hall] at K1
      obtain ⟨C1, l1, _⟩ := R_C K1.1
      rw [List.length_map, HL.out] at l1
      subst l1
      have SB : Aside0 (∀ i, i < m → -549755813888 ≤ (xs.map (wgtC x)).getD i 0 ∧ (xs.map (wgtC x)).getD i 0 ≤ 549755813888) := ⟨fun i hi => by
        have hil : i < xs.length := by rw [HL.out]; exact hi
        rw [getD_map' hil]
        have hz := HE.out _ (getD_mem' hil)
        unfold wgtC
        have hl : (xs.getD i 0).toNat < x.items.length := by rw [← HN.out.1]; omega
        rw [List.getD_eq_getElem?_getD, List.getElem?_eq_getElem hl, Option.getD_some]
        have := (HI.out.items _ (List.getElem_mem hl)).2
        omega⟩
      have C2 := Aside0.mk (RowI_C C1)
      obtain ⟨s, hs⟩ : ∃ s, s = sumL (xs.map (wgtC x)) := ⟨_, rfl⟩
      have HS : Aside0 (sumTo m (fun i => (xs.map (wgtC x)).getD i 0) = s ∧ r = decide (s ≤ cap)) := ⟨by
        rw [hs]
        unfold sumL
        rw [List.length_map, HL.out], by
        rw [HR.out, hs, HF.out.2.1]
        rfl⟩
      have B2 := Aside0.mk KK.out.2
      clear hall K1 C1 hs KK
      go_wp2_with fail
      refine (sum_any wr L m cc _ C2.out SB.out hm).mono ?_
      rintro _ w3 ⟨rfl, hb3⟩
      rw [HS.out.1]
      have B3 : Aside0 (Below W1.heap.size W1 w3) := ⟨B2.out.trans (hb3.mono B2.out.size)⟩
      clear hb3
      have q1 : w3.cell? ⟨p1, 1, none⟩ = some (.int .i64 cap) := (blk_cell (blk_below Q1.out B3.out) 1).trans rfl
      go_wp2_with fail
      go_ret
      exact ⟨by rw [HS.out.2]; rfl, ⟨B1.out.trans (B3.out.mono B1.out.size)⟩⟩
end Go.Proofs.YtofomlpdklhigaaGreatDoor.Hand
