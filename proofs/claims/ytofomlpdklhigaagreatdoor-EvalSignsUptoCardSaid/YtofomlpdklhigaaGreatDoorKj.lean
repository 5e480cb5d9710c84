/- Answers: what they come to, part by part: in plain Lean and walked. -/
import Derived.Test.YtofomlpdklhigaaGreatDoorKi
namespace Go.Proofs.YtofomlpdklhigaaGreatDoor.Hand
open Go.RowKit Go.Proofs.YtofomlpdklhigaaGreatDoorW.PrintWords Go.Proofs.YtofomlpdklhigaaGreatDoorW.PrintLast Go.Proofs.YtofomlpdklhigaaGreatDoorW.PrintMore Go.Proofs.YtofomlpdklhigaaGreatDoor.PSigns
set_option linter.unusedVariables false
set_option linter.unusedSimpArgs false
def cstA (x : PI) (i k : Nat) : Int := (x.cost.getD i []).getD k 0
def partC (x : PI) (y : List Int) (i : Nat) : Int :=
  if x.kind = 0 then (x.items.getD (y.getD i 0).toNat ⟨0, 0⟩).f0
  else if x.kind = 1 then cstA x i (y.getD i 0).toNat
  else if x.kind = 2 then cstA x (y.getD i 0).toNat (y.getD ((i + 1) % y.length) 0).toNat
  else (x.sets.getD (y.getD i 0).toNat ⟨0, []⟩).f0
theorem parts_succ (f : Nat → Int) (j : Nat) : (List.range (j + 1)).map f = (List.range j).map f ++ [f j] := by
  rw [List.range_succ, List.map_append]
  rfl
set_option maxHeartbeats 1000000 in
set_option maxRecDepth 100000 in
theorem parts_0 (w : World) (x : PI) (v : Value) (h : InstC w x v) (hi : IOk x) (A : Option Addr) (m c : Nat) (xs : List Int) (hC : (Kd.int .i64).C w A m xs) (hm : m ≤ 4096) (hkk : x.kind = 0) (hr : ∀ k ∈ xs, 0 ≤ k ∧ k < x.items.length) :
    Calls Tryz.prog 55 #[v, .slice A m c] w fun e w' => ∃ L cc, e = .returned (.slice L m cc) ∧ Aside0 ((Kd.int .i64).R 2 w' w.heap.size (fun _ => True) (.slice L m cc) ((List.range m).map (partC x xs)) ∧ Below w.heap.size w w') := by
  have HC := Aside0.mk hC
  have HL : Aside0 (xs.length = m) := ⟨hC.1⟩
  have HI := Aside0.mk hi
  have HE := Aside0.mk hr
  obtain ⟨A2, c2, A3, c3, A5, c5, rfl, h2, l2, h3, l3, h5, l5⟩ := h
  obtain ⟨n2, hn2⟩ : ∃ n, n = x.items.length := ⟨_, rfl⟩
  obtain ⟨n3, hn3⟩ : ∃ n, n = x.cost.length := ⟨_, rfl⟩
  obtain ⟨n5, hn5⟩ : ∃ n, n = x.sets.length := ⟨_, rfl⟩
  obtain ⟨kd, hkd⟩ : ∃ n, n = x.kind := ⟨_, rfl⟩
  obtain ⟨cap, hcap⟩ : ∃ n, n = x.cap := ⟨_, rfl⟩
  obtain ⟨sz, hsz⟩ : ∃ n, n = x.size := ⟨_, rfl⟩
  have H2 := Aside0.mk h2
  have H3 := Aside0.mk h3
  have H5 := Aside0.mk h5
  rw [← hn2, ← hn3, ← hn5, ← hkd, ← hcap, ← hsz]
  rw [← hn2] at H2
  rw [← hn3] at H3
  rw [← hn5] at H5
  have HN := Aside0.mk (And.intro hn2 (And.intro hn3 hn5))
  have HF := Aside0.mk (And.intro hkd (And.intro hcap hsz))
  rw [← hn2] at HE
  rw [hkk] at hkd
  subst hkd
  clear h2 h3 h5 l2 l3 l5 hn2 hn3 hn5 hcap hsz hi hr hC
  have HKK := Aside0.mk hkk
  clear hkk
  have hu54 := Tryz.underlying76
  have hu101 := Tryz.underlying159
  have hu102 := Tryz.underlying161
  go_enter Tryz.func55, Tryz.ntmps55
  go_upto_region 1 with fail
  obtain ⟨W1, hW1⟩ : ∃ W, W = w.alloc (.cells #[.int .i64 0, .int .i64 cap, .slice A2 n2 c2, .slice A3 n3 c3, .int .i64 sz, .slice A5 n5 c5] 76) := ⟨_, rfl⟩
  rw [← hW1]
  have B1 : Aside0 (Below w.heap.size w W1) := ⟨by rw [hW1]; exact below_alloc (Below.refl _ _) _⟩
  obtain ⟨p1, hp1⟩ : ∃ p, p = w.heap.size := ⟨_, rfl⟩
  have Q1 : Aside0 (W1.heap[p1]? = some (.cells #[.int .i64 0, .int .i64 cap, .slice A2 n2 c2, .slice A3 n3 c3, .int .i64 sz, .slice A5 n5 c5] 76 (0, 0))) := ⟨by rw [hW1, hp1]; exact heap_alloc_new _ _⟩
  rw [← hp1]
  clear hW1 hp1
  have K0 : Aside0 ((Kd.int .i64).R 2 W1 W1.heap.size (fun _ => True) (.slice none 0 0) ((List.range 0).map (partC x xs)) ∧ Below W1.heap.size W1 W1) := ⟨Kd.R_nil _ _ _ _ _, Below.refl _ _⟩
  go_wp2_with fail
  go_loopw [5, 10] (fun v5 v10 wr => ∃ (j : Nat) (L : Option Addr) (k cc : Nat), j ≤ m ∧ v10 = .int .i64 (j : Int) ∧ v5 = .slice L k cc ∧ Aside0 ((Kd.int .i64).R 2 wr W1.heap.size (fun _ => True) (.slice L k cc) ((List.range j).map (partC x xs)) ∧ Below W1.heap.size W1 wr)) (fun _ v10 _ => m - (intOf v10).toNat)
  case atStart => exact ⟨0, none, 0, 0, Nat.zero_le _, rfl, rfl, K0⟩
  case round =>
    clear K0
    obtain ⟨j, L, k, cc, hj, rfl, rfl, KK⟩ := hrel
    have q0 : wr.cell? ⟨p1, 0, none⟩ = some (.int .i64 0) := (blk_cell (blk_below Q1.out KK.out.2) 0).trans rfl
    by_cases hlt : j < m
    · have hjl : j < xs.length := by rw [HL.out]; exact hlt
      obtain ⟨ae, rfl, hx'⟩ := at_Int HC.out j hlt
      have BW : Aside0 (Below w.heap.size w wr) := ⟨B1.out.trans (KK.out.2.mono B1.out.size)⟩
      have hx := pw_cell_below BW.out hx'
      have hzr := HE.out (xs.getD j 0) (getD_mem' hjl)
      obtain ⟨q, hq⟩ : ∃ q : Nat, (q : Int) = xs.getD j 0 := ⟨(xs.getD j 0).toNat, by omega⟩
      have hqt : (xs.getD j 0).toNat = q := by omega
      rw [← hq] at hx hzr
      have hqK : q < n2 := by omega
      have HB : Aside0 ((((List.range j).map (partC x xs)).length + 1) * 8 ≤ 140737488355328) := ⟨by
        rw [List.length_map, List.length_range]
        omega⟩
      obtain ⟨ad, rfl, a0', a1'⟩ := at_T159 H2.out (q : Int) (by omega) (by omega)
      have a0 := pw_cell_below BW.out a0'
      rw [Int.toNat_natCast] at a0
      obtain ⟨z, hz⟩ : ∃ z, z = (rd_T159 x.items (q : Int)).f0 := ⟨_, rfl⟩
      rw [← hz] at a0
      have NX : Aside0 (z = partC x xs j) := ⟨by
        unfold partC
        rw [if_pos HKK.out, hz, hqt]
        unfold rd_T159
        rfl⟩
      have q2 : wr.cell? ⟨p1, 2, none⟩ = some (.slice (some ad) n2 c2) := (blk_cell (blk_below Q1.out KK.out.2) 2).trans rfl
      clear hx' hzr hq hqt a0' a1' hz hjl
      go_upto_region 13 with (at_builtin; refine Kd.R_append (Kd.int .i64) (w0 := W1) W1.heap.size rfl _ _ 71 2 (.int .i64 0) 8 rfl Tryz.underlying71 info2 rfl (by decide) (by decide) (.slice L k cc) ((List.range j).map (partC x xs)) z [.int .i64 z] (fun _ => True) (fun _ => False) rfl rfl rfl (fun _ h => h.elim) (fun _ _ => trivial) KK.out.1 KK.out.2 KK.out.2.size HB.out ?_; intro v7 w7 ho7 hb7 _ _; obtain ⟨A7, n7, c7, rfl, _⟩ := R_open ho7; have O7 := Aside0.mk ho7; have B7 := Aside0.mk hb7; clear ho7 hb7)
      clear hx a0 q2 q0
      have N1 : Aside0 ((Kd.int .i64).R 2 w7 W1.heap.size (fun _ => True) (.slice A7 n7 c7) ((List.range (j + 1)).map (partC x xs)) ∧ Below W1.heap.size W1 w7) := ⟨by rw [parts_succ, ← NX.out]; exact O7.out, B7.out⟩
      go_wp2_with fail
      exact ⟨⟨j + 1, A7, n7, c7, by omega, by go_num, rfl, N1⟩, by simp [intOf]; omega⟩
    · obtain rfl : m = j := by omega
      have hk : k = m := by
        obtain ⟨A', c', e, _⟩ := Kd.R_reads KK.out.1
        injection e with _ e _
        rw [e]
        simp
      subst hk
      clear q0
      go_wp2_with fail
      go_ret
      exact ⟨L, cc, rfl, ⟨Kd.R_lower KK.out.1 B1.out.size, B1.out.trans (KK.out.2.mono B1.out.size)⟩⟩
set_option maxHeartbeats 1000000 in
set_option maxRecDepth 100000 in
theorem parts_3 (w : World) (x : PI) (v : Value) (h : InstC w x v) (hi : IOk x) (A : Option Addr) (m c : Nat) (xs : List Int) (hC : (Kd.int .i64).C w A m xs) (hm : m ≤ 4096) (hkk : x.kind = 3) (hr : ∀ k ∈ xs, 0 ≤ k ∧ k < x.sets.length) :
    Calls Tryz.prog 55 #[v, .slice A m c] w fun e w' => ∃ L cc, e = .returned (.slice L m cc) ∧ Aside0 ((Kd.int .i64).R 2 w' w.heap.size (fun _ => True) (.slice L m cc) ((List.range m).map (partC x xs)) ∧ Below w.heap.size w w') := by
  have HC := Aside0.mk hC
  have HL : Aside0 (xs.length = m) := ⟨hC.1⟩
  have HI := Aside0.mk hi
  have HE := Aside0.mk hr
  obtain ⟨A2, c2, A3, c3, A5, c5, rfl, h2, l2, h3, l3, h5, l5⟩ := h
  obtain ⟨n2, hn2⟩ : ∃ n, n = x.items.length := ⟨_, rfl⟩
  obtain ⟨n3, hn3⟩ : ∃ n, n = x.cost.length := ⟨_, rfl⟩
  obtain ⟨n5, hn5⟩ : ∃ n, n = x.sets.length := ⟨_, rfl⟩
  obtain ⟨kd, hkd⟩ : ∃ n, n = x.kind := ⟨_, rfl⟩
  obtain ⟨cap, hcap⟩ : ∃ n, n = x.cap := ⟨_, rfl⟩
  obtain ⟨sz, hsz⟩ : ∃ n, n = x.size := ⟨_, rfl⟩
  have H2 := Aside0.mk h2
  have H3 := Aside0.mk h3
  have H5 := Aside0.mk h5
  rw [← hn2, ← hn3, ← hn5, ← hkd, ← hcap, ← hsz]
  rw [← hn2] at H2
  rw [← hn3] at H3
  rw [← hn5] at H5
  have HN := Aside0.mk (And.intro hn2 (And.intro hn3 hn5))
  have HF := Aside0.mk (And.intro hkd (And.intro hcap hsz))
  rw [← hn5] at HE
  rw [hkk] at hkd
  subst hkd
  clear h2 h3 h5 l2 l3 l5 hn2 hn3 hn5 hcap hsz hi hr hC
  have HKK := Aside0.mk hkk
  clear hkk
  have hu54 := Tryz.underlying76
  have hu101 := Tryz.underlying159
  have hu102 := Tryz.underlying161
  go_enter Tryz.func55, Tryz.ntmps55
  go_upto_region 1 with fail
  obtain ⟨W1, hW1⟩ : ∃ W, W = w.alloc (.cells #[.int .i64 3, .int .i64 cap, .slice A2 n2 c2, .slice A3 n3 c3, .int .i64 sz, .slice A5 n5 c5] 76) := ⟨_, rfl⟩
  rw [← hW1]
  have B1 : Aside0 (Below w.heap.size w W1) := ⟨by rw [hW1]; exact below_alloc (Below.refl _ _) _⟩
  obtain ⟨p1, hp1⟩ : ∃ p, p = w.heap.size := ⟨_, rfl⟩
  have Q1 : Aside0 (W1.heap[p1]? = some (.cells #[.int .i64 3, .int .i64 cap, .slice A2 n2 c2, .slice A3 n3 c3, .int .i64 sz, .slice A5 n5 c5] 76 (0, 0))) := ⟨by rw [hW1, hp1]; exact heap_alloc_new _ _⟩
  rw [← hp1]
  clear hW1 hp1
  have K0 : Aside0 ((Kd.int .i64).R 2 W1 W1.heap.size (fun _ => True) (.slice none 0 0) ((List.range 0).map (partC x xs)) ∧ Below W1.heap.size W1 W1) := ⟨Kd.R_nil _ _ _ _ _, Below.refl _ _⟩
  go_wp2_with fail
  go_loopw [5, 10] (fun v5 v10 wr => ∃ (j : Nat) (L : Option Addr) (k cc : Nat), j ≤ m ∧ v10 = .int .i64 (j : Int) ∧ v5 = .slice L k cc ∧ Aside0 ((Kd.int .i64).R 2 wr W1.heap.size (fun _ => True) (.slice L k cc) ((List.range j).map (partC x xs)) ∧ Below W1.heap.size W1 wr)) (fun _ v10 _ => m - (intOf v10).toNat)
  case atStart => exact ⟨0, none, 0, 0, Nat.zero_le _, rfl, rfl, K0⟩
  case round =>
    clear K0
    obtain ⟨j, L, k, cc, hj, rfl, rfl, KK⟩ := hrel
    have q0 : wr.cell? ⟨p1, 0, none⟩ = some (.int .i64 3) := (blk_cell (blk_below Q1.out KK.out.2) 0).trans rfl
    by_cases hlt : j < m
    · have hjl : j < xs.length := by rw [HL.out]; exact hlt
      obtain ⟨ae, rfl, hx'⟩ := at_Int HC.out j hlt
      have BW : Aside0 (Below w.heap.size w wr) := ⟨B1.out.trans (KK.out.2.mono B1.out.size)⟩
      have hx := pw_cell_below BW.out hx'
      have hzr := HE.out (xs.getD j 0) (getD_mem' hjl)
      obtain ⟨q, hq⟩ : ∃ q : Nat, (q : Int) = xs.getD j 0 := ⟨(xs.getD j 0).toNat, by omega⟩
      have hqt : (xs.getD j 0).toNat = q := by omega
      rw [← hq] at hx hzr
      have hqK : q < n5 := by omega
      have HB : Aside0 ((((List.range j).map (partC x xs)).length + 1) * 8 ≤ 140737488355328) := ⟨by
        rw [List.length_map, List.length_range]
        omega⟩
      obtain ⟨ad, AE, cE, rfl, a0', a1', lE, hE⟩ := at_T161 H5.out (q : Int) (by omega) (by omega)
      have a0 := pw_cell_below BW.out a0'
      rw [Int.toNat_natCast] at a0
      obtain ⟨z, hz⟩ : ∃ z, z = (rd_T161 x.sets (q : Int)).f0 := ⟨_, rfl⟩
      rw [← hz] at a0
      have NX : Aside0 (z = partC x xs j) := ⟨by
        unfold partC
        rw [if_neg (by rw [HKK.out]; decide), if_neg (by rw [HKK.out]; decide), if_neg (by rw [HKK.out]; decide), hz, hqt]
        unfold rd_T161
        rfl⟩
      have q2 : wr.cell? ⟨p1, 5, none⟩ = some (.slice (some ad) n5 c5) := (blk_cell (blk_below Q1.out KK.out.2) 5).trans rfl
      clear hx' hzr hq hqt a0' a1' hz hjl hE lE
      go_upto_region 13 with (at_builtin; refine Kd.R_append (Kd.int .i64) (w0 := W1) W1.heap.size rfl _ _ 71 2 (.int .i64 0) 8 rfl Tryz.underlying71 info2 rfl (by decide) (by decide) (.slice L k cc) ((List.range j).map (partC x xs)) z [.int .i64 z] (fun _ => True) (fun _ => False) rfl rfl rfl (fun _ h => h.elim) (fun _ _ => trivial) KK.out.1 KK.out.2 KK.out.2.size HB.out ?_; intro v7 w7 ho7 hb7 _ _; obtain ⟨A7, n7, c7, rfl, _⟩ := R_open ho7; have O7 := Aside0.mk ho7; have B7 := Aside0.mk hb7; clear ho7 hb7)
      clear hx a0 q2 q0
      have N1 : Aside0 ((Kd.int .i64).R 2 w7 W1.heap.size (fun _ => True) (.slice A7 n7 c7) ((List.range (j + 1)).map (partC x xs)) ∧ Below W1.heap.size W1 w7) := ⟨by rw [parts_succ, ← NX.out]; exact O7.out, B7.out⟩
      go_wp2_with fail
      exact ⟨⟨j + 1, A7, n7, c7, by omega, by go_num, rfl, N1⟩, by simp [intOf]; omega⟩
    · obtain rfl : m = j := by omega
      have hk : k = m := by
        obtain ⟨A', c', e, _⟩ := Kd.R_reads KK.out.1
        injection e with _ e _
        rw [e]
        simp
      subst hk
      clear q0
      go_wp2_with fail
      go_ret
      exact ⟨L, cc, rfl, ⟨Kd.R_lower KK.out.1 B1.out.size, B1.out.trans (KK.out.2.mono B1.out.size)⟩⟩
set_option maxHeartbeats 1000000 in
set_option maxRecDepth 100000 in
theorem parts_1 (w : World) (x : PI) (v : Value) (h : InstC w x v) (hi : IOk x) (A : Option Addr) (m c : Nat) (xs : List Int) (hC : (Kd.int .i64).C w A m xs) (hm : m ≤ 4096) (hkk : x.kind = 1) (hr : ∀ k ∈ xs, 0 ≤ k ∧ k < x.cost.length) (hml : m ≤ x.cost.length) :
    Calls Tryz.prog 55 #[v, .slice A m c] w fun e w' => ∃ L cc, e = .returned (.slice L m cc) ∧ Aside0 ((Kd.int .i64).R 2 w' w.heap.size (fun _ => True) (.slice L m cc) ((List.range m).map (partC x xs)) ∧ Below w.heap.size w w') := by
  have HC := Aside0.mk hC
  have HL : Aside0 (xs.length = m) := ⟨hC.1⟩
  have HI := Aside0.mk hi
  have HE := Aside0.mk hr
  obtain ⟨A2, c2, A3, c3, A5, c5, rfl, h2, l2, h3, l3, h5, l5⟩ := h
  obtain ⟨n2, hn2⟩ : ∃ n, n = x.items.length := ⟨_, rfl⟩
  obtain ⟨n3, hn3⟩ : ∃ n, n = x.cost.length := ⟨_, rfl⟩
  obtain ⟨n5, hn5⟩ : ∃ n, n = x.sets.length := ⟨_, rfl⟩
  obtain ⟨kd, hkd⟩ : ∃ n, n = x.kind := ⟨_, rfl⟩
  obtain ⟨cap, hcap⟩ : ∃ n, n = x.cap := ⟨_, rfl⟩
  obtain ⟨sz, hsz⟩ : ∃ n, n = x.size := ⟨_, rfl⟩
  have H2 := Aside0.mk h2
  have H3 := Aside0.mk h3
  have H5 := Aside0.mk h5
  rw [← hn2, ← hn3, ← hn5, ← hkd, ← hcap, ← hsz]
  rw [← hn2] at H2
  rw [← hn3] at H3
  rw [← hn5] at H5
  have HN := Aside0.mk (And.intro hn2 (And.intro hn3 hn5))
  have HF := Aside0.mk (And.intro hkd (And.intro hcap hsz))
  rw [← hn3] at HE hml
  rw [hkk] at hkd
  subst hkd
  clear h2 h3 h5 l2 l3 l5 hn2 hn3 hn5 hcap hsz hi hr hC
  have HKK := Aside0.mk hkk
  clear hkk
  have hu54 := Tryz.underlying76
  have hu101 := Tryz.underlying159
  have hu102 := Tryz.underlying161
  go_enter Tryz.func55, Tryz.ntmps55
  go_upto_region 1 with fail
  obtain ⟨W1, hW1⟩ : ∃ W, W = w.alloc (.cells #[.int .i64 1, .int .i64 cap, .slice A2 n2 c2, .slice A3 n3 c3, .int .i64 sz, .slice A5 n5 c5] 76) := ⟨_, rfl⟩
  rw [← hW1]
  have B1 : Aside0 (Below w.heap.size w W1) := ⟨by rw [hW1]; exact below_alloc (Below.refl _ _) _⟩
  obtain ⟨p1, hp1⟩ : ∃ p, p = w.heap.size := ⟨_, rfl⟩
  have Q1 : Aside0 (W1.heap[p1]? = some (.cells #[.int .i64 1, .int .i64 cap, .slice A2 n2 c2, .slice A3 n3 c3, .int .i64 sz, .slice A5 n5 c5] 76 (0, 0))) := ⟨by rw [hW1, hp1]; exact heap_alloc_new _ _⟩
  rw [← hp1]
  clear hW1 hp1
  have K0 : Aside0 ((Kd.int .i64).R 2 W1 W1.heap.size (fun _ => True) (.slice none 0 0) ((List.range 0).map (partC x xs)) ∧ Below W1.heap.size W1 W1) := ⟨Kd.R_nil _ _ _ _ _, Below.refl _ _⟩
  go_wp2_with fail
  go_loopw [5, 10] (fun v5 v10 wr => ∃ (j : Nat) (L : Option Addr) (k cc : Nat), j ≤ m ∧ v10 = .int .i64 (j : Int) ∧ v5 = .slice L k cc ∧ Aside0 ((Kd.int .i64).R 2 wr W1.heap.size (fun _ => True) (.slice L k cc) ((List.range j).map (partC x xs)) ∧ Below W1.heap.size W1 wr)) (fun _ v10 _ => m - (intOf v10).toNat)
  case atStart => exact ⟨0, none, 0, 0, Nat.zero_le _, rfl, rfl, K0⟩
  case round =>
    clear K0
    obtain ⟨j, L, k, cc, hj, rfl, rfl, KK⟩ := hrel
    have q0 : wr.cell? ⟨p1, 0, none⟩ = some (.int .i64 1) := (blk_cell (blk_below Q1.out KK.out.2) 0).trans rfl
    by_cases hlt : j < m
    · have hjl : j < xs.length := by rw [HL.out]; exact hlt
      obtain ⟨ae, rfl, hx'⟩ := at_Int HC.out j hlt
      have BW : Aside0 (Below w.heap.size w wr) := ⟨B1.out.trans (KK.out.2.mono B1.out.size)⟩
      have hx := pw_cell_below BW.out hx'
      have hzr := HE.out (xs.getD j 0) (getD_mem' hjl)
      obtain ⟨q, hq⟩ : ∃ q : Nat, (q : Int) = xs.getD j 0 := ⟨(xs.getD j 0).toNat, by omega⟩
      have hqt : (xs.getD j 0).toNat = q := by omega
      rw [← hq] at hx hzr
      have hqK : q < n3 := by omega
      have HB : Aside0 ((((List.range j).map (partC x xs)).length + 1) * 8 ≤ 140737488355328) := ⟨by
        rw [List.length_map, List.length_range]
        omega⟩
      obtain ⟨ar, AY, cY, rfl, y0', ly, hy⟩ := at_L2 H3.out (j : Int) (by omega) (by omega)
      have hrl : (rd_L2 x.cost (j : Int)).length = n3 := by
        unfold rd_L2
        rw [Int.toNat_natCast, List.getD_eq_getElem?_getD, List.getElem?_eq_getElem (by rw [← HN.out.2.1]; omega), Option.getD_some]
        exact (HI.out.rows _ (List.getElem_mem _)).trans HN.out.2.1.symm
      rw [hrl] at y0' hy
      obtain ⟨aY, rfl, y1'⟩ := at_Int hy q (by omega)
      have y0 := pw_cell_below BW.out y0'
      have y1 := pw_cell_below BW.out y1'
      rw [Int.toNat_natCast] at y0
      obtain ⟨z, hz⟩ : ∃ z, z = (rd_L2 x.cost (j : Int)).getD q 0 := ⟨_, rfl⟩
      rw [← hz] at y1
      have NX : Aside0 (z = partC x xs j) := ⟨by
        unfold partC
        rw [if_neg (by rw [HKK.out]; decide), if_pos HKK.out, hz, hqt]
        unfold rd_L2 cstA
        rfl⟩
      have q2 : wr.cell? ⟨p1, 3, none⟩ = some (.slice (some ar) n3 c3) := (blk_cell (blk_below Q1.out KK.out.2) 3).trans rfl
      clear hx' hzr hq hqt y0' y1' hz hjl hy ly hrl
      go_upto_region 13 with (at_builtin; refine Kd.R_append (Kd.int .i64) (w0 := W1) W1.heap.size rfl _ _ 71 2 (.int .i64 0) 8 rfl Tryz.underlying71 info2 rfl (by decide) (by decide) (.slice L k cc) ((List.range j).map (partC x xs)) z [.int .i64 z] (fun _ => True) (fun _ => False) rfl rfl rfl (fun _ h => h.elim) (fun _ _ => trivial) KK.out.1 KK.out.2 KK.out.2.size HB.out ?_; intro v7 w7 ho7 hb7 _ _; obtain ⟨A7, n7, c7, rfl, _⟩ := R_open ho7; have O7 := Aside0.mk ho7; have B7 := Aside0.mk hb7; clear ho7 hb7)
      clear hx y0 y1 q2 q0
      have N1 : Aside0 ((Kd.int .i64).R 2 w7 W1.heap.size (fun _ => True) (.slice A7 n7 c7) ((List.range (j + 1)).map (partC x xs)) ∧ Below W1.heap.size W1 w7) := ⟨by rw [parts_succ, ← NX.out]; exact O7.out, B7.out⟩
      go_wp2_with fail
      exact ⟨⟨j + 1, A7, n7, c7, by omega, by go_num, rfl, N1⟩, by simp [intOf]; omega⟩
    · obtain rfl : m = j := by omega
      have hk : k = m := by
        obtain ⟨A', c', e, _⟩ := Kd.R_reads KK.out.1
        injection e with _ e _
        rw [e]
        simp
      subst hk
      clear q0
      go_wp2_with fail
      go_ret
      exact ⟨L, cc, rfl, ⟨Kd.R_lower KK.out.1 B1.out.size, B1.out.trans (KK.out.2.mono B1.out.size)⟩⟩
set_option maxHeartbeats 1000000 in
set_option maxRecDepth 100000 in
theorem parts_2 (w : World) (x : PI) (v : Value) (h : InstC w x v) (hi : IOk x) (A : Option Addr) (m c : Nat) (xs : List Int) (hC : (Kd.int .i64).C w A m xs) (hm : m ≤ 4096) (hkk : x.kind = 2) (hr : ∀ k ∈ xs, 0 ≤ k ∧ k < x.cost.length) :
    Calls Tryz.prog 55 #[v, .slice A m c] w fun e w' => ∃ L cc, e = .returned (.slice L m cc) ∧ Aside0 ((Kd.int .i64).R 2 w' w.heap.size (fun _ => True) (.slice L m cc) ((List.range m).map (partC x xs)) ∧ Below w.heap.size w w') := by
  have HC := Aside0.mk hC
  have HL : Aside0 (xs.length = m) := ⟨hC.1⟩
  have HI := Aside0.mk hi
  have HE := Aside0.mk hr
  obtain ⟨A2, c2, A3, c3, A5, c5, rfl, h2, l2, h3, l3, h5, l5⟩ := h
  obtain ⟨n2, hn2⟩ : ∃ n, n = x.items.length := ⟨_, rfl⟩
  obtain ⟨n3, hn3⟩ : ∃ n, n = x.cost.length := ⟨_, rfl⟩
  obtain ⟨n5, hn5⟩ : ∃ n, n = x.sets.length := ⟨_, rfl⟩
  obtain ⟨kd, hkd⟩ : ∃ n, n = x.kind := ⟨_, rfl⟩
  obtain ⟨cap, hcap⟩ : ∃ n, n = x.cap := ⟨_, rfl⟩
  obtain ⟨sz, hsz⟩ : ∃ n, n = x.size := ⟨_, rfl⟩
  have H2 := Aside0.mk h2
  have H3 := Aside0.mk h3
  have H5 := Aside0.mk h5
  rw [← hn2, ← hn3, ← hn5, ← hkd, ← hcap, ← hsz]
  rw [← hn2] at H2
  rw [← hn3] at H3
  rw [← hn5] at H5
  have HN := Aside0.mk (And.intro hn2 (And.intro hn3 hn5))
  have HF := Aside0.mk (And.intro hkd (And.intro hcap hsz))
  rw [← hn3] at HE
  rw [hkk] at hkd
  subst hkd
  clear h2 h3 h5 l2 l3 l5 hn2 hn3 hn5 hcap hsz hi hr hC
  have HKK := Aside0.mk hkk
  clear hkk
  have hu54 := Tryz.underlying76
  have hu101 := Tryz.underlying159
  have hu102 := Tryz.underlying161
  go_enter Tryz.func55, Tryz.ntmps55
  go_upto_region 1 with fail
  obtain ⟨W1, hW1⟩ : ∃ W, W = w.alloc (.cells #[.int .i64 2, .int .i64 cap, .slice A2 n2 c2, .slice A3 n3 c3, .int .i64 sz, .slice A5 n5 c5] 76) := ⟨_, rfl⟩
  rw [← hW1]
  have B1 : Aside0 (Below w.heap.size w W1) := ⟨by rw [hW1]; exact below_alloc (Below.refl _ _) _⟩
  obtain ⟨p1, hp1⟩ : ∃ p, p = w.heap.size := ⟨_, rfl⟩
  have Q1 : Aside0 (W1.heap[p1]? = some (.cells #[.int .i64 2, .int .i64 cap, .slice A2 n2 c2, .slice A3 n3 c3, .int .i64 sz, .slice A5 n5 c5] 76 (0, 0))) := ⟨by rw [hW1, hp1]; exact heap_alloc_new _ _⟩
  rw [← hp1]
  clear hW1 hp1
  have K0 : Aside0 ((Kd.int .i64).R 2 W1 W1.heap.size (fun _ => True) (.slice none 0 0) ((List.range 0).map (partC x xs)) ∧ Below W1.heap.size W1 W1) := ⟨Kd.R_nil _ _ _ _ _, Below.refl _ _⟩
  go_wp2_with fail
  go_loopw [5, 10] (fun v5 v10 wr => ∃ (j : Nat) (L : Option Addr) (k cc : Nat), j ≤ m ∧ v10 = .int .i64 (j : Int) ∧ v5 = .slice L k cc ∧ Aside0 ((Kd.int .i64).R 2 wr W1.heap.size (fun _ => True) (.slice L k cc) ((List.range j).map (partC x xs)) ∧ Below W1.heap.size W1 wr)) (fun _ v10 _ => m - (intOf v10).toNat)
  case atStart => exact ⟨0, none, 0, 0, Nat.zero_le _, rfl, rfl, K0⟩
  case round =>
    clear K0
    obtain ⟨j, L, k, cc, hj, rfl, rfl, KK⟩ := hrel
    have q0 : wr.cell? ⟨p1, 0, none⟩ = some (.int .i64 2) := (blk_cell (blk_below Q1.out KK.out.2) 0).trans rfl
    by_cases hlt : j < m
    · have hjl : j < xs.length := by rw [HL.out]; exact hlt
      obtain ⟨ae, rfl, hx'⟩ := at_Int HC.out j hlt
      have BW : Aside0 (Below w.heap.size w wr) := ⟨B1.out.trans (KK.out.2.mono B1.out.size)⟩
      have hx := pw_cell_below BW.out hx'
      have hzr := HE.out (xs.getD j 0) (getD_mem' hjl)
      obtain ⟨q, hq⟩ : ∃ q : Nat, (q : Int) = xs.getD j 0 := ⟨(xs.getD j 0).toNat, by omega⟩
      have hqt : (xs.getD j 0).toNat = q := by omega
      rw [← hq] at hx hzr
      have hqK : q < n3 := by omega
      have HB : Aside0 ((((List.range j).map (partC x xs)).length + 1) * 8 ≤ 140737488355328) := ⟨by
        rw [List.length_map, List.length_range]
        omega⟩
      obtain ⟨j2, hj2⟩ : ∃ j2, j2 = (j + 1) % m := ⟨_, rfl⟩
      have hj2m : j2 < m := by rw [hj2]; exact Nat.mod_lt _ (by omega)
      have hj2l : j2 < xs.length := by rw [HL.out]; exact hj2m
      obtain ⟨ae', e', hx2'⟩ := at_Int HC.out j2 hj2m
      injection e' with e'
      subst e'
      have hx2 := pw_cell_below BW.out hx2'
      have hzr2 := HE.out (xs.getD j2 0) (getD_mem' hj2l)
      obtain ⟨q', hq'⟩ : ∃ q' : Nat, (q' : Int) = xs.getD j2 0 := ⟨(xs.getD j2 0).toNat, by omega⟩
      have hqt2 : (xs.getD j2 0).toNat = q' := by omega
      rw [← hq'] at hx2 hzr2
      have hqK2 : q' < n3 := by omega
      obtain ⟨ar, AY, cY, rfl, y0', ly, hy⟩ := at_L2 H3.out (q : Int) (by omega) (by omega)
      have hrl : (rd_L2 x.cost (q : Int)).length = n3 := by
        unfold rd_L2
        rw [Int.toNat_natCast, List.getD_eq_getElem?_getD, List.getElem?_eq_getElem (by rw [← HN.out.2.1]; omega), Option.getD_some]
        exact (HI.out.rows _ (List.getElem_mem _)).trans HN.out.2.1.symm
      rw [hrl] at y0' hy
      obtain ⟨aY, rfl, y1'⟩ := at_Int hy q' (by omega)
      have y0 := pw_cell_below BW.out y0'
      have y1 := pw_cell_below BW.out y1'
      rw [Int.toNat_natCast] at y0
      obtain ⟨z, hz⟩ : ∃ z, z = (rd_L2 x.cost (q : Int)).getD q' 0 := ⟨_, rfl⟩
      rw [← hz] at y1
      have NX : Aside0 (z = partC x xs j) := ⟨by
        unfold partC
        rw [if_neg (by rw [HKK.out]; decide), if_neg (by rw [HKK.out]; decide), if_pos HKK.out, hz, hqt, HL.out, ← hj2, hqt2]
        unfold rd_L2 cstA
        rfl⟩
      have e1 : IntKind.i64.wrap ((j : Int) + 1) = ((j + 1 : Nat) : Int) := by rw [i64_w]; unfold wrap64; omega
      obtain ⟨j3, hj3⟩ : ∃ j3, j3 = j + 1 := ⟨_, rfl⟩
      rw [← hj3] at e1 hj2
      have e2 : ((j3 : Int).tmod (m : Int)) = (j2 : Int) := by rw [Int.tmod_eq_emod_of_nonneg (by omega), hj2]; rfl
      have e3 : ((j3 : Int) % (m : Int)) = (j2 : Int) := by rw [hj2]; rfl
      have hm0 : 0 < m := by omega
      have g0 : ((m : Int) == 0) = false := beq_eq_false_iff_ne.2 (by omega)
      have hmz : ¬ m = 0 := by omega
      have yy0 := pw_cell_below B1.out y0'
      rw [Int.toNat_natCast] at yy0
      have yy1 := pw_cell_below B1.out y1'
      rw [← hz] at yy1
      have yy2 := pw_cell_below B1.out hx2'
      rw [← hq'] at yy2
      have yy3 : W1.cell? ⟨p1, 3, none⟩ = some (.slice (some ar) n3 c3) := (blk_cell Q1.out 3).trans rfl
      have ZW := Aside0.mk (And.intro yy3 (And.intro yy0 (And.intro yy2 yy1)))
      clear yy0 yy1 yy2 yy3
      clear hx2' hzr2 hq' hqt2 hj2l hj2 hj3 hx' hzr hq hqt hz hjl
      go_upto_region 12 with fail
      obtain ⟨wo, hwo⟩ : ∃ wo : World, wo = wr := ⟨_, rfl⟩
      rw [← hwo] at KK BW y0 y1 hx2 ⊢
      clear hwo hx
      have z0 : wo.drew.cell? ⟨p1, 3, none⟩ = some (.slice (some ar) n3 c3) := (blk_cell (blk_below Q1.out KK.out.2) 3).trans rfl
      have z1 : wo.drew.cell? (ar.add q) = some (.slice (some aY) n3 cY) := y0
      have z2 : wo.drew.cell? (ae.add j2) = some (.int .i64 (q' : Int)) := hx2
      have z3 : wo.drew.cell? (aY.add q') = some (.int .i64 z) := y1
      have KD : Aside0 ((Kd.int .i64).R 2 wo.drew W1.heap.size (fun _ => True) (.slice L k cc) ((List.range j).map (partC x xs)) ∧ Below W1.heap.size W1 wo.drew) := ⟨Kd.R_below KK.out.1 (below_drew (Below.refl _ _)), below_drew KK.out.2⟩
      clear y0' y1' hy ly hrl y0 y1 hx2 q0
      have ZZ := Aside0.mk (And.intro z0 (And.intro z1 (And.intro z2 z3)))
      refine start_ (n := 19) (S := fun w' => w'.cell? ⟨p1, 3, none⟩ = some (.slice (some ar) n3 c3) ∧ w'.cell? (ar.add q) = some (.slice (some aY) n3 cY) ∧ w'.cell? (ae.add j2) = some (.int .i64 (q' : Int)) ∧ w'.cell? (aY.add q') = some (.int .i64 z)) (ds := []) #[false, false, false, false, false, false, false, false, false, false, false, false, false, false, false, false, false, false, false] (by kernel_rfl) rfl rfl ⟨z0, z1, z2, z3⟩ (fun hHeld => ?_)
      clear z0 z1 z2 z3
      refine pure_ (i := 0) (N := some 52) (v := ?_) (a' := ?_) #[true, false, false, false, false, false, false, false, false, false, false, false, false, false, false, false, false, false, false] rfl rfl (by kernel_rfl) (fun _ _ _ h => h) (Or.inl ⟨by rfl, ?_⟩) ?_ ?_
      rotate_left
      · intro w'
        go_simp
        with_reducible rfl
      rotate_left
      · simp only [Act.put, List.setIfInBounds_toArray, List.set_cons_zero, List.set_cons_succ]
        rfl
      refine pure_ (i := 1) (N := some 53) (v := ?_) (a' := ?_) #[true, true, false, false, false, false, false, false, false, false, false, false, false, false, false, false, false, false, false] rfl rfl (by kernel_rfl) (fun _ _ _ h => h) (Or.inl ⟨by rfl, ?_⟩) ?_ ?_
      rotate_left
      · intro w'
        go_simp
        with_reducible rfl
      rotate_left
      · simp only [Act.put, List.setIfInBounds_toArray, List.set_cons_zero, List.set_cons_succ]
        rfl
      refine take_ (i := 2) (N := some 54) (v := ?_) (a' := ?_) #[true, true, true, false, false, false, false, false, false, false, false, false, false, false, false, false, false, false, false] rfl rfl (by kernel_rfl) (fun _ _ _ h => h) (Or.inl ⟨by rfl, ?_⟩) hHeld ?_ ?_
      rotate_left
      · rintro w' ⟨s0, s1, s2, s3⟩
        go_simp
        with_reducible rfl
      rotate_left
      · simp only [Act.put, List.setIfInBounds_toArray, List.set_cons_zero, List.set_cons_succ]
        rfl
      refine pure_ (i := 3) (N := some 55) (v := ?_) (a' := ?_) #[true, true, true, true, false, false, false, false, false, false, false, false, false, false, false, false, false, false, false] rfl rfl (by kernel_rfl) (fun _ _ _ h => h) (Or.inl ⟨by rfl, ?_⟩) ?_ ?_
      rotate_left
      · intro w'
        go_simp
        with_reducible rfl
      rotate_left
      · simp only [Act.put, List.setIfInBounds_toArray, List.set_cons_zero, List.set_cons_succ]
        rfl
      refine pure_ (i := 4) (N := some 56) (v := ?_) (a' := ?_) #[true, true, true, true, true, false, false, false, false, false, false, false, false, false, false, false, false, false, false] rfl rfl (by kernel_rfl) (fun _ _ _ h => h) (Or.inl ⟨by rfl, ?_⟩) ?_ ?_
      rotate_left
      · intro w'
        go_simp
        with_reducible rfl
      rotate_left
      · simp only [Act.put, List.setIfInBounds_toArray, List.set_cons_zero, List.set_cons_succ]
        rfl
      refine take_ (i := 5) (N := some 57) (v := ?_) (a' := ?_) #[true, true, true, true, true, true, false, false, false, false, false, false, false, false, false, false, false, false, false] rfl rfl (by kernel_rfl) (fun _ _ _ h => h) (Or.inl ⟨by rfl, ?_⟩) hHeld ?_ ?_
      rotate_left
      · rintro w' ⟨s0, s1, s2, s3⟩
        go_simp
        with_reducible rfl
      rotate_left
      · simp only [Act.put, List.setIfInBounds_toArray, List.set_cons_zero, List.set_cons_succ]
        rfl
      refine pure_ (i := 6) (N := some 58) (v := ?_) (a' := ?_) #[true, true, true, true, true, true, true, false, false, false, false, false, false, false, false, false, false, false, false] rfl rfl (by kernel_rfl) (fun _ _ _ h => h) (Or.inl ⟨by rfl, ?_⟩) ?_ ?_
      rotate_left
      · intro w'
        go_simp
        with_reducible rfl
      rotate_left
      · simp only [Act.put, List.setIfInBounds_toArray, List.set_cons_zero, List.set_cons_succ]
        rfl
      refine pure_ (i := 7) (N := some 59) (v := ?_) (a' := ?_) #[true, true, true, true, true, true, true, true, false, false, false, false, false, false, false, false, false, false, false] rfl rfl (by kernel_rfl) (fun _ _ _ h => h) (Or.inl ⟨by rfl, ?_⟩) ?_ ?_
      rotate_left
      · intro w'
        go_simp
        with_reducible rfl
      rotate_left
      · simp only [Act.put, List.setIfInBounds_toArray, List.set_cons_zero, List.set_cons_succ]
        rfl
      refine pure_ (i := 8) (N := some 60) (v := ?_) (a' := ?_) #[true, true, true, true, true, true, true, true, true, false, false, false, false, false, false, false, false, false, false] rfl rfl (by kernel_rfl) (fun _ _ _ h => h) (Or.inl ⟨by rfl, ?_⟩) ?_ ?_
      rotate_left
      · intro w'
        go_simp
        with_reducible rfl
      rotate_left
      · simp only [Act.put, List.setIfInBounds_toArray, List.set_cons_zero, List.set_cons_succ]
        rfl
      refine pure_ (i := 9) (N := some 61) (v := ?_) (a' := ?_) #[true, true, true, true, true, true, true, true, true, true, false, false, false, false, false, false, false, false, false] rfl rfl (by kernel_rfl) (fun _ _ _ h => h) (Or.inl ⟨by rfl, ?_⟩) ?_ ?_
      rotate_left
      · intro w'
        go_simp
        with_reducible rfl
      rotate_left
      · simp only [Act.put, List.setIfInBounds_toArray, List.set_cons_zero, List.set_cons_succ]
        rfl
      refine pure_ (i := 10) (N := some 62) (v := ?_) (a' := ?_) #[true, true, true, true, true, true, true, true, true, true, true, false, false, false, false, false, false, false, false] rfl rfl (by kernel_rfl) (fun _ _ _ h => h) (Or.inl ⟨by rfl, ?_⟩) ?_ ?_
      rotate_left
      · intro w'
        go_simp
        with_reducible rfl
      rotate_left
      · simp only [Act.put, List.setIfInBounds_toArray, List.set_cons_zero, List.set_cons_succ]
        rfl
      refine pure_ (i := 11) (N := some 63) (v := ?_) (a' := ?_) #[true, true, true, true, true, true, true, true, true, true, true, true, false, false, false, false, false, false, false] rfl rfl (by kernel_rfl) (fun _ _ _ h => h) (Or.inl ⟨by rfl, ?_⟩) ?_ ?_
      rotate_left
      · intro w'
        go_simp
        with_reducible rfl
      rotate_left
      · simp only [Act.put, List.setIfInBounds_toArray, List.set_cons_zero, List.set_cons_succ]
        rfl
      refine pure_ (i := 12) (N := some 64) (v := ?_) (a' := ?_) #[true, true, true, true, true, true, true, true, true, true, true, true, true, false, false, false, false, false, false] rfl rfl (by kernel_rfl) (fun _ _ _ h => h) (Or.inl ⟨by rfl, ?_⟩) ?_ ?_
      rotate_left
      · intro w'
        go_simp
        with_reducible rfl
      rotate_left
      · simp only [Act.put, List.setIfInBounds_toArray, List.set_cons_zero, List.set_cons_succ]
        rfl
      refine take_ (i := 13) (N := some 65) (v := ?_) (a' := ?_) #[true, true, true, true, true, true, true, true, true, true, true, true, true, true, false, false, false, false, false] rfl rfl (by kernel_rfl) (fun _ _ _ h => h) (Or.inl ⟨by rfl, ?_⟩) hHeld ?_ ?_
      rotate_left
      · rintro w' ⟨s0, s1, s2, s3⟩
        go_simp
        with_reducible rfl
      rotate_left
      · simp only [Act.put, List.setIfInBounds_toArray, List.set_cons_zero, List.set_cons_succ]
        rfl
      refine pure_ (i := 14) (N := some 66) (v := ?_) (a' := ?_) #[true, true, true, true, true, true, true, true, true, true, true, true, true, true, true, false, false, false, false] rfl rfl (by kernel_rfl) (fun _ _ _ h => h) (Or.inl ⟨by rfl, ?_⟩) ?_ ?_
      rotate_left
      · intro w'
        go_simp
        with_reducible rfl
      rotate_left
      · simp only [Act.put, List.setIfInBounds_toArray, List.set_cons_zero, List.set_cons_succ]
        rfl
      refine take_ (i := 15) (N := some 67) (v := ?_) (a' := ?_) #[true, true, true, true, true, true, true, true, true, true, true, true, true, true, true, true, false, false, false] rfl rfl (by kernel_rfl) (fun _ _ _ h => h) (Or.inl ⟨by rfl, ?_⟩) hHeld ?_ ?_
      rotate_left
      · rintro w' ⟨s0, s1, s2, s3⟩
        go_simp
        with_reducible rfl
      rotate_left
      · simp only [Act.put, List.setIfInBounds_toArray, List.set_cons_zero, List.set_cons_succ]
        rfl
      refine one_ (i := 16) (N := some 68) #[true, true, true, true, true, true, true, true, true, true, true, true, true, true, true, true, true, false, false] rfl rfl (by kernel_rfl) (by decide) (fun K hK => ?_)
      refine value_ (v := .slice (some ⟨wo.heap.size, 0, none⟩) 1 1) (w1 := wo.drew.alloc (.cells #[.int .i64 z] 2)) (by rfl) rfl ?_ ?_
      · go_simp
      have BA : Aside0 (Below wo.drew.heap.size wo.drew (wo.drew.alloc (.cells #[.int .i64 z] 2))) := ⟨below_alloc (Below.refl _ _) _⟩
      refine hK.out _ _ ⟨pw_cell_below BA.out ZZ.out.1, pw_cell_below BA.out ZZ.out.2.1, pw_cell_below BA.out ZZ.out.2.2.1, pw_cell_below BA.out ZZ.out.2.2.2⟩ (fun _ => ?_)
      clear hK K
      refine norm_ (a' := ?_) ?_ ?_
      rotate_left
      · show Act.put _ (some 68) _ = _
        simp only [Act.put, List.setIfInBounds_toArray, List.set_cons_zero, List.set_cons_succ]
        rfl
      refine one_ (i := 17) (N := some 69) #[true, true, true, true, true, true, true, true, true, true, true, true, true, true, true, true, true, true, false] rfl rfl (by kernel_rfl) (by decide) (fun K hK => ?_)
      refine Kd.R_append_step (Kd.int .i64) (w0 := W1) W1.heap.size (by rfl) _ _ 71 2 (.int .i64 0) 8 (by rfl) Tryz.underlying71 info2 rfl (by decide) (by decide) (.slice L k cc) ((List.range j).map (partC x xs)) z [.int .i64 z] (fun _ => True) (fun _ => False) (by rfl) (by rfl) (by rfl) (fun _ h => h.elim) (fun _ _ => trivial) (Kd.R_below KD.out.1 (Below.refl _ _)) KD.out.2 KD.out.2.size HB.out ?_
      intro v7 w7 ho7 hb7 hg7 _
      obtain ⟨A7, n7, c7, rfl, _⟩ := R_open ho7
      have O7 := Aside0.mk ho7
      have B7 := Aside0.mk hb7
      refine hK.out _ _ ⟨pw_cell_below hb7 ZW.out.1, pw_cell_below hb7 ZW.out.2.1, pw_cell_below hb7 ZW.out.2.2.1, pw_cell_below hb7 ZW.out.2.2.2⟩ (fun _ => ?_)
      clear hK K ho7 hb7 hg7
      refine norm_ (a' := ?_) ?_ ?_
      rotate_left
      · show Act.put _ (some 69) _ = _
        simp only [Act.put, List.setIfInBounds_toArray, List.set_cons_zero, List.set_cons_succ]
        rfl
      refine pure_ (i := 18) (N := some 5) (v := ?_) (a' := ?_) #[true, true, true, true, true, true, true, true, true, true, true, true, true, true, true, true, true, true, true] rfl rfl (by kernel_rfl) (fun _ _ _ h => h) (Or.inl ⟨by rfl, ?_⟩) ?_ ?_
      rotate_left
      · intro w'
        go_simp
        with_reducible rfl
      rotate_left
      · simp only [Act.put, List.setIfInBounds_toArray, List.set_cons_zero, List.set_cons_succ]
        rfl
      refine done_ (by kernel_rfl) ?_
      clear e1 e2 e3 g0 hmz hHeld
      have N1 : Aside0 ((Kd.int .i64).R 2 w7 W1.heap.size (fun _ => True) (.slice A7 n7 c7) ((List.range (j + 1)).map (partC x xs)) ∧ Below W1.heap.size W1 w7) := ⟨by rw [parts_succ, ← NX.out]; exact O7.out, B7.out⟩
      go_wp2_with fail
      exact ⟨⟨j + 1, A7, n7, c7, by omega, by go_num, rfl, N1⟩, by simp [intOf]; omega⟩
    · obtain rfl : m = j := by omega
      have hk : k = m := by
        obtain ⟨A', c', e, _⟩ := Kd.R_reads KK.out.1
        injection e with _ e _
        rw [e]
        simp
      subst hk
      clear q0
      go_wp2_with fail
      go_ret
      exact ⟨L, cc, rfl, ⟨Kd.R_lower KK.out.1 B1.out.size, B1.out.trans (KK.out.2.mono B1.out.size)⟩⟩
end Go.Proofs.YtofomlpdklhigaaGreatDoor.Hand
