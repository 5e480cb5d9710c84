/- The walk of SpillSaves. -/
import Derived.Test.YtebbikihhkjaaaaOput
import Derived.RegionTactic
namespace Go.Proofs.Ytebbikihhkjaaaa.Hand
open Go.RowKit Go.Proofs.YtebbikihhkjaaaaW.PrintWords Go.Proofs.YtebbikihhkjaaaaW.PrintMore Go.Proofs.Ytebbikihhkjaaaa.PSpillBytes
attribute [local go_sem] max2_int min2_int max_two min_two
theorem oput_any (w : World) (b0 : Nat) (A : Option Addr) (n c : Nat) (gs : List (List Nt)) (nt : Nt) (A3 : Option Addr) (c3 : Nat) (hr : gK.R 37 w b0 (fun _ => True) (.slice A n c) (gr gs)) (hp : (Kd.int .i64).R 3 w b0 (fun _ => True) (.slice A3 nt.path.length c3) nt.path) (hok : OkNt nt)
    (hokg : ∀ g ∈ gs, ∀ x ∈ g, OkNt x) (hne : ∀ g ∈ gs, g ≠ []) (hl : gs.flatten.length ≤ 90000) (hb0 : b0 ≤ w.heap.size) :
    Calls Try.prog 18 #[.slice A n c, .agg #[.int .i64 nt.b, .int .i64 nt.path.length, .int .i64 nt.s, .slice A3 nt.path.length c3]] w (OPut w b0 gs nt) := by
  have h0 := (Kd.R_reads' hr).1
  rw [gr_len] at h0
  subst h0
  rcases snoc_cases gs with rfl | ⟨i, g, rfl⟩
  · exact oput_nil w b0 A c nt A3 c3 hp hok hb0
  · have h1 := len_flat hne
    rw [List.length_append, List.length_singleton] at h1
    have h2 : (i ++ [g]).flatten.length = i.flatten.length + g.length := by simp
    exact oput_snoc w b0 A c i g nt A3 c3 hr hp hok (hokg g (by simp)) (by omega) (by omega) hb0
theorem gE : ∀ q ∈ 37 :: gK.E, ¬ LogTy q := by
  intro q hq
  simp [k30, Kd.iso, Kd.pair, Kd.slice, Kd.int, Kd.scalar] at hq
  rcases hq with rfl | rfl | rfl <;> (unfold LogTy; decide)
theorem ty30 : ¬ LogTy 30 := by unfold LogTy; decide
theorem enc_ge (g : List Nt) : g.length ≤ (encAll g).length := by
  induction g with
  | nil => simp
  | cons n g ih =>
    have e : encAll (n :: g) = encNt n ++ encAll g := by simp [encAll]
    have := List.length_pos_iff.2 (encNt_ne n)
    rw [e, List.length_append, List.length_cons]
    omega
theorem saveB_ge (ps : List (List Nt)) : ps.flatten.length ≤ (saveB (ps.map encAll)).length := by
  induction ps with
  | nil => simp
  | cons p ps ih =>
    have e : saveB ((p :: ps).map encAll) = vb (encAll p).length ++ (encAll p ++ saveB (ps.map encAll)) := by simp [saveB]
    have := enc_ge p
    rw [e, List.flatten_cons, List.length_append, List.length_append, List.length_append]
    omega
theorem load_facts {s : ByteArray} {ns : List Nt} (h : loadR s = some ns) : ns.length ≤ s.size ∧ (∀ n ∈ ns, OkNt n) ∧ strOfNums (saveB ((segsOf ns).map encAll)) = s := by
  unfold loadR at h
  cases e : ldAll (bytesOf s) with
  | none => rw [e] at h; cases h
  | some ms =>
    rw [e] at h
    simp only at h
    split at h
    · rename_i hs
      injection h with h
      subst h
      obtain ⟨ps, b1, b2, b3, b4, b5, b6⟩ := ldAll_parts _ _ _ (Nat.le_refl _) (bytesOf_byt s) e
      refine ⟨?_, fun n hn => ?_, hs⟩
      · have := saveB_ge ps
        rw [← b2, ← b1, bytesOf_length] at this
        exact this
      · rw [b1] at hn
        obtain ⟨p, hp, hn⟩ := List.mem_flatten.1 hn
        exact b4 p hp n hn
    · cases h

set_option maxHeartbeats 4000000 in
set_option maxRecDepth 100000 in
theorem saves_law (A : Option Addr) (c : Nat) (l : List NI) (s : ByteArray) (cut : Int) (w : World) (h : Kd.C kNI w A l.length l) (hc : l.length ≤ c) (hok : ∀ x ∈ l, NIok x) (hl : l.length ≤ 17592186044416) (hs : s.size ≤ 140737488351232) (hcut0 : 0 ≤ cut) (hcut1 : cut ≤ 255) :
    Calls Try.prog 5 #[.slice A l.length c, .string s, .int .u8 cut] w fun e w' => e = .returned (.bool true) ∧ Below w.heap.size w w' := by
  have H := Aside0.mk h
  have HO := Aside0.mk hok
  clear h hok
  have hu := Try.underlying24
  have hu2 := Try.underlying28
  have hu3 := Try.underlying30
  have hu4 := Try.underlying33
  have hu5 := Try.underlying45
  obtain ⟨n, hn⟩ : ∃ n, n = l.length := ⟨_, rfl⟩
  have HN := Aside0.mk hn
  rw [← hn] at hc hl ⊢
  clear hn
  obtain ⟨m, hm⟩ : ∃ m : Nat, m = min n 12 := ⟨_, rfl⟩
  have hm1 : m ≤ 12 := by omega
  have hm2 : m ≤ n := by omega
  have hmn : (if (12 : Int) < (n : Int) then (12 : Int) else (n : Int)) = (m : Int) := by split <;> omega
  clear hm
  go_enter Try.func5, Try.ntmps5
  go_wp2_with fail
  refine (new_any w).mono ?_
  rintro e w0 ⟨lg, rfl, hL0, hB0⟩
  have HL0 : Aside0 (Holds false w w0 lg [] (segsOf [])) := ⟨⟨⟨_, _, hL0, rfl⟩, rfl, by simp [segsOf], by simp [segsOf]⟩⟩
  have B0 := Aside0.mk hB0
  clear hL0 hB0
  go_wp2_with fail
  clear hmn
  go_loopw [6, 8, 29] (fun v6 v8 i wr => ∃ (k : Nat) (A8 : Option Addr) (n8 c8 : Nat), k ≤ m ∧ v6 = .bool false ∧ v8 = .slice A8 n8 c8 ∧ i = .int .i64 k ∧ Aside0 (Holds false w wr lg (nts (l.take k)) (segsOf (nts (l.take k)))) ∧ Aside0 (gK.R 37 wr w.heap.size (fun _ => True) (.slice A8 n8 c8) (gr (segsOf (nts (l.take k))))) ∧ Aside0 (Below w.heap.size w wr)) (fun _ _ i _ => m - (intOf i).toNat)
  case atStart => exact ⟨0, none, 0, 0, Nat.zero_le _, rfl, rfl, rfl, HL0, ⟨Kd.R_nil _ _ _ _ _⟩, B0⟩
  case round =>
    obtain ⟨k, A8, n8, c8, hk, rfl, rfl, rfl, HL, OR, B4⟩ := hrel
    by_cases hlt : k < m
    · have hkn : k < n := by omega
      obtain ⟨ad, A3, c3, e3, x0, x1, x2, x3, x4, x5, hl3, hi3⟩ := PSpillBack.at_T24 H.out (k : Int) (by omega) (by rw [← HN.out]; omega)
      subst e3
      have HX := Aside0.mk (HO.out (PSpillBack.rd_T24 l (k : Int)) (by
        unfold PSpillBack.rd_T24
        rw [Int.toNat_natCast, List.getD_eq_getElem?_getD, List.getElem?_eq_getElem (by rw [← HN.out]; exact hkn), Option.getD_some]
        exact List.getElem_mem _))
      have HT := Aside0.mk (nts_take l k (by rw [← HN.out]; exact hkn))
      obtain ⟨y, hy⟩ : ∃ y, y = PSpillBack.rd_T24 l (k : Int) := ⟨_, rfl⟩
      rw [← hy] at x0 x1 x2 x3 x4 x5 hl3 hi3 HX HT
      clear hy
      rw [Int.toNat_natCast] at x0 x1 x2 x3 x4 x5
      have g0 := pw_cell_below B4.out x0
      have g1 := pw_cell_below B4.out x1
      have g2 := pw_cell_below B4.out x2
      have g3 := pw_cell_below B4.out x3
      have g4 := pw_cell_below B4.out x4
      have g5 := pw_cell_below B4.out x5
      clear x0 x1 x2 x3 x4 x5
      have HL3 := Aside0.mk hl3
      have HI3 := Aside0.mk hi3
      clear hl3 hi3
      go_wp2_with fail
      clear g0 g1 g2 g3 g4 g5
      refine (note_any y.f0 y.f1 y.f2 y.f4 true A3 c3 y.f3 _ (Kd.C_below HI3.out (below_alloc B4.out _)) HL3.out HX.out.t0 HX.out.t1 HX.out.len).mono ?_
      rintro e w1 ⟨A1, n1, c1, p, d1, rfl, hp, hd, ho1, hb1⟩
      have B1 := Aside0.mk (below_box (by simpa using hb1))
      have O1 := Aside0.mk (Kd.R_lower ho1 (base' := w.heap.size) (by rw [World.size_alloc]; exact Nat.le_succ_of_le B4.out.size))
      have HP : Aside0 (p = (ntOf y).path) := ⟨hp⟩
      obtain rfl : d1 = (p.length : Int) := hd.trans (by unfold noteD; rw [if_pos rfl])
      clear ho1 hb1 hp hd
      go_wp2_with fail
      obtain ⟨rfl, hc1, _⟩ := Kd.R_reads' O1.out
      have HC1 := Aside0.mk hc1
      clear hc1
      obtain ⟨wB, hwB⟩ : ∃ x, x = (w1.alloc (.cells #[.int .i64 y.f0, .int .i64 p.length, .int .i64 y.f2, .slice A1 p.length c1] 28)).alloc (.cells #[.int .i64 y.f0, .int .i64 p.length, .int .i64 y.f2, .slice A1 p.length c1] 30) := ⟨_, rfl⟩
      rw [← hwB]
      have hW : wB = W2830 w1 y.f0 p.length y.f2 (.slice A1 p.length c1) := hwB
      clear hwB
      have B2 : Aside0 (Below w1.heap.size w1 wB) := ⟨by rw [hW]; exact W2830_below (Below.refl _ _)⟩
      have K2 : Aside0 (wB.heap[w1.heap.size + 1]? = some (.cells #[.int .i64 y.f0, .int .i64 p.length, .int .i64 y.f2, .slice A1 p.length c1] 30 (0, 0))) := ⟨by rw [hW]; exact W2830_b (Below.refl _ _)⟩
      clear hW
      have BB : Aside0 (Below w.heap.size w wB) := ⟨bthen (bthen B4.out B1.out) B2.out⟩
      have PB : Aside0 (Kd.R (Kd.int .i64) 3 wB w.heap.size (fun _ => True) (.slice A1 p.length c1) p) := ⟨Kd.R_below O1.out B2.out⟩
      have OB := Aside0.mk (Kd.R_below (Kd.R_below OR.out B1.out) B2.out)
      have EN : Aside0 (ntOf y = ⟨y.f0, y.f2, p⟩) := ⟨by rw [HP.out]; rfl⟩
      have OKY : Aside0 (OkNt ⟨y.f0, y.f2, p⟩) := ⟨by rw [← EN.out]; exact ntOf_ok HX.out⟩
      have HLB : Aside0 (Holds false w wB lg (nts (l.take k)) (segsOf (nts (l.take k)))) := ⟨(HL.out.move B1.out).move B2.out⟩
      have LK : Aside0 ((nts (l.take k)).length ≤ 12) := ⟨by unfold nts; rw [List.length_map, List.length_take]; omega⟩
      have OKK : Aside0 (∀ g ∈ segsOf (nts (l.take k)), ∀ x ∈ g, OkNt x) := ⟨flat_ok (by rw [segsOf_flat]; exact nts_ok (fun x hx => HO.out x (List.mem_of_mem_take hx)))⟩
      clear B1 O1 B2 HL B4 OR
      refine (holds_put HLB.out (by have := LK.out; omega) BB.out.size A1 c1 ⟨y.f0, y.f2, p⟩ (Kd.R_reads' PB.out).2.2 OKY.out).mono ?_
      rintro e w3 ⟨rfl, hl3, hg3⟩
      have HLC := Aside0.mk hl3
      have BC := Aside0.mk (below_log BB.out (Nat.le_refl _) hg3)
      have OC := Aside0.mk (R_log OB.out gE hg3)
      have PC := Aside0.mk (R_log PB.out (by intro q hq; simp [Kd.int, Kd.scalar] at hq; rw [hq]; exact ty3) hg3)
      have KC := Aside0.mk (blk_log K2.out ty30 hg3)
      clear hl3 hg3 HLB PB K2 BB OB
      have f0 : w3.cell? ⟨w1.heap.size + 1, 0, none⟩ = some (.int .i64 y.f0) := (blk_c KC.out 0).trans rfl
      have f1 : w3.cell? ⟨w1.heap.size + 1, 1, none⟩ = some (.int .i64 p.length) := (blk_c KC.out 1).trans rfl
      have f2 : w3.cell? ⟨w1.heap.size + 1, 2, none⟩ = some (.int .i64 y.f2) := (blk_c KC.out 2).trans rfl
      have f3 : w3.cell? ⟨w1.heap.size + 1, 3, none⟩ = some (.slice A1 p.length c1) := (blk_c KC.out 3).trans rfl
      go_wp2_with fail
      clear f0 f1 f2 f3
      refine (oput_any _ w.heap.size A8 n8 c8 _ ⟨y.f0, y.f2, p⟩ A1 c1 OC.out PC.out OKY.out OKK.out (segsOf_ne _) (by rw [segsOf_flat]; have := LK.out; omega) BC.out.size).mono ?_
      rintro e w5 ⟨A9, c9, rfl, ho9, hb9⟩
      have O9 : Aside0 (gK.R 37 w5 w.heap.size (fun _ => True) (.slice A9 (segsOf (nts (l.take (k + 1)))).length c9) (gr (segsOf (nts (l.take (k + 1)))))) := ⟨by rw [HT.out, EN.out, segsOf_snoc]; exact ho9⟩
      have L9 : Aside0 (Holds false w w5 lg (nts (l.take (k + 1))) (segsOf (nts (l.take (k + 1))))) := ⟨by rw [HT.out, EN.out, segsOf_snoc]; exact HLC.out.move hb9⟩
      have B9 := Aside0.mk (bthen BC.out hb9)
      have e9 : (putG (segsOf (nts (l.take k))) ⟨y.f0, y.f2, p⟩).length = (segsOf (nts (l.take (k + 1)))).length := by rw [HT.out, EN.out, segsOf_snoc]
      rw [e9]
      clear ho9 hb9 HLC OC PC KC BC e9
      go_wp2_with fail
      go_roundw
      case measure => simp [intOf]; omega
      case rel => exact ⟨k + 1, A9, _, c9, by omega, rfl, rfl, by go_num, L9, O9, B9⟩
    · obtain rfl : k = m := by omega
      obtain ⟨ns, hns⟩ : ∃ x, x = nts (l.take k) := ⟨_, rfl⟩
      have OKS : Aside0 (∀ x ∈ ns, OkNt x) := ⟨by rw [hns]; exact nts_ok (fun x hx => HO.out x (List.mem_of_mem_take hx))⟩
      have hq12 : ns.length ≤ 12 := by
        rw [hns]
        unfold nts
        rw [List.length_map, List.length_take]
        omega
      have SHS : Aside0 (∀ x ∈ ns, (encNt x).length ≤ 3222) := ⟨fun x hx => by
        have h1 := OKS.out x hx
        rw [hns] at hx
        obtain ⟨z, _, rfl⟩ := List.mem_map.1 hx
        exact encNt_short h1 (ntOf_len z)⟩
      rw [← hns] at HL OR
      clear hns
      have hgr := Kd.R_reads' OR.out
      rw [gr_len] at hgr
      obtain ⟨rfl, hc8, hC8⟩ := hgr
      have RS := Aside0.mk (rsave_any wr A8 c8 (segsOf ns) hC8 hc8 (flat_ok (by rw [segsOf_flat]; exact OKS.out)) (segsOf_ne ns) (by rw [segsOf_flat]; omega))
      have SV : Aside0 ((strOfNums (saveB ((segsOf ns).map encAll))).size ≤ 60000) := ⟨by
        have h1 := HL.out.small (fun x hx => Nat.le_trans (SHS.out x hx) (by omega))
        have h2 := saveB_len4 (bss := (segsOf ns).map encAll) (fun b hb => by
          obtain ⟨g, hg, rfl⟩ := List.mem_map.1 hb
          exact (h1 g hg).2)
        have h3 := len_flat (segsOf_ne ns)
        rw [segsOf_flat] at h3
        rw [strOfNums_size]
        rw [List.length_map] at h2
        omega⟩
      have SAV := Aside0.mk (fun W h => holds_save (w := W) (l := lg) (w0 := w) (ns := ns) (gs := segsOf ns) (fr := false) h (by omega))
      obtain ⟨T, hT⟩ : ∃ x, x = strOfNums (saveB ((segsOf ns).map encAll)) := ⟨_, rfl⟩
      rw [← hT] at RS SV SAV
      clear hT hC8 hc8 OR SHS OKS
      have svz := SV.out
      go_wp2_with fail
      refine RS.out.mono ?_
      rintro e w1 ⟨rfl, hb1⟩
      have L1 := Aside0.mk (HL.out.move hb1)
      have B1 := Aside0.mk (bthen B4.out hb1)
      clear hb1 HL B4 RS
      go_wp2_with fail
      refine (wakes_any _).mono ?_
      rintro e w2 ⟨rfl, hb2⟩
      have L2 := Aside0.mk (L1.out.move hb2)
      have B2 := Aside0.mk (bthen B1.out hb2)
      clear hb2 L1 B1
      go_wp2_with fail
      refine (SAV.out _ L2.out).mono ?_
      rintro e w3 ⟨rfl, _, hg3⟩
      have B3 := Aside0.mk (below_log B2.out (Nat.le_refl _) hg3)
      clear hg3 L2 B2 SAV
      have tt : (T.toList == T.toList) = true := by simp
      have tt2 : (T.toList != T.toList) = false := by simp
      obtain ⟨m2, hm2⟩ : ∃ m2 : Nat, m2 = min s.size 2000 := ⟨_, rfl⟩
      have hm21 : m2 ≤ 2000 := by omega
      have hm22 : m2 ≤ s.size := by omega
      have hmn : (if (2000 : Int) < (s.size : Int) then (2000 : Int) else (s.size : Int)) = (m2 : Int) := by split <;> omega
      obtain ⟨cu, rfl⟩ : ∃ cu : Nat, cut = (cu : Int) := ⟨cut.toNat, by omega⟩
      obtain ⟨m3, hm3⟩ : ∃ m3 : Nat, m3 = min T.size cu := ⟨_, rfl⟩
      have hm31 : m3 ≤ T.size := by omega
      have hmc : (if (cu : Int) < (T.size : Int) then (cu : Int) else (T.size : Int)) = (m3 : Int) := by split <;> omega
      have b1 : (0 : Int) ≤ (T.size : Int) - (m3 : Int) := by omega
      have b2 : (T.size : Int) - (m3 : Int) ≤ (T.size : Int) := by omega
      clear hm2 hm3
      go_wp2_with fail
      go_region
      go_wp2_with fail
      generalize hX3 : T.extract 0 (T.size - cu) = X3
      have z3 : X3.size ≤ 60000 := by rw [← hX3, ByteArray.size_extract]; omega
      rotate_left
      generalize hX3 : ByteArray.empty = X3
      have z3 : X3.size ≤ 60000 := by rw [← hX3]; exact Nat.zero_le _
      all_goals
        generalize hX1 : s.extract 0 m2 = X1
        have z1 : X1.size ≤ 2000 := by rw [← hX1, extract_size _ _ hm22]; exact hm21
        have K3 : Aside0 ((w3.alloc (.cells #[.string T, .string X1, .string X3] 9)).drew.heap[w3.heap.size]? = some (.cells #[.string T, .string X1, .string X3] 9 (0, 0))) := ⟨heap_alloc_new w3 _⟩
        have B4 : Aside0 (Below w.heap.size w (w3.alloc (.cells #[.string T, .string X1, .string X3] 9)).drew) := ⟨below_drew (below_alloc B3.out _)⟩
        obtain ⟨w4, hw4⟩ : ∃ x, x = (w3.alloc (.cells #[.string T, .string X1, .string X3] 9)).drew := ⟨_, rfl⟩
        rw [← hw4] at K3 B4 ⊢
        generalize w3.heap.size = q3 at K3 ⊢
        have BB4 : Aside0 (Below w4.heap.size w4 w4) := ⟨Below.refl _ _⟩
        clear hw4 hX1 hX3 B3 tt tt2 svz
        go_loopw [6, 75] (fun v6 v75 wr => ∃ k : Nat, k ≤ 3 ∧ v6 = .bool false ∧ v75 = .int .i64 k ∧ Aside0 (Below w4.heap.size w4 wr)) (fun _ v _ => 3 - (intOf v).toNat)
        case atStart => exact ⟨0, by omega, rfl, rfl, BB4⟩
        case round =>
          clear BB4
          obtain ⟨k, hk, rfl, rfl, BR⟩ := hrel
          by_cases hlt : k < 3
          · obtain ⟨y, hy, hyz⟩ : ∃ y : ByteArray, w4.cell? ⟨q3, k, none⟩ = some (.string y) ∧ y.size ≤ 80000 := by
              have hk3 : k = 0 ∨ k = 1 ∨ k = 2 := by omega
              rcases hk3 with rfl | rfl | rfl
              · exact ⟨T, (blk_c K3.out 0).trans rfl, by have := SV.out; omega⟩
              · exact ⟨X1, (blk_c K3.out 1).trans rfl, by omega⟩
              · exact ⟨X3, (blk_c K3.out 2).trans rfl, by omega⟩
            have p0 := pw_cell_below BR.out hy
            have BW := Aside0.mk (bthen B4.out BR.out)
            have LA := Aside0.mk (fun W => load_any y W hyz)
            have RA := Aside0.mk (fun W => rload_any y W hyz)
            clear hy
            go_wp2_with fail
            clear p0
            refine (LA.out _).mono ?_
            rintro e w5 ⟨hcase, hb5⟩
            have B5 := Aside0.mk (bthen BR.out hb5)
            clear hb5
            cases hR : loadR y with
            | none =>
              have hRR := load_ref_none hR
              obtain rfl : e = .returned (.tuple #[.pointer none, .int .i64 4]) := by
                rcases hcase with ⟨ns2, lg2, h1, _⟩ | ⟨_, h⟩
                · rw [hR] at h1; cases h1
                · exact h
              have RA2 : Aside0 (∀ W, Calls Try.prog 22 #[.string y] W fun e w' => e = .returned (.tuple #[.slice none 0 0, .int .i64 4]) ∧ Below W.heap.size W w') := ⟨fun W => (RA.out W).mono (by
                rintro e w' ⟨hc2, hb⟩
                rcases hc2 with ⟨gs2, A2, c2, h1, _⟩ | ⟨_, h⟩
                · rw [hRR] at h1; cases h1
                · exact ⟨h, hb⟩)⟩
              clear hcase hR hRR RA LA
              go_wp2_with fail
              refine (RA2.out _).mono ?_
              rintro e w6 ⟨rfl, hb6⟩
              have B6 := Aside0.mk (bthen B5.out hb6)
              clear hb6
              go_wp2_with fail
              go_roundw
              case measure => simp [intOf]; omega
              case rel => exact ⟨k + 1, by omega, rfl, by go_num, B6⟩
            | some ns2 =>
              obtain ⟨hnl, hok2, hsv2⟩ := load_facts hR
              have hRR := load_ref_some (by omega) hR
              obtain ⟨lg2, rfl, hl5⟩ : ∃ lg2, e = .returned (.tuple #[ptr lg2, .int .i64 0]) ∧ Holds true wr w5 lg2 ns2 (segsOf ns2) := by
                rcases hcase with ⟨ns3, lg2, h1, h2, h3⟩ | ⟨h1, _⟩
                · rw [hR] at h1
                  injection h1 with h1
                  subst h1
                  exact ⟨lg2, h2, h3⟩
                · rw [hR] at h1; cases h1
              have RA2 : Aside0 (∀ W, Calls Try.prog 22 #[.string y] W fun e w' => ∃ A2 c2, e = .returned (.tuple #[.slice A2 (segsOf ns2).length c2, .int .i64 0]) ∧ (segsOf ns2).length ≤ c2 ∧ Kd.C gK w' A2 (segsOf ns2).length (gr (segsOf ns2)) ∧ Below W.heap.size W w') := ⟨fun W => (RA.out W).mono (by
                rintro e w' ⟨hc2, hb⟩
                rcases hc2 with ⟨gs2, A2, c2, h1, h2, h3, h4, _⟩ | ⟨h, _⟩
                · rw [hRR] at h1
                  injection h1 with h1
                  subst h1
                  exact ⟨A2, c2, h2, h3, h4, hb⟩
                · rw [hRR] at h; cases h)⟩
              have SG2 : Aside0 (∀ W A2 c2, Kd.C gK W A2 (segsOf ns2).length (gr (segsOf ns2)) → (segsOf ns2).length ≤ c2 → Calls Try.prog 23 #[.slice A2 (segsOf ns2).length c2] W fun e w' => ∃ A' n' c', e = .returned (.tuple #[.slice A' n' c', .int .i64 ns2.length]) ∧ n' = (segsOf ns2).length ∧ Below W.heap.size W w') := ⟨fun W A2 c2 h1 h2 => by
                refine (rsegs_any W A2 c2 (segsOf ns2) h1 h2 (flat_ok (by rw [segsOf_flat]; exact hok2)) (segsOf_ne ns2) (by rw [segsOf_flat]; omega)).mono ?_
                rintro e w' ⟨A', n', c', rfl, hR', hb⟩
                have := (Kd.R_reads' hR').1
                rw [show (slen (segsOf ns2)).length = (segsOf ns2).length by simp [slen]] at this
                exact ⟨A', n', c', by rw [segsOf_flat], this, hb⟩⟩
              have SG3 : Aside0 (∀ W, Holds true wr W lg2 ns2 (segsOf ns2) → Calls Try.prog 25 #[ptr lg2] W fun e w' => ∃ A' n' c', e = .returned (.slice A' n' c') ∧ n' = (segsOf ns2).length ∧ Below W.heap.size W w') := ⟨fun W h => by
                refine (holds_segs h (by omega)).mono ?_
                rintro e w' ⟨A', n', c', rfl, hR', hb⟩
                have := (Kd.R_reads' hR').1
                rw [List.length_map] at this
                exact ⟨A', n', c', rfl, this, hb⟩⟩
              have SV3 : Aside0 (∀ W, Holds true wr W lg2 ns2 (segsOf ns2) → Calls Try.prog 20 #[ptr lg2] W fun e w' => e = .returned (.string y) ∧ Chg (Typed W (fun k => wr.heap.size ≤ k)) W w') := ⟨fun W h => by
                refine (holds_save h (by omega)).mono ?_
                rintro e w' ⟨rfl, _, hb⟩
                exact ⟨by rw [hsv2], hb⟩⟩
              have L5 := Aside0.mk hl5
              have hu1 : (segsOf ns2).length ≤ 80000 := by
                have := len_flat (segsOf_ne ns2)
                rw [segsOf_flat] at this
                omega
              clear hcase hR hRR RA LA hl5 hsv2 hok2
              generalize (segsOf ns2).length = U at *
              go_wp2_with fail
              refine (RA2.out _).mono ?_
              rintro e w6 ⟨A2, c2, rfl, hc2, hC2, hb6⟩
              have B6 := Aside0.mk (bthen B5.out hb6)
              have L6 := Aside0.mk (L5.out.move hb6)
              have RG := Aside0.mk (SG2.out w6 A2 c2 hC2 hc2)
              have BW6 := Aside0.mk (bthen B4.out B6.out)
              clear hb6 hC2 hc2 L5
              go_wp2_with fail
              refine RG.out.mono ?_
              rintro e w7 ⟨A7, n7, c7, rfl, rfl, hb7⟩
              have B7 := Aside0.mk (bthen B6.out hb7)
              have L7 := Aside0.mk (L6.out.move hb7)
              clear hb7 L6 RG
              go_wp2_with fail
              refine (holds_len L7.out).mono ?_
              rintro e w' ⟨rfl, rfl⟩
              go_wp2_with fail
              refine (SG3.out _ L7.out).mono ?_
              rintro e w8 ⟨A8', n8', c8', rfl, rfl, hb8⟩
              have B8 := Aside0.mk (bthen B7.out hb8)
              have L8 := Aside0.mk (L7.out.move hb8)
              clear hb8 L7
              go_wp2_with fail
              refine (SV3.out _ L8.out).mono ?_
              rintro e w9 ⟨rfl, hg9⟩
              have B9 : Aside0 (Below w4.heap.size w4 w9) := ⟨below_log B8.out (Nat.le_refl _) (hg9.mono (fun k _ hk => ⟨Nat.le_trans BR.out.size hk.1, hk.2⟩))⟩
              clear hg9 L8
              have yy : (y.toList == y.toList) = true := by simp
              go_wp2_with fail
              go_roundw
              case measure => simp [intOf]; omega
              case rel => exact ⟨k + 1, by omega, rfl, by go_num, B9⟩
          · obtain rfl : k = 3 := by omega
            go_wp2_with fail
            go_ret
            exact ⟨rfl, bthen B4.out BR.out⟩
end Go.Proofs.Ytebbikihhkjaaaa.Hand
