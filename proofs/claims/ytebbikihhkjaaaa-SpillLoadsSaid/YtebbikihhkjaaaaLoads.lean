/- The walk of SpillLoads. -/
import Derived.Test.YtebbikihhkjaaaaPair
namespace Go.Proofs.Ytebbikihhkjaaaa.Hand
open Go.RowKit Go.Proofs.YtebbikihhkjaaaaW.PrintWords Go.Proofs.YtebbikihhkjaaaaW.PrintMore Go.Proofs.Ytebbikihhkjaaaa.PSpillBytes
attribute [local go_sem] max2_int min2_int max_two min_two

set_option maxHeartbeats 2000000 in
set_option maxRecDepth 100000 in
theorem loads_law (A : Option Addr) (c : Nat) (l : List NI) (w : World) (h : Kd.C kNI w A l.length l) (hc : l.length ≤ c) (hok : ∀ x ∈ l, NIok x) (hl : l.length ≤ 17592186044416) :
    Calls Try.prog 8 #[.slice A l.length c] w fun e w' => e = .returned (.bool true) ∧ Below w.heap.size w w' := by
  have H := Aside0.mk h
  have HO := Aside0.mk hok
  clear h hok
  have hu := Try.underlying24
  have hu2 := Try.underlying28
  have hu3 := Try.underlying30
  have hu4 := Try.underlying33
  have hu5 := Try.underlying45
  obtain ⟨n, hn⟩ : ∃ n, n = l.length := ⟨_, rfl⟩
  have HN := Aside0.mk hn
  rw [← hn] at hc hl ⊢
  clear hn
  obtain ⟨m, hm⟩ : ∃ m : Nat, m = min n 15 := ⟨_, rfl⟩
  have hm1 : m ≤ 15 := by omega
  have hm2 : m ≤ n := by omega
  have hmn : (if (15 : Int) < (n : Int) then (15 : Int) else (n : Int)) = (m : Int) := by split <;> omega
  clear hm
  go_enter Try.func8, Try.ntmps8
  go_wp2_with fail
  refine (new_any w).mono ?_
  rintro e w0 ⟨lg, rfl, hL0, hB0⟩
  have HL0 : Aside0 (Holds false w w0 lg [] (segsOf [])) := ⟨⟨⟨_, _, hL0, rfl⟩, rfl, by simp [segsOf], by simp [segsOf]⟩⟩
  have B0 := Aside0.mk hB0
  clear hL0 hB0
  go_wp2_with fail
  clear hmn
  go_loopw [22] (fun i wr => ∃ (k : Nat), k ≤ m ∧ i = .int .i64 k ∧ Aside0 (Holds false w wr lg (nts (l.take k)) (segsOf (nts (l.take k)))) ∧ Aside0 (Below w.heap.size w wr)) (fun i _ => m - (intOf i).toNat)
  case atStart => exact ⟨0, Nat.zero_le _, rfl, HL0, B0⟩
  case round =>
    obtain ⟨k, hk, rfl, HL, B4⟩ := hrel
    by_cases hlt : k < m
    · have hkn : k < n := by omega
      obtain ⟨ad, A3, c3, e3, x0, x1, x2, x3, x4, x5, hl3, hi3⟩ := PSpillBack.at_T24 H.out (k : Int) (by omega) (by rw [← HN.out]; omega)
      subst e3
      have HX := Aside0.mk (HO.out (PSpillBack.rd_T24 l (k : Int)) (by
        unfold PSpillBack.rd_T24
        rw [Int.toNat_natCast, List.getD_eq_getElem?_getD, List.getElem?_eq_getElem (by rw [← HN.out]; exact hkn), Option.getD_some]
        exact List.getElem_mem _))
      have HT := Aside0.mk (nts_take l k (by rw [← HN.out]; exact hkn))
      obtain ⟨y, hy⟩ : ∃ y, y = PSpillBack.rd_T24 l (k : Int) := ⟨_, rfl⟩
      rw [← hy] at x0 x1 x2 x3 x4 x5 hl3 hi3 HX HT
      clear hy
      rw [Int.toNat_natCast] at x0 x1 x2 x3 x4 x5
      have g0 := pw_cell_below B4.out x0
      have g1 := pw_cell_below B4.out x1
      have g2 := pw_cell_below B4.out x2
      have g3 := pw_cell_below B4.out x3
      have g4 := pw_cell_below B4.out x4
      have g5 := pw_cell_below B4.out x5
      clear x0 x1 x2 x3 x4 x5
      have HL3 := Aside0.mk hl3
      have HI3 := Aside0.mk hi3
      clear hl3 hi3
      go_wp2_with fail
      clear g0 g1 g2 g3 g4 g5
      refine (note_any y.f0 y.f1 y.f2 y.f4 true A3 c3 y.f3 _ (Kd.C_below HI3.out (below_alloc B4.out _)) HL3.out HX.out.t0 HX.out.t1 HX.out.len).mono ?_
      rintro e w1 ⟨A1, n1, c1, p, d1, rfl, hp, hd, ho1, hb1⟩
      have B1 := Aside0.mk (below_box (by simpa using hb1))
      have O1 := Aside0.mk (Kd.R_lower ho1 (base' := w.heap.size) (by rw [World.size_alloc]; exact Nat.le_succ_of_le B4.out.size))
      have HP : Aside0 (p = (ntOf y).path) := ⟨hp⟩
      obtain rfl : d1 = (p.length : Int) := hd.trans (by unfold noteD; rw [if_pos rfl])
      clear ho1 hb1 hp hd
      go_wp2_with fail
      obtain ⟨rfl, hc1, _⟩ := Kd.R_reads' O1.out
      have HC1 := Aside0.mk hc1
      clear hc1
      obtain ⟨wB, hwB⟩ : ∃ x, x = (w1.alloc (.cells #[.int .i64 y.f0, .int .i64 p.length, .int .i64 y.f2, .slice A1 p.length c1] 28)).alloc (.cells #[.int .i64 y.f0, .int .i64 p.length, .int .i64 y.f2, .slice A1 p.length c1] 30) := ⟨_, rfl⟩
      rw [← hwB]
      have hW : wB = W2830 w1 y.f0 p.length y.f2 (.slice A1 p.length c1) := hwB
      clear hwB
      have B2 : Aside0 (Below w1.heap.size w1 wB) := ⟨by rw [hW]; exact W2830_below (Below.refl _ _)⟩
      have K2 : Aside0 (wB.heap[w1.heap.size]? = some (.cells #[.int .i64 y.f0, .int .i64 p.length, .int .i64 y.f2, .slice A1 p.length c1] 28 (0, 0))) := ⟨by rw [hW]; exact W2830_a (Below.refl _ _)⟩
      clear hW
      have BB : Aside0 (Below w.heap.size w wB) := ⟨bthen (bthen B4.out B1.out) B2.out⟩
      have PB : Aside0 (Kd.R (Kd.int .i64) 3 wB w.heap.size (fun _ => True) (.slice A1 p.length c1) p) := ⟨Kd.R_below O1.out B2.out⟩
      have EN : Aside0 (ntOf y = ⟨y.f0, y.f2, p⟩) := ⟨by rw [HP.out]; rfl⟩
      have OKY : Aside0 (OkNt ⟨y.f0, y.f2, p⟩) := ⟨by rw [← EN.out]; exact ntOf_ok HX.out⟩
      have HLB : Aside0 (Holds false w wB lg (nts (l.take k)) (segsOf (nts (l.take k)))) := ⟨(HL.out.move B1.out).move B2.out⟩
      have LK : Aside0 ((nts (l.take k)).length ≤ 15) := ⟨by unfold nts; rw [List.length_map, List.length_take]; omega⟩
      clear B1 O1 B2 HL B4
      refine (holds_put HLB.out (by have := LK.out; omega) BB.out.size A1 c1 ⟨y.f0, y.f2, p⟩ (Kd.R_reads' PB.out).2.2 OKY.out).mono ?_
      rintro e w3 ⟨rfl, hl3, hg3⟩
      have HLC := Aside0.mk hl3
      have BC := Aside0.mk (below_log BB.out (Nat.le_refl _) hg3)
      clear hl3 hg3 HLB PB K2 BB
      go_wp2_with fail
      go_roundw
      case measure => simp [intOf]; omega
      case rel => exact ⟨k + 1, by omega, by go_num, ⟨by rw [HT.out, EN.out, segsOf_snoc]; exact HLC.out⟩, BC⟩
    · obtain rfl : k = m := by omega
      obtain ⟨ns, hns⟩ : ∃ x, x = nts (l.take k) := ⟨_, rfl⟩
      have OKS : Aside0 (∀ x ∈ ns, OkNt x) := ⟨by rw [hns]; exact nts_ok (fun x hx => HO.out x (List.mem_of_mem_take hx))⟩
      have hq15 : ns.length ≤ 15 := by
        rw [hns]
        unfold nts
        rw [List.length_map, List.length_take]
        omega
      have SHS : Aside0 (∀ x ∈ ns, (encNt x).length ≤ 3222) := ⟨fun x hx => by
        have h1 := OKS.out x hx
        rw [hns] at hx
        obtain ⟨z, _, rfl⟩ := List.mem_map.1 hx
        exact encNt_short h1 (ntOf_len z)⟩
      rw [← hns] at HL
      clear hns
      go_wp2_with fail
      refine (holds_save HL.out (by omega)).mono ?_
      rintro e w5 ⟨rfl, hl5, hg5⟩
      have SV : Aside0 ((strOfNums (saveB ((segsOf ns).map encAll))).size ≤ 80000) := ⟨by
        have h1 := HL.out.small (fun x hx => Nat.le_trans (SHS.out x hx) (by omega))
        have h2 := saveB_len4 (bss := (segsOf ns).map encAll) (fun b hb => by
          obtain ⟨g, hg, rfl⟩ := List.mem_map.1 hb
          exact (h1 g hg).2)
        have h3 := len_flat (segsOf_ne ns)
        rw [segsOf_flat] at h3
        rw [strOfNums_size]
        rw [List.length_map] at h2
        omega⟩
      have L5 := Aside0.mk hl5
      have B5 := Aside0.mk (below_log B4.out (Nat.le_refl _) hg5)
      clear hl5 hg5 HL B4
      go_wp2_with fail
      refine (load_any _ w5 SV.out).mono ?_
      rintro e w6 ⟨hcase, hb6⟩
      obtain ⟨lg2, rfl, hl6⟩ : ∃ lg2, e = .returned (.tuple #[ptr lg2, .int .i64 0]) ∧ Holds true w5 w6 lg2 ns (segsOf ns) := by
        rw [load_save ns OKS.out (by omega)] at hcase
        rcases hcase with ⟨ns2, lg2, hR, h1, h2⟩ | ⟨hR, _⟩
        · obtain rfl : ns = ns2 := Option.some.inj hR
          exact ⟨lg2, h1, h2⟩
        · cases hR
      have PR := Aside0.mk (pair_of L5.out hl6 hb6 B5.out.size)
      have B6 := Aside0.mk (bthen B5.out hb6)
      clear hcase hl6 hb6 L5 B5 SV
      have FL : Aside0 ((segsOf ns).flatten.length = ns.length) := ⟨by rw [segsOf_flat]⟩
      have FN : Aside0 (∀ x ∈ segsOf ns, x ≠ []) := ⟨segsOf_ne ns⟩
      have FO : Aside0 (∀ x ∈ (segsOf ns).flatten, OkNt x) := ⟨by rw [segsOf_flat]; exact OKS.out⟩
      obtain ⟨gs0, hgs0⟩ : ∃ x, x = segsOf ns := ⟨_, rfl⟩
      rw [← hgs0] at PR FL FN FO
      clear hgs0
      obtain ⟨B, hBB⟩ : ∃ x, x = w5.heap.size := ⟨_, rfl⟩
      rw [← hBB] at PR
      clear hBB
      go_wp2_with fail
      refine (wakes_any _).mono ?_
      rintro e w7 ⟨rfl, hb7⟩
      have P7 := Aside0.mk (PR.out.move hb7)
      have B7 := Aside0.mk (bthen B6.out hb7)
      clear hb7 PR B6
      unfold ptr
      go_wp2_with fail
      refine (pair_len2 P7.out).mono ?_
      rintro e w' ⟨rfl, rfl⟩
      go_wp2_with fail
      refine (pair_len1 P7.out).mono ?_
      rintro e w' ⟨rfl, rfl⟩
      have hz : gs0.flatten.length ≤ 15 := by rw [FL.out]; exact hq15
      clear hq15 FL
      go_wp2_with fail
      go_loopg [2] 15 (fun kq v2 wr => ∃ gs : List (List Nt), v2 = .bool false ∧ Aside0 (gs.flatten.length ≤ kq) ∧ Aside0 (gs.flatten.length ≤ 15) ∧ Aside0 (Pair w.heap.size B wr lg lg2 gs gs) ∧ Aside0 (∀ x ∈ gs, x ≠ []) ∧ Aside0 (∀ x ∈ gs.flatten, OkNt x) ∧ Aside0 (Below w.heap.size w wr))
      case atStart => exact ⟨gs0, rfl, ⟨hz⟩, ⟨hz⟩, P7, FN, FO, B7⟩
      case round =>
        clear P7 FN FO B7 hz
        obtain ⟨gs, rfl, M1, Z1, PW, NW_, OW, BW⟩ := hrel
        cases gs with
        | nil =>
          go_wp2_with fail
          refine (pair_len1 PW.out).mono ?_
          rintro e w' ⟨rfl, rfl⟩
          go_wp2_with fail
          refine (pair_len2 PW.out).mono ?_
          rintro e w' ⟨rfl, rfl⟩
          go_wp2_with fail
          go_ret
          exact ⟨rfl, BW.out⟩
        | cons g rest =>
          have hg0 : 0 < g.length := List.length_pos_iff.2 (NW_.out g (by simp))
          have hfl : (g :: rest).flatten.length = g.length + rest.flatten.length := by rw [List.flatten_cons, List.length_append]
          obtain ⟨z, hz⟩ : ∃ z, z = (g :: rest).flatten.length := ⟨_, rfl⟩
          have t1 : decide ((0 : Int) < (z : Int)) = true := decide_eq_true (by omega)
          have t2 : decide (0 < z) = true := decide_eq_true (by omega)
          have OKG : Aside0 (∀ x ∈ g, OkNt x) := ⟨fun x hx => OW.out x (by simp [hx])⟩
          go_wp2_with fail
          refine (pair_len1 PW.out).mono ?_
          rintro e w' ⟨rfl, rfl⟩
          rw [← hz]
          go_wp2_with fail
          clear t1 t2
          refine (pair_take1 PW.out OKG.out NW_.out (Nat.le_trans Z1.out (by omega))).mono ?_
          rintro e w3 ⟨va, rfl, hoa, hp3, hg3⟩
          have P3 := Aside0.mk hp3
          have B3 := Aside0.mk (below_log BW.out (Nat.le_refl _) hg3)
          have OA := Aside0.mk hoa
          clear hoa hp3 hg3 PW BW
          obtain ⟨Aa, na, ca, rfl, _⟩ := R_open OA.out
          go_wp2_with fail
          refine (pair_take2 P3.out OKG.out NW_.out (Nat.le_trans Z1.out (by omega))).mono ?_
          rintro e w4 ⟨vb_, rfl, hob, hp4, hg4⟩
          have P4 := Aside0.mk hp4
          have B4 := Aside0.mk (below_log B3.out (Nat.le_refl _) hg4)
          have OA4 := Aside0.mk (R_log OA.out (by intro p hp; simp [k28, Kd.iso, Kd.pair, Kd.slice, Kd.int, Kd.scalar, k26] at hp; rcases hp with rfl | rfl <;> (unfold LogTy; decide)) hg4)
          obtain ⟨Ab, nb, cb, rfl, _⟩ := R_open hob
          obtain ⟨rfl, hca, _⟩ := Kd.R_reads' OA4.out
          obtain ⟨rfl, hcb, Cb⟩ := Kd.R_reads' hob
          have KB := Aside0.mk Cb
          have KA := Aside0.mk (Kd.R_reads' OA4.out).2.2
          obtain ⟨q, hq⟩ : ∃ q, q = (g.map toS).length := ⟨_, rfl⟩
          rw [← hq] at hca hcb KA KB ⊢
          have hqg : q = g.length := by rw [hq, List.length_map]
          have HQ := Aside0.mk hqg
          have d1 : ((q : Int) == 0) = false := by rw [beq_eq_false_iff_ne]; omega
          have d2 : (q == 0) = false := by rw [beq_eq_false_iff_ne]; omega
          have hq15 : q ≤ 15 := by have := Z1.out; omega
          have MK : Aside0 (rest.flatten.length + q ≤ gk) := ⟨by have := M1.out; omega⟩
          have ZK : Aside0 (rest.flatten.length ≤ 15) := ⟨by have := Z1.out; omega⟩
          have NR : Aside0 (∀ x ∈ rest, x ≠ []) := ⟨fun x hx => NW_.out x (by simp [hx])⟩
          have OR : Aside0 (∀ x ∈ rest.flatten, OkNt x) := ⟨fun x hx => OW.out x (by rw [List.flatten_cons]; exact List.mem_append_right _ hx)⟩
          have HQ0 : Aside0 (0 < q) := ⟨by omega⟩
          clear hob hp4 hg4 P3 B3 OA OA4 Cb hq hqg hg0 hfl hz M1 Z1 NW_ OW
          go_wp2_with fail
          clear d1 d2
          go_loopw [2, 92] (fun v2 v92 wr => ∃ i : Nat, i ≤ q ∧ v2 = .bool false ∧ v92 = .int .i64 i ∧ Aside0 (Below w4.heap.size w4 wr)) (fun _ v _ => q - (intOf v).toNat)
          case atStart => exact ⟨0, Nat.zero_le _, rfl, rfl, ⟨Below.refl _ _⟩⟩
          case round =>
            obtain ⟨i, hi, rfl, rfl, BR⟩ := hrel
            by_cases hlt : i < q
            · obtain ⟨nt, hnt⟩ : ∃ nt, g[i]? = some nt := ⟨g[i]'(by have := HQ.out; omega), List.getElem?_eq_getElem _⟩
              have OKN := Aside0.mk (OKG.out nt (List.mem_of_getElem? hnt))
              obtain ⟨ad1, B1, d1, rfl, x0, x1, x2, x3, hl1, hC1⟩ := nt_at KA.out i nt hnt
              obtain ⟨ad6, B6, d6, rfl, y0, y1, y2, y3, hl6, hC6⟩ := nt_at KB.out i nt hnt
              clear hnt
              have p0 := pw_cell_below BR.out x0
              have p1 := pw_cell_below BR.out x1
              have p2 := pw_cell_below BR.out x2
              have p3 := pw_cell_below BR.out x3
              have q0 := pw_cell_below BR.out y0
              have q1 := pw_cell_below BR.out y1
              have q2 := pw_cell_below BR.out y2
              have q3 := pw_cell_below BR.out y3
              have E1 := Aside0.mk (fun W => enc_again (c := d1) hC1 OKN.out W)
              have E6 := Aside0.mk (fun W => enc_again (c := d6) hC6 OKN.out W)
              clear x0 x1 x2 x3 y0 y1 y2 y3 hl1 hl6 hC1 hC6
              have hb0 : Aside0 (Below w4.heap.size w4 wr.drew) := ⟨below_drew BR.out⟩
              go_wp2_with fail
              obtain ⟨SE, hSE⟩ : ∃ x, x = strOfNums (encNt nt) := ⟨_, rfl⟩
              rw [← hSE] at E1 E6
              clear hSE
              go_region_held3 (fun w' => w'.cell? (ad1.add (i * 4)) = some (.int .i64 nt.b) ∧ w'.cell? ⟨(ad1.add (i * 4)).block, (ad1.add (i * 4)).off + 1, none⟩ = some (.int .i64 nt.path.length) ∧ w'.cell? ⟨(ad1.add (i * 4)).block, (ad1.add (i * 4)).off + 2, none⟩ = some (.int .i64 nt.s) ∧ w'.cell? ⟨(ad1.add (i * 4)).block, (ad1.add (i * 4)).off + 3, none⟩ = some (.slice B1 nt.path.length d1) ∧
                  w'.cell? (ad6.add (i * 4)) = some (.int .i64 nt.b) ∧ w'.cell? ⟨(ad6.add (i * 4)).block, (ad6.add (i * 4)).off + 1, none⟩ = some (.int .i64 nt.path.length) ∧ w'.cell? ⟨(ad6.add (i * 4)).block, (ad6.add (i * 4)).off + 2, none⟩ = some (.int .i64 nt.s) ∧ w'.cell? ⟨(ad6.add (i * 4)).block, (ad6.add (i * 4)).off + 3, none⟩ = some (.slice B6 nt.path.length d6) ∧ Aside0 (Below w4.heap.size w4 w'))
                (first
                  | exact ⟨p0, p1, p2, p3, q0, q1, q2, q3, hb0⟩
                  | (go_split_ands; exact eight_at (by assumption) (by assumption) (by assumption) (by assumption) (by assumption) (by assumption) (by assumption) (by assumption) (by assumption) hbq))
                (first
                  | (go_at_call 13; go_split_ands; with_reducible refine (E1.out _ (Aside0.out (by assumption))).mono ?_; rintro e w' ⟨rfl, hbq⟩)
                  | (go_at_call 13; go_split_ands; with_reducible refine (E6.out _ (Aside0.out (by assumption))).mono ?_; rintro e w' ⟨rfl, hbq⟩))
              all_goals
                go_split_ands
                clear p0 p1 p2 p3 q0 q1 q2 q3
                go_wp2
                go_roundw
                case measure => simp [intOf]; omega
                case rel => exact ⟨i + 1, by omega, rfl, by go_num, by assumption⟩
            · obtain rfl : i = q := by omega
              have P5 := Aside0.mk (P4.out.move BR.out)
              have B5 := Aside0.mk (bthen B4.out BR.out)
              clear P4 B4 BR KA KB
              go_wp2_with fail
              go_roundg rest.flatten.length
              case measure => have h1 := MK.out; have h2 := HQ0.out; omega
              case rel => exact ⟨rest, rfl, ⟨Nat.le_refl _⟩, ZK, P5, NR, OR, B5⟩
end Go.Proofs.Ytebbikihhkjaaaa.Hand
