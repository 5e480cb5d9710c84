/- The walk of SpillAll. -/
import Derived.Test.YtebbikihhkjaaaaHolds
import Derived.Test.YtebbikihhkjaaaaBack
namespace Go.Proofs.Ytebbikihhkjaaaa.Hand
open Go.RowKit Go.Proofs.YtebbikihhkjaaaaW.PrintWords Go.Proofs.YtebbikihhkjaaaaW.PrintMore Go.Proofs.Ytebbikihhkjaaaa.PSpillBytes
attribute [local go_sem] max2_int min2_int max_two min_two

theorem five_at {w0 w w' : World} {a0 a1 a2 a3 b0 : Addr} {u0 u1 u2 u3 v0 : Value}
    (p0 : w.cell? a0 = some u0) (p1 : w.cell? a1 = some u1) (p2 : w.cell? a2 = some u2) (p3 : w.cell? a3 = some u3) (q0 : w.cell? b0 = some v0)
    (h0 : Aside0 (Below w0.heap.size w0 w)) (hb : Below w.heap.size w w') :
    w'.cell? a0 = some u0 ∧ w'.cell? a1 = some u1 ∧ w'.cell? a2 = some u2 ∧ w'.cell? a3 = some u3 ∧ w'.cell? b0 = some v0 ∧ Aside0 (Below w0.heap.size w0 w') :=
  ⟨pw_cell_below hb p0, pw_cell_below hb p1, pw_cell_below hb p2, pw_cell_below hb p3, pw_cell_below hb q0, ⟨bthen h0.out hb⟩⟩

set_option maxHeartbeats 2000000 in
set_option maxRecDepth 100000 in
theorem all_law (A : Option Addr) (c : Nat) (l : List NI) (w : World) (h : Kd.C kNI w A l.length l) (hc : l.length ≤ c) (hok : ∀ x ∈ l, NIok x) (hl : l.length ≤ 17592186044416) :
    Calls Try.prog 7 #[.slice A l.length c] w fun e w' => e = .returned (.bool true) ∧ Below w.heap.size w w' := by
  have H := Aside0.mk h
  have HO := Aside0.mk hok
  clear h hok
  have hu := Try.underlying24
  have hu2 := Try.underlying28
  have hu3 := Try.underlying30
  have hu4 := Try.underlying33
  have hu5 := Try.underlying45
  have hu6 := Try.underlying54
  obtain ⟨n, hn⟩ : ∃ n, n = l.length := ⟨_, rfl⟩
  have HN := Aside0.mk hn
  rw [← hn] at hc hl ⊢
  clear hn
  obtain ⟨m, hm⟩ : ∃ m : Nat, m = min n 20 := ⟨_, rfl⟩
  have hm1 : m ≤ 20 := by omega
  have hm2 : m ≤ n := by omega
  have hmn : (if (20 : Int) < (n : Int) then (20 : Int) else (n : Int)) = (m : Int) := by split <;> omega
  clear hm
  go_enter Try.func7, Try.ntmps7
  go_wp2_with fail
  refine (new_any w).mono ?_
  rintro e w0 ⟨lg, rfl, hL0, hB0⟩
  have HL0 : Aside0 (Holds w w0 lg [] []) := ⟨⟨⟨_, _, hL0, rfl⟩, rfl, by simp, by simp⟩⟩
  have B0 := Aside0.mk hB0
  clear hL0 hB0
  go_wp2_with fail
  clear hmn
  go_loopw [2, 4, 30] (fun v2 v4 i wr => ∃ (k : Nat) (A4 : Option Addr) (n4 c4 : Nat) (gs : List (List Nt)), k ≤ m ∧ v2 = .bool false ∧ v4 = .slice A4 n4 c4 ∧ i = .int .i64 k ∧ Aside0 (Kd.R Kd.string 9 wr w.heap.size (fun _ => True) (.slice A4 n4 c4) ((nts (l.take k)).map encS)) ∧ Aside0 (Holds w wr lg (nts (l.take k)) gs) ∧ Aside0 (Below w.heap.size w wr)) (fun _ _ i _ => m - (intOf i).toNat)
  case atStart => exact ⟨0, none, 0, 0, [], Nat.zero_le _, rfl, rfl, rfl, ⟨Kd.R_nil _ _ _ _ _⟩, HL0, B0⟩
  case round =>
    obtain ⟨k, A4, n4, c4, gs, hk, rfl, rfl, rfl, O4, HL, B4⟩ := hrel
    by_cases hlt : k < m
    · have hkn : k < n := by omega
      obtain ⟨ad, A3, c3, e3, x0, x1, x2, x3, x4, x5, hl3, hi3⟩ := PSpillBack.at_T24 H.out (k : Int) (by omega) (by rw [← HN.out]; omega)
      subst e3
      have HX := Aside0.mk (HO.out (PSpillBack.rd_T24 l (k : Int)) (by
        unfold PSpillBack.rd_T24
        rw [Int.toNat_natCast, List.getD_eq_getElem?_getD, List.getElem?_eq_getElem (by rw [← HN.out]; exact hkn), Option.getD_some]
        exact List.getElem_mem _))
      have HT := Aside0.mk (nts_take l k (by rw [← HN.out]; exact hkn))
      obtain ⟨y, hy⟩ : ∃ y, y = PSpillBack.rd_T24 l (k : Int) := ⟨_, rfl⟩
      rw [← hy] at x0 x1 x2 x3 x4 x5 hl3 hi3 HX HT
      clear hy
      rw [Int.toNat_natCast] at x0 x1 x2 x3 x4 x5
      have g0 := pw_cell_below B4.out x0
      have g1 := pw_cell_below B4.out x1
      have g2 := pw_cell_below B4.out x2
      have g3 := pw_cell_below B4.out x3
      have g4 := pw_cell_below B4.out x4
      have g5 := pw_cell_below B4.out x5
      clear x0 x1 x2 x3 x4 x5
      have HL3 := Aside0.mk hl3
      have HI3 := Aside0.mk hi3
      clear hl3 hi3
      go_wp2_with fail
      clear g0 g1 g2 g3 g4 g5
      refine (note_any y.f0 y.f1 y.f2 y.f4 true A3 c3 y.f3 _ (Kd.C_below HI3.out (below_alloc B4.out _)) HL3.out HX.out.t0 HX.out.t1 HX.out.len).mono ?_
      rintro e w1 ⟨A1, n1, c1, p, d1, rfl, hp, hd, ho1, hb1⟩
      have B1 := Aside0.mk (below_box (by simpa using hb1))
      have O1 := Aside0.mk (Kd.R_lower ho1 (base' := w.heap.size) (by rw [World.size_alloc]; exact Nat.le_succ_of_le B4.out.size))
      have HP : Aside0 (p = (ntOf y).path) := ⟨hp⟩
      obtain rfl : d1 = (p.length : Int) := hd.trans (by unfold noteD; rw [if_pos rfl])
      clear ho1 hb1 hp hd
      go_wp2_with fail
      obtain ⟨rfl, hc1, _⟩ := Kd.R_reads' O1.out
      have HC1 := Aside0.mk hc1
      clear hc1
      obtain ⟨wB, hwB⟩ : ∃ x, x = (w1.alloc (.cells #[.int .i64 y.f0, .int .i64 p.length, .int .i64 y.f2, .slice A1 p.length c1] 28)).alloc (.cells #[.int .i64 y.f0, .int .i64 p.length, .int .i64 y.f2, .slice A1 p.length c1] 30) := ⟨_, rfl⟩
      rw [← hwB]
      have hW : wB = W2830 w1 y.f0 p.length y.f2 (.slice A1 p.length c1) := hwB
      clear hwB
      have B2 : Aside0 (Below w1.heap.size w1 wB) := ⟨by rw [hW]; exact W2830_below (Below.refl _ _)⟩
      have K2 : Aside0 (wB.heap[w1.heap.size]? = some (.cells #[.int .i64 y.f0, .int .i64 p.length, .int .i64 y.f2, .slice A1 p.length c1] 28 (0, 0))) := ⟨by rw [hW]; exact W2830_a (Below.refl _ _)⟩
      clear hW
      have BB : Aside0 (Below w.heap.size w wB) := ⟨bthen (bthen B4.out B1.out) B2.out⟩
      have OB : Aside0 (Kd.R Kd.string 9 wB w.heap.size (fun _ => True) (.slice A4 n4 c4) ((nts (l.take k)).map encS)) := ⟨Kd.R_below (Kd.R_below O4.out B1.out) B2.out⟩
      have PB : Aside0 (Kd.R (Kd.int .i64) 3 wB w.heap.size (fun _ => True) (.slice A1 p.length c1) p) := ⟨Kd.R_below O1.out B2.out⟩
      have EN : Aside0 (ntOf y = ⟨y.f0, y.f2, p⟩) := ⟨by rw [HP.out]; rfl⟩
      have OKY : Aside0 (OkNt ⟨y.f0, y.f2, p⟩) := ⟨by rw [← EN.out]; exact ntOf_ok HX.out⟩
      have HLB : Aside0 (Holds w wB lg (nts (l.take k)) gs) := ⟨(HL.out.move B1.out).move B2.out⟩
      have LK : Aside0 ((nts (l.take k)).length ≤ 20) := ⟨by unfold nts; rw [List.length_map, List.length_take]; omega⟩
      clear B1 O1 B2 HL B4 O4
      refine (holds_put HLB.out (by have := LK.out; omega) BB.out.size A1 c1 ⟨y.f0, y.f2, p⟩ (Kd.R_reads' PB.out).2.2 OKY.out).mono ?_
      rintro e w3 ⟨rfl, hl3, hg3⟩
      have HLC := Aside0.mk hl3
      have OC := Aside0.mk (R_log OB.out (by intro q hq; simp [Kd.string, Kd.scalar] at hq; rw [hq]; exact ty9) hg3)
      have PC := Aside0.mk (R_log PB.out (by intro q hq; simp [Kd.int, Kd.scalar] at hq; rw [hq]; exact ty3) hg3)
      have KC := Aside0.mk (blk_log K2.out ty28 hg3)
      have BC := Aside0.mk (below_log BB.out (Nat.le_refl _) hg3)
      clear hl3 hg3 HLB OB PB K2 BB
      have f0 : w3.cell? ⟨w1.heap.size, 0, none⟩ = some (.int .i64 y.f0) := (blk_c KC.out 0).trans rfl
      have f1 : w3.cell? ⟨w1.heap.size, 1, none⟩ = some (.int .i64 p.length) := (blk_c KC.out 1).trans rfl
      have f2 : w3.cell? ⟨w1.heap.size, 2, none⟩ = some (.int .i64 y.f2) := (blk_c KC.out 2).trans rfl
      have f3 : w3.cell? ⟨w1.heap.size, 3, none⟩ = some (.slice A1 p.length c1) := (blk_c KC.out 3).trans rfl
      go_wp2_with fail
      refine (enc_again (nt := ⟨y.f0, y.f2, p⟩) (c := c1) (Kd.R_reads' PC.out).2.2 OKY.out _ (Below.refl _ _)).mono ?_
      rintro e w5 ⟨rfl, hb5⟩
      have OD := Aside0.mk (Kd.R_below OC.out hb5)
      have BD := Aside0.mk (bthen BC.out hb5)
      have HLD := Aside0.mk (HLC.out.move hb5)
      clear hb5 OC BC HLC PC KC f0 f1 f2 f3
      have HLN : Aside0 ((((nts (l.take k)).map encS).length + 1) * 16 ≤ 140737488355328) := ⟨by rw [List.length_map]; have := LK.out; omega⟩
      go_wp2_with (at_builtin; refine Kd.R_append Kd.string (w0 := w) w.heap.size rfl _ _ 54 9 (.string ByteArray.empty) 16 rfl hu6 info9s rfl (by decide) (by omega) (.slice A4 n4 c4) ((nts (l.take k)).map encS) (strOfNums (encNt ⟨y.f0, y.f2, p⟩)) [.string (strOfNums (encNt ⟨y.f0, y.f2, p⟩))] (fun _ => True) (fun _ => False) rfl rfl rfl (fun _ hk => hk.elim) (fun _ _ => trivial) OD.out BD.out BD.out.size HLN.out ?_; intro v7 w7 ho7 hb7 hg7 _; have O7 := Aside0.mk ho7; have B7 := Aside0.mk hb7; have L7 := Aside0.mk (HLD.out.row_chg OD.out ty9 (Chg.of_grown hg7)); clear ho7 hb7 hg7; obtain ⟨A7, n7, c7, rfl, _⟩ := R_open O7.out)
      go_roundw
      case measure => simp [intOf]; omega
      case rel =>
        refine ⟨k + 1, A7, n7, c7, putG gs ⟨y.f0, y.f2, p⟩, by omega, rfl, rfl, by go_num, ⟨?_⟩, ⟨?_⟩, B7⟩
        · rw [HT.out, List.map_append, EN.out]
          exact O7.out
        · rw [HT.out, EN.out]
          exact L7.out
    · obtain rfl : k = m := by omega
      obtain ⟨ns, hns⟩ : ∃ x, x = nts (l.take k) := ⟨_, rfl⟩
      have OKS : Aside0 (∀ x ∈ ns, OkNt x) := ⟨by rw [hns]; exact nts_ok (fun x hx => HO.out x (List.mem_of_mem_take hx))⟩
      have SHS : Aside0 (∀ x ∈ ns, (encNt x).length ≤ 4096) := ⟨fun x hx => by
        have h1 := OKS.out x hx
        rw [hns] at hx
        obtain ⟨z, _, rfl⟩ := List.mem_map.1 hx
        exact Nat.le_trans (encNt_short h1 (ntOf_len z)) (by omega)⟩
      have hq20 : ns.length ≤ 20 := by
        rw [hns]
        unfold nts
        rw [List.length_map, List.length_take]
        omega
      rw [← hns] at O4 HL
      clear hns
      obtain ⟨rfl, hc4, C4⟩ := Kd.R_reads' O4.out
      obtain ⟨q, hq⟩ : ∃ q, q = ns.length := ⟨_, rfl⟩
      rw [List.length_map, ← hq] at hc4 O4 ⊢
      rw [← hq] at hq20
      have HQ := Aside0.mk hq
      have HC4 := Aside0.mk hc4
      clear C4 hc4 hq
      go_wp2_with fail
      refine (holds_segs HL.out (by rw [← HQ.out]; omega)).mono ?_
      rintro e w1 ⟨A5, n5, c5, rfl, ho5, hb5⟩
      obtain ⟨rfl, hc5, C5⟩ := Kd.R_reads' ho5
      have HS5 : Aside0 (∀ g ∈ gs, 0 < (encAll g).length ∧ (encAll g).length ≤ 4096) := ⟨HL.out.small SHS.out⟩
      have HG5 : Aside0 (gs.length ≤ q) := ⟨by
        have := len_flat HL.out.ne
        rw [HL.out.flat] at this
        rw [HQ.out]
        exact this⟩
      obtain ⟨u, hu7⟩ : ∃ u, u = (gs.map fun g => ((encAll g).length : Int)).length := ⟨_, rfl⟩
      rw [← hu7] at hc5 C5 ⊢
      have hug : u = gs.length := by rw [hu7, List.length_map]
      have HU := Aside0.mk hug
      have huq : u ≤ q := by rw [hug]; exact HG5.out
      have K5 := Aside0.mk C5
      have L1 := Aside0.mk (HL.out.move hb5)
      have O41 := Aside0.mk (Kd.R_below O4.out hb5)
      have B1 := Aside0.mk (bthen B4.out hb5)
      clear ho5 hb5 hc5 C5 hu7 hug HL O4 B4 HG5
      go_wp2_with fail
      go_loopw [2, 53] (fun v2 v53 wr => ∃ i : Nat, i ≤ u ∧ v2 = .bool false ∧ v53 = .int .i64 i ∧ Aside0 (Below w1.heap.size w1 wr)) (fun _ v _ => u - (intOf v).toNat)
      case atStart => exact ⟨0, Nat.zero_le _, rfl, rfl, ⟨Below.refl _ _⟩⟩
      case round =>
        obtain ⟨i, hi, rfl, rfl, BR⟩ := hrel
        by_cases hlt : i < u
        · obtain ⟨g, hg⟩ : ∃ g, gs[i]? = some g := ⟨gs[i]'(by have := HU.out; omega), List.getElem?_eq_getElem _⟩
          obtain ⟨ad, rfl, hx⟩ := nat_at K5.out i ((encAll g).length : Int) (by rw [List.getElem?_map, hg]; rfl)
          obtain ⟨b1, b2⟩ := HS5.out g (List.mem_of_getElem? hg)
          have p0 := pw_cell_below BR.out hx
          obtain ⟨b, hb⟩ : ∃ b, b = (encAll g).length := ⟨_, rfl⟩
          rw [← hb] at b1 b2 p0
          clear hx hg hb
          have d1 : decide ((4096 : Int) < (b : Int)) = false := decide_eq_false (by omega)
          have d1' : decide (4096 < b) = false := decide_eq_false (by omega)
          have d2 : ((b : Int) == 0) = false := by rw [beq_eq_false_iff_ne]; omega
          have d2' : (b == 0) = false := by rw [beq_eq_false_iff_ne]; omega
          have d3 : decide ((q : Int) < (i : Int)) = false := decide_eq_false (by omega)
          have d3' : decide (q < i) = false := decide_eq_false (by omega)
          go_wp2_with fail
          clear p0 d1 d1' d2 d2' d3 d3'
          go_roundw
          case measure => simp [intOf]; omega
          case rel => exact ⟨i + 1, by omega, rfl, by go_num, BR⟩
        · obtain rfl : i = u := by omega
          have L2 := Aside0.mk (L1.out.move BR.out)
          have O42 := Aside0.mk (Kd.R_below O41.out BR.out)
          have B2 := Aside0.mk (bthen B1.out BR.out)
          clear K5 HS5 L1 O41 B1 BR HU
          go_wp2_with fail
          go_loopw [2, 11] (fun v2 v11 wr => ∃ (k : Nat) (ms : List Nt) (gs : List (List Nt)), k + ms.length = q ∧ v2 = .bool false ∧ v11 = .int .i64 k ∧ Aside0 (Holds w wr lg ms gs) ∧ Aside0 (ns.drop k = ms) ∧ Aside0 (Kd.R Kd.string 9 wr w.heap.size (fun _ => True) (.slice A4 q c4) (ns.map encS)) ∧ Aside0 (Below w.heap.size w wr)) (fun _ v _ => q - (intOf v).toNat)
          case atStart => exact ⟨0, ns, gs, by rw [Nat.zero_add]; exact HQ.out.symm, rfl, rfl, L2, ⟨List.drop_zero ..⟩, O42, B2⟩
          case round =>
            clear L2 O42 B2
            obtain ⟨k, ms, gs, hkq, rfl, rfl, HL, HD, OW, BW⟩ := hrel
            cases gs with
            | nil =>
              obtain rfl : ms = [] := HL.out.flat.symm
              go_wp2_with fail
              refine (holds_len HL.out).mono ?_
              rintro e w' ⟨rfl, rfl⟩
              obtain rfl : k = q := by simpa using hkq
              clear HD OW
              go_wp2_with fail
              refine (holds_none HL.out).mono ?_
              rintro e w' ⟨rfl, rfl⟩
              go_wp2_with fail
              refine (take_nil _).mono ?_
              rintro e w' ⟨rfl, rfl⟩
              go_wp2_with fail
              refine (drop_nil _ _).mono ?_
              rintro e w' ⟨rfl, rfl⟩
              go_wp2_with fail
              refine (wakes_any _).mono ?_
              rintro e w5 ⟨rfl, hb5⟩
              have B5 := Aside0.mk (bthen BW.out hb5)
              clear hb5
              go_wp2_with fail
              refine (put_nil 0 0 0 none 0 [] _ (Kd.C_nil _ _) (Nat.zero_le _) (by unfold I64; omega) (by unfold I64; omega)).mono ?_
              rintro e w6 ⟨rfl, hb6⟩
              have B6 := Aside0.mk (bthen B5.out hb6)
              clear hb6
              go_wp2_with fail
              refine (len_nil _).mono ?_
              rintro e w' ⟨rfl, rfl⟩
              go_wp2_with fail
              refine (segments_nil _).mono ?_
              rintro e w' ⟨rfl, rfl⟩
              go_wp2_with fail
              go_ret
              exact ⟨rfl, B6.out⟩
            | cons g rest =>
              have hg0 : 0 < g.length := List.length_pos_iff.2 (HL.out.ne g (by simp))
              have HMS : Aside0 (ms = g ++ rest.flatten) := ⟨by rw [← HL.out.flat]; simp⟩
              have hml : ms.length = g.length + rest.flatten.length := by rw [HMS.out, List.length_append]
              obtain ⟨z, hz⟩ : ∃ z, z = ms.length := ⟨_, rfl⟩
              have t1 : decide ((0 : Int) < (z : Int)) = true := decide_eq_true (by omega)
              have t2 : decide (0 < z) = true := decide_eq_true (by omega)
              go_wp2_with fail
              refine (holds_len HL.out).mono ?_
              rintro e w' ⟨rfl, rfl⟩
              rw [← hz]
              go_wp2_with fail
              clear t1 t2
              refine (holds_take HL.out (by omega) BW.out.size (fun x hx => OKS.out x (by rw [← HD.out] at hx; exact List.mem_of_mem_drop hx))).mono ?_
              rintro e w3 ⟨vo, rfl, ho3, hl3, hg3⟩
              have L3 := Aside0.mk hl3
              have O3 := Aside0.mk (R_log OW.out (by intro q hq; simp [Kd.string, Kd.scalar] at hq; rw [hq]; exact ty9) hg3)
              have B3 := Aside0.mk (below_log BW.out (Nat.le_refl _) hg3)
              obtain ⟨Ao, no, co, rfl, _⟩ := R_open ho3
              obtain ⟨rfl, hco, C3⟩ := Kd.R_reads' ho3
              obtain ⟨r, hr⟩ : ∃ r, r = (g.map toS).length := ⟨_, rfl⟩
              rw [← hr] at C3 hco ⊢
              have hrg : r = g.length := by rw [hr, List.length_map]
              have K3 := Aside0.mk C3
              have HCO := Aside0.mk hco
              have HRG := Aside0.mk hrg
              have SC := Aside0.mk (Kd.R_reads' O3.out).2.2
              have hkr : k + r ≤ q := by omega
              have hr0 : 0 < r := by omega
              have d1 : ((r : Int) == 0) = false := by rw [beq_eq_false_iff_ne]; omega
              have d2 : (r == 0) = false := by rw [beq_eq_false_iff_ne]; omega
              have HKZ : Aside0 (k + r + rest.flatten.length = q) := ⟨by omega⟩
              clear hl3 ho3 hg3 HL OW BW C3 hco hr hrg hg0 hml hz hkq
              go_wp2_with fail
              clear d1 d2
              go_loopw [2, 11, 88] (fun v2 v11 v88 wr => ∃ j x : Nat, j ≤ r ∧ x = k + j ∧ v2 = .bool false ∧ v11 = .int .i64 x ∧ v88 = .int .i64 j ∧ Aside0 (Below w3.heap.size w3 wr)) (fun _ _ v _ => r - (intOf v).toNat)
              case atStart => exact ⟨0, k, Nat.zero_le _, rfl, rfl, rfl, rfl, ⟨Below.refl _ _⟩⟩
              case round =>
                obtain ⟨j, x, hj, hx, rfl, rfl, rfl, BR⟩ := hrel
                by_cases hlt : j < r
                · have hlg : j < g.length := by have := HRG.out; omega
                  obtain ⟨nt, hnt⟩ : ∃ nt, g[j]? = some nt := ⟨g[j], List.getElem?_eq_getElem hlg⟩
                  have hns : ns[x]? = some nt := by
                    have h1 : (ns.drop k)[j]? = some nt := by rw [HD.out, HMS.out, List.getElem?_append_left hlg]; exact hnt
                    rw [List.getElem?_drop] at h1
                    rw [hx]
                    exact h1
                  have OKN := Aside0.mk (OKS.out nt (List.mem_of_getElem? hns))
                  obtain ⟨ad, D1, d1, rfl, x0, x1, x2, x3, hl1, hC1⟩ := nt_at K3.out j nt hnt
                  obtain ⟨aw, rfl, hsx⟩ := str_at SC.out x nt hns
                  clear hnt hns hlg
                  have p0 := pw_cell_below BR.out x0
                  have p1 := pw_cell_below BR.out x1
                  have p2 := pw_cell_below BR.out x2
                  have p3 := pw_cell_below BR.out x3
                  have ps := pw_cell_below BR.out hsx
                  have E1 := Aside0.mk (fun W => enc_again (c := d1) hC1 OKN.out W)
                  clear x0 x1 x2 x3 hl1 hC1 hsx
                  have hxq : x < q := by omega
                  have XJ := Aside0.mk hx
                  clear hx
                  have e1 : decide ((q : Int) ≤ (x : Int)) = false := decide_eq_false (by omega)
                  have e2 : decide (q ≤ x) = false := decide_eq_false (by omega)
                  go_wp2_with fail
                  clear p0 p1 p2 p3
                  obtain ⟨SE, hSE⟩ : ∃ x, x = strOfNums (encNt nt) := ⟨_, rfl⟩
                  rw [← hSE] at E1 ps
                  clear hSE
                  obtain ⟨wB, hwB⟩ : ∃ x, x = wr.alloc (.cells #[.int .i64 nt.b, .int .i64 nt.path.length, .int .i64 nt.s, .slice D1 nt.path.length d1] 28) := ⟨_, rfl⟩
                  rw [← hwB]
                  have KB : Aside0 (wB.heap[wr.heap.size]? = some (.cells #[.int .i64 nt.b, .int .i64 nt.path.length, .int .i64 nt.s, .slice D1 nt.path.length d1] 28 (0, 0))) := ⟨by rw [hwB]; exact heap_alloc_new _ _⟩
                  have b1 : Below wr.heap.size wr wB := by rw [hwB]; exact below_alloc (Below.refl _ _) _
                  clear hwB
                  have BB := Aside0.mk (bthen BR.out b1)
                  replace ps := pw_cell_below b1 ps
                  clear b1
                  have p0 : wB.cell? ⟨wr.heap.size, 0, none⟩ = some (.int .i64 nt.b) := (blk_c KB.out 0).trans rfl
                  have p1 : wB.cell? ⟨wr.heap.size, 1, none⟩ = some (.int .i64 nt.path.length) := (blk_c KB.out 1).trans rfl
                  have p2 : wB.cell? ⟨wr.heap.size, 2, none⟩ = some (.int .i64 nt.s) := (blk_c KB.out 2).trans rfl
                  have p3 : wB.cell? ⟨wr.heap.size, 3, none⟩ = some (.slice D1 nt.path.length d1) := (blk_c KB.out 3).trans rfl
                  have hb0 : Aside0 (Below w3.heap.size w3 wB.drew) := ⟨below_drew BB.out⟩
                  go_region_held3 (fun w' => w'.cell? ⟨wr.heap.size, 0, none⟩ = some (.int .i64 nt.b) ∧ w'.cell? ⟨wr.heap.size, 1, none⟩ = some (.int .i64 nt.path.length) ∧ w'.cell? ⟨wr.heap.size, 2, none⟩ = some (.int .i64 nt.s) ∧ w'.cell? ⟨wr.heap.size, 3, none⟩ = some (.slice D1 nt.path.length d1) ∧ w'.cell? (aw.add x) = some (.string SE) ∧ Aside0 (Below w3.heap.size w3 w'))
                    (first
                      | exact ⟨p0, p1, p2, p3, ps, hb0⟩
                      | (go_split_ands; exact five_at (by assumption) (by assumption) (by assumption) (by assumption) (by assumption) (by assumption) hbq))
                    (first
                      | (go_at_call 13; go_split_ands; with_reducible refine (E1.out _ (Aside0.out (by assumption))).mono ?_; rintro e w' ⟨rfl, hbq⟩))
                  all_goals
                    go_split_ands
                    clear p0 p1 p2 p3 ps e1 e2
                    go_wp2
                    go_roundw
                    case measure => simp [intOf]; omega
                    case rel => exact ⟨j + 1, x + 1, by omega, by have := XJ.out; omega, rfl, by go_num, by go_num, by assumption⟩
                · obtain rfl : j = r := by omega
                  have L4 := Aside0.mk (L3.out.move BR.out)
                  have O4 := Aside0.mk (Kd.R_below O3.out BR.out)
                  have B4 := Aside0.mk (bthen B3.out BR.out)
                  clear L3 O3 B3 BR K3 SC
                  go_wp2_with fail
                  go_roundw
                  case measure => simp [intOf]; omega
                  case rel =>
                    refine ⟨x, rest.flatten, rest, by rw [hx]; exact HKZ.out, rfl, rfl, L4, ⟨?_⟩, O4, B4⟩
                    rw [hx, ← List.drop_drop, HD.out, HMS.out, HRG.out, List.drop_left]
end Go.Proofs.Ytebbikihhkjaaaa.Hand
