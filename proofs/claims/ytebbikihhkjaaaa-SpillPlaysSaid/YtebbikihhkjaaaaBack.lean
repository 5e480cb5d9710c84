/- The walk of SpillBack. -/
import Derived.Test.YtebbikihhkjaaaaIn
import Derived.Test.YtebbikihhkjaaaaBytes
namespace Go.Proofs.Ytebbikihhkjaaaa.Hand
open Go.RowKit Go.Proofs.YtebbikihhkjaaaaW.PrintWords Go.Proofs.YtebbikihhkjaaaaW.PrintMore Go.Proofs.Ytebbikihhkjaaaa.PSpillBytes
attribute [local go_sem] max2_int min2_int max_two min_two

theorem row_one {W : World} {B : Nat} {n : S28} {v3 : Value} (h : W.heap[B]? = some (.cells #[.int .i64 n.f0.f0, .int .i64 n.f0.f1, .int .i64 n.f0.f2, v3] 28 (0, 0))) :
    ReadsRow (fun x cs => x = n ∧ cs = [.int .i64 n.f0.f0, .int .i64 n.f0.f1, .int .i64 n.f0.f2, v3]) 4 W (some ⟨B, 0, none⟩) 1 [n] := by
  refine ⟨rfl, by omega, fun _ => ⟨_, rfl, fun j p hp => ?_⟩⟩
  have : j = 0 := by
    have := (List.getElem?_eq_some_iff.1 hp).1
    simpa using this
  subst this
  simp at hp
  subst hp
  refine ⟨_, rfl, ⟨rfl, rfl⟩, fun i u hu => ?_⟩
  rw [add_plain, blk_c h]
  rw [Nat.zero_mul, Nat.zero_add]
  simpa using hu

theorem chg_cell {S : Nat → Prop} {w w1 : World} (h : Chg S w w1) {g j : Nat} {v : Value} (hc : w.cell? ⟨g, j, none⟩ = some v) (hn : ¬ S g) : w1.cell? ⟨g, j, none⟩ = some v := by
  have hlt : g < w.heap.size := World.block_lt_of_cell? w _ hc
  have e := h.block g hlt hn
  simp only [World.cell?] at hc ⊢
  rw [e]
  exact hc
theorem four_chg {S : Nat → Prop} {wB w w1 : World} {g : Nat} {b d s v : Value} (h0 : w.cell? ⟨g, 0, none⟩ = some b) (h1 : w.cell? ⟨g, 1, none⟩ = some d) (h2 : w.cell? ⟨g, 2, none⟩ = some s) (h3 : w.cell? ⟨g, 3, none⟩ = some v)
    (hB : Aside0 (Chg S wB w)) (h : Chg S w w1) (hn : ¬ S g) : w1.cell? ⟨g, 0, none⟩ = some b ∧ w1.cell? ⟨g, 1, none⟩ = some d ∧ w1.cell? ⟨g, 2, none⟩ = some s ∧ w1.cell? ⟨g, 3, none⟩ = some v ∧ Aside0 (Chg S wB w1) :=
  ⟨chg_cell h h0 hn, chg_cell h h1 hn, chg_cell h h2 hn, chg_cell h h3 hn, ⟨hB.out.trans h⟩⟩
theorem own_lt {w : World} {base e size n : Nat} {v : Value} {xs : List Value} {g : Nat} (h : w.ownsRow base e size v n xs) (hg : v.ownBlock = some g) : g < w.heap.size := by
  rcases h.2 with ⟨rfl, _⟩ | ⟨g', cap, cur, rfl, _, hh, _⟩
  · cases hg
  · have : g' = g := Option.some.inj hg
    subst this
    exact (Array.getElem?_eq_some_iff.1 hh).1
theorem bthen {w w1 w2 : World} (h : Below w.heap.size w w1) (k : Below w1.heap.size w1 w2) : Below w.heap.size w w2 := below_then h h.size k
theorem path_chg {S : Nat → Prop} {w w1 : World} {base : Nat} {v : Value} {p : List Int} {ok : Nat → Prop} (h : Kd.R (Kd.int .i64) 3 w base ok v p) (hc : Chg S w w1) (hn : ∀ k, v.ownBlock = some k → ¬ S k) : Kd.R (Kd.int .i64) 3 w1 base ok v p :=
  Kd.R_mono (Kd.R_step (ok := fun k => some k = v.ownBlock ∧ ok k) (Kd.R_tight2 rfl h) (fun k hk hlt => hc.block k hlt (hn k hk.1.symm))) (fun _ hk => hk.2)

theorem eight_at {w0 w w' : World} {a0 a1 a2 a3 b0 b1 b2 b3 : Addr} {u0 u1 u2 u3 v0 v1 v2 v3 : Value}
    (p0 : w.cell? a0 = some u0) (p1 : w.cell? a1 = some u1) (p2 : w.cell? a2 = some u2) (p3 : w.cell? a3 = some u3)
    (q0 : w.cell? b0 = some v0) (q1 : w.cell? b1 = some v1) (q2 : w.cell? b2 = some v2) (q3 : w.cell? b3 = some v3)
    (h0 : Aside0 (Below w0.heap.size w0 w)) (hb : Below w.heap.size w w') :
    w'.cell? a0 = some u0 ∧ w'.cell? a1 = some u1 ∧ w'.cell? a2 = some u2 ∧ w'.cell? a3 = some u3 ∧
    w'.cell? b0 = some v0 ∧ w'.cell? b1 = some v1 ∧ w'.cell? b2 = some v2 ∧ w'.cell? b3 = some v3 ∧ Aside0 (Below w0.heap.size w0 w') :=
  ⟨pw_cell_below hb p0, pw_cell_below hb p1, pw_cell_below hb p2, pw_cell_below hb p3, pw_cell_below hb q0, pw_cell_below hb q1, pw_cell_below hb q2, pw_cell_below hb q3, ⟨bthen h0.out hb⟩⟩
theorem enc_again {w : World} {A : Option Addr} {c : Nat} {nt : Nt} (h : Kd.C (Kd.int .i64) w A nt.path.length nt.path) (ok : OkNt nt) (W : World) (hb : Below w.heap.size w W) :
    Calls Try.prog 13 #[.agg #[.int .i64 nt.b, .int .i64 nt.path.length, .int .i64 nt.s, .slice A nt.path.length c]] W fun e w' => e = .returned (.string (strOfNums (encNt nt))) ∧ Below W.heap.size W w' := by
  rw [← encB_nt ok]
  exact encode_any nt.b nt.path.length nt.s A c nt.path _ (Kd.C_below h hb) (Nat.le_trans ok.len (by omega)) ok.b ok.s

theorem decoded (s : ByteArray) (hs : s.size ≤ 2000) : ∃ (ms : List Nt) (er : Int), decL (bytesOf s) = ms.map toS ∧ decE (bytesOf s) = er ∧ (∀ x ∈ ms, OkNt x) ∧ (er = 4 ∧ ms = [] ∨ er = 0 ∧ strOfNums (encAll ms) = s) ∧ ms.length ≤ 2000 := by
  cases h : dAll (bytesOf s) with
  | none => exact ⟨[], 4, decL_none h, decE_none h, by simp, .inl ⟨rfl, rfl⟩, by simp⟩
  | some ms =>
    obtain ⟨e, ok⟩ := enc_dAll (bytesOf_byt s) h
    have hl := (dAll_len_le _ ms (bytesOf_byt s) h).1
    rw [bytesOf_length] at hl
    exact ⟨ms, 0, decL_some h, decE_some h, ok, .inr ⟨rfl, by rw [← e, str_bytesOf]⟩, by omega⟩

set_option maxHeartbeats 2000000 in
set_option maxRecDepth 100000 in
theorem back_law (A : Option Addr) (c : Nat) (l : List NI) (s : ByteArray) (w : World) (h : Kd.C kNI w A l.length l) (hc : l.length ≤ c) (hok : ∀ x ∈ l, NIok x) (hl : l.length ≤ 17592186044416) (hs : s.size ≤ 140737488351232) :
    Calls Try.prog 4 #[.slice A l.length c, .string s] w fun e w' => e = .returned (.bool true) ∧ Below w.heap.size w w' := by
  have H := Aside0.mk h
  have HO := Aside0.mk hok
  clear h hok
  have hu := Try.underlying24
  have hu2 := Try.underlying28
  have hu3 := Try.underlying30
  have hu4 := Try.underlying33
  have hu5 := Try.underlying45
  obtain ⟨n, hn⟩ : ∃ n, n = l.length := ⟨_, rfl⟩
  have HN := Aside0.mk hn
  rw [← hn] at hc hl ⊢
  clear hn
  obtain ⟨m, hm⟩ : ∃ m : Nat, m = min n 8 := ⟨_, rfl⟩
  have hm1 : m ≤ 8 := by omega
  have hm2 : m ≤ n := by omega
  have hmn : (if (8 : Int) < (n : Int) then (8 : Int) else (n : Int)) = (m : Int) := by split <;> omega
  clear hm
  go_enter Try.func4, Try.ntmps4
  go_wp2_with fail
  clear hmn
  go_loopw [5, 6, 25] (fun v5 v6 i wr => ∃ (k : Nat) (A6 : Option Addr) (n6 c6 : Nat), k ≤ m ∧ v5 = .string (strOfNums (encAll (nts (l.take k)))) ∧ v6 = .slice A6 n6 c6 ∧ i = .int .i64 k ∧ Aside0 (Kd.R k28 28 wr w.heap.size (fun _ => True) (.slice A6 n6 c6) ((nts (l.take k)).map toS)) ∧ Aside0 (Below w.heap.size w wr)) (fun _ _ i _ => m - (intOf i).toNat)
  case atStart => exact ⟨0, none, 0, 0, Nat.zero_le _, rfl, rfl, rfl, ⟨Kd.R_nil _ _ _ _ _⟩, ⟨Below.refl _ _⟩⟩
  case round =>
    obtain ⟨k, A6, n6, c6, hk, rfl, rfl, rfl, O6, B6⟩ := hrel
    by_cases hlt : k < m
    · have hkn : k < n := by omega
      obtain ⟨ad, A3, c3, e3, x0, x1, x2, x3, x4, x5, hl3, hi3⟩ := PSpillBack.at_T24 H.out (k : Int) (by omega) (by rw [← HN.out]; omega)
      subst e3
      have HX := Aside0.mk (HO.out (PSpillBack.rd_T24 l (k : Int)) (by
        unfold PSpillBack.rd_T24
        rw [Int.toNat_natCast, List.getD_eq_getElem?_getD, List.getElem?_eq_getElem (by rw [← HN.out]; exact hkn), Option.getD_some]
        exact List.getElem_mem _))
      have HT := Aside0.mk (nts_take l k (by rw [← HN.out]; exact hkn))
      obtain ⟨y, hy⟩ : ∃ y, y = PSpillBack.rd_T24 l (k : Int) := ⟨_, rfl⟩
      rw [← hy] at x0 x1 x2 x3 x4 x5 hl3 hi3 HX HT
      clear hy
      rw [Int.toNat_natCast] at x0 x1 x2 x3 x4 x5
      have g0 := (B6.out.cell (World.block_lt_of_cell? w _ x0)).trans x0
      have g1 := (B6.out.cell (World.block_lt_of_cell? w _ x1)).trans x1
      have g2 := (B6.out.cell (World.block_lt_of_cell? w _ x2)).trans x2
      have g3 := (B6.out.cell (World.block_lt_of_cell? w _ x3)).trans x3
      have g4 := (B6.out.cell (World.block_lt_of_cell? w _ x4)).trans x4
      have g5 := (B6.out.cell (World.block_lt_of_cell? w _ x5)).trans x5
      clear x0 x1 x2 x3 x4 x5
      have HL3 := Aside0.mk hl3
      have HI3 := Aside0.mk hi3
      clear hl3 hi3
      go_wp2_with fail
      clear g0 g1 g2 g3 g4 g5
      refine (note_any y.f0 y.f1 y.f2 y.f4 true A3 c3 y.f3 _ (Kd.C_below HI3.out (below_alloc B6.out _)) HL3.out HX.out.t0 HX.out.t1 HX.out.len).mono ?_
      rintro e w1 ⟨A1, n1, c1, p, d1, rfl, hp, hd, ho1, hb1⟩
      have B1 := Aside0.mk (below_box (by simpa using hb1))
      have O1 := Aside0.mk (Kd.R_lower ho1 (base' := w.heap.size) (by rw [World.size_alloc]; exact Nat.le_succ_of_le B6.out.size))
      have HP : Aside0 (p = (ntOf y).path) := ⟨hp⟩
      have HD : Aside0 (d1 = noteD y.f1 true p) := ⟨hd⟩
      clear ho1 hb1 hp hd
      go_wp2_with fail
      obtain ⟨rfl, hc1, _⟩ := Kd.R_reads' O1.out
      have HC1 := Aside0.mk hc1
      clear hc1
      obtain ⟨wB, hwB⟩ : ∃ x, x = (w1.alloc (.cells #[.int .i64 y.f0, .int .i64 d1, .int .i64 y.f2, .slice A1 p.length c1] 28)).alloc (.cells #[.int .i64 y.f0, .int .i64 d1, .int .i64 y.f2, .slice A1 p.length c1] 30) := ⟨_, rfl⟩
      rw [← hwB]
      have hW : wB = W2830 w1 y.f0 d1 y.f2 (.slice A1 p.length c1) := hwB
      clear hwB
      have B2 : Aside0 (Below w1.heap.size w1 wB) := ⟨by rw [hW]; exact W2830_below (Below.refl _ _)⟩
      have K2 : Aside0 (wB.heap[w1.heap.size]? = some (.cells #[.int .i64 y.f0, .int .i64 d1, .int .i64 y.f2, .slice A1 p.length c1] 28 (0, 0))) := ⟨by rw [hW]; exact W2830_a (Below.refl _ _)⟩
      clear hW
      have f0 : wB.cell? ⟨w1.heap.size, 0, none⟩ = some (.int .i64 y.f0) := (blk_c K2.out 0).trans rfl
      have f1 : wB.cell? ⟨w1.heap.size, 1, none⟩ = some (.int .i64 d1) := (blk_c K2.out 1).trans rfl
      have f2 : wB.cell? ⟨w1.heap.size, 2, none⟩ = some (.int .i64 y.f2) := (blk_c K2.out 2).trans rfl
      have f3 : wB.cell? ⟨w1.heap.size, 3, none⟩ = some (.slice A1 p.length c1) := (blk_c K2.out 3).trans rfl
      have BB : Aside0 (Below w.heap.size w wB) := ⟨bthen (bthen B6.out B1.out) B2.out⟩
      have OB : Aside0 (Kd.R k28 28 wB w.heap.size (fun _ => True) (.slice A6 n6 c6) ((nts (l.take k)).map toS)) := ⟨Kd.R_below (Kd.R_below O6.out B1.out) B2.out⟩
      have PB : Aside0 (Kd.R (Kd.int .i64) 3 wB w.heap.size (fun _ => True) (.slice A1 p.length c1) p) := ⟨Kd.R_below O1.out B2.out⟩
      have NP : Aside0 (∀ k, (Value.slice A1 p.length c1).ownBlock = some k → ¬ (some k = (Value.slice A6 n6 c6).ownBlock)) := ⟨fun k hk he => (own_type_ne (Kd.R_own PB.out).choose_spec (Kd.R_own OB.out).choose_spec (by decide)).elim (fun h => by rw [h] at hk; cases hk) (fun h => h (hk.trans he))⟩
      have NB : Aside0 (¬ (some w1.heap.size = (Value.slice A6 n6 c6).ownBlock)) := ⟨fun he => by
        have h1 := Kd.R_below O6.out B1.out
        obtain ⟨inner, ho⟩ := Kd.R_own h1
        have := own_lt ho he.symm
        omega⟩
      have OKY : Aside0 (OkNt (ntOf y)) := ⟨ntOf_ok HX.out⟩
      have E1 : Aside0 (encB y.f0 d1 y.f2 p = strOfNums (encNt (ntOf y))) := ⟨by
        have := encB_right (b := (ntOf y).b) (s := (ntOf y).s) (p := (ntOf y).path) y.f1 OKY.out
        rw [HD.out, HP.out]
        exact this⟩
      have ENC : Aside0 (∀ W, Chg (fun k => some k = (Value.slice A6 n6 c6).ownBlock) wB W → Calls Try.prog 13 #[.agg #[.int .i64 y.f0, .int .i64 d1, .int .i64 y.f2, .slice A1 p.length c1]] W fun e w' => e = .returned (.string (strOfNums (encNt (ntOf y)))) ∧ Below W.heap.size W w') := ⟨fun W hW => by
        rw [← E1.out]
        exact encode_any y.f0 d1 y.f2 A1 c1 p _ (Kd.R_reads' (path_chg PB.out hW NP.out)).2.2 (by rw [HP.out]; exact Nat.le_trans (ntOf_len y) (by omega)) HX.out.b HX.out.s⟩
      have hszA : (strOfNums (encAll (nts (l.take k)))).size ≤ 8222 * 8 := by
        rw [strOfNums_size]
        have h1 := encAll_len (nts_ok (l := l.take k) (fun x hx => HO.out x (List.mem_of_mem_take hx)))
        have h2 : (nts (l.take k)).length ≤ 8 := by
          unfold nts
          rw [List.length_map, List.length_take]
          omega
        omega
      have hszE : (strOfNums (encNt (ntOf y))).size ≤ 8222 := by rw [strOfNums_size]; exact encNt_len OKY.out
      obtain ⟨SA, hSA⟩ : ∃ x, x = strOfNums (encAll (nts (l.take k))) := ⟨_, rfl⟩
      obtain ⟨SE, hSE⟩ : ∃ x, x = strOfNums (encNt (ntOf y)) := ⟨_, rfl⟩
      rw [← hSA] at hszA ⊢
      rw [← hSE] at hszE ENC
      have HSA := Aside0.mk hSA
      have HSE := Aside0.mk hSE
      clear hSA hSE
      have hsz : (9223372036854775807 < SA.size + SE.size) = False := eq_false (by omega)
      clear hszA hszE
      have HLN : Aside0 ((((nts (l.take k)).map toS).length + 1) * 48 ≤ 140737488355328) := ⟨by
        unfold nts
        rw [List.length_map, List.length_map, List.length_take]
        omega⟩
      clear B1 O1 B2 K2 E1
      go_region_held3 (fun w' => w'.cell? ⟨w1.heap.size, 0, none⟩ = some (.int .i64 y.f0) ∧ w'.cell? ⟨w1.heap.size, 1, none⟩ = some (.int .i64 d1) ∧ w'.cell? ⟨w1.heap.size, 2, none⟩ = some (.int .i64 y.f2) ∧ w'.cell? ⟨w1.heap.size, 3, none⟩ = some (.slice A1 p.length c1) ∧ Aside0 (Chg (fun k => some k = (Value.slice A6 n6 c6).ownBlock) wB w'))
        (first
          | exact ⟨f0, f1, f2, f3, ⟨(Chg.refl _ _).drew⟩⟩
          | (go_split_ands; exact four_chg (by assumption) (by assumption) (by assumption) (by assumption) (by assumption) ((Chg.refl _ _).alloc _) NB.out)
          | (go_split_ands; exact four_chg (by assumption) (by assumption) (by assumption) (by assumption) (by assumption) (Chg.of_below hbq) NB.out)
          | (go_split_ands; exact four_chg (by assumption) (by assumption) (by assumption) (by assumption) (by assumption) (Chg.of_grown hg7) NB.out))
        (first
          | (go_at_call 13; go_split_ands; refine (ENC.out _ (Aside0.out (by assumption))).mono ?_; rintro e w' ⟨rfl, hbq⟩; (try have HBC : Aside0 (Below wB.heap.size wB w') := ⟨bthen (by first | exact below_drew (Below.refl _ _) | exact below_alloc (below_drew (Below.refl _ _)) _) hbq⟩))
          | (refine Kd.R_append_rows_step k28 (Rr := fun x cs => x = (⟨⟨y.f0, d1, y.f2⟩, p⟩ : S28) ∧ cs = [.int .i64 y.f0, .int .i64 d1, .int .i64 y.f2, .slice A1 p.length c1]) (w0 := w) w.heap.size (by rfl) (.tmp 39) (.tmp 41) 33 28 (.agg #[(.int .i64 0), (.int .i64 0), (.int .i64 0), (.slice none 0 0)]) 48 rfl hu4 info28 rfl (by decide) (by decide) (.slice A6 n6 c6) ((nts (l.take k)).map toS) [(⟨⟨y.f0, d1, y.f2⟩, p⟩ : S28)] (some ⟨_, 0, none⟩) 1 1 (fun _ => True) (fun k => some k = (Value.slice A1 p.length c1).ownBlock) (by rfl) (by rfl) (Kd.R_below OB.out (by first | exact HBC.out | exact below_alloc HBC.out _ | exact below_alloc (below_drew (Below.refl _ _)) _)) (row_one (n := (⟨⟨y.f0, d1, y.f2⟩, p⟩ : S28)) (by first | exact heap_alloc_new _ _ | (rw [hbq.block _ (by simp)]; exact heap_alloc_new _ _))) (by rintro _ _ ⟨rfl, rfl⟩; exact k28_mkM _ _ _ (⟨⟨y.f0, d1, y.f2⟩, p⟩ : S28) (Kd.R_tight rfl (Kd.R_below PB.out (by first | exact HBC.out | exact below_alloc HBC.out _ | exact below_alloc (below_drew (Below.refl _ _)) _)))) (fun k hk => ⟨trivial, NP.out k hk.symm⟩) (fun _ _ => trivial) (bthen BB.out (by first | exact HBC.out | exact below_alloc HBC.out _ | exact below_alloc (below_drew (Below.refl _ _)) _)) (bthen BB.out (by first | exact HBC.out | exact below_alloc HBC.out _ | exact below_alloc (below_drew (Below.refl _ _)) _)).size HLN.out ?_; intro v7 w7 ho7 hb7 hg7 _; have O7 := Aside0.mk ho7; have B7 := Aside0.mk hb7; clear ho7 hb7))
      all_goals
        obtain ⟨A7, n7, c7, rfl, _⟩ := R_open O7.out
        clear f0 f1 f2 f3
        go_wp2
        go_roundw
        case measure => simp [intOf]; omega
        case rel =>
          refine ⟨k + 1, A7, n7, c7, by omega, ?_, rfl, by go_num, ⟨?_⟩, B7⟩
          · rw [HSA.out, HSE.out, HT.out, encAll_snoc, str_append]
          · rw [HT.out, List.map_append]
            have e : [(⟨⟨y.f0, d1, y.f2⟩, p⟩ : S28)] = [ntOf y].map toS := by
              rw [HD.out, HP.out]
              rfl
            rw [← e]
            exact O7.out
    · obtain rfl : k = m := by omega
      have OKS : Aside0 (∀ x ∈ nts (l.take k), OkNt x) := ⟨nts_ok (fun x hx => HO.out x (List.mem_of_mem_take hx))⟩
      have hln : (nts (l.take k)).length ≤ 8 := by
        unfold nts
        rw [List.length_map, List.length_take]
        omega
      obtain ⟨ns, hns⟩ : ∃ x, x = nts (l.take k) := ⟨_, rfl⟩
      rw [← hns] at OKS O6 hln ⊢
      clear hns
      have HLS : Aside0 (ns.length ≤ 8) := ⟨hln⟩
      clear hln
      have hszA : (strOfNums (encAll ns)).size ≤ 1000000 := by
        rw [strOfNums_size]
        have h1 := encAll_len OKS.out
        have h2 := HLS.out
        omega
      have HBY : Aside0 (bytesOf (strOfNums (encAll ns)) = encAll ns) := ⟨bytesOf_str (encAll_byt ns)⟩
      have HD0 : Aside0 (dAll (bytesOf (strOfNums (encAll ns))) = some ns) := ⟨by rw [HBY.out]; exact dAll_enc OKS.out⟩
      have HDL : Aside0 (decL (bytesOf (strOfNums (encAll ns))) = ns.map toS) := ⟨decL_some HD0.out⟩
      have HDE : Aside0 (decE (bytesOf (strOfNums (encAll ns))) = 0) := ⟨decE_some HD0.out⟩
      obtain ⟨SA, hSA⟩ : ∃ x, x = strOfNums (encAll ns) := ⟨_, rfl⟩
      rw [← hSA] at hszA HBY HD0 HDL HDE ⊢
      clear hSA
      go_wp2_with fail
      refine (decode_any SA _ hszA).mono ?_
      rintro e w1 ⟨v1, rfl, ho1, hb1⟩
      rw [HDL.out] at ho1
      rw [HDE.out]
      have O1 := Aside0.mk (Kd.R_lower ho1 B6.out.size)
      have O2 := Aside0.mk (Kd.R_below O6.out hb1)
      have B1 := Aside0.mk (bthen B6.out hb1)
      clear ho1 hb1 O6 B6
      obtain ⟨A1, n1, c1, rfl, HN1⟩ := R_open O1.out
      obtain ⟨rfl, hc1, C1⟩ := Kd.R_reads' O1.out
      obtain ⟨rfl, hc6, C6⟩ := Kd.R_reads' O2.out
      have K1 := Aside0.mk C1
      have K6 := Aside0.mk C6
      have HC1 := Aside0.mk hc1
      have HC6 := Aside0.mk hc6
      clear C1 C6 hc1 hc6 HN1
      obtain ⟨q, hq⟩ : ∃ q, q = (ns.map toS).length := ⟨_, rfl⟩
      have HQ := Aside0.mk hq
      rw [← hq] at K1 K6 HC1 HC6 O1 O2 ⊢
      have hq8 : q ≤ 8 := by rw [hq, List.length_map]; exact HLS.out
      clear hq
      go_wp2_with fail
      refine (wakes_any _).mono ?_
      rintro e w2 ⟨rfl, hb2⟩
      have B2 := Aside0.mk (bthen B1.out hb2)
      have K12 := Aside0.mk (Kd.C_below K1.out hb2)
      have K62 := Aside0.mk (Kd.C_below K6.out hb2)
      clear hb2
      go_wp2_with fail
      clear O1 O2 B1
      go_loopw [4, 64] (fun v4 v64 wr => ∃ i : Nat, i ≤ q ∧ v4 = .bool false ∧ v64 = .int .i64 i ∧ Aside0 (Below w2.heap.size w2 wr)) (fun _ v _ => q - (intOf v).toNat)
      case atStart => exact ⟨0, Nat.zero_le _, rfl, rfl, ⟨Below.refl _ _⟩⟩
      case round =>
        obtain ⟨i, hi, rfl, rfl, BR⟩ := hrel
        by_cases hlt : i < q
        · obtain ⟨nt, hnt⟩ : ∃ nt, ns[i]? = some nt := ⟨ns[i]'(by have := HQ.out; rw [List.length_map] at this; omega), List.getElem?_eq_getElem _⟩
          have OKN := Aside0.mk (OKS.out nt (List.mem_of_getElem? hnt))
          obtain ⟨ad1, B1, d1, rfl, x0, x1, x2, x3, hl1, hC1⟩ := nt_at K12.out i nt hnt
          obtain ⟨ad6, B6, d6, rfl, y0, y1, y2, y3, hl6, hC6⟩ := nt_at K62.out i nt hnt
          clear hnt
          have p0 := pw_cell_below BR.out x0
          have p1 := pw_cell_below BR.out x1
          have p2 := pw_cell_below BR.out x2
          have p3 := pw_cell_below BR.out x3
          have q0 := pw_cell_below BR.out y0
          have q1 := pw_cell_below BR.out y1
          have q2 := pw_cell_below BR.out y2
          have q3 := pw_cell_below BR.out y3
          have E1 := Aside0.mk (fun W => enc_again (c := d1) hC1 OKN.out W)
          have E6 := Aside0.mk (fun W => enc_again (c := d6) hC6 OKN.out W)
          clear x0 x1 x2 x3 y0 y1 y2 y3 hl1 hl6 hC1 hC6
          have hb0 : Aside0 (Below w2.heap.size w2 wr.drew) := ⟨below_drew BR.out⟩
          go_wp2_with fail
          obtain ⟨SE, hSE⟩ : ∃ x, x = strOfNums (encNt nt) := ⟨_, rfl⟩
          rw [← hSE] at E1 E6
          clear hSE
          go_region_held3 (fun w' => w'.cell? (ad1.add (i * 4)) = some (.int .i64 nt.b) ∧ w'.cell? ⟨(ad1.add (i * 4)).block, (ad1.add (i * 4)).off + 1, none⟩ = some (.int .i64 nt.path.length) ∧ w'.cell? ⟨(ad1.add (i * 4)).block, (ad1.add (i * 4)).off + 2, none⟩ = some (.int .i64 nt.s) ∧ w'.cell? ⟨(ad1.add (i * 4)).block, (ad1.add (i * 4)).off + 3, none⟩ = some (.slice B1 nt.path.length d1) ∧
              w'.cell? (ad6.add (i * 4)) = some (.int .i64 nt.b) ∧ w'.cell? ⟨(ad6.add (i * 4)).block, (ad6.add (i * 4)).off + 1, none⟩ = some (.int .i64 nt.path.length) ∧ w'.cell? ⟨(ad6.add (i * 4)).block, (ad6.add (i * 4)).off + 2, none⟩ = some (.int .i64 nt.s) ∧ w'.cell? ⟨(ad6.add (i * 4)).block, (ad6.add (i * 4)).off + 3, none⟩ = some (.slice B6 nt.path.length d6) ∧ Aside0 (Below w2.heap.size w2 w'))
            (first
              | exact ⟨p0, p1, p2, p3, q0, q1, q2, q3, hb0⟩
              | (go_split_ands; exact eight_at (by assumption) (by assumption) (by assumption) (by assumption) (by assumption) (by assumption) (by assumption) (by assumption) (by assumption) hbq))
            (first
              | (go_at_call 13; go_split_ands; with_reducible refine (E1.out _ (Aside0.out (by assumption))).mono ?_; rintro e w' ⟨rfl, hbq⟩)
              | (go_at_call 13; go_split_ands; with_reducible refine (E6.out _ (Aside0.out (by assumption))).mono ?_; rintro e w' ⟨rfl, hbq⟩))
          all_goals
            go_split_ands
            clear p0 p1 p2 p3 q0 q1 q2 q3
            go_wp2
            go_roundw
            case measure => simp [intOf]; omega
            case rel => exact ⟨i + 1, by omega, rfl, by go_num, by assumption⟩
        · obtain rfl : i = q := by omega
          have BW : Aside0 (Below w.heap.size w wr) := ⟨bthen B2.out BR.out⟩
          clear K1 K6 K12 K62 B2 BR HC1 HC6 HQ HLS HDL HDE HD0 HBY OKS
          obtain ⟨m2, hm2⟩ : ∃ m2 : Nat, m2 = min s.size 2000 := ⟨_, rfl⟩
          have hm3 : m2 ≤ 2000 := by omega
          have hm4 : m2 ≤ s.size := by omega
          have hmn2 : (if (2000 : Int) < (s.size : Int) then (2000 : Int) else (s.size : Int)) = (m2 : Int) := by split <;> omega
          clear hm2
          go_wp2_with fail
          clear hmn2
          have HS := Aside0.mk (extract_size s m2 hm4)
          obtain ⟨S1, hS1⟩ : ∃ S1, S1 = s.extract 0 m2 := ⟨_, rfl⟩
          rw [← hS1] at HS ⊢
          clear hS1
          have hsz1 : S1.size ≤ 1000000 := by rw [HS.out]; omega
          refine (decode_any S1 _ hsz1).mono ?_
          rintro e w3 ⟨v3, rfl, ho3, hb3⟩
          have O3 := Aside0.mk (Kd.R_lower ho3 BW.out.size)
          have B3 := Aside0.mk (bthen BW.out hb3)
          clear ho3 hb3 BW
          obtain ⟨ms, er, e1, e2, OKM, hfin, hml⟩ := decoded S1 (by rw [HS.out]; exact hm3)
          rw [e1] at O3
          rw [e2]
          clear e1 e2
          obtain ⟨A3, n3, c3, rfl, _⟩ := R_open O3.out
          obtain ⟨rfl, hc3, C3⟩ := Kd.R_reads' O3.out
          have HM := Aside0.mk C3
          have HC3 := Aside0.mk hc3
          have OM := Aside0.mk OKM
          have HF := Aside0.mk hfin
          clear O3 C3 hc3 OKM hfin
          obtain ⟨u, hu⟩ : ∃ u, u = (ms.map toS).length := ⟨_, rfl⟩
          rw [← hu] at HM HC3 ⊢
          have hu2 : u = ms.length := by rw [hu, List.length_map]
          have HU := Aside0.mk hu2
          have hu3 : u ≤ 2000 := by rw [hu2]; exact hml
          clear hu hu2 hml
          go_wp2_with fail
          go_loopw [16, 104] (fun v16 v104 wr => ∃ i : Nat, i ≤ u ∧ v16 = .string (strOfNums (encAll (ms.take i))) ∧ v104 = .int .i64 i ∧ Aside0 (Below w3.heap.size w3 wr)) (fun _ v _ => u - (intOf v).toNat)
          case atStart => exact ⟨0, Nat.zero_le _, rfl, rfl, ⟨Below.refl _ _⟩⟩
          case round =>
            obtain ⟨j, hj, rfl, rfl, BR⟩ := hrel
            by_cases hlt : j < u
            · obtain ⟨nt, hnt⟩ : ∃ nt, ms[j]? = some nt := ⟨ms[j]'(by have := HU.out; omega), List.getElem?_eq_getElem _⟩
              have OKN := Aside0.mk (OM.out nt (List.mem_of_getElem? hnt))
              obtain ⟨ad, D1, d1, rfl, x0, x1, x2, x3, hl1, hC1⟩ := nt_at HM.out j nt hnt
              have TK : Aside0 (ms.take (j + 1) = ms.take j ++ [nt]) := ⟨by rw [List.take_add_one, hnt]; rfl⟩
              clear hnt
              have p0 := pw_cell_below BR.out x0
              have p1 := pw_cell_below BR.out x1
              have p2 := pw_cell_below BR.out x2
              have p3 := pw_cell_below BR.out x3
              have E1 := Aside0.mk (fun W => enc_again (c := d1) hC1 OKN.out W)
              clear x0 x1 x2 x3 hl1 hC1
              have hszA : (strOfNums (encAll (ms.take j))).size ≤ 8222 * 2000 := by
                rw [strOfNums_size]
                have h1 := encAll_len (l := ms.take j) (fun x hx => OM.out x (List.mem_of_mem_take hx))
                have h2 : (ms.take j).length ≤ 2000 := by rw [List.length_take]; omega
                omega
              have hszE : (strOfNums (encNt nt)).size ≤ 8222 := by rw [strOfNums_size]; exact encNt_len OKN.out
              obtain ⟨SB, hSB⟩ : ∃ x, x = strOfNums (encAll (ms.take j)) := ⟨_, rfl⟩
              obtain ⟨SE, hSE⟩ : ∃ x, x = strOfNums (encNt nt) := ⟨_, rfl⟩
              rw [← hSB] at hszA ⊢
              rw [← hSE] at hszE E1
              have HSB := Aside0.mk hSB
              have HSE := Aside0.mk hSE
              clear hSB hSE
              have hsz : (9223372036854775807 < SB.size + SE.size) = False := eq_false (by omega)
              clear hszA hszE
              go_wp2_with fail
              with_reducible refine (E1.out _ (below_alloc BR.out _)).mono ?_
              rintro e w5 ⟨rfl, hb5⟩
              have B5 := Aside0.mk (bthen (below_alloc BR.out _) hb5)
              clear hb5 p0 p1 p2 p3
              go_wp2_with fail
              go_roundw
              case measure => simp [intOf]; omega
              case rel =>
                refine ⟨j + 1, by omega, ?_, by go_num, B5⟩
                rw [TK.out, encAll_snoc, str_append, HSB.out, HSE.out]
            · obtain rfl : j = u := by omega
              have BZ : Aside0 (Below w.heap.size w wr) := ⟨bthen B3.out BR.out⟩
              rcases HF.out with ⟨rfl, rfl⟩ | ⟨rfl, hS⟩
              · obtain rfl : j = 0 := HU.out
                go_wp2_with fail
                go_ret
                exact ⟨rfl, BZ.out⟩
              · have e : strOfNums (encAll (ms.take j)) = S1 := by rw [HU.out, List.take_length, hS]
                rw [e]
                clear e hS
                go_wp2_with fail
                go_ret
                exact ⟨rfl, BZ.out⟩
end Go.Proofs.Ytebbikihhkjaaaa.Hand
