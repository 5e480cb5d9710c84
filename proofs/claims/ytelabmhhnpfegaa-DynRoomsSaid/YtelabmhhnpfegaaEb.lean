/- DynRooms: walked. -/
import Derived.Test.YtelabmhhnpfegaaDv
import Derived.Test.YtelabmhhnpfegaaDg
import Derived.Test.YtelabmhhnpfegaaEa
import Derived.BigQuiet
namespace Go.Proofs.Ytelabmhhnpfegaa.Hand
open Go.RowKit Go.Proofs.YtelabmhhnpfegaaW.PrintWords Go.Proofs.YtelabmhhnpfegaaW.PrintLast Go.Proofs.YtelabmhhnpfegaaW.PrintMore Go.Proofs.Ytelabmhhnpfegaa.PDynCells
attribute [local go_sem] max2_int min2_int
theorem cutI_ok (x : PI) : PIok (cutI x) := by
  refine ⟨?_, ?_, ?_, ?_, ?_⟩
  · show (x.items.take 40).length ≤ _
    have := List.length_take_le 40 x.items
    omega
  · show ((x.cost.take 70).map (·.take 70)).length ≤ _
    rw [List.length_map]
    have := List.length_take_le 70 x.cost
    omega
  · show ((x.sets.take 40).map cutS).length ≤ _
    rw [List.length_map]
    have := List.length_take_le 40 x.sets
    omega
  · intro r hr
    obtain ⟨q, _, rfl⟩ := List.mem_map.1 hr
    have := List.length_take_le 70 q
    omega
  · intro s hs
    obtain ⟨q, _, rfl⟩ := List.mem_map.1 hs
    have : ((cutS q).f1).length ≤ 40 := List.length_take_le 40 q.f1
    omega
/-- A light Knapsack, its room cut to 200, has a table. -/
theorem light_k0 {k : Int} {y : PI} (h : LightP 9 k y) (h0 : y.kind = 0) : IOk (cutI { y with cap := y.cap % 200 }) ∧ (cutI { y with cap := y.cap % 200 }).items = y.items ∧ y.items.length ≤ 9 ∧ (cellsP (cutI { y with cap := y.cap % 200 })).2 = 0 ∧ roomP (cutI { y with cap := y.cap % 200 }) ≤ 199 := by
  have h1 := h.t.items
  obtain ⟨c1, c2, c3⟩ := h.t.k0 h0
  have hc0 := h.t.cap
  have m1 := Int.emod_nonneg y.cap (b := 200) (by omega)
  have m2 := Int.emod_lt_of_pos y.cap (b := 200) (by omega)
  have e : cutI { y with cap := y.cap % 200 } = ⟨0, y.cap % 200, y.items, [], 0, []⟩ := by
    unfold cutI
    simp only [h0, c1, c2, c3, List.take_nil, List.map_nil]
    rw [List.take_of_length_le (by omega)]
  rw [e]
  have hi : IOk ⟨0, y.cap % 200, y.items, [], 0, []⟩ := by
    refine ⟨⟨Int.le_refl _, by show (0 : Int) < 4; decide⟩, fun hk => absurd rfl hk, fun _ => rfl, fun _ => ⟨rfl, rfl⟩, fun hk => by simp at hk, by show y.items.length ≤ _; omega, Nat.zero_le _, ⟨Int.le_refl _, by show (0 : Int) ≤ 4096; decide⟩, fun r hr => absurd hr List.not_mem_nil, fun r hr => absurd hr List.not_mem_nil, ⟨m1, by show y.cap % 200 ≤ _; omega⟩, h1.2, fun r hr => absurd hr List.not_mem_nil, fun r hr => absurd hr List.not_mem_nil, fun hk => by simp at hk⟩
  have hr : roomP ⟨0, y.cap % 200, y.items, [], 0, []⟩ ≤ 199 := by
    unfold roomP
    show (if y.cap % 200 < _ then y.cap % 200 else _) ≤ 199
    split <;> omega
  have hb := room_bd hi
  refine ⟨hi, rfl, h1.1, ?_, hr⟩
  unfold cellsP
  rw [if_pos (iok.2 hi)]
  have hq : qP ⟨0, y.cap % 200, y.items, [], 0, []⟩ ≤ 1048576 := by
    unfold qP aP tP
    rw [if_pos rfl, if_pos rfl, Int.pow_zero, Int.mul_one]
    have l1 : ((y.items.length : Int) + 1) * (roomP ⟨0, y.cap % 200, y.items, [], 0, []⟩ + 1) ≤ 10 * 200 := Int.mul_le_mul (by omega) (by omega) (by omega) (by omega)
    show ((y.items.length : Int) + 1) * (roomP ⟨0, y.cap % 200, y.items, [], 0, []⟩ + 1) ≤ _
    omega
  rw [if_neg (by omega)]
/-- The rest of the law, of what is no Knapsack. -/
theorem rest_not {yc : PI} (hk : yc.kind ≠ 0) (he : (cellsP yc).2 = 0) (w : World) (v : Value) (h : InstC w yc v) (hx : PIok yc) : Calls Try.prog 25 #[v] w fun e w' => ∃ z, e = .returned (.tuple #[.slice none 0 0, .int .i64 z]) ∧ Aside0 (z = 25) ∧ Below w.heap.size w w' :=
  (front_kind w yc v h hx he hk).mono fun _ _ ⟨e, b⟩ => ⟨25, e, ⟨rfl⟩, b⟩
set_option maxHeartbeats 1000000 in
set_option maxRecDepth 100000 in
theorem dynrooms_law (w : World) (x : PI) (v : Value) (h : InstC w x v) (hx : PIok x) : Calls Try.prog 7 #[v] w fun e w' => e = .returned (.bool true) ∧ Below w.heap.size w w' := by
  have HI := Aside0.mk h
  have HX := Aside0.mk hx
  obtain ⟨A2x, c2x, A3x, c3x, A5x, c5x, rfl, h2, l2, h3, l3, h5, l5⟩ := h
  clear h2 h3 h5 l2 l3 l5 hx
  have hu47 := Try.underlying47
  have hu54 := Try.underlying54
  have hu57 := Try.underlying57
  have hu68 := Try.underlying68
  go_enter Try.func7, Try.ntmps7
  go_wp2_with fail
  obtain ⟨W1, hW1⟩ : ∃ W, W = w.alloc (.cells #[.int .i64 x.kind, .int .i64 x.cap, .slice A2x x.items.length c2x, .slice A3x x.cost.length c3x, .int .i64 x.size, .slice A5x x.sets.length c5x] 47) := ⟨_, rfl⟩
  rw [← hW1]
  have B1 : Aside0 (Below w.heap.size w W1) := ⟨by rw [hW1]; exact below_alloc (Below.refl _ _) _⟩
  clear hW1
  refine (light_any W1 x _ 9 (HI.out.below B1.out) HX.out (by decide) (by decide)).mono ?_
  rintro _ W2 ⟨va, rfl, ⟨y, iy, LP', B2'⟩⟩
  have LP := Aside0.mk LP'
  have B2 := Aside0.mk (B1.out.trans (B2'.mono B1.out.size))
  have YO : Aside0 (PIok y) := ⟨by
    have h1 := LP'.t.items.1
    have h2 := LP'.t.cost.1
    have h3 := LP'.t.sets.1
    refine ⟨by omega, by omega, by omega, fun r hr => ?_, fun s hs => ?_⟩
    · have := (LP'.t.cost.2 r hr).1
      omega
    · have h4 := (LP'.t.sets.2 s hs).2
      have h5 := LP'.t.size
      have key : ∀ (l : List Int) (a : Int), l.Pairwise (· < ·) → (∀ e ∈ l, a ≤ e ∧ e < y.size) → (l.length : Int) ≤ max 0 (y.size - a) := by
        intro l
        induction l with
        | nil => intro a _ _; simp; omega
        | cons e t ih =>
          intro a hp hb
          have h1 := hb e List.mem_cons_self
          have h2 := ih (e + 1) hp.tail (fun y hy => by
            have := (List.pairwise_cons.1 hp).1 y hy
            exact ⟨by omega, (hb y (List.mem_cons_of_mem _ hy)).2⟩)
          rw [List.length_cons]
          omega
      have := key s.f1 0 h4.1 (fun e he => h4.2 e he)
      omega⟩
  obtain ⟨A2, n2, c2, A3, n3, c3, A5, n5, c5, rfl, r2', r3', r5'⟩ := iy
  have R2 := Aside0.mk r2'
  have R3 := Aside0.mk r3'
  have R5 := Aside0.mk r5'
  clear r2' r3' r5' B2' LP'
  go_upto_region 2 with fail
  obtain ⟨W3, hW3⟩ : ∃ W, W = W2.alloc (.cells #[.int .i64 y.kind, .int .i64 y.cap, .slice A2 n2 c2, .slice A3 n3 c3, .int .i64 y.size, .slice A5 n5 c5] 47) := ⟨_, rfl⟩
  rw [← hW3]
  have B3 : Aside0 (Below w.heap.size w W3) := ⟨by rw [hW3]; exact B2.out.trans ((below_alloc (Below.refl _ _) _).mono B2.out.size)⟩
  have B23 : Aside0 (Below W2.heap.size W2 W3) := ⟨by rw [hW3]; exact below_alloc (Below.refl _ _) _⟩
  obtain ⟨p3, hp3⟩ : ∃ p, p = W2.heap.size := ⟨_, rfl⟩
  rw [← hp3]
  have Q3 : Aside0 (W3.heap[p3]? = some (.cells #[.int .i64 y.kind, .int .i64 y.cap, .slice A2 n2 c2, .slice A3 n3 c3, .int .i64 y.size, .slice A5 n5 c5] 47 (0, 0))) := ⟨by rw [hW3, hp3]; exact heap_alloc_new _ _⟩
  have HP : Aside0 (w.heap.size ≤ p3) := ⟨by rw [hp3]; exact B2.out.size⟩
  clear hW3 hp3
  obtain ⟨e0, e1, e2, e3, e4, e5, _⟩ := six Q3.out (Below.refl _ _)
  by_cases hk : y.kind = 0
  · have LK := Aside0.mk (light_k0 LP.out hk)
    have g0 : (y.kind == 0) = true := by simpa using hk
    have hc0 := LP.out.t.cap.1
    have hz : ∀ j, W3.frozen? ⟨p3, j, none⟩ = false := blk_frozen Q3.out
    go_upto_region 4 with fail
    clear e0 e1 e2 e3 e4 e5 g0 hz
    obtain ⟨W3', hW3'⟩ : ∃ W, W = W3.setCell ⟨p3, 1, none⟩ (Value.int .i64 (y.cap % 200)) := ⟨_, rfl⟩
    rw [← hW3']
    have B3' : Aside0 (Below w.heap.size w W3') := ⟨by rw [hW3']; exact B3.out.setCell HP.out _⟩
    obtain ⟨y2, hy2⟩ : ∃ z : PI, z = { y with cap := y.cap % 200 } := ⟨_, rfl⟩
    have Q3' : Aside0 (W3'.heap[p3]? = some (.cells #[.int .i64 y2.kind, .int .i64 y2.cap, .slice A2 n2 c2, .slice A3 n3 c3, .int .i64 y2.size, .slice A5 n5 c5] 47 (0, 0))) := ⟨by rw [hW3', hy2]; exact blk_put Q3.out 1 _ rfl⟩
    have IY : Aside0 (InstC W3' y2 (.agg #[.int .i64 y2.kind, .int .i64 y2.cap, .slice A2 n2 c2, .slice A3 n3 c3, .int .i64 y2.size, .slice A5 n5 c5])) := ⟨by
      rw [hW3', hy2]
      exact InstO.c (base := 0) ⟨A2, n2, c2, A3, n3, c3, A5, n5, c5, rfl, Kd.R_mono (Kd.R_lower (base' := 0) (Kd.R_set (Kd.R_below R2.out B23.out) Q3.out (by decide) 1 _) (Nat.zero_le _)) (fun _ h => h), Kd.R_lower (base' := 0) (Kd.R_set (Kd.R_below R3.out B23.out) Q3.out (by decide) 1 _) (Nat.zero_le _), Kd.R_lower (base' := 0) (Kd.R_set (Kd.R_below R5.out B23.out) Q3.out (by decide) 1 _) (Nat.zero_le _)⟩⟩
    have YO' : Aside0 (PIok y2) := ⟨by rw [hy2]; exact ⟨YO.out.items, YO.out.cost, YO.out.sets, YO.out.rows, YO.out.els⟩⟩
    have HK : Aside0 (y2.kind = 0) := ⟨by rw [hy2]; exact hk⟩
    rw [← hy2] at LK
    have LI := Aside0.mk LP.out.t.items.2
    have HYI : Aside0 (y2.items = y.items) := ⟨by rw [hy2]⟩
    clear hk hy2 hW3' R2 R3 R5 B23 B3 Q3
    have B3 := B3'
    clear B3'
    obtain ⟨e0, e1, e2, e3, e4, e5, _⟩ := six Q3'.out (Below.refl _ _)
    go_wp2_with fail
    clear e0 e1 e2 e3 e4 e5
    refine (insts_any W3' y2 _ IY.out YO'.out).mono ?_
    rintro _ W4 ⟨vc, vd, rfl, ⟨ic, id_, B4'⟩⟩
    have B4 := Aside0.mk (B3.out.trans (B4'.mono B3.out.size))
    have IC := Aside0.mk ic
    have ID := Aside0.mk id_
    clear B4'
    obtain ⟨A2c, c2c, A3c, c3c, A5c, c5c, rfl, _⟩ := ic
    obtain ⟨A2d, c2d, A3d, c3d, A5d, c5d, rfl, h2d, _⟩ := id_
    have H2D := Aside0.mk h2d
    clear h2d
    obtain ⟨yc, hyc⟩ : ∃ z, z = cutI y2 := ⟨_, rfl⟩
    have CO : Aside0 (PIok yc) := ⟨by rw [hyc]; exact cutI_ok _⟩
    rw [← hyc] at IC ID H2D LK ⊢
    have HKc : Aside0 (yc.kind = 0) := ⟨by rw [hyc]; exact HK.out⟩
    clear hyc
    go_upto_region 5 with fail
    have B5 : Aside0 (Below W4.heap.size W4 ((W4.alloc (.cells #[.int .i64 yc.kind, .int .i64 yc.cap, .slice A2c yc.items.length c2c, .slice A3c yc.cost.length c3c, .int .i64 yc.size, .slice A5c yc.sets.length c5c] 54)).alloc (.cells #[.int .i64 yc.kind, .int .i64 yc.cap, .slice A2d yc.items.length c2d, .slice A3d yc.cost.length c3d, .int .i64 yc.size, .slice A5d yc.sets.length c5d] 57))) := ⟨below_alloc (below_alloc (Below.refl _ _) _) _⟩
    obtain ⟨W5, hW5⟩ : ∃ W, W = (W4.alloc (.cells #[.int .i64 yc.kind, .int .i64 yc.cap, .slice A2c yc.items.length c2c, .slice A3c yc.cost.length c3c, .int .i64 yc.size, .slice A5c yc.sets.length c5c] 54)).alloc (.cells #[.int .i64 yc.kind, .int .i64 yc.cap, .slice A2d yc.items.length c2d, .slice A3d yc.cost.length c3d, .int .i64 yc.size, .slice A5d yc.sets.length c5d] 57) := ⟨_, rfl⟩
    rw [← hW5] at B5 ⊢
    obtain ⟨p5, hp5⟩ : ∃ p, p = W4.heap.size := ⟨_, rfl⟩
    rw [← hp5]
    have Q5 : Aside0 (W5.heap[p5]? = some (.cells #[.int .i64 yc.kind, .int .i64 yc.cap, .slice A2c yc.items.length c2c, .slice A3c yc.cost.length c3c, .int .i64 yc.size, .slice A5c yc.sets.length c5c] 54 (0, 0)) ∧ W5.heap[p5 + 1]? = some (.cells #[.int .i64 yc.kind, .int .i64 yc.cap, .slice A2d yc.items.length c2d, .slice A3d yc.cost.length c3d, .int .i64 yc.size, .slice A5d yc.sets.length c5d] 57 (0, 0))) := ⟨by
      rw [hW5, hp5]
      constructor
      all_goals
        simp only [al_get, al_size]
        repeat (first | rw [if_pos trivial] | rw [if_neg (by omega)])⟩
    have B25 := Aside0.mk (B4.out.trans (B5.out.mono B4.out.size))
    have B45 := B5
    have IC5 := Aside0.mk (IC.out.below B5.out)
    have ID5 := Aside0.mk (ID.out.below B5.out)
    clear hW5 hp5 B5
    obtain ⟨e0, e1, e2, e3, e4, e5, _⟩ := six Q5.out.1 (Below.refl _ _)
    have g1 : (yc.kind != 0) = false := by rw [HKc.out]; rfl
    go_wp2_with fail
    clear e0 e1 e2 e3 e4 e5
    refine (front_ok W5 yc _ IC5.out CO.out LK.out.2.2.2.1 HKc.out).mono ?_
    rintro _ W6 ⟨aF, cF, rfl, HF⟩
    have B6 := Aside0.mk HF.out.2
    have B26 := Aside0.mk (B25.out.trans (B6.out.mono B25.out.size))
    obtain ⟨f0, f1, f2, f3, f4, f5, _⟩ := six Q5.out.2 B6.out
    have ID6 := Aside0.mk (ID5.out.below B6.out)
    clear B25 B6 ID5 IC5 Q3' B4 IY YO YO' 
    obtain ⟨l, hl⟩ : ∃ l, l = yc.items := ⟨_, rfl⟩
    obtain ⟨n, hn⟩ : ∃ n, n = yc.items.length := ⟨_, rfl⟩
    have rb := room_bd LK.out.1
    obtain ⟨R, hR⟩ : ∃ R : Nat, R = (roomP yc).toNat := ⟨_, rfl⟩
    have RE : Aside0 (roomP yc = (R : Int)) := ⟨by omega⟩
    have R200 : R ≤ 199 := by have := LK.out.2.2.2.2; omega
    have n9 : n ≤ 9 := by have := LK.out.2.2.1; rw [hn, LK.out.2.1]; omega
    have HL : Aside0 (l.length = n) := ⟨by rw [hl, hn]⟩
    have IT : Aside0 (∀ s ∈ l, (0 ≤ s.f0 ∧ s.f0 ≤ 2147483648) ∧ 0 ≤ s.f1 ∧ s.f1 ≤ 2147483648) := ⟨by rw [hl]; exact LK.out.1.items⟩
    have ROOM : Aside0 ((if yc.cap < wsum l then yc.cap else wsum l) = (R : Int)) := ⟨by rw [hl, ← RE.out]; rfl⟩
    have CB := LK.out.1.cap
    have H2 := Aside0.mk (Kd.C_below (Kd.C_below H2D.out B45.out) HF.out.2)
    rw [show (roomP yc + 1).toNat = R + 1 by rw [RE.out]; omega] at HF ⊢
    rw [← hn, ← hl] at HF H2
    rw [← hn] at f2 ⊢
    have B6 := Aside0.mk HF.out.2
    have HN := Aside0.mk hn
    clear ID6 LK hl hn hR rb B6
    obtain ⟨cap, hcap⟩ : ∃ z, z = yc.cap := ⟨_, rfl⟩
    rw [← hcap] at f1 CB ROOM ⊢
    have HCAP := Aside0.mk hcap
    clear hcap
    have g2 : (yc.kind != 0) = false := by rw [HKc.out]; rfl
    go_wp2_with fail
    clear f0 f1 f2 f3 f4 f5
    have K0 : Aside0 ((0 : Int) = wsum (l.take 0) ∧ Below W6.heap.size W6 W6) := ⟨by simp [wsum], Below.refl _ _⟩
    go_loopw [10, 68] (fun v10 v68 wr => ∃ (k : Nat) (s : Int), k ≤ n ∧ 0 ≤ s ∧ s ≤ 2147483648 * k ∧ v10 = .int .i64 s ∧ v68 = .int .i64 k ∧ Aside0 (s = wsum (l.take k) ∧ Below W6.heap.size W6 wr)) (fun _ i _ => n - (intOf i).toNat)
    case atStart => exact ⟨0, 0, Nat.zero_le _, by omega, by omega, rfl, rfl, K0⟩
    case round =>
      clear K0
      obtain ⟨k, s, hk, s0, s1, rfl, rfl, KS⟩ := hrel
      by_cases hlt : k < n
      · obtain ⟨ad, rfl, a0', a1'⟩ := at_T101 H2.out (k : Int) (by omega) (by omega)
        have a0 := pw_cell_below KS.out.2 a0'
        have a1 := pw_cell_below KS.out.2 a1'
        rw [Int.toNat_natCast] at a0 a1
        have hlt' : k < l.length := by rw [HL.out]; exact hlt
        obtain ⟨t, ht⟩ : ∃ t, t = (rd_T101 l (k : Int)).f1 := ⟨_, rfl⟩
        obtain ⟨u, hu⟩ : ∃ t, t = (rd_T101 l (k : Int)).f0 := ⟨_, rfl⟩
        rw [← ht] at a1
        rw [← hu] at a0
        have HT : t = (l.getD k z101).f1 := by rw [ht]; unfold rd_T101; rw [Int.toNat_natCast]
        have tb := (IT.out (l.getD k z101) (by
          rw [List.getD_eq_getElem?_getD, List.getElem?_eq_getElem hlt', Option.getD_some]
          exact List.getElem_mem _)).2
        rw [← HT] at tb
        have NX : Aside0 (s + t = wsum (l.take (k + 1))) := ⟨by rw [wsum_take hlt', KS.out.1, HT]⟩
        obtain ⟨t0, t1⟩ := tb
        clear ht hu HT hlt' a0' a1'
        obtain ⟨wo, hwo⟩ : ∃ wo : World, wo = wr := ⟨_, rfl⟩
        rw [← hwo] at KS a0 a1 ⊢
        clear hwo
        go_upto_region 13 with fail
        obtain ⟨W8, hW8⟩ : ∃ W, W = wo.alloc (.cells #[.int .i64 u, .int .i64 t] 68) := ⟨_, rfl⟩
        rw [← hW8]
        have B8 : Aside0 (Below W6.heap.size W6 W8) := ⟨by rw [hW8]; exact KS.out.2.alloc KS.out.2.size _⟩
        obtain ⟨p8, hp8⟩ : ∃ p, p = wo.heap.size := ⟨_, rfl⟩
        have Q8 : Aside0 (W8.heap[p8]? = some (.cells #[.int .i64 u, .int .i64 t] 68 (0, 0))) := ⟨by rw [hW8, hp8]; exact heap_alloc_new _ _⟩
        rw [← hp8]
        clear hW8 hp8 a0 a1
        have a1 : W8.cell? ⟨p8, 1, none⟩ = some (.int .i64 t) := (blk_cell Q8.out 1).trans rfl
        go_wp2_with fail
        exact ⟨⟨k + 1, s + t, by omega, by omega, by omega, rfl, by go_num, ⟨NX.out, B8.out⟩⟩, by simp [intOf]; omega⟩
      · obtain rfl : n = k := by omega
        obtain ⟨f0, f1, f2, f3, f4, f5, _⟩ := six (blk_below Q5.out.2 HF.out.2) KS.out.2
        have SE : Aside0 (s = wsum l) := ⟨by
          have h1 := KS.out.1
          rwa [List.take_of_length_le (by rw [HL.out]; exact Nat.le_refl _)] at h1⟩
        rw [← SE.out] at ROOM
        rw [← HN.out] at f2
        rw [← HCAP.out] at f1
        have BW := Aside0.mk (B26.out.trans (KS.out.2.mono B26.out.size))
        have HF2 := Aside0.mk (Kd.C_below HF.out.1 KS.out.2)
        have H2' := Aside0.mk (Kd.C_below H2.out KS.out.2)
        obtain ⟨wo, hwo⟩ : ∃ wo : World, wo = wr := ⟨_, rfl⟩
        rw [← hwo] at BW HF2 H2' f0 f1 f2 f3 f4 f5 ⊢
        clear hwo KS SE HF Q5 B26
        by_cases hcs : cap < s
        · have ec : cap = (R : Int) := by
            have h1 := ROOM.out
            rwa [if_pos hcs] at h1
          subst ec
          go_wp2_with fail
          clear f0 f1 f2 f3 f4 f5
          refine (rfront_any wo A2d n c2d l R H2'.out (by omega) (by omega) (fun s hs => (IT.out s hs).2) (fun s hs => (IT.out s hs).1)).mono ?_
          rintro _ W9 ⟨g, rfl, HG⟩
          have B9 := Aside0.mk (BW.out.trans (HG.out.2.mono BW.out.size))
          have HF9 := Aside0.mk (Kd.C_below HF2.out HG.out.2)
          have HGI := Aside0.mk HG.out.1
          clear HG
          go_wp2_with fail
          refine (wakes_any W9).mono ?_
          rintro _ W10 ⟨rfl, B10'⟩
          have B10 := Aside0.mk (B9.out.trans (B10'.mono B9.out.size))
          have HF10 := Aside0.mk (Kd.C_below HF9.out B10')
          have HG10 : Aside0 (IB W10 g 2 (R + 1) (outF l (2 ^ n))) := ⟨blk_below HGI.out B10'⟩
          clear HF9 HGI B10' B9
          have g3 : ((((R : Int) + 1)) != ((R : Int) + 1)) = false := by simp
          have g4 : (((R + 1 : Nat) : Int) != ((R + 1 : Nat) : Int)) = false := by simp
          go_wp2_with fail
          have L0 : Aside0 (Below W10.heap.size W10 W10) := ⟨Below.refl _ _⟩
          go_loopw [99] (fun v99 wr => ∃ k : Nat, k ≤ R + 1 ∧ v99 = .int .i64 (k : Int) ∧ Aside0 (Below W10.heap.size W10 wr)) (fun v99 _ => R + 1 - (intOf v99).toNat)
          case atStart => exact ⟨0, Nat.zero_le _, rfl, L0⟩
          case round =>
            clear L0
            obtain ⟨k, hk, rfl, KL⟩ := hrel
            by_cases hkr : k < R + 1
            · obtain ⟨ad, ea, c1'⟩ := at_Int HF10.out k hkr
              injection ea with ea
              subst ea
              have c1 := pw_cell_below KL.out c1'
              have c2 := (IB.c (blk_below HG10.out KL.out) hkr)
              have ze : outF l (2 ^ n) k = (rowK (R + 1) l n).getD k 0 := by
                rw [← HL.out]
                exact front_eq (fun s hs => (IT.out s hs).2) (fun s hs => (IT.out s hs).1) hkr
              rw [ze] at c2
              obtain ⟨z, hz⟩ : ∃ z, z = (rowK (R + 1) l n).getD k 0 := ⟨_, rfl⟩
              rw [← hz] at c1 c2
              clear hz ze c1'
              have hzz : (z != z) = false := by simp
              obtain ⟨wp, hwp⟩ : ∃ wo : World, wo = wr := ⟨_, rfl⟩
              rw [← hwp] at KL c1 c2 ⊢
              clear hwp
              go_upto_region 21 with fail
              go_quiet (fail)
              go_wp2_with fail
              go_roundw
              case measure => simp [intOf]; omega
              case rel => exact ⟨k + 1, by omega, by go_num, ⟨pw_below_drewN KL.out nq⟩⟩
            · obtain rfl : R + 1 = k := by omega
              go_wp2_with fail
              go_ret
              exact ⟨rfl, B10.out.trans (KL.out.mono B10.out.size)⟩
        · have ec : s = (R : Int) := by
            have h1 := ROOM.out
            rwa [if_neg hcs] at h1
          subst ec
          go_wp2_with fail
          clear f0 f1 f2 f3 f4 f5
          refine (rfront_any wo A2d n c2d l R H2'.out (by omega) (by omega) (fun s hs => (IT.out s hs).2) (fun s hs => (IT.out s hs).1)).mono ?_
          rintro _ W9 ⟨g, rfl, HG⟩
          have B9 := Aside0.mk (BW.out.trans (HG.out.2.mono BW.out.size))
          have HF9 := Aside0.mk (Kd.C_below HF2.out HG.out.2)
          have HGI := Aside0.mk HG.out.1
          clear HG
          go_wp2_with fail
          refine (wakes_any W9).mono ?_
          rintro _ W10 ⟨rfl, B10'⟩
          have B10 := Aside0.mk (B9.out.trans (B10'.mono B9.out.size))
          have HF10 := Aside0.mk (Kd.C_below HF9.out B10')
          have HG10 : Aside0 (IB W10 g 2 (R + 1) (outF l (2 ^ n))) := ⟨blk_below HGI.out B10'⟩
          clear HF9 HGI B10' B9
          have g3 : ((((R : Int) + 1)) != ((R : Int) + 1)) = false := by simp
          have g4 : (((R + 1 : Nat) : Int) != ((R + 1 : Nat) : Int)) = false := by simp
          go_wp2_with fail
          have L0 : Aside0 (Below W10.heap.size W10 W10) := ⟨Below.refl _ _⟩
          go_loopw [99] (fun v99 wr => ∃ k : Nat, k ≤ R + 1 ∧ v99 = .int .i64 (k : Int) ∧ Aside0 (Below W10.heap.size W10 wr)) (fun v99 _ => R + 1 - (intOf v99).toNat)
          case atStart => exact ⟨0, Nat.zero_le _, rfl, L0⟩
          case round =>
            clear L0
            obtain ⟨k, hk, rfl, KL⟩ := hrel
            by_cases hkr : k < R + 1
            · obtain ⟨ad, ea, c1'⟩ := at_Int HF10.out k hkr
              injection ea with ea
              subst ea
              have c1 := pw_cell_below KL.out c1'
              have c2 := (IB.c (blk_below HG10.out KL.out) hkr)
              have ze : outF l (2 ^ n) k = (rowK (R + 1) l n).getD k 0 := by
                rw [← HL.out]
                exact front_eq (fun s hs => (IT.out s hs).2) (fun s hs => (IT.out s hs).1) hkr
              rw [ze] at c2
              obtain ⟨z, hz⟩ : ∃ z, z = (rowK (R + 1) l n).getD k 0 := ⟨_, rfl⟩
              rw [← hz] at c1 c2
              clear hz ze c1'
              have hzz : (z != z) = false := by simp
              obtain ⟨wp, hwp⟩ : ∃ wo : World, wo = wr := ⟨_, rfl⟩
              rw [← hwp] at KL c1 c2 ⊢
              clear hwp
              go_upto_region 21 with fail
              go_quiet (fail)
              go_wp2_with fail
              go_roundw
              case measure => simp [intOf]; omega
              case rel => exact ⟨k + 1, by omega, by go_num, ⟨pw_below_drewN KL.out nq⟩⟩
            · obtain rfl : R + 1 = k := by omega
              go_wp2_with fail
              go_ret
              exact ⟨rfl, B10.out.trans (KL.out.mono B10.out.size)⟩
  · have g0 : (y.kind == 0) = false := by simpa using hk
    have IY : Aside0 (InstC W3 y (.agg #[.int .i64 y.kind, .int .i64 y.cap, .slice A2 n2 c2, .slice A3 n3 c3, .int .i64 y.size, .slice A5 n5 c5])) := ⟨(InstO.c ⟨A2, n2, c2, A3, n3, c3, A5, n5, c5, rfl, R2.out, R3.out, R5.out⟩).below B23.out⟩
    have HK : Aside0 ((cutI y).kind ≠ 0) := ⟨hk⟩
    clear hk R2 R3 R5 B23
    go_wp2_with fail
    clear e0 e1 e2 e3 e4 e5 g0
    refine (insts_any W3 y _ IY.out YO.out).mono ?_
    rintro _ W4 ⟨vc, vd, rfl, ⟨ic, id_, B4'⟩⟩
    have B4 := Aside0.mk (B3.out.trans (B4'.mono B3.out.size))
    have IC := Aside0.mk ic
    have ID := Aside0.mk id_
    clear B4'
    obtain ⟨A2c, c2c, A3c, c3c, A5c, c5c, rfl, _⟩ := ic
    obtain ⟨A2d, c2d, A3d, c3d, A5d, c5d, rfl, _⟩ := id_
    obtain ⟨yc, hyc⟩ : ∃ z, z = cutI y := ⟨_, rfl⟩
    have CO : Aside0 (PIok yc) := ⟨by rw [hyc]; exact cutI_ok _⟩
    have HKc : Aside0 (yc.kind ≠ 0) := ⟨by rw [hyc]; exact HK.out⟩
    rw [← hyc] at IC ID ⊢
    clear hyc
    go_upto_region 5 with fail
    have B5 : Aside0 (Below W4.heap.size W4 ((W4.alloc (.cells #[.int .i64 yc.kind, .int .i64 yc.cap, .slice A2c yc.items.length c2c, .slice A3c yc.cost.length c3c, .int .i64 yc.size, .slice A5c yc.sets.length c5c] 54)).alloc (.cells #[.int .i64 yc.kind, .int .i64 yc.cap, .slice A2d yc.items.length c2d, .slice A3d yc.cost.length c3d, .int .i64 yc.size, .slice A5d yc.sets.length c5d] 57))) := ⟨below_alloc (below_alloc (Below.refl _ _) _) _⟩
    obtain ⟨W5, hW5⟩ : ∃ W, W = (W4.alloc (.cells #[.int .i64 yc.kind, .int .i64 yc.cap, .slice A2c yc.items.length c2c, .slice A3c yc.cost.length c3c, .int .i64 yc.size, .slice A5c yc.sets.length c5c] 54)).alloc (.cells #[.int .i64 yc.kind, .int .i64 yc.cap, .slice A2d yc.items.length c2d, .slice A3d yc.cost.length c3d, .int .i64 yc.size, .slice A5d yc.sets.length c5d] 57) := ⟨_, rfl⟩
    rw [← hW5] at B5 ⊢
    obtain ⟨p5, hp5⟩ : ∃ p, p = W4.heap.size := ⟨_, rfl⟩
    rw [← hp5]
    have Q5 : Aside0 (W5.heap[p5]? = some (.cells #[.int .i64 yc.kind, .int .i64 yc.cap, .slice A2c yc.items.length c2c, .slice A3c yc.cost.length c3c, .int .i64 yc.size, .slice A5c yc.sets.length c5c] 54 (0, 0)) ∧ W5.heap[p5 + 1]? = some (.cells #[.int .i64 yc.kind, .int .i64 yc.cap, .slice A2d yc.items.length c2d, .slice A3d yc.cost.length c3d, .int .i64 yc.size, .slice A5d yc.sets.length c5d] 57 (0, 0))) := ⟨by
      rw [hW5, hp5]
      constructor
      all_goals
        simp only [al_get, al_size]
        repeat (first | rw [if_pos trivial] | rw [if_neg (by omega)])⟩
    have B25 := Aside0.mk (B4.out.trans (B5.out.mono B4.out.size))
    have IC5 := Aside0.mk (IC.out.below B5.out)
    have ID5 := Aside0.mk (ID.out.below B5.out)
    clear hW5 hp5 B5
    obtain ⟨e0, e1, e2, e3, e4, e5, _⟩ := six Q5.out.1 (Below.refl _ _)
    have g1 : (yc.kind != 0) = true := by simpa using HKc.out
    go_wp2_with fail
    clear e0 e1 e2 e3 e4 e5
    by_cases hc : (cellsP yc).2 = 0
    · refine (front_kind W5 yc _ IC5.out CO.out hc HKc.out).mono ?_
      rintro _ W6 ⟨rfl, B6'⟩
      have B6 := Aside0.mk B6'
      clear B6'
      have f0 : W6.cell? ⟨p5 + 1, 0, none⟩ = some (.int .i64 yc.kind) := (blk_cell (blk_below Q5.out.2 B6.out) 0).trans rfl
      obtain ⟨e0, e1, e2, e3, e4, e5, _⟩ := six Q5.out.1 B6.out
      go_wp2_with fail
      clear e0 e1 e2 e3 e4 e5 f0
      refine (cells_any W6 yc _ (IC5.out.below B6.out) CO.out).mono ?_
      rintro _ W7 ⟨rfl, B7'⟩
      rw [hc]
      have B7 := Aside0.mk (B25.out.trans ((B6.out.trans (B7'.mono B6.out.size)).mono B25.out.size))
      clear B7'
      go_wp2_with fail
      refine (wakes_any W7).mono ?_
      rintro _ W8 ⟨rfl, B8'⟩
      have B8 := Aside0.mk (B7.out.trans (B8'.mono B7.out.size))
      clear B8'
      go_wp2_with fail
      go_ret
      exact ⟨rfl, B8.out⟩
    · refine (front_err W5 yc _ IC5.out CO.out hc).mono ?_
      rintro _ W6 ⟨rfl, B6'⟩
      have B6 := Aside0.mk B6'
      clear B6'
      have f0 : W6.cell? ⟨p5 + 1, 0, none⟩ = some (.int .i64 yc.kind) := (blk_cell (blk_below Q5.out.2 B6.out) 0).trans rfl
      obtain ⟨e0, e1, e2, e3, e4, e5, _⟩ := six Q5.out.1 B6.out
      go_wp2_with fail
      clear e0 e1 e2 e3 e4 e5 f0
      refine (cells_any W6 yc _ (IC5.out.below B6.out) CO.out).mono ?_
      rintro _ W7 ⟨rfl, B7'⟩
      have B7 := Aside0.mk (B25.out.trans ((B6.out.trans (B7'.mono B6.out.size)).mono B25.out.size))
      clear B7'
      obtain ⟨z, hz⟩ : ∃ z, z = (cellsP yc).2 := ⟨_, rfl⟩
      obtain ⟨z1, hz1⟩ : ∃ z, z = (cellsP yc).1 := ⟨_, rfl⟩
      rw [← hz] at hc ⊢
      rw [← hz1]
      clear hz hz1
      have g2 : (z != 0) = true := by simpa using hc
      have g3 : (z == 0) = false := by simpa using hc
      have g4 : (z == z) = true := by simp
      go_wp2_with fail
      refine (wakes_any W7).mono ?_
      rintro _ W8 ⟨rfl, B8'⟩
      have B8 := Aside0.mk (B7.out.trans (B8'.mono B7.out.size))
      clear B8'
      go_wp2_with fail
      go_ret
      exact ⟨rfl, B8.out⟩
end Go.Proofs.Ytelabmhhnpfegaa.Hand
