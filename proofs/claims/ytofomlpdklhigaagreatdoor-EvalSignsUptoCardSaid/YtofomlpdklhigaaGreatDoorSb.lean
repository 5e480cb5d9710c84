/- The document's decimals of a number: walked. -/
import Derived.StillTailTactics
import Derived.Lib.ConvBytes
import Derived.Laws.Concat
import Derived.Lib.ItoaLen
import Derived.Test.YtofomlpdklhigaaGreatDoorSa
namespace Go.Proofs.YtofomlpdklhigaaGreatDoor.Hand
open Go.RowKit Go.Proofs.YtofomlpdklhigaaGreatDoorW.PrintWords Go.Proofs.YtofomlpdklhigaaGreatDoorW.PrintLast Go.Proofs.YtofomlpdklhigaaGreatDoorW.PrintMore
set_option linter.unusedVariables false
set_option linter.unusedSimpArgs false
theorem sB_app (a b : List UInt8) : sB a ++ sB b = sB (a ++ b) := by
  apply ByteArray.ext
  simp [sB]
theorem dec_big {u : Nat} (h : ¬ u < 10) : Lib.decDigits u = Lib.decDigits (u / 10) ++ [UInt8.ofNat (48 + u % 10)] := by
  rw [Lib.decDigits, dif_neg h]
theorem cat_run (a b : List UInt8) (h : a.length + b.length ≤ 9223372036854775807) : ∀ W : World, (Op.stringOp .add (sB a) (sB b)).run Tryz.prog W = .ok (.string (sB (a ++ b))) W := fun W => by
  rw [run_string_add_sum W _ _ (by rw [sB_size, sB_size]; exact h), sB_app]
theorem C_one8 {w : World} {g t : Nat} {a : Int} (h : w.heap[g]? = some (.cells #[.int .u8 a] t (0, 0))) : (Kd.int .u8).C w (some ⟨g, 0, none⟩) 1 [a] := by
  refine ⟨rfl, by decide, fun _ => ⟨_, rfl, fun j p hp => ⟨[.int .u8 p], rfl, rfl, fun i u hu => ?_⟩⟩⟩
  obtain rfl : i = 0 := by
    have := (List.getElem?_eq_some_iff.1 hu).1
    simp at this
    exact this
  match j, hp with
  | 0, hp =>
    cases hp
    cases hu
    exact (blk_cell h 0).trans rfl
theorem str_one (c : Int) : strOfNums [c] = sB [UInt8.ofNat c.toNat] := by
  apply ByteArray.ext
  simp [strOfNums, sB]
set_option maxHeartbeats 1000000 in
theorem dig_any (n : Int) (h0 : -9223372036854775808 ≤ n) (h1 : n ≤ 9223372036854775807) (w : World) : Calls Tryz.prog 30 #[.int .i64 n] w fun e w' => e = .returned (.string (sB (Lib.itoa n))) ∧ Below w.heap.size w w' := by
  obtain ⟨U, hU⟩ : ∃ U : Nat, U = n.natAbs := ⟨_, rfl⟩
  have HIT : Aside0 (Lib.itoa n = if n < 0 then 45 :: Lib.decDigits U else Lib.decDigits U) := ⟨by
    rw [hU]
    unfold Lib.itoa
    split
    · rfl
    · rename_i h
      have : n.toNat = n.natAbs := by omega
      rw [this]⟩
  have HUL : Aside0 ((Lib.decDigits U).length ≤ 20) := ⟨by rw [Lib.decDigits_length]; exact Lib.nDigits_le20 U (by omega)⟩
  go_enter Tryz.func30, Tryz.ntmps30
  obtain ⟨x, hx⟩ : ∃ x, x = IntKind.u64.wrap n := ⟨_, rfl⟩
  have hxe := hx.symm
  have hxn : 0 ≤ n → x = (U : Int) := fun h => by
    rw [hx]
    show n % 18446744073709551616 = _
    omega
  have HX := Aside0.mk hxn
  have hUb : U ≤ 9223372036854775808 := by omega
  have HUB := Aside0.mk hUb
  by_cases hneg : n < 0
  · have w1 : wrap64 (n + 1) = n + 1 := by unfold wrap64; omega
    have w2 : wrap64 (-(n + 1)) = -(n + 1) := by unfold wrap64; omega
    have w3 : IntKind.u64.wrap (-(n + 1)) = -(n + 1) := by
      show (-(n + 1)) % 18446744073709551616 = _
      omega
    obtain ⟨y, hy⟩ : ∃ y, y = (U : Int) := ⟨_, rfl⟩
    have w4 : IntKind.u64.wrap (-(n + 1) + 1) = y := by
      show (-(n + 1) + 1) % 18446744073709551616 = _
      omega
    have HY := Aside0.mk hy
    clear hy
    clear hx hxn hU h0 h1 hUb
    go_wp2_with fail
    clear w1 w2 w3 w4
    go_loopw [3, 4] (fun v3 v4 wr => ∃ (a : Int) (t : List UInt8), v3 = .int .u64 a ∧ v4 = .string (sB t) ∧ Aside0 (∃ u : Nat, a = (u : Int) ∧ u ≤ U ∧ Lib.decDigits U = Lib.decDigits u ++ t) ∧ Aside0 (Below w.heap.size w wr)) (fun v3 _ _ => (intOf v3).toNat)
    case atStart => exact ⟨y, [], rfl, rfl, ⟨U, HY.out, Nat.le_refl _, by rw [List.append_nil]⟩, ⟨Below.refl _ _⟩⟩
    case round =>
      obtain ⟨a, t, rfl, rfl, DE, BR⟩ := hrel
      obtain ⟨u, hau, hu, he⟩ := DE.out
      have hlt : t.length ≤ 20 := by
        have h1 := congrArg List.length he
        rw [List.length_append] at h1
        have h2 := HUL.out
        omega
      by_cases hbig : 9 < a
      · obtain ⟨r, hr⟩ : ∃ r, r = a % 10 := ⟨_, rfl⟩
        obtain ⟨q, hq⟩ : ∃ q, q = a / 10 := ⟨_, rfl⟩
        obtain ⟨c, hc⟩ : ∃ c, c = 48 + r := ⟨_, rfl⟩
        have w5 : IntKind.u8.wrap r = r := by
          show r % 256 = _
          omega
        have w6 : IntKind.u8.wrap (48 + r) = c := by
          show (48 + r) % 256 = _
          omega
        have m1 := hr.symm
        have m2 : IntKind.u64.wrap (a.tdiv 10) = q := by
          have h3 := HUB.out
          rw [Int.tdiv_eq_ediv_of_nonneg (by omega)]
          show (a / 10) % 18446744073709551616 = _
          omega
        have NX : Aside0 ((∃ u : Nat, q = (u : Int) ∧ u ≤ U ∧ Lib.decDigits U = Lib.decDigits u ++ (UInt8.ofNat c.toNat :: t)) ∧ Below w.heap.size w (wr.alloc (.cells #[.int .u8 c] 5))) := ⟨⟨u / 10, by omega, by omega, by
          rw [he, dec_big (by omega)]
          have : c.toNat = 48 + u % 10 := by omega
          rw [this]
          simp⟩, BR.out.alloc BR.out.size _⟩
        have MS : Aside0 (q.toNat < a.toNat) := ⟨by omega⟩
        have hcat := cat_run [UInt8.ofNat c.toNat] t (by simp only [List.length_cons, List.length_nil]; omega)
        have hcv := Kd.C_string (P := Tryz.prog) (src := 55) (dst := 9) (e := 5) (c := 1) Tryz.underlying55 Tryz.underlying5 Tryz.underlying9 (C_one8 (heap_alloc_new wr (.cells #[.int .u8 c] 5)))
        rw [str_one] at hcv
        clear hr hq hc hau hu he hlt
        go_wp2_with fail
        exact ⟨⟨q, _, rfl, rfl, ⟨NX.out.1⟩, ⟨NX.out.2⟩⟩, MS.out⟩
      · obtain ⟨c, hc⟩ : ∃ c, c = 48 + a := ⟨_, rfl⟩
        have w5 : IntKind.u8.wrap a = a := by
          show a % 256 = _
          omega
        have w6 : IntKind.u8.wrap (48 + a) = c := by
          show (48 + a) % 256 = _
          omega
        have HD : Aside0 (Lib.decDigits U = UInt8.ofNat c.toNat :: t) := ⟨by
          rw [he, Lib.decDigits_one (by omega)]
          have : c.toNat = 48 + u := by omega
          rw [this]
          rfl⟩
        have HB : Aside0 (Below w.heap.size w (wr.alloc (.cells #[.int .u8 c] 5))) := ⟨BR.out.alloc BR.out.size _⟩
        have hcat := cat_run [UInt8.ofNat c.toNat] t (by simp only [List.length_cons, List.length_nil]; omega)
        have hcat2 : ∀ W : World, (Op.stringOp .add ⟨#[45]⟩ (sB (UInt8.ofNat c.toNat :: t))).run Tryz.prog W = .ok (.string (sB (45 :: UInt8.ofNat c.toNat :: t))) W := cat_run [45] (UInt8.ofNat c.toNat :: t) (by simp only [List.length_cons, List.length_nil]; omega)
        have hcv := Kd.C_string (P := Tryz.prog) (src := 55) (dst := 9) (e := 5) (c := 1) Tryz.underlying55 Tryz.underlying5 Tryz.underlying9 (C_one8 (heap_alloc_new wr (.cells #[.int .u8 c] 5)))
        rw [str_one] at hcv
        clear hc hau hu he hlt
        go_wp2_with fail
        go_ret
        exact ⟨by rw [HIT.out, HD.out]; rw [if_pos hneg]; rfl, HB.out⟩
  · obtain ⟨y, hy⟩ : ∃ y, y = x := ⟨_, rfl⟩
    have HY : Aside0 (y = (U : Int)) := ⟨by rw [hy]; exact hxn (by omega)⟩
    have g0 : 0 ≤ n := by omega
    subst hy
    clear hx hxn hU h0 h1 hUb
    go_wp2_with fail
    clear hxe g0
    go_loopw [3, 4] (fun v3 v4 wr => ∃ (a : Int) (t : List UInt8), v3 = .int .u64 a ∧ v4 = .string (sB t) ∧ Aside0 (∃ u : Nat, a = (u : Int) ∧ u ≤ U ∧ Lib.decDigits U = Lib.decDigits u ++ t) ∧ Aside0 (Below w.heap.size w wr)) (fun v3 _ _ => (intOf v3).toNat)
    case atStart => exact ⟨y, [], rfl, rfl, ⟨U, HY.out, Nat.le_refl _, by rw [List.append_nil]⟩, ⟨Below.refl _ _⟩⟩
    case round =>
      obtain ⟨a, t, rfl, rfl, DE, BR⟩ := hrel
      obtain ⟨u, hau, hu, he⟩ := DE.out
      have hlt : t.length ≤ 20 := by
        have h1 := congrArg List.length he
        rw [List.length_append] at h1
        have h2 := HUL.out
        omega
      by_cases hbig : 9 < a
      · obtain ⟨r, hr⟩ : ∃ r, r = a % 10 := ⟨_, rfl⟩
        obtain ⟨q, hq⟩ : ∃ q, q = a / 10 := ⟨_, rfl⟩
        obtain ⟨c, hc⟩ : ∃ c, c = 48 + r := ⟨_, rfl⟩
        have w5 : IntKind.u8.wrap r = r := by
          show r % 256 = _
          omega
        have w6 : IntKind.u8.wrap (48 + r) = c := by
          show (48 + r) % 256 = _
          omega
        have m1 := hr.symm
        have m2 : IntKind.u64.wrap (a.tdiv 10) = q := by
          have h3 := HUB.out
          rw [Int.tdiv_eq_ediv_of_nonneg (by omega)]
          show (a / 10) % 18446744073709551616 = _
          omega
        have NX : Aside0 ((∃ u : Nat, q = (u : Int) ∧ u ≤ U ∧ Lib.decDigits U = Lib.decDigits u ++ (UInt8.ofNat c.toNat :: t)) ∧ Below w.heap.size w (wr.alloc (.cells #[.int .u8 c] 5))) := ⟨⟨u / 10, by omega, by omega, by
          rw [he, dec_big (by omega)]
          have : c.toNat = 48 + u % 10 := by omega
          rw [this]
          simp⟩, BR.out.alloc BR.out.size _⟩
        have MS : Aside0 (q.toNat < a.toNat) := ⟨by omega⟩
        have hcat := cat_run [UInt8.ofNat c.toNat] t (by simp only [List.length_cons, List.length_nil]; omega)
        have hcv := Kd.C_string (P := Tryz.prog) (src := 55) (dst := 9) (e := 5) (c := 1) Tryz.underlying55 Tryz.underlying5 Tryz.underlying9 (C_one8 (heap_alloc_new wr (.cells #[.int .u8 c] 5)))
        rw [str_one] at hcv
        clear hr hq hc hau hu he hlt
        go_wp2_with fail
        exact ⟨⟨q, _, rfl, rfl, ⟨NX.out.1⟩, ⟨NX.out.2⟩⟩, MS.out⟩
      · obtain ⟨c, hc⟩ : ∃ c, c = 48 + a := ⟨_, rfl⟩
        have w5 : IntKind.u8.wrap a = a := by
          show a % 256 = _
          omega
        have w6 : IntKind.u8.wrap (48 + a) = c := by
          show (48 + a) % 256 = _
          omega
        have HD : Aside0 (Lib.decDigits U = UInt8.ofNat c.toNat :: t) := ⟨by
          rw [he, Lib.decDigits_one (by omega)]
          have : c.toNat = 48 + u := by omega
          rw [this]
          rfl⟩
        have HB : Aside0 (Below w.heap.size w (wr.alloc (.cells #[.int .u8 c] 5))) := ⟨BR.out.alloc BR.out.size _⟩
        have hcat := cat_run [UInt8.ofNat c.toNat] t (by simp only [List.length_cons, List.length_nil]; omega)
        have gn : ¬ n < 0 := by omega
        have hcv := Kd.C_string (P := Tryz.prog) (src := 55) (dst := 9) (e := 5) (c := 1) Tryz.underlying55 Tryz.underlying5 Tryz.underlying9 (C_one8 (heap_alloc_new wr (.cells #[.int .u8 c] 5)))
        rw [str_one] at hcv
        clear hc hau hu he hlt
        go_wp2_with fail
        go_ret
        exact ⟨by rw [HIT.out, HD.out]; rw [if_neg (by omega)]; rfl, HB.out⟩
end Go.Proofs.YtofomlpdklhigaaGreatDoor.Hand
