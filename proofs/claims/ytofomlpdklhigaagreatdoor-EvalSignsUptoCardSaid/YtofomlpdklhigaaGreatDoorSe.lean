/- What is laid of the library's; decimals, numbers of decimals, an answer's signs by the program: walked. -/
import Derived.Lib.AppendIntMem
import Derived.Lib.SmallJoins
import Derived.Lib.AtoiErrMem
import Derived.Test.YtofomlpdklhigaaGreatDoorSd
namespace Go.Proofs.YtofomlpdklhigaaGreatDoor.Hand
open Go.RowKit Go.Proofs.YtofomlpdklhigaaGreatDoorW.PrintWords Go.Proofs.YtofomlpdklhigaaGreatDoorW.PrintLast Go.Proofs.YtofomlpdklhigaaGreatDoorW.PrintMore
set_option linter.unusedVariables false
set_option linter.unusedSimpArgs false
/-- A table and two errors of the library's read as they were laid, whatever is done to blocks from B on. -/
def Ld (B : Nat) (w : World) : Prop := B ≤ w.heap.size ∧ ∀ w', Below B w w' → Lib.TabIs Tryz.prog w' "internal/strconv.uint64pow10" .u64 Lib.pow10Tab ∧ (∃ tp p, w'.var? Tryz.prog "strconv.ErrSyntax" = some #[.iface tp p]) ∧ ∃ tp p, w'.var? Tryz.prog "strconv.ErrRange" = some #[.iface tp p]
theorem Ld.to {B : Nat} {w W : World} (h : Ld B w) (hb : Below w.heap.size w W) : Ld B W := ⟨Nat.le_trans h.1 hb.size, fun w' h' => h.2 w' ((hb.mono h.1).trans h')⟩
theorem itoa_any (n : Int) (h0 : -9223372036854775808 ≤ n) (h1 : n ≤ 9223372036854775807) {B : Nat} (w : World) (h : Ld B w) : Calls Tryz.prog 28 #[.int .i64 n] w fun e w' => e = .returned (.string (sB (Lib.itoa n))) ∧ Below w.heap.size w w' :=
  (Tryz.strconv_Itoa n h0 h1 w (h.2 w (Below.refl _ _)).1).mono fun e w' ⟨he, k, os, hw⟩ => ⟨he, by rw [hw]; exact Lib.below_grow _ w (Nat.le_refl _) k os⟩
theorem atoi_any (l : List UInt8) (hl : l.length ≤ 281474976710656) {B : Nat} (w : World) (h : Ld B w) :
    Calls Tryz.prog 23 #[.string (sB l)] w fun e w' => ∃ z er, e = .returned (.tuple #[.int .i64 z, er]) ∧ ((atoO l = some z ∧ er = .nilIface) ∨ (atoO l = none ∧ ∃ N, er = .iface 150 (.pointer (some ⟨N, 0, none⟩)))) ∧ Below w.heap.size w w' := by
  obtain ⟨_, ⟨tp, p, hs⟩, tq, q, hr⟩ := h.2 w (Below.refl _ _)
  cases ha : Lib.atoiAll l
  · rename_i v
    refine (Tryz.strconv_Atoi_ok (sB l) (by rw [sB_size]; omega) v (by rw [sB_list]; exact ha) w).mono ?_
    rintro e w' ⟨he, hw⟩
    refine ⟨v, _, he, .inl ⟨by unfold atoO; rw [ha], rfl⟩, ?_⟩
    rcases hw with rfl | ⟨t, rfl⟩
    · exact Below.refl _ _
    · exact Lib.bytesWorld_below w 5 t
  · refine (Any.strconv_Atoi_syntax_var Tryz.laysC172 (sB l) (by rw [sB_size]; exact hl) (by rw [sB_list]; exact ha) tp p w hs).mono ?_
    rintro e w' ⟨N, he, _, _, hb⟩
    exact ⟨0, _, he, .inr ⟨by unfold atoO; rw [ha], N, rfl⟩, hb⟩
  · refine (Tryz.strconv_Atoi_range_var (sB l) (by rw [sB_size]; exact hl) (by rw [sB_list]; exact ha) tq q w hr).mono ?_
    rintro e w' ⟨N, he, _, _, hb⟩
    exact ⟨_, _, he, .inr ⟨by unfold atoO; rw [ha], N, rfl⟩, hb⟩
theorem R_some {α : Type} {d : Kd α} {w : World} {e base n c : Nat} {ok : Nat → Prop} {A : Option Addr} {l : List α} (h : d.R e w base ok (.slice A n c) l) (h0 : 0 < n) : ∃ g, A = some ⟨g, 0, none⟩ ∧ base ≤ g ∧ g < w.heap.size := by
  have hl := (Kd.R_reads' h).1
  have ht := Kd.R_lt h
  obtain ⟨inner, ho⟩ := Kd.R_own h
  rcases ho.2 with ⟨e, _⟩ | ⟨g, cap, cur, e, hb, _⟩
  · cases e
    omega
  · cases e
    exact ⟨g, rfl, hb, ht g rfl⟩
theorem infoR9 : (Tryz.prog.info? 9).map (fun i => (i.zero, i.size, i.bytes)) = some (some (.string ⟨#[]⟩), 1, 16) := by kernel_rfl
def itS (ns : List Int) : List ByteArray := ns.map fun n => sB (Lib.itoa n)
theorem itS_snoc (ns : List Int) (n : Int) : itS (ns ++ [n]) = itS ns ++ [sB (Lib.itoa n)] := by simp [itS]
theorem itS_data (ns : List Int) : (itS ns).map (·.data.toList) = ns.map Lib.itoa := by
  unfold itS
  rw [List.map_map]
  refine List.map_congr_left fun n _ => ?_
  show (sB (Lib.itoa n)).data.toList = _
  rw [sB_list]
set_option maxHeartbeats 1000000 in
theorem text_any (w : World) (A : Option Addr) (m c : Nat) (ns : List Int) (hC : (Kd.int .i64).C w A m ns) (hm : m ≤ 4194304) (hb : ∀ n ∈ ns, -9223372036854775808 ≤ n ∧ n ≤ 9223372036854775807) {B : Nat} (hLd : Ld B w) :
    Calls Tryz.prog 11 #[.slice A m c] w fun e w' => e = .returned (.string (sB (textP ns))) ∧ Below w.heap.size w w' := by
  have hlen : m = ns.length := hC.1.symm
  have HC := Aside0.mk hC
  have HB := Aside0.mk hb
  have HL := Aside0.mk hlen
  have HD := Aside0.mk hLd
  clear hC hb hlen hLd
  go_enter Tryz.func11, Tryz.ntmps11
  by_cases h0 : m = 0
  · subst h0
    go_wp2_with fail
    go_ret
    obtain rfl : ns = [] := List.length_eq_zero_iff.1 HL.out.symm
    exact ⟨rfl, Below.refl _ _⟩
  · have g0 : ((m : Int) == 0) = false := by
      have : ¬ (m : Int) = 0 := by omega
      simpa using this
    have hp : 0 < m := by omega
    have K0 : Aside0 (Kd.string.R 9 w w.heap.size (fun _ => True) (.slice none 0 0) (itS (ns.take 0)) ∧ Below w.heap.size w w) := ⟨Kd.R_nil _ _ _ _ _, Below.refl _ _⟩
    clear h0
    go_wp2_with fail
    go_loopw [3, 11] (fun v3 v11 wr => ∃ (i n' c' : Nat) (A' : Option Addr), i ≤ m ∧ v11 = .int .i64 (i : Int) ∧ v3 = .slice A' n' c' ∧ Aside0 (Kd.string.R 9 wr w.heap.size (fun _ => True) (.slice A' n' c') (itS (ns.take i)) ∧ Below w.heap.size w wr)) (fun _ v11 _ => m - (intOf v11).toNat)
    case atStart => exact ⟨0, 0, 0, none, Nat.zero_le _, rfl, rfl, K0⟩
    case round =>
      clear K0
      obtain ⟨i, n', c', A', hi, rfl, rfl, KR⟩ := hrel
      by_cases hlt : i < m
      · have hil : i < ns.length := by rw [← HL.out]; exact hlt
        obtain ⟨ad, hA, c0⟩ := at_Int HC.out i hlt
        have c1 := pw_cell_below KR.out.2 c0
        obtain ⟨k, hk⟩ : ∃ k, k = ns.getD i 0 := ⟨_, rfl⟩
        rw [← hk] at c1
        have hkb : -9223372036854775808 ≤ k ∧ k ≤ 9223372036854775807 := by
          rw [hk]
          refine HB.out _ ?_
          rw [List.getD_eq_getElem?_getD, List.getElem?_eq_getElem hil]
          exact List.getElem_mem hil
        have IT := Aside0.mk (itoa_any k hkb.1 hkb.2 wr (HD.out.to KR.out.2))
        have TK : Aside0 (itS (ns.take (i + 1)) = itS (ns.take i) ++ [sB (Lib.itoa k)]) := ⟨by rw [hk, take_succ_snoc hil, itS_snoc]⟩
        have HLN : Aside0 (((itS (ns.take i)).length + 1) * 16 ≤ 140737488355328) := ⟨by
          unfold itS
          rw [List.length_map, List.length_take]
          omega⟩
        subst hA
        clear hk hkb c0
        go_wp2_with fail
        refine IT.out.mono ?_
        rintro _ W2 ⟨rfl, hb2⟩
        have B2 : Aside0 (Below w.heap.size w W2) := ⟨KR.out.2.trans (hb2.mono KR.out.2.size)⟩
        have R2 : Aside0 (Kd.string.R 9 W2 w.heap.size (fun _ => True) (.slice A' n' c') (itS (ns.take i))) := ⟨Kd.R_below KR.out.1 hb2⟩
        clear hb2 IT c1 KR
        go_wp2_with (at_builtin; refine Kd.R_append Kd.string (w0 := w) w.heap.size rfl _ _ 58 9 (.string ⟨#[]⟩) 16 rfl Tryz.underlying58 infoR9 rfl (by decide) (by decide) (.slice A' n' c') (itS (ns.take i)) (sB (Lib.itoa k)) [.string (sB (Lib.itoa k))] (fun _ => True) (fun _ => False) rfl rfl rfl (fun _ h => h.elim) (fun _ _ => trivial) R2.out B2.out B2.out.size HLN.out ?_; intro v8 w8 ho8 hb8 _ _; have O8 := Aside0.mk ho8; have B8 := Aside0.mk hb8; obtain ⟨A8, n8, c8, rfl, HN8⟩ := R_open ho8; clear ho8 hb8)
        exact ⟨⟨i + 1, n8, c8, A8, by omega, by go_num, rfl, ⟨by rw [TK.out]; exact O8.out, B8.out⟩⟩, by simp [intOf]; omega⟩
      · obtain rfl : i = m := by omega
        have hN : n' = i := by
          have := (Kd.R_reads' KR.out.1).1
          have hl := HL.out
          unfold itS at this
          rw [List.length_map, List.length_take] at this
          omega
        subst hN
        obtain ⟨gb, rfl, _, hgb⟩ := R_some KR.out.1 hp
        have hcl : ∀ (j : Nat) x, (itS ns)[j]? = some x → wr.cell? ⟨gb, 0 + j, none⟩ = some (.string x) := by
          intro j x hj
          have hjl : j < (itS ns).length := (List.getElem?_eq_some_iff.1 hj).1
          have hall : ns.take n' = ns := by rw [HL.out, List.take_length]
          have hR := KR.out.1
          rw [hall] at hR
          have hjn : j < n' := by
            have hl := HL.out
            unfold itS at hjl
            rw [List.length_map] at hjl
            omega
          obtain ⟨d0, _⟩ := Kd.R_celln (enc := Value.string) (h1 := fun _ => rfl) (⟨#[]⟩ : ByteArray) hR (j : Int) (by omega) (by omega)
          rw [Nat.zero_add]
          unfold rdOf at d0
          rw [Int.toNat_natCast, List.getD_eq_getElem?_getD, hj] at d0
          exact d0
        have hcap := (Kd.R_reads' KR.out.1).2.1
        have hall2 : (itS ns).length = n' := by unfold itS; rw [List.length_map]; exact HL.out.symm
        have JN : Aside0 (Calls Tryz.prog 29 #[.slice (some ⟨gb, 0, none⟩) n' c', .string ⟨#[32]⟩] wr fun e w' => e = .returned (.string (sB (textP ns))) ∧ Below wr.heap.size wr w') := ⟨by
          have hh : (Lib.join ((itS ns).map (·.data.toList)) [32]).length ≤ 140737488355328 := by
            rw [itS_data]
            refine Nat.le_trans (wrd_len ns HB.out) ?_
            rw [← HL.out]
            omega
          have hj := Tryz.strings_Join gb 0 c' (itS ns) ⟨#[32]⟩ wr hcl hgb (by rw [hall2]; omega) (by rw [hall2]; exact hcap) hh
          rw [hall2] at hj
          refine hj.mono ?_
          rintro e w' ⟨rfl, hb⟩
          refine ⟨?_, hb⟩
          have : Lib.join ((itS ns).map (·.data.toList)) [32] = textP ns := by
            rw [itS_data]
            unfold textP
            rw [if_neg (by rintro rfl; have := HL.out; simp at this; omega)]
          show Ending.returned (.string ⟨(Lib.join ((itS ns).map (·.data.toList)) [32]).toArray⟩) = _
          rw [this]
          rfl⟩
        have BW := Aside0.mk KR.out.2
        clear hcl hcap hall2 KR hgb
        go_wp2_with fail
        refine JN.out.mono ?_
        rintro _ W2 ⟨rfl, hb2⟩
        have B2 : Aside0 (Below w.heap.size w W2) := ⟨BW.out.trans (hb2.mono BW.out.size)⟩
        clear hb2
        go_wp2_with fail
        go_ret
        exact ⟨rfl, B2.out⟩
end Go.Proofs.YtofomlpdklhigaaGreatDoor.Hand
