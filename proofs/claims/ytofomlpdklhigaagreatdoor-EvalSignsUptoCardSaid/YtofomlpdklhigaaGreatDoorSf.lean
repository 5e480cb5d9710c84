/- The answer of signs, by the document: walked. -/
import Derived.Test.YtofomlpdklhigaaGreatDoorSd
namespace Go.Proofs.YtofomlpdklhigaaGreatDoor.Hand
open Go.RowKit Go.Proofs.YtofomlpdklhigaaGreatDoorW.PrintWords Go.Proofs.YtofomlpdklhigaaGreatDoorW.PrintLast Go.Proofs.YtofomlpdklhigaaGreatDoorW.PrintMore
set_option linter.unusedVariables false
set_option linter.unusedSimpArgs false
theorem allW_app (f : List UInt8 → Option Int) : ∀ (a b : List (List UInt8)), allW f (a ++ b) = match allW f a with
    | none => none
    | some ns => match allW f b with
      | none => none
      | some ms => some (ns ++ ms)
  | [], b => by
    simp only [List.nil_append, allW]
    cases allW f b <;> rfl
  | x :: a, b => by
    rw [List.cons_append, allW, allW, allW_app f a b]
    cases f x with
    | none => rfl
    | some n =>
      cases allW f a with
      | none => rfl
      | some ns =>
        cases allW f b <;> rfl
theorem sB_eqL (a b : List UInt8) : ((sB a).toList == b) = decide (a = b) := by
  have h := sB_eq a b
  have e : (sB b).toList = b := by rw [Lib.toList_data, sB_list]
  rw [e] at h
  exact h
theorem sB_mid (l : List UInt8) (a b : Nat) : (sB l).extract a b = sB ((l.drop a).take (b - a)) := by
  apply ByteArray.ext
  simp only [sB, ByteArray.data_extract, List.extract_toArray, List.extract_eq_take_drop]
theorem infoR3 : (Tryz.prog.info? 3).map (fun i => (i.zero, i.size, i.bytes)) = some (some (.int .i64 0), 1, 8) := by kernel_rfl
theorem R_open2 {α : Type} {d : Kd α} {e base : Nat} {w : World} {ok : Nat → Prop} {v : Value} {xs : List α} (h : d.R e w base ok v xs) : ∃ A c, v = .slice A xs.length c := by
  obtain ⟨A, c, rfl⟩ := Kd.R_slice h
  exact ⟨A, c, rfl⟩
/-- How far the words are read: words that are done, and the one in hand. -/
def WrdR (l : List UInt8) (fr i : Nat) (ns : List Int) : Prop := ∃ done, allW canW done = some ns ∧ ((i ≤ l.length ∧ fr ≤ i ∧ spl l = done ++ spl (l.drop fr) ∧ 32 ∉ (l.drop fr).take (i - fr)) ∨ (i = l.length + 1 ∧ spl l = done))
theorem wrd_start (l : List UInt8) : WrdR l 0 0 [] := ⟨[], rfl, .inl ⟨Nat.zero_le _, Nat.le_refl _, rfl, by simp⟩⟩
theorem take_at {l : List UInt8} {fr i : Nat} {c : UInt8} (hf : fr ≤ i) (hc : l[i]? = some c) : (l.drop fr).take (i + 1 - fr) = (l.drop fr).take (i - fr) ++ [c] := by
  have e : i + 1 - fr = (i - fr) + 1 := by omega
  rw [e, List.take_add_one, List.getElem?_drop]
  have e2 : fr + (i - fr) = i := by omega
  rw [e2, hc]
  rfl
theorem wrd_on {l : List UInt8} {fr i : Nat} {ns : List Int} {c : UInt8} (h : WrdR l fr i ns) (hc : l[i]? = some c) (hn : c ≠ 32) : WrdR l fr (i + 1) ns := by
  have hil := (List.getElem?_eq_some_iff.1 hc).1
  obtain ⟨done, hd, ⟨h1, h2, h3, h4⟩ | ⟨h1, _⟩⟩ := h
  · refine ⟨done, hd, .inl ⟨by omega, by omega, h3, ?_⟩⟩
    rw [take_at h2 hc]
    intro hm
    rcases List.mem_append.1 hm with hm | hm
    · exact h4 hm
    · exact hn (List.mem_singleton.1 hm).symm
  · omega
theorem drop_split {l : List UInt8} {fr i : Nat} {c : UInt8} (hf : fr ≤ i) (hc : l[i]? = some c) : l.drop fr = (l.drop fr).take (i - fr) ++ c :: l.drop (i + 1) := by
  obtain ⟨h1, h2⟩ := List.getElem?_eq_some_iff.1 hc
  have e : (l.drop fr).drop (i - fr) = l.drop i := by
    rw [List.drop_drop]
    congr 1
    omega
  have e2 : l.drop i = c :: l.drop (i + 1) := by rw [List.drop_eq_getElem_cons h1, h2]
  rw [← e2, ← e, List.take_append_drop]
/-- A word ends: at a blank, or with the text. -/
theorem wrd_word {l : List UInt8} {fr i : Nat} {ns : List Int} (h : WrdR l fr i ns) (hi : i ≤ l.length) (hc : i = l.length ∨ l[i]? = some 32) :
    fr ≤ i ∧ (canW ((l.drop fr).take (i - fr)) = none → allW canW (spl l) = none) ∧ ∀ n, canW ((l.drop fr).take (i - fr)) = some n → WrdR l (i + 1) (i + 1) (ns ++ [n]) := by
  obtain ⟨done, hd, ⟨h1, h2, h3, h4⟩ | ⟨h1, _⟩⟩ := h
  · refine ⟨h2, ?_⟩
    have key : ∃ t, spl (l.drop fr) = (l.drop fr).take (i - fr) :: t ∧ ((i = l.length ∧ t = []) ∨ (i < l.length ∧ t = spl (l.drop (i + 1)))) := by
      rcases hc with rfl | hc
      · have e : (l.drop fr).take (l.length - fr) = l.drop fr := List.take_of_length_le (by rw [List.length_drop]; omega)
        rw [e] at h4 ⊢
        exact ⟨[], spl_word _ h4, .inl ⟨rfl, rfl⟩⟩
      · have hil := (List.getElem?_eq_some_iff.1 hc).1
        refine ⟨spl (l.drop (i + 1)), ?_, .inr ⟨hil, rfl⟩⟩
        conv => lhs; rw [drop_split h2 hc]
        exact spl_step _ _ h4
    obtain ⟨t, k1, k2⟩ := key
    refine ⟨fun hn => ?_, fun n hn => ?_⟩
    · rw [h3, k1, allW_app, hd, allW, hn]
    · refine ⟨done ++ [(l.drop fr).take (i - fr)], ?_, ?_⟩
      · rw [allW_app, hd, allW, hn]
        rfl
      · rcases k2 with ⟨e1, e2⟩ | ⟨e1, e2⟩
        · right
          refine ⟨by omega, ?_⟩
          rw [h3, k1, e2]
        · left
          refine ⟨by omega, Nat.le_refl _, ?_, by simp⟩
          rw [h3, k1, e2]
          simp
  · omega
theorem wrd_end {l : List UInt8} {fr i : Nat} {ns : List Int} (h : WrdR l fr i ns) (hi : l.length < i) : allW canW (spl l) = some ns := by
  obtain ⟨done, hd, ⟨h1, _⟩ | ⟨_, h2⟩⟩ := h
  · omega
  · rw [h2]; exact hd
theorem wrd_in {l : List UInt8} {fr i : Nat} {ns : List Int} (h : WrdR l fr i ns) : i ≤ l.length + 1 := by
  obtain ⟨done, hd, ⟨h1, _⟩ | ⟨h1, _⟩⟩ := h <;> omega
theorem allW_count (l : List UInt8) {fr i : Nat} {ns : List Int} (h : WrdR l fr i ns) : ns.length ≤ (spl l).length := by
  obtain ⟨done, hd, ⟨_, _, h3, _⟩ | ⟨_, h3⟩⟩ := h
  · rw [allW_len _ _ _ hd, h3, List.length_append]; omega
  · rw [allW_len _ _ _ hd, h3]; exact Nat.le_refl _
theorem spl_cnt : ∀ (l : List UInt8), (spl l).length ≤ l.length + 1
  | [] => by simp [spl]
  | c :: r => by
    have ih := spl_cnt r
    unfold spl
    split
    · rw [List.length_cons, List.length_cons]; omega
    · split
      · simp
      · rename_i v vs hv
        rw [hv] at ih
        rw [List.length_cons] at ih ⊢
        rw [List.length_cons]
        omega
set_option maxHeartbeats 2000000 in
theorem parse12_any (w : World) (l : List UInt8) (hl : l.length ≤ 1048576) :
    Calls Tryz.prog 9 #[.string (sB l)] w fun e w' => ∃ A c, e = .returned (.tuple #[.slice A (refP l).1.length c, .int .i64 (refP l).2]) ∧ Aside0 ((Kd.int .i64).C w' A (refP l).1.length (refP l).1 ∧ Below w.heap.size w w') := by
  have hsz := sB_size l
  have hcmp : ((sB l).toList == [45]) = decide (l = [45]) := sB_eqL l [45]
  go_enter Tryz.func9, Tryz.ntmps9
  by_cases h45 : l = [45]
  · have HP : Aside0 (refP l = ([], 0)) := ⟨by unfold refP; rw [if_pos h45]⟩
    have hcmp2 : decide (l = [45]) = true := by simpa using h45
    rw [hcmp2] at hcmp
    clear hcmp2 h45
    go_wp2_with fail
    go_ret2
    refine ⟨none, 0, ?_, ?_⟩
    · rw [HP.out]; rfl
    · rw [HP.out]; exact ⟨Kd.C_nil _ _, Below.refl _ _⟩
  · have HP : Aside0 ((allW canW (spl l) = none → refP l = ([], 4)) ∧ ∀ ns, allW canW (spl l) = some ns → refP l = (ns, 0)) := ⟨by
      unfold refP
      rw [if_neg h45]
      exact ⟨fun h => by rw [h], fun ns h => by rw [h]⟩⟩
    have hcmp2 : decide (l = [45]) = false := by simpa using h45
    rw [hcmp2] at hcmp
    clear hcmp2 h45
    obtain ⟨L, hL⟩ : ∃ L, L = l.length := ⟨_, rfl⟩
    have HL := Aside0.mk hL
    rw [← hL] at hsz hl
    clear hL
    have K0 : Aside0 ((Kd.int .i64).R 3 w w.heap.size (fun _ => True) (.slice none 0 0) [] ∧ Below w.heap.size w w ∧ WrdR l 0 0 []) := ⟨Kd.R_nil _ _ _ _ _, Below.refl _ _, wrd_start l⟩
    go_wp2_with fail
    go_loopw [4, 5, 6] (fun v4 v5 v6 wr => ∃ (fr i n' c' : Nat) (A' : Option Addr) (ns : List Int), i ≤ L + 1 ∧ v5 = .int .i64 (fr : Int) ∧ v6 = .int .i64 (i : Int) ∧ v4 = .slice A' n' c' ∧ Aside0 ((Kd.int .i64).R 3 wr w.heap.size (fun _ => True) (.slice A' n' c') ns ∧ Below w.heap.size w wr ∧ WrdR l fr i ns)) (fun _ _ v6 _ => L + 1 - (intOf v6).toNat)
    case atStart => exact ⟨0, 0, 0, 0, none, [], Nat.zero_le _, rfl, rfl, rfl, K0⟩
    case round =>
      clear K0 hcmp
      obtain ⟨fr, i, n', c', A', ns, hi, rfl, rfl, rfl, KR⟩ := hrel
      have wi : wrap64 ((i : Int) + 1) = ((i + 1 : Nat) : Int) := by unfold wrap64; omega
      by_cases hle : i ≤ L
      · by_cases hgo : ∃ c, l[i]? = some c ∧ c ≠ 32
        · obtain ⟨c, hc, hc32⟩ := hgo
          have hil : i < L := by rw [HL.out]; exact (List.getElem?_eq_some_iff.1 hc).1
          have hg := sB_get l i c hc
          have g1 : (((c.toNat : Nat) : Int) != 32) = true := by
            have : ¬ ((c.toNat : Nat) : Int) = 32 := fun e => hc32 (by apply UInt8.toNat.inj; show c.toNat = 32; omega)
            simpa using this
          have NX : Aside0 ((Kd.int .i64).R 3 wr w.heap.size (fun _ => True) (.slice A' n' c') ns ∧ Below w.heap.size w wr ∧ WrdR l fr (i + 1) ns) := ⟨KR.out.1, KR.out.2.1, wrd_on KR.out.2.2 hc hc32⟩
          clear hc hc32 KR
          go_wp2_with fail
          exact ⟨⟨fr, i + 1, n', c', A', ns, by omega, rfl, by go_num, rfl, NX⟩, by simp [intOf]; omega⟩
        · have hend : i = l.length ∨ l[i]? = some 32 := by
            by_cases h : i = l.length
            · exact .inl h
            · right
              have hlt : i < l.length := by have := HL.out; omega
              by_cases h32 : l[i]'hlt = 32
              · rw [List.getElem?_eq_getElem hlt, h32]
              · exact absurd ⟨_, List.getElem?_eq_getElem hlt, h32⟩ hgo
          obtain ⟨hfi, hbad, hgood⟩ := wrd_word KR.out.2.2 (by rw [← HL.out]; exact hle) hend
          obtain ⟨wd, hwd⟩ : ∃ wd, wd = (l.drop fr).take (i - fr) := ⟨_, rfl⟩
          rw [← hwd] at hbad hgood
          have hmid := sB_mid l fr i
          rw [← hwd] at hmid
          have hwl : wd.length ≤ 281474976710656 := by
            rw [hwd, List.length_take, List.length_drop]
            have := HL.out
            omega
          have NM := Aside0.mk (fun W => num_any wd hwl W)
          have HBAD := Aside0.mk hbad
          have HGOOD := Aside0.mk hgood
          have HLN : Aside0 ((ns.length + 1) * 8 ≤ 140737488355328) := ⟨by
            have h1 := allW_count l KR.out.2.2
            have h2 := spl_cnt l
            have h3 := HL.out
            omega⟩
          have gfi : (fr : Int) ≤ (i : Int) := by omega
          have giL : (i : Int) ≤ (L : Int) := by omega
          clear hbad hgood hwd hwl hgo
          obtain ⟨zn, hzn⟩ : ∃ z, z = (numS wd).1 := ⟨_, rfl⟩
          obtain ⟨zb, hzb⟩ : ∃ z, z = (numS wd).2 := ⟨_, rfl⟩
          have CW : Aside0 (canW wd = if zb = true ∧ 0 ≤ zn then some zn else none) := ⟨by unfold canW; rw [hzn, hzb]⟩
          rw [← hzn, ← hzb] at NM
          clear hzn hzb
          by_cases hiL : i = L
          · subst hiL
            clear hend hle hi giL
            go_wp2_with fail
            refine (NM.out wr).mono ?_
            rintro _ W2 ⟨rfl, hb2⟩
            have B2 : Aside0 (Below w.heap.size w W2) := ⟨KR.out.2.1.trans (hb2.mono KR.out.2.1.size)⟩
            have R2 : Aside0 ((Kd.int .i64).R 3 W2 w.heap.size (fun _ => True) (.slice A' n' c') ns) := ⟨Kd.R_below KR.out.1 hb2⟩
            clear hb2 NM KR hmid
            cases zb with
            | false =>
              have BD := Aside0.mk (HP.out.1 (HBAD.out (by rw [CW.out]; simp)))
              go_wp2_with fail
              go_ret2
              exact ⟨none, 0, by rw [BD.out]; rfl, by rw [BD.out]; exact ⟨Kd.C_nil _ _, B2.out⟩⟩
            | true =>
              by_cases hneg : zn < 0
              · have BD := Aside0.mk (HP.out.1 (HBAD.out (by rw [CW.out, if_neg (by omega)])))
                go_wp2_with fail
                go_ret2
                exact ⟨none, 0, by rw [BD.out]; rfl, by rw [BD.out]; exact ⟨Kd.C_nil _ _, B2.out⟩⟩
              · have GD := Aside0.mk (HGOOD.out zn (by rw [CW.out, if_pos ⟨rfl, by omega⟩]))
                go_wp2_with (at_builtin; refine Kd.R_append (Kd.int .i64) (w0 := w) w.heap.size rfl _ _ 22 3 (.int .i64 0) 8 rfl Tryz.underlying22 infoR3 rfl (by decide) (by decide) (.slice A' n' c') ns zn [.int .i64 zn] (fun _ => True) (fun _ => False) rfl rfl rfl (fun _ h => h.elim) (fun _ _ => trivial) R2.out B2.out B2.out.size HLN.out ?_; intro v8 w8 ho8 hb8 _ _; have O8 := Aside0.mk ho8; have B8 := Aside0.mk hb8; obtain ⟨A8, n8, c8, rfl, HN8⟩ := R_open ho8; clear ho8 hb8)
                exact ⟨⟨i + 1, i + 1, n8, c8, A8, ns ++ [zn], by omega, by go_num, by go_num, rfl, ⟨O8.out, B8.out, GD.out⟩⟩, by first | (simp [intOf]; omega) | simp [intOf]⟩
          · have hil : i < L := by omega
            have hc : l[i]? = some 32 := by
              rcases hend with h | h
              · have := HL.out; omega
              · exact h
            have hg := sB_get l i 32 hc
            have g2 : (i : Int) < (L : Int) := by omega
            clear hend hc
            go_wp2_with fail
            refine (NM.out wr).mono ?_
            rintro _ W2 ⟨rfl, hb2⟩
            have B2 : Aside0 (Below w.heap.size w W2) := ⟨KR.out.2.1.trans (hb2.mono KR.out.2.1.size)⟩
            have R2 : Aside0 ((Kd.int .i64).R 3 W2 w.heap.size (fun _ => True) (.slice A' n' c') ns) := ⟨Kd.R_below KR.out.1 hb2⟩
            clear hb2 NM KR hmid
            cases zb with
            | false =>
              have BD := Aside0.mk (HP.out.1 (HBAD.out (by rw [CW.out]; simp)))
              go_wp2_with fail
              go_ret2
              exact ⟨none, 0, by rw [BD.out]; rfl, by rw [BD.out]; exact ⟨Kd.C_nil _ _, B2.out⟩⟩
            | true =>
              by_cases hneg : zn < 0
              · have BD := Aside0.mk (HP.out.1 (HBAD.out (by rw [CW.out, if_neg (by omega)])))
                go_wp2_with fail
                go_ret2
                exact ⟨none, 0, by rw [BD.out]; rfl, by rw [BD.out]; exact ⟨Kd.C_nil _ _, B2.out⟩⟩
              · have GD := Aside0.mk (HGOOD.out zn (by rw [CW.out, if_pos ⟨rfl, by omega⟩]))
                go_wp2_with (at_builtin; refine Kd.R_append (Kd.int .i64) (w0 := w) w.heap.size rfl _ _ 22 3 (.int .i64 0) 8 rfl Tryz.underlying22 infoR3 rfl (by decide) (by decide) (.slice A' n' c') ns zn [.int .i64 zn] (fun _ => True) (fun _ => False) rfl rfl rfl (fun _ h => h.elim) (fun _ _ => trivial) R2.out B2.out B2.out.size HLN.out ?_; intro v8 w8 ho8 hb8 _ _; have O8 := Aside0.mk ho8; have B8 := Aside0.mk hb8; obtain ⟨A8, n8, c8, rfl, HN8⟩ := R_open ho8; clear ho8 hb8)
                exact ⟨⟨i + 1, i + 1, n8, c8, A8, ns ++ [zn], by omega, by go_num, by go_num, rfl, ⟨O8.out, B8.out, GD.out⟩⟩, by first | (simp [intOf]; omega) | simp [intOf]⟩
      · have hei : L < i := by omega
        have FIN := Aside0.mk (HP.out.2 ns (wrd_end KR.out.2.2 (by rw [← HL.out]; exact hei)))
        have hN : n' = ns.length := by
          have := (Kd.R_reads' KR.out.1).1
          omega
        subst hN
        go_wp2_with fail
        go_ret2
        refine ⟨A', c', ?_, ?_⟩
        · rw [FIN.out]; rfl
        · rw [FIN.out]
          exact ⟨(R_C KR.out.1).1, KR.out.2.1⟩
end Go.Proofs.YtofomlpdklhigaaGreatDoor.Hand
