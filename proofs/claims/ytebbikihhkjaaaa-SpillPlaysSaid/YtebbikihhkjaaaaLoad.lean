/- Load. -/
import Derived.Test.YtebbikihhkjaaaaRdb
import Derived.Test.YtebbikihhkjaaaaBack
namespace Go.Proofs.Ytebbikihhkjaaaa.Hand
open Go.RowKit Go.Proofs.YtebbikihhkjaaaaW.PrintWords Go.Proofs.YtebbikihhkjaaaaW.PrintMore Go.Proofs.Ytebbikihhkjaaaa.PSpillBytes
theorem str_ne {a b : ByteArray} (h : ¬ a = b) : (a.toList == b.toList) = false := by
  rw [beq_eq_false_iff_ne]
  intro e
  refine h (ByteArray.ext (Array.ext' ?_))
  rw [← ByteArray.toList_eq, ← ByteArray.toList_eq]
  exact e
def segsOf (ns : List Nt) : List (List Nt) := ns.foldl putG []
theorem segsOf_snoc (ns : List Nt) (n : Nt) : segsOf (ns ++ [n]) = putG (segsOf ns) n := by simp [segsOf]
theorem segsOf_nil : segsOf [] = [] := rfl
/-- One segment of the bytes: its notes, and what is left. -/
def ldSeg (l : List Int) : Option (List Nt × List Int) :=
  match dv 0 0 l with
  | none => none
  | some (n, r) => if n ≤ r.length then (match dAll (r.take n) with | some (x :: xs) => some (x :: xs, r.drop n) | _ => none) else none
theorem ldSeg_len {l r : List Int} {g : List Nt} (h : ldSeg l = some (g, r)) : r.length < l.length := by
  unfold ldSeg at h
  cases e : dv 0 0 l with
  | none => rw [e] at h; cases h
  | some y =>
    obtain ⟨n, q⟩ := y
    rw [e] at h
    simp only at h
    have h1 := dv_len e
    by_cases h2 : n ≤ q.length
    · rw [if_pos h2] at h
      cases e2 : dAll (q.take n) with
      | none => rw [e2] at h; cases h
      | some zs =>
        cases zs with
        | nil => rw [e2] at h; cases h
        | cons x xs =>
          rw [e2] at h
          simp only [Option.some.injEq, Prod.mk.injEq] at h
          rw [← h.2, List.length_drop]
          omega
    · rw [if_neg h2] at h; cases h
def ldAll (l : List Int) : Option (List Nt) :=
  if l = [] then some [] else
    match _h : ldSeg l with
    | none => none
    | some (g, r) => (ldAll r).map (g ++ ·)
termination_by l.length
decreasing_by exact ldSeg_len _h
theorem ldAll_nil : ldAll [] = some [] := by rw [ldAll]; simp
theorem ldAll_none {l : List Int} (h0 : l ≠ []) (h : ldSeg l = none) : ldAll l = none := by
  rw [ldAll, if_neg h0]
  split
  · rfl
  · rename_i h2; rw [h] at h2; cases h2
theorem ldAll_some {l r : List Int} {g : List Nt} (h0 : l ≠ []) (h : ldSeg l = some (g, r)) : ldAll l = (ldAll r).map (g ++ ·) := by
  rw [ldAll, if_neg h0]
  split
  · rename_i h2; rw [h] at h2; cases h2
  · rename_i h2
    rw [h] at h2
    simp only [Option.some.injEq, Prod.mk.injEq] at h2
    obtain ⟨rfl, rfl⟩ := h2
    rfl
/-- What Load tells: the notes of the log, or nothing. -/
def loadR (s : ByteArray) : Option (List Nt) :=
  match ldAll (bytesOf s) with
  | none => none
  | some ns => if strOfNums (saveB ((segsOf ns).map encAll)) = s then some ns else none
/-- One segment more, as the walk meets it. -/
theorem ldSeg_cases (l : List Int) : (ldSeg l = none ∧ (dv 0 0 l = none ∨ (∃ n r, dv 0 0 l = some (n, r) ∧ r.length < n) ∨ ∃ n r, dv 0 0 l = some (n, r) ∧ n ≤ r.length ∧ (dAll (r.take n) = none ∨ dAll (r.take n) = some []))) ∨
    ∃ n r g, dv 0 0 l = some (n, r) ∧ n ≤ r.length ∧ dAll (r.take n) = some g ∧ g ≠ [] ∧ ldSeg l = some (g, r.drop n) := by
  cases e : dv 0 0 l with
  | none => exact .inl ⟨by simp [ldSeg, e], .inl rfl⟩
  | some y =>
    obtain ⟨n, r⟩ := y
    by_cases h : n ≤ r.length
    · cases e2 : dAll (r.take n) with
      | none => exact .inl ⟨by simp [ldSeg, e, e2], .inr (.inr ⟨n, r, rfl, h, .inl e2⟩)⟩
      | some g =>
        cases g with
        | nil => exact .inl ⟨by simp [ldSeg, e, e2], .inr (.inr ⟨n, r, rfl, h, .inr e2⟩)⟩
        | cons x xs => exact .inr ⟨n, r, x :: xs, rfl, h, e2, by simp, by simp [ldSeg, e, h, e2]⟩
    · exact .inl ⟨by simp [ldSeg, e, h], .inr (.inl ⟨n, r, rfl, by omega⟩)⟩
theorem is76_chg {w0 w w1 : World} {g : Nat} {f0 : ByteArray} {f1 : Bool} {okL : Nat → Prop} (h : IsS76 w0 w g f0 f1) (hc : Chg (Typed w okL) w w1) : IsS76 w0 w1 g f0 f1 := ⟨blk_log h.1 (by unfold LogTy; decide) hc, h.2⟩
theorem holds_rd {fr : Bool} {w0 w w1 : World} {l g : Nat} {ns : List Nt} {gs : List (List Nt)} {f0 : ByteArray} {f1 : Bool} (h : Holds fr w0 w l ns gs) (hI : IsS76 w0 w g f0 f1) (hc : Chg (fun k => k = g) w w1) : Holds fr w0 w1 l ns gs := by
  obtain ⟨⟨v, ss, hL, hcc⟩, h2, h3, h4⟩ := h
  refine ⟨⟨v, ss, (hL.ty.chg hc (fun k hk ⟨_, c, q, m, e1, e2⟩ hs => ?_)).mono (fun _ _ hk => hk.1), hcc⟩, h2, h3, h4⟩
  rw [hs, hI.1] at e1
  injection e1 with e1
  injection e1 with _ e1 _
  rw [← e1] at e2
  exact absurd e2 (by unfold LogTy; decide)
theorem bs_G {ss : List Sg} {gs : List (List Nt)} (h : cont ss = contG gs) : ss.map Sg.bs = gs.map encAll := by
  have e1 : ss.map Sg.bs = (cont ss).map (·.1) := by
    unfold cont
    rw [List.map_map]
    rfl
  rw [e1, h]
  unfold contG
  rw [List.map_map]
  rfl
theorem holds_save {fr : Bool} {w0 w : World} {l : Nat} {ns : List Nt} {gs : List (List Nt)} (h : Holds fr w0 w l ns gs) (hn : ns.length ≤ 90000) :
    Calls Try.prog 20 #[ptr l] w fun e w' => e = .returned (.string (strOfNums (saveB (gs.map encAll)))) ∧ Holds true w0 w' l ns gs ∧ Chg (Typed w (fun k => w0.heap.size ≤ k)) w w' := by
  obtain ⟨⟨v, ss, hL, hc⟩, h2, h3, h4⟩ := h
  have hl := len_flat h3
  rw [h2] at hl
  refine (save_any w l v ss hL.ty.loose (by rw [len_cont hc]; omega)).mono ?_
  rintro e w' ⟨rfl, hL', hg⟩
  refine ⟨by rw [bs_G hc], ⟨⟨v, ss, hL'.mono (fun _ _ hk => hk.1), hc⟩, h2, h3, h4⟩, hg.mono (fun k _ hk => ?_)⟩
  obtain ⟨s, hs, rfl⟩ := hk
  exact (hL.ty.segs s hs).2.2

set_option maxHeartbeats 2000000 in
set_option maxRecDepth 100000 in
theorem load_any (s : ByteArray) (w : World) (hs : s.size ≤ 80000) :
    Calls Try.prog 21 #[.string s] w fun e w' => ((∃ ns lg, loadR s = some ns ∧ e = .returned (.tuple #[ptr lg, .int .i64 0]) ∧ Holds true w w' lg ns (segsOf ns)) ∨ (loadR s = none ∧ e = .returned (.tuple #[.pointer none, .int .i64 4]))) ∧ Below w.heap.size w w' := by
  have hu := Try.underlying76
  have hu28 := Try.underlying28
  have hu33 := Try.underlying33
  go_enter Try.func21, Try.ntmps21
  go_wp2_with fail
  refine (new_any _).mono ?_
  rintro e w1 ⟨lg, rfl, hL0, hB0⟩
  have I1 : Aside0 (IsS76 w w1 w.heap.size s false) := ⟨(IsS76.new w w s false (Below.refl _ _)).below hB0⟩
  have B1 : Aside0 (Below w.heap.size w w1) := ⟨bthen (below_alloc (Below.refl _ _) _) hB0⟩
  have L1 : Aside0 (Holds false w w1 lg [] (segsOf [])) := ⟨⟨⟨_, _, hL0.mono (fun k _ hk => by rw [World.size_alloc] at hk; omega), rfl⟩, rfl, by simp [segsOf], by simp [segsOf]⟩⟩
  clear hL0 hB0
  go_wp2_with fail
  go_loopg [2, 3] s.size (fun kq v2 v3 w' => ∃ (s1 : ByteArray) (ns : List Nt), v2 = .pointer none ∧ v3 = .int .i64 0 ∧ Aside0 (IsS76 w w' w.heap.size s1 false) ∧ Aside0 (Holds false w w' lg ns (segsOf ns)) ∧ Aside0 (Below w.heap.size w w') ∧ Aside0 (ldAll (bytesOf s) = (ldAll (bytesOf s1)).map (ns ++ ·)) ∧ Aside0 (s1.size + ns.length ≤ s.size) ∧ Aside0 (s1.size ≤ kq))
  case atStart => exact ⟨s, [], rfl, rfl, I1, L1, B1, ⟨by cases ldAll (bytesOf s) <;> simp⟩, ⟨by simp⟩, ⟨Nat.le_refl _⟩⟩
  case round =>
    clear I1 L1 B1
    obtain ⟨s1, ns, rfl, rfl, I1, L1, B1, D1, S1, M1⟩ := hrel
    by_cases h0 : s1.size = 0
    · have f0 : wr.cell? ⟨w.heap.size, 0, none⟩ = some (.string s1) := (blk_c I1.out.1 0).trans rfl
      have g0 : decide ((0 : Int) < (s1.size : Int)) = false := decide_eq_false (by omega)
      have g0' : decide (0 < s1.size) = false := decide_eq_false (by omega)
      have HE : bytesOf s1 = [] := List.eq_nil_of_length_eq_zero (by rw [bytesOf_length]; exact h0)
      have D2 : Aside0 (ldAll (bytesOf s) = some ns) := ⟨by rw [D1.out, HE, ldAll_nil]; simp⟩
      have NL : Aside0 (ns.length ≤ 80000) := ⟨by have := S1.out; omega⟩
      clear HE h0 D1 M1
      go_wp2_with fail
      clear f0 g0 g0'
      refine (holds_save L1.out (by have := NL.out; omega)).mono ?_
      rintro e w5 ⟨rfl, hl5, hg5⟩
      have L5 := Aside0.mk hl5
      have B5 := Aside0.mk (below_log B1.out (Nat.le_refl _) hg5)
      clear hl5 hg5 I1 L1 B1
      by_cases hsv : strOfNums (saveB ((segsOf ns).map encAll)) = s
      · rw [hsv]
        have HR : Aside0 (loadR s = some ns) := ⟨by unfold loadR; rw [D2.out]; exact if_pos hsv⟩
        clear hsv
        go_wp2_with fail
        go_ret2
        exact ⟨.inl ⟨ns, lg, HR.out, rfl, L5.out⟩, B5.out⟩
      · have HR : Aside0 (loadR s = none) := ⟨by unfold loadR; rw [D2.out]; exact if_neg hsv⟩
        obtain ⟨SV, hSV⟩ : ∃ x, x = strOfNums (saveB ((segsOf ns).map encAll)) := ⟨_, rfl⟩
        rw [← hSV] at hsv ⊢
        clear hSV
        have hb : (SV.toList == s.toList) = false := str_ne hsv
        go_wp2_with fail
        go_ret2
        exact ⟨.inr ⟨HR.out, rfl⟩, B5.out⟩
    · have f0 : wr.cell? ⟨w.heap.size, 0, none⟩ = some (.string s1) := (blk_c I1.out.1 0).trans rfl
      have g0 : decide ((0 : Int) < (s1.size : Int)) = true := decide_eq_true (by omega)
      have g0' : decide (0 < s1.size) = true := decide_eq_true (by omega)
      have HNE : Aside0 (bytesOf s1 ≠ []) := ⟨fun h => h0 (by rw [← bytesOf_length, h]; rfl)⟩
      have Z1 : Aside0 (s1.size ≤ 80000) := ⟨by have := S1.out; omega⟩
      clear h0
      rcases ldSeg_cases (bytesOf s1) with ⟨hnone, hbad⟩ | ⟨n, r, g, hdv, hle, hda, hgne, hseg⟩
      · have DN : Aside0 (loadR s = none) := ⟨by unfold loadR; rw [D1.out, ldAll_none HNE.out hnone]; rfl⟩
        clear hnone
        rcases hbad with hb | ⟨n, r, hb, hlt⟩ | ⟨n, r, hb, hle, hda⟩
        · have HDV := Aside0.mk hb
          clear hb
          go_wp2_with fail
          clear f0 g0 g0'
          refine (bytes_bad w wr w.heap.size s1 I1.out B1.out HDV.out).mono ?_
          rintro e w2 ⟨s2, rfl, hi2, hb2, _⟩
          have I2 := Aside0.mk hi2
          have B2 := Aside0.mk hb2
          clear hi2 hb2 I1 L1 B1
          have HDL : Aside0 (decL (bytesOf (strOfNums [])) = []) := ⟨by rw [bytesOf_str Byt.nil]; exact decL_some (ns := []) dAll_nil⟩
          have HDE : Aside0 (decE (bytesOf (strOfNums [])) = 0) := ⟨by rw [bytesOf_str Byt.nil]; exact decE_some (ns := []) dAll_nil⟩
          have e0 : (⟨#[]⟩ : ByteArray) = strOfNums [] := rfl
          rw [e0]
          go_wp2_with fail
          refine (decode_any (strOfNums []) _ (by rw [strOfNums_size]; exact Nat.zero_le _)).mono ?_
          rintro e w3 ⟨vo, rfl, ho, hb3⟩
          rw [HDE.out]
          rw [HDL.out] at ho
          obtain ⟨Ao, no, co, rfl, _⟩ := R_open ho
          obtain ⟨rfl, _, _⟩ := Kd.R_reads' ho
          have I3 := Aside0.mk (I2.out.below hb3)
          have B3 := Aside0.mk (bthen B2.out hb3)
          clear ho hb3 I2 B2
          have f1 : w3.cell? ⟨w.heap.size, 1, none⟩ = some (.bool true) := (blk_c I3.out.1 1).trans rfl
          go_wp2_with fail
          go_ret2
          exact ⟨.inr ⟨DN.out, rfl⟩, B3.out⟩
        · have HDV := Aside0.mk hb
          have HLT := Aside0.mk hlt
          clear hb hlt
          go_wp2_with fail
          clear f0 g0 g0'
          refine (bytes_long w wr w.heap.size n s1 r I1.out B1.out HDV.out HLT.out (by have := Z1.out; omega)).mono ?_
          rintro e w2 ⟨s2, rfl, hi2, hb2, _⟩
          have I2 := Aside0.mk hi2
          have B2 := Aside0.mk hb2
          clear hi2 hb2 I1 L1 B1
          have HDL : Aside0 (decL (bytesOf (strOfNums [])) = []) := ⟨by rw [bytesOf_str Byt.nil]; exact decL_some (ns := []) dAll_nil⟩
          have HDE : Aside0 (decE (bytesOf (strOfNums [])) = 0) := ⟨by rw [bytesOf_str Byt.nil]; exact decE_some (ns := []) dAll_nil⟩
          have e0 : (⟨#[]⟩ : ByteArray) = strOfNums [] := rfl
          rw [e0]
          go_wp2_with fail
          refine (decode_any (strOfNums []) _ (by rw [strOfNums_size]; exact Nat.zero_le _)).mono ?_
          rintro e w3 ⟨vo, rfl, ho, hb3⟩
          rw [HDE.out]
          rw [HDL.out] at ho
          obtain ⟨Ao, no, co, rfl, _⟩ := R_open ho
          obtain ⟨rfl, _, _⟩ := Kd.R_reads' ho
          have I3 := Aside0.mk (I2.out.below hb3)
          have B3 := Aside0.mk (bthen B2.out hb3)
          clear ho hb3 I2 B2
          have f1 : w3.cell? ⟨w.heap.size, 1, none⟩ = some (.bool true) := (blk_c I3.out.1 1).trans rfl
          go_wp2_with fail
          go_ret2
          exact ⟨.inr ⟨DN.out, rfl⟩, B3.out⟩
        · have HDV := Aside0.mk hb
          have HLE := Aside0.mk hle
          have HDA := Aside0.mk hda
          clear hb hle hda
          go_wp2_with fail
          clear f0 g0 g0'
          refine (bytes_yes w wr w.heap.size n s1 r I1.out B1.out HDV.out HLE.out (by have := Z1.out; omega)).mono ?_
          rintro e w2 ⟨rfl, hi2, hb2, _⟩
          have RL : Aside0 (r.length < s1.size) := ⟨by have := dv_len HDV.out; rwa [bytesOf_length] at this⟩
          have BT : Aside0 (Byt r) := ⟨by
            have h1 := (vb_dv0 (bytesOf_byt s1) HDV.out).1
            have h2 := bytesOf_byt s1
            rw [h1] at h2
            exact h2.right⟩
          have I2 := Aside0.mk hi2
          have B2 := Aside0.mk hb2
          clear hi2 hb2 I1 L1 B1
          have HBY : Aside0 (bytesOf (strOfNums (r.take n)) = r.take n) := ⟨bytesOf_str (fun x hx => BT.out x (List.mem_of_mem_take hx))⟩
          have HDL : Aside0 (decL (bytesOf (strOfNums (r.take n))) = []) := ⟨by
            rw [HBY.out]
            rcases HDA.out with h | h
            · exact decL_none h
            · exact decL_some (ns := []) h⟩
          have hszS : (strOfNums (r.take n)).size ≤ 1000000 := by rw [strOfNums_size, List.length_take]; have := RL.out; have := Z1.out; omega
          go_wp2_with fail
          refine (decode_any _ _ hszS).mono ?_
          rintro e w3 ⟨vo, rfl, ho, hb3⟩
          rw [HDL.out] at ho
          obtain ⟨Ao, no, co, rfl, _⟩ := R_open ho
          obtain ⟨rfl, _, _⟩ := Kd.R_reads' ho
          have I3 := Aside0.mk (I2.out.below hb3)
          have B3 := Aside0.mk (bthen B2.out hb3)
          clear ho hb3 I2 B2 hszS
          have f1 : w3.cell? ⟨w.heap.size, 1, none⟩ = some (.bool false) := (blk_c I3.out.1 1).trans rfl
          obtain ⟨er, her⟩ : ∃ er, er = decE (bytesOf (strOfNums (r.take n))) := ⟨_, rfl⟩
          rw [← her]
          have her4 : er = 4 ∨ er = 0 := by
            rw [her, HBY.out]
            rcases HDA.out with h | h
            · exact .inl (decE_none h)
            · exact .inr (decE_some h)
          clear her
          rcases her4 with rfl | rfl
          · go_wp2_with fail
            go_ret2
            exact ⟨.inr ⟨DN.out, rfl⟩, B3.out⟩
          · go_wp2_with fail
            go_ret2
            exact ⟨.inr ⟨DN.out, rfl⟩, B3.out⟩
      · have HDV := Aside0.mk hdv
        have HLE := Aside0.mk hle
        have HDA := Aside0.mk hda
        have HGN := Aside0.mk hgne
        have HSG := Aside0.mk hseg
        clear hdv hle hda hgne hseg
        go_wp2_with fail
        clear f0 g0 g0'
        refine (bytes_yes w wr w.heap.size n s1 r I1.out B1.out HDV.out HLE.out (by have := Z1.out; omega)).mono ?_
        rintro e w2 ⟨rfl, hi2, hb2, hc2⟩
        have RL : Aside0 (r.length < s1.size) := ⟨by have := dv_len HDV.out; rwa [bytesOf_length] at this⟩
        have BT : Aside0 (Byt r) := ⟨by
          have h1 := (vb_dv0 (bytesOf_byt s1) HDV.out).1
          have h2 := bytesOf_byt s1
          rw [h1] at h2
          exact h2.right⟩
        have I2 := Aside0.mk hi2
        have L2 := Aside0.mk (holds_rd L1.out I1.out hc2)
        have B2 := Aside0.mk hb2
        clear hi2 hb2 hc2 I1 L1 B1
        have HBY : Aside0 (bytesOf (strOfNums (r.take n)) = r.take n) := ⟨bytesOf_str (fun x hx => BT.out x (List.mem_of_mem_take hx))⟩
        have HDL : Aside0 (decL (bytesOf (strOfNums (r.take n))) = g.map toS) := ⟨decL_some (by rw [HBY.out]; exact HDA.out)⟩
        have HDE : Aside0 (decE (bytesOf (strOfNums (r.take n))) = 0) := ⟨decE_some (ns := g) (by rw [HBY.out]; exact HDA.out)⟩
        have hszS : (strOfNums (r.take n)).size ≤ 1000000 := by rw [strOfNums_size, List.length_take]; have := RL.out; have := Z1.out; omega
        go_wp2_with fail
        refine (decode_any _ _ hszS).mono ?_
        rintro e w3 ⟨vo, rfl, ho, hb3⟩
        rw [HDE.out]
        rw [HDL.out] at ho
        have O3 := Aside0.mk (Kd.R_lower ho B2.out.size)
        have I3 := Aside0.mk (I2.out.below hb3)
        have L3 := Aside0.mk (L2.out.move hb3)
        have B3 := Aside0.mk (bthen B2.out hb3)
        clear ho hb3 I2 L2 B2 hszS
        obtain ⟨Ao, no, co, rfl, _⟩ := R_open O3.out
        obtain ⟨rfl, hco, _⟩ := Kd.R_reads' O3.out
        obtain ⟨q, hq⟩ : ∃ q, q = (g.map toS).length := ⟨_, rfl⟩
        rw [← hq] at hco O3 ⊢
        have hqg : q = g.length := by rw [hq, List.length_map]
        have HQG := Aside0.mk hqg
        have hgl : 0 < g.length := List.length_pos_iff.2 HGN.out
        have d1 : ((q : Int) == 0) = false := by rw [beq_eq_false_iff_ne]; omega
        have d2 : (q == 0) = false := by rw [beq_eq_false_iff_ne]; omega
        clear hq hqg hgl
        have f1 : w3.cell? ⟨w.heap.size, 1, none⟩ = some (.bool false) := (blk_c I3.out.1 1).trans rfl
        go_wp2_with fail
        clear f1 d1 d2
        have OKG : Aside0 (∀ x ∈ g, OkNt x) := ⟨(enc_dAll (fun x hx => BT.out x (List.mem_of_mem_take hx)) HDA.out).2⟩
        have GLN : Aside0 (g.length ≤ n) := ⟨by
          have h1 := (dAll_len_le _ g (fun x hx => BT.out x (List.mem_of_mem_take hx)) HDA.out).1
          rw [List.length_take] at h1
          omega⟩
        have NB : Aside0 (ns.length + g.length ≤ 80000) := ⟨by have := GLN.out; have := HLE.out; have := RL.out; have := S1.out; omega⟩
        have hq8 : q ≤ 80000 := by have := NB.out; have := HQG.out; omega
        go_loopw [43] (fun v43 wr => ∃ j : Nat, j ≤ q ∧ v43 = .int .i64 j ∧ Aside0 (Kd.R k28 28 wr w.heap.size (fun _ => True) (.slice Ao q co) (g.map toS)) ∧ Aside0 (IsS76 w wr w.heap.size (strOfNums (r.drop n)) false) ∧ Aside0 (Holds false w wr lg (ns ++ g.take j) (segsOf (ns ++ g.take j))) ∧ Aside0 (Below w.heap.size w wr)) (fun v _ => q - (intOf v).toNat)
        case atStart => exact ⟨0, Nat.zero_le _, rfl, O3, I3, ⟨by rw [List.take_zero, List.append_nil]; exact L3.out⟩, B3⟩
        case round =>
          clear O3 I3 L3 B3
          obtain ⟨j, hj, rfl, O3, I3, L3, B3⟩ := hrel
          by_cases hlt : j < q
          · obtain ⟨nt, hnt⟩ : ∃ nt, g[j]? = some nt := ⟨g[j]'(by have := HQG.out; omega), List.getElem?_eq_getElem _⟩
            have OKN := Aside0.mk (OKG.out nt (List.mem_of_getElem? hnt))
            obtain ⟨ad, D1', d1', rfl, x0, x1, x2, x3, hl1, hC1⟩ := nt_at (Kd.R_reads' O3.out).2.2 j nt hnt
            have TK : Aside0 (ns ++ g.take (j + 1) = (ns ++ g.take j) ++ [nt]) := ⟨by rw [List.take_add_one, hnt, List.append_assoc]; rfl⟩
            have HC1 := Aside0.mk hC1
            clear hnt hl1 hC1
            go_wp2_with fail
            clear x0 x1 x2 x3
            have b1 : Below wr.heap.size wr (wr.alloc (.cells #[.int .i64 nt.b, .int .i64 nt.path.length, .int .i64 nt.s, .slice D1' nt.path.length d1'] 28)) := below_alloc (Below.refl _ _) _
            have O4 := Aside0.mk (Kd.R_below O3.out b1)
            have I4 := Aside0.mk (I3.out.below b1)
            have L4 := Aside0.mk (L3.out.move b1)
            have B4 := Aside0.mk (bthen B3.out b1)
            have HC4 := Aside0.mk (Kd.C_below HC1.out b1)
            clear b1 O3 I3 L3 B3 HC1
            refine (holds_put L4.out (by rw [List.length_append, List.length_take]; have := NB.out; omega) B4.out.size D1' d1' nt HC4.out OKN.out).mono ?_
            rintro e w5 ⟨rfl, hl5, hg5⟩
            have O5 := Aside0.mk (R_log O4.out (by intro p hp; simp [k28, Kd.iso, Kd.pair, Kd.slice, Kd.int, Kd.scalar, k26] at hp; rcases hp with rfl | rfl <;> (unfold LogTy; decide)) hg5)
            have I5 := Aside0.mk (is76_chg I4.out hg5)
            have B5 := Aside0.mk (below_log B4.out (Nat.le_refl _) hg5)
            have L5 : Aside0 (Holds false w w5 lg (ns ++ g.take (j + 1)) (segsOf (ns ++ g.take (j + 1)))) := ⟨by rw [TK.out, segsOf_snoc]; exact hl5⟩
            clear hl5 hg5 O4 I4 L4 B4 HC4
            go_wp2_with fail
            go_roundw
            case measure => simp [intOf]; omega
            case rel => exact ⟨j + 1, by omega, by go_num, O5, I5, L5, B5⟩
          · obtain rfl : j = q := by omega
            have L6 : Aside0 (Holds false w wr lg (ns ++ g) (segsOf (ns ++ g))) := ⟨by have := L3.out; rw [HQG.out, List.take_length] at this; exact this⟩
            go_wp2_with fail
            go_roundg (strOfNums (r.drop n)).size
            case measure =>
              rw [strOfNums_size, List.length_drop]
              have h1 := RL.out
              have h2 := M1.out
              omega
            case rel =>
              refine ⟨strOfNums (r.drop n), ns ++ g, rfl, rfl, I3, L6, B3, ⟨?_⟩, ⟨?_⟩, ⟨Nat.le_refl _⟩⟩
              · rw [D1.out, ldAll_some HNE.out HSG.out, bytesOf_str (fun x hx => BT.out x (List.mem_of_mem_drop hx))]
                cases ldAll (r.drop n) <;> simp
              · rw [strOfNums_size, List.length_drop, List.length_append]
                have h1 := RL.out
                have h2 := S1.out
                have h3 := GLN.out
                have h4 := HLE.out
                omega
end Go.Proofs.Ytebbikihhkjaaaa.Hand
