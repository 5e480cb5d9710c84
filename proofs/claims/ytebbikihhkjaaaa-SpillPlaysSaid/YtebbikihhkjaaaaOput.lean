/- The reference's Load, walked. -/
import Derived.Test.YtebbikihhkjaaaaRwalk
namespace Go.Proofs.Ytebbikihhkjaaaa.Hand
open Go.RowKit Go.Proofs.YtebbikihhkjaaaaW.PrintWords Go.Proofs.YtebbikihhkjaaaaW.PrintMore Go.Proofs.Ytebbikihhkjaaaa.PSpillBytes
theorem decR_some {l : List Int} {ns : List Nt} (h : dAll l = some ns) : decR l = ns.map toR := by simp [decR, h]
def RLoad (s : ByteArray) (w : World) (e : Ending) (w' : World) : Prop :=
  ((∃ gs A c, rld [] (bytesOf s) = some gs ∧ e = .returned (.tuple #[.slice A gs.length c, .int .i64 0]) ∧ gs.length ≤ c ∧ Kd.C gK w' A gs.length (gr gs) ∧ gs.flatten.length ≤ s.size) ∨ (rld [] (bytesOf s) = none ∧ e = .returned (.tuple #[.slice none 0 0, .int .i64 4]))) ∧ Below w.heap.size w w'
theorem drop_lt {s : ByteArray} {a : Nat} (h : a < s.size) : (bytesOf s).drop a ≠ [] := by
  intro e
  have := congrArg List.length e
  rw [List.length_drop, bytesOf_length] at this
  simp at this
  omega
theorem rld_end (gs : List (List Nt)) (s : ByteArray) {a : Nat} (h : s.size ≤ a) : rld gs ((bytesOf s).drop a) = some gs := by
  rw [List.drop_of_length_le (by rw [bytesOf_length]; exact h), rld_nil]
theorem str_ext (s : ByteArray) (a b : Nat) : s.extract a b = strOfNums (((bytesOf s).drop a).take (b - a)) := by
  apply bytesOf_inj
  rw [bytesOf_str (fun x hx => bytesOf_byt s x (List.mem_of_mem_drop (List.mem_of_mem_take hx)))]
  unfold bytesOf
  rw [← List.map_drop, ← List.map_take]
  congr 1
  rw [ByteArray.data_extract]
  simp [List.extract_eq_take_drop]
theorem putAll_ne (gs : List (List Nt)) (p : List Nt) (h : ∀ g ∈ gs, g ≠ []) : ∀ g ∈ putAll gs p, g ≠ [] := by
  have := (segsOf_spec p gs h).2
  exact this
theorem putAll_flat (gs : List (List Nt)) (p : List Nt) (h : ∀ g ∈ gs, g ≠ []) : (putAll gs p).flatten = gs.flatten ++ p := (segsOf_spec p gs h).1
theorem flat_ok {gs : List (List Nt)} (h : ∀ n ∈ gs.flatten, OkNt n) : ∀ g ∈ gs, ∀ n ∈ g, OkNt n := fun g hg n hn => h n (List.mem_flatten.2 ⟨g, hg, hn⟩)

theorem rdec_any (l : List Int) (hb : Byt l) (hl : l.length ≤ 80000) (W : World) : Calls Try.prog 11 #[.string (strOfNums l)] W fun e w' => ∃ A n c, e = .returned (.tuple #[.slice A n c, .int .i64 (decE l)]) ∧ n = (decR l).length ∧ n ≤ c ∧ Kd.C k30 w' A n (decR l) ∧ Below W.heap.size W w' := by
  have h := ref_decode (strOfNums l) (by rw [strOfNums_size]; omega)
  rw [bytesOf_str hb] at h
  refine (secateurref21_Decode.calls _ _ _ _ W h).mono ?_
  rintro e w' ⟨v, rfl, hS, hB⟩
  have hR := Kd.S_R hS
  obtain ⟨A, n, c, rfl, _⟩ := R_open hR
  obtain ⟨h1, h2, h3⟩ := Kd.R_reads' hR
  exact ⟨A, n, c, rfl, h1, h2, by rw [h1]; exact h3, hB⟩
theorem decE_two (l : List Int) : decE l = 4 ∨ decE l = 0 := by unfold decE; split <;> simp

set_option maxHeartbeats 2000000 in
set_option maxRecDepth 100000 in
theorem rload_any (s : ByteArray) (w : World) (hs : s.size ≤ 80000) : Calls Try.prog 22 #[.string s] w (RLoad s w) := by
  have hu := Try.underlying30
  go_enter Try.func22, Try.ntmps22
  go_wp2_with fail
  go_loopg [2, 3, 4, 5] s.size (fun kq v2 v3 v4 v5 w' => ∃ (a : Nat) (gs : List (List Nt)) (A : Option Addr) (n c : Nat), v2 = .slice none 0 0 ∧ v3 = .int .i64 0 ∧ v4 = .slice A n c ∧ v5 = .int .i64 a ∧ Aside0 (n = gs.length) ∧ Aside0 (n ≤ c) ∧ Aside0 (Kd.C gK w' A n (gr gs)) ∧ Aside0 (Below w.heap.size w w') ∧ Aside0 (rld [] (bytesOf s) = rld gs ((bytesOf s).drop a)) ∧ Aside0 (a ≤ s.size ∧ gs.flatten.length ≤ a ∧ s.size - a ≤ kq) ∧ Aside0 ((∀ g ∈ gs, g ≠ []) ∧ ∀ n ∈ gs.flatten, OkNt n))
  case atStart => exact ⟨0, [], none, 0, 0, rfl, rfl, rfl, rfl, ⟨rfl⟩, ⟨Nat.le_refl _⟩, ⟨Kd.C_nil _ _⟩, ⟨Below.refl _ _⟩, ⟨by rw [List.drop_zero]⟩, ⟨Nat.zero_le _, Nat.zero_le _, Nat.le_refl _⟩, ⟨by simp, by simp⟩⟩
  case round =>
    obtain ⟨a, gs, A, n, c, rfl, rfl, rfl, rfl, HN, HC, CG, BR, HR, HA, HOK⟩ := hrel
    by_cases hlt : a < s.size
    · have ha := hlt
      have DNE := Aside0.mk (drop_lt hlt)
      have hbd : Byt ((bytesOf s).drop a) := fun x hx => bytesOf_byt s x (List.mem_of_mem_drop hx)
      rcases ldSeg_cases ((bytesOf s).drop a) with ⟨hnone, hbad⟩ | ⟨m, r, g, hdv, hle, hda, hgne, hseg⟩
      · have DN : Aside0 (rld [] (bytesOf s) = none) := ⟨by rw [HR.out, rld_none DNE.out hnone]⟩
        rcases hbad with hb | ⟨m, r, hb, hlt2⟩ | ⟨m, r, hb, hle, hda⟩
        · have RD := Aside0.mk (fun W => secateurref21_read.calls 23 s (a : Int) _ _ W (read_no (by omega) (by omega) (by omega) hb))
          clear hb hnone hbd
          go_wp2_with fail
          refine (RD.out _).mono ?_
          rintro e w2 ⟨rfl, hd⟩
          have B2 := Aside0.mk (bthen BR.out hd.below)
          clear hd
          go_wp2_with fail
          go_ret2
          exact ⟨.inr ⟨DN.out, rfl⟩, B2.out⟩
        · obtain ⟨q, h1, h2, h3, h4, h5⟩ := read_yes (k := 23) (by omega) (by omega) (by omega) hb
          have RD := Aside0.mk (fun W => secateurref21_read.calls 23 s (a : Int) _ _ W h1)
          have hrl : r.length = s.size - q := by rw [h2, List.length_drop, bytesOf_length]
          have g1 : (s.size : Int) - (q : Int) < (m : Int) := by omega
          have g1' : decide ((s.size : Int) - (q : Int) < (m : Int)) = true := decide_eq_true g1
          have d1 : ((m : Int) == 0) = false := by rw [beq_eq_false_iff_ne]; omega
          have d2 : (m == 0) = false := by rw [beq_eq_false_iff_ne]; omega
          clear hb hnone hbd h1 h2 hrl
          go_wp2_with fail
          refine (RD.out _).mono ?_
          rintro e w2 ⟨rfl, hd⟩
          have B2 := Aside0.mk (bthen BR.out hd.below)
          clear hd
          go_wp2_with fail
          go_ret2
          exact ⟨.inr ⟨DN.out, rfl⟩, B2.out⟩
        · obtain ⟨q, h1, h2, h3, h4, h5⟩ := read_yes (k := 23) (by omega) (by omega) (by omega) hb
          have RD := Aside0.mk (fun W => secateurref21_read.calls 23 s (a : Int) _ _ W h1)
          have hrl : r.length = s.size - q := by rw [h2, List.length_drop, bytesOf_length]
          rcases Nat.eq_zero_or_pos m with hm0 | hm0
          · subst hm0
            clear hb hnone hbd h1 h2 hrl hda
            go_wp2_with fail
            refine (RD.out _).mono ?_
            rintro e w2 ⟨rfl, hd⟩
            have B2 := Aside0.mk (bthen BR.out hd.below)
            clear hd
            go_wp2_with fail
            go_ret2
            exact ⟨.inr ⟨DN.out, rfl⟩, B2.out⟩
          · have hda2 : dAll (r.take m) = none := by
              rcases hda with h | h
              · exact h
              · have e1 := (enc_dAll (fun x hx => by rw [h2] at hx; exact bytesOf_byt s x (List.mem_of_mem_drop (List.mem_of_mem_take hx))) h).1
                have := congrArg List.length e1
                rw [List.length_take] at this
                simp only [encAll, List.flatMap_nil, List.length_nil] at this
                omega
            have HX : Aside0 (s.extract q (q + m) = strOfNums (r.take m)) := ⟨by rw [str_ext, ← h2]; congr 2; omega⟩
            have RE := Aside0.mk (fun W => rdec_any (r.take m) (fun x hx => by rw [h2] at hx; exact bytesOf_byt s x (List.mem_of_mem_drop (List.mem_of_mem_take hx))) (by rw [List.length_take]; omega) W)
            rw [decE_none hda2] at RE
            have g1 : (m : Int) ≤ (s.size : Int) - (q : Int) := by omega
            have g1' : decide ((s.size : Int) - (q : Int) < (m : Int)) = false := decide_eq_false (by omega)
            have g2 : (q : Int) + (m : Int) ≤ (s.size : Int) := by omega
            have d1 : ((m : Int) == 0) = false := by rw [beq_eq_false_iff_ne]; omega
            have d2 : (m == 0) = false := by rw [beq_eq_false_iff_ne]; omega
            clear hb hnone hbd h1 h2 hrl hda hda2
            go_wp2_with fail
            refine (RD.out _).mono ?_
            rintro e w2 ⟨rfl, hd⟩
            have B2 := Aside0.mk (bthen BR.out hd.below)
            clear hd
            go_wp2_with fail
            rw [HX.out]
            refine (RE.out _).mono ?_
            rintro e w3 ⟨A3, n3, c3, rfl, _, _, _, hb3⟩
            have B3 := Aside0.mk (bthen B2.out hb3)
            clear hb3
            go_wp2_with fail
            go_ret2
            exact ⟨.inr ⟨DN.out, rfl⟩, B3.out⟩
      · obtain ⟨q, h1, h2, h3, h4, h5⟩ := read_yes (k := 23) (by omega) (by omega) (by omega) hdv
        have RD := Aside0.mk (fun W => secateurref21_read.calls 23 s (a : Int) _ _ W h1)
        have hrl : r.length = s.size - q := by rw [h2, List.length_drop, bytesOf_length]
        have hbt : Byt (r.take m) := fun x hx => by rw [h2] at hx; exact bytesOf_byt s x (List.mem_of_mem_drop (List.mem_of_mem_take hx))
        obtain ⟨e1, hokg⟩ := enc_dAll hbt hda
        have hm0 : 0 < m := by
          rcases Nat.eq_zero_or_pos m with h | h
          · subst h
            rw [List.take_zero, dAll_nil] at hda
            injection hda with hda
            exact absurd hda.symm hgne
          · exact h
        have hgm : g.length ≤ m := by
          have h6 := (dAll_len_le _ g hbt hda).1
          rw [List.length_take] at h6
          omega
        have HX : Aside0 (s.extract q (q + m) = strOfNums (r.take m)) := ⟨by rw [str_ext, ← h2]; congr 2; omega⟩
        have RE := Aside0.mk (fun W => rdec_any (r.take m) hbt (by rw [List.length_take]; omega) W)
        rw [decE_some hda, decR_some hda] at RE
        have g1 : (m : Int) ≤ (s.size : Int) - (q : Int) := by omega
        have g1' : decide ((s.size : Int) - (q : Int) < (m : Int)) = false := decide_eq_false (by omega)
        have g2 : (q : Int) + (m : Int) ≤ (s.size : Int) := by omega
        have d1 : ((m : Int) == 0) = false := by rw [beq_eq_false_iff_ne]; omega
        have d2 : (m == 0) = false := by rw [beq_eq_false_iff_ne]; omega
        have HSG : Aside0 (rld [] (bytesOf s) = if ownB gs g = true then rld (putAll gs g) ((bytesOf s).drop (q + m)) else none) := ⟨by
          rw [HR.out, rld_some DNE.out hseg, h2, List.drop_drop]⟩
        have OKG := Aside0.mk hokg
        have GNE := Aside0.mk hgne
        have hgl : 0 < g.length := List.length_pos_iff.2 hgne
        have hgs : gs.flatten.length + g.length ≤ 80000 := by have := HA.out; omega
        have h6 : gs.flatten.length + g.length ≤ q + m := by have := HA.out; omega
        clear hdv hda hseg hbd h1 h2 hrl hbt e1 hokg hgne
        obtain ⟨z, hz⟩ : ∃ z, z = g.length := ⟨_, rfl⟩
        rw [← hz] at hgl hgs h6 hgm
        rw [List.length_map, ← hz] at RE
        have HZ := Aside0.mk hz
        obtain ⟨y, hy⟩ : ∃ y, y = gs.flatten.length := ⟨_, rfl⟩
        rw [← hy] at h6 hgs
        have HY := Aside0.mk hy
        clear hz hy
        go_wp2_with fail
        refine (RD.out _).mono ?_
        rintro e w2 ⟨rfl, hd⟩
        have B2 := Aside0.mk (bthen BR.out hd.below)
        have C2 := Aside0.mk (Kd.C_below CG.out hd.below)
        clear hd CG BR
        go_wp2_with fail
        rw [HX.out]
        refine (RE.out _).mono ?_
        rintro e w3 ⟨A3, n3, c3, rfl, rfl, hc3, hC3, hb3⟩
        have B3 := Aside0.mk (bthen B2.out hb3)
        have CG3 := Aside0.mk (Kd.C_below C2.out hb3)
        have CL := Aside0.mk hC3
        have HC3 := Aside0.mk hc3
        have BB3 : Aside0 (Below w3.heap.size w3 w3) := ⟨Below.refl _ _⟩
        clear hb3 hC3 hc3 B2 C2
        go_wp2_with fail
        clear g1 g1' d1 d2
        go_loopw [4, 11] (fun v4 v11 wr => ∃ (i : Nat) (A4 : Option Addr) (n4 c4 : Nat), i ≤ n3 ∧ v4 = .slice A4 n4 c4 ∧ v11 = .int .i64 i ∧ Aside0 (n4 = (putAll gs (g.take i)).length) ∧ Aside0 (n4 ≤ c4) ∧ Aside0 (Kd.C gK wr A4 n4 (gr (putAll gs (g.take i)))) ∧ Aside0 (Below w3.heap.size w3 wr)) (fun _ v _ => n3 - (intOf v).toNat)
        case atStart => exact ⟨0, A, n, c, Nat.zero_le _, rfl, rfl, HN, HC, CG3, BB3⟩
        case round =>
          clear BB3
          obtain ⟨i, A4, n4, c4, hi, rfl, rfl, HN4, HC4, CG4, BW⟩ := hrel
          by_cases hlt2 : i < n3
          · obtain ⟨x, hx⟩ : ∃ x, g[i]? = some x := ⟨g[i]'(by have := HZ.out; omega), List.getElem?_eq_getElem _⟩
            have OKX := Aside0.mk (OKG.out x (List.mem_of_getElem? hx))
            obtain ⟨aw, A1, d1, rfl, x0, x1, x2, x3, hl1, hC1⟩ := nr_at CL.out i x hx
            have TI : Aside0 (putAll gs (g.take (i + 1)) = putG (putAll gs (g.take i)) x) := ⟨by rw [take_snoc' g i x hx]; simp [putAll]⟩
            have p0 := pw_cell_below BW.out x0
            have p1 := pw_cell_below BW.out x1
            have p2 := pw_cell_below BW.out x2
            have p3 := pw_cell_below BW.out x3
            have HL1 := Aside0.mk hl1
            have HC1 := Aside0.mk (Kd.C_below hC1 BW.out)
            clear hx x0 x1 x2 x3 hl1 hC1
            have RP : Aside0 (∀ W, Below wr.heap.size wr W → Calls Try.prog 18 #[.slice A4 n4 c4, .agg #[.int .i64 x.b, .int .i64 x.path.length, .int .i64 x.s, .slice A1 x.path.length d1]] W (RPut W (putAll gs (g.take i)) x)) := ⟨fun W hW => by
              have hne := putAll_ne gs (g.take i) HOK.out.1
              have hfl := putAll_flat gs (g.take i) HOK.out.1
              have h7 := CG4.out
              have h8 := HC4.out
              rw [HN4.out] at h7 h8
              rw [HN4.out]
              refine rput_any W A4 c4 _ x A1 d1 (Kd.C_below h7 hW) h8 (Kd.C_below HC1.out hW) HL1.out OKX.out (flat_ok (fun n hn => ?_)) hne ?_
              · rw [hfl] at hn
                rcases List.mem_append.1 hn with h | h
                · exact HOK.out.2 n h
                · exact OKG.out n (List.mem_of_mem_take h)
              · rw [hfl, List.length_append, List.length_take]
                have := HZ.out
                have := HY.out
                omega⟩
            go_wp2_with fail
            clear p0 p1 p2 p3
            refine (RP.out _ (Below.refl _ _)).mono ?_
            rintro e w5 ⟨A5, c5, rfl, hc5, hC5, hb5⟩
            have B5 := Aside0.mk (bthen BW.out hb5)
            have HC5 := Aside0.mk hc5
            have C5 := Aside0.mk hC5
            clear hb5 hC5 hc5 BW CG4
            go_wp2_with fail
            go_roundw
            case measure => simp [intOf]; omega
            case rel => exact ⟨i + 1, A5, _, c5, by omega, rfl, by go_num, ⟨by rw [TI.out]⟩, HC5, ⟨by rw [TI.out]; exact C5.out⟩, B5⟩
          · obtain rfl : i = n3 := by omega
            have eg : g.take i = g := by rw [HZ.out, List.take_length]
            rw [eg] at HN4 CG4
            clear eg
            have B5 := Aside0.mk (bthen B3.out BW.out)
            clear B3 BW CG3 CL
            have hn80 : n ≤ 80000 := by
              have := len_flat HOK.out.1
              have := HN.out
              have := HY.out
              omega
            have hn481 : n4 ≤ 160001 := by
              have h7 := len_flat (putAll_ne gs g HOK.out.1)
              rw [putAll_flat gs g HOK.out.1, List.length_append] at h7
              have := HN4.out
              have := HY.out
              have := HZ.out
              omega
            by_cases hown : n4 = n + 1
            · subst hown
              have hg : n < (putAll gs g).length := by rw [← HN4.out]; omega
              obtain ⟨gl, hgl2⟩ : ∃ x, (putAll gs g)[n]? = some x := ⟨_, List.getElem?_eq_getElem hg⟩
              obtain ⟨ad, AL, cL, rfl, fL, hcL, hCL⟩ := g_at CG4.out n gl hgl2
              have hgll : gl.length ≤ 160001 := by
                have h7 := mem_flat_len (List.mem_of_getElem? hgl2)
                rw [putAll_flat gs g HOK.out.1, List.length_append] at h7
                have := HY.out
                have := HZ.out
                omega
              have HLG : Aside0 ((putAll gs g).getD gs.length [] = gl) := ⟨by rw [← HN.out, List.getD_eq_getElem?_getD, hgl2]; rfl⟩
              obtain ⟨u, hu1⟩ : ∃ u, u = gl.length := ⟨_, rfl⟩
              rw [← hu1] at fL hcL hCL hgll
              have HU := Aside0.mk hu1
              clear hgl2 hCL hu1 hg
              have t1 : ((n : Int) + 1 != (n : Int) + 1) = false := by simp
              by_cases hui : u = i
              · subst hui
                have OW : Aside0 (ownB gs g = true) := ⟨by
                  unfold ownB
                  rw [HLG.out, ← HN4.out, ← HN.out, ← HU.out, ← HZ.out]
                  simp⟩
                go_wp2_with fail
                go_roundg (s.size - (q + m))
                case measure => have := HA.out; omega
                case rel =>
                  refine ⟨q + m, putAll gs g, _, n + 1, _, rfl, rfl, rfl, by go_num, HN4, HC4, CG4, B5, ⟨?_⟩, ⟨?_, ?_, ?_⟩, ⟨putAll_ne gs g HOK.out.1, ?_⟩⟩
                  · rw [HSG.out, if_pos OW.out]
                  · omega
                  · rw [putAll_flat gs g HOK.out.1, List.length_append, ← HY.out, ← HZ.out]; omega
                  · omega
                  · intro x hx
                    rw [putAll_flat gs g HOK.out.1] at hx
                    rcases List.mem_append.1 hx with h | h
                    · exact HOK.out.2 x h
                    · exact OKG.out x h
              · have OW : Aside0 (rld [] (bytesOf s) = none) := ⟨by
                  rw [HSG.out, if_neg]
                  unfold ownB
                  rw [HLG.out, ← HN4.out, ← HN.out, ← HU.out, ← HZ.out]
                  simp [hui]⟩
                have t2 : ((u : Int) != (i : Int)) = true := by rw [bne_iff_ne]; omega
                have t3 : (u != i) = true := by rw [bne_iff_ne]; omega
                have t4 : ((u : Int) == (i : Int)) = false := by rw [beq_eq_false_iff_ne]; omega
                have t5 : (u == i) = false := by rw [beq_eq_false_iff_ne]; omega
                go_wp2_with fail
                go_ret2
                exact ⟨.inr ⟨OW.out, rfl⟩, B5.out⟩
            · have OW : Aside0 (rld [] (bytesOf s) = none) := ⟨by
                rw [HSG.out, if_neg]
                unfold ownB
                rw [← HN4.out, ← HN.out]
                simp [hown]⟩
              have t2 : ((n4 : Int) != (n : Int) + 1) = true := by rw [bne_iff_ne]; omega
              have t3 : (n4 != n + 1) = true := by rw [bne_iff_ne]; omega
              have t4 : ((n4 : Int) == (n : Int) + 1) = false := by rw [beq_eq_false_iff_ne]; omega
              have t5 : (n4 == n + 1) = false := by rw [beq_eq_false_iff_ne]; omega
              go_wp2_with fail
              go_ret2
              exact ⟨.inr ⟨OW.out, rfl⟩, B5.out⟩
    · have HE : Aside0 (rld [] (bytesOf s) = some gs) := ⟨by rw [HR.out, rld_end gs s (by omega)]⟩
      go_wp2_with fail
      go_ret2
      refine ⟨.inl ⟨gs, A, c, HE.out, ?_, ?_, ?_, ?_⟩, BR.out⟩
      · rw [← HN.out]; rfl
      · rw [← HN.out]; exact HC.out
      · rw [← HN.out]; exact CG.out
      · have := HA.out; omega
end Go.Proofs.Ytebbikihhkjaaaa.Hand
/- The reference's Put over segments of notes that are the call's own. -/
namespace Go.Proofs.Ytebbikihhkjaaaa.Hand
open Go.RowKit Go.Proofs.YtebbikihhkjaaaaW.PrintWords Go.Proofs.YtebbikihhkjaaaaW.PrintMore Go.Proofs.Ytebbikihhkjaaaa.PSpillBytes
theorem later {α : Type} {d : Kd α} {R : α → List Value → Prop} {w w1 : World} {A : Option Addr} {n : Nat} {xs : List α} (h : ReadsRow R d.sz w A n xs) (hb : Below w.heap.size w w1) : ReadsRow R d.sz w1 A n xs := ReadsRow.imp_ h hb (fun _ _ hp => hp)
theorem R_rows {α : Type} {d : Kd α} {e base n c : Nat} {w : World} {ok : Nat → Prop} {A : Option Addr} {xs : List α} (h : d.R e w base ok (.slice A n c) xs) : ReadsRow (d.M w base ok) d.sz w A n xs := by
  obtain ⟨h0, inner, ho, hr⟩ := h
  obtain ⟨A', c', he, h2⟩ := own_reads_row ho (hr.imp_ (fun _ _ hp => d.M_mono (fun _ hk => hk.1) hp)) rfl
  injection he with h1 h3 h4
  subst h1 h3
  exact h2
theorem Q_rows {α : Type} {d : Kd α} {e base n c : Nat} {w : World} {ok : Nat → Prop} {A : Option Addr} {xs : List α} (h : d.Q e w base ok (.slice A n c) xs) : ReadsRow (d.M w base ok) d.sz w A n xs := by
  obtain ⟨_, inner, ho, hr⟩ := h
  obtain ⟨A', c', he, hl⟩ := q_slice ho
  injection he with h1 h2 h3
  subst h1; subst h2; subst h3
  refine ⟨rfl, q_max ho, fun hp => ?_⟩
  obtain ⟨ad, ha, hc⟩ := q_cells ho hp
  refine ⟨ad, ha, fun j p hj => ⟨(inner.drop (j * d.sz)).take d.sz, ?_, d.M_mono (fun _ hk => hk.1) (hr.2 j p hj), fun i u hu => ?_⟩⟩
  · have hjl := (List.getElem?_eq_some_iff.1 hj).1
    have h1 : j * d.sz + d.sz ≤ inner.length := by rw [hr.1, ← Nat.succ_mul]; exact Nat.mul_le_mul_right _ hjl
    rw [List.length_take, List.length_drop]
    omega
  · refine hc _ u ?_
    rw [List.getElem?_take] at hu
    split at hu
    · rw [List.getElem?_drop] at hu
      exact hu
    · cases hu
def NotG (W : World) (k : Nat) : Prop := ∃ c q, W.heap[k]? = some (.cells c q (0, 0)) ∧ q ≠ 37
theorem k30_E : ∀ q ∈ 30 :: k30.E, q ≠ 37 := by
  intro q hq
  simp [k30, Kd.iso, Kd.pair, Kd.slice, Kd.int, Kd.scalar] at hq
  rcases hq with rfl | rfl <;> decide
theorem R_notG {base : Nat} {W : World} {v : Value} {xs : List S30} {ok : Nat → Prop} (h : k30.R 30 W base ok v xs) : k30.R 30 W base (fun k => ok k ∧ NotG W k) v xs :=
  Kd.R_mono (Kd.R_bound h) (fun k hk => by
    obtain ⟨ho, _, _, q, hq, cells, hc⟩ := hk
    exact ⟨ho, cells, q, hc, k30_E q hq⟩)
theorem notG_ne {base : Nat} {W : World} {v : Value} {xs : List (List S30)} {ok : Nat → Prop} (h : gK.R 37 W base ok v xs) : ∀ k, (ok k ∧ NotG W k) → ok k ∧ some k ≠ v.ownBlock := by
  rintro k ⟨ho, c, q, hc, hq⟩
  exact ⟨ho, Kd.R_ne h hc (fun e => hq e.symm)⟩
theorem note_M {W : World} {base : Nat} {ok : Nat → Prop} {nt : Nt} {A3 : Option Addr} {c3 : Nat} (hp : (Kd.int .i64).R 3 W base ok (.slice A3 nt.path.length c3) nt.path) : k30.M W base ok (toR nt) [.int .i64 nt.b, .int .i64 nt.path.length, .int .i64 nt.s, .slice A3 nt.path.length c3] :=
  k30_mkM W base ok (toR nt) hp
theorem own_one {W : World} {ok : Nat → Prop} {B base : Nat} {nt : Nt} {A3 : Option Addr} {c3 : Nat} (h : W.heap[B]? = some (.cells #[.int .i64 nt.b, .int .i64 nt.path.length, .int .i64 nt.s, .slice A3 nt.path.length c3] 30 (0, 0)))
    (hp : (Kd.int .i64).R 3 W base ok (.slice A3 nt.path.length c3) nt.path) (hB : base ≤ B) (ho : ok B) : k30.R 30 W base ok (.slice (some ⟨B, 0, none⟩) 1 1) [toR nt] := by
  refine ⟨fun k hk => (by injection hk with hk; rw [← hk]; exact ho), [.int .i64 nt.b, .int .i64 nt.path.length, .int .i64 nt.s, .slice A3 nt.path.length c3], ⟨rfl, .inr ⟨B, 1, _, rfl, hB, h, Nat.le_refl _, by unfold maxLen; omega, rfl, rfl⟩⟩, rfl, fun j p hj => ?_⟩
  cases j with
  | zero =>
    simp at hj
    subst hj
    refine note_M (Kd.R_mono (Kd.R_bound hp) (fun k hk => ⟨hk.1, fun e => ?_⟩))
    obtain ⟨_, _, _, q, hq, cells, hc⟩ := hk
    have e1 : k = B := Option.some.inj e
    rw [e1, h] at hc
    injection hc with hc
    injection hc with _ hc _
    simp [Kd.int, Kd.scalar] at hq
    rw [hq] at hc
    exact absurd hc (by decide)
  | succ j => simp at hj
theorem gM_of {W : World} {base : Nat} {v : Value} {xs : List S30} {ok : Nat → Prop} (h : k30.R 30 W base ok v xs) : gK.M W base (fun k => ok k ∧ NotG W k) xs [v] := ⟨v, rfl, R_notG h⟩

theorem int_ne {W : World} {base : Nat} {u v : Value} {xs : List S30} {ys : List Int} {ok ok' : Nat → Prop} {k : Nat} (h : k30.R 30 W base ok u xs) (h7 : (Kd.int .i64).R 3 W base ok' v ys) (hk : v.ownBlock = some k) : some k ≠ u.ownBlock := by
  obtain ⟨_, h2⟩ := Kd.R_own h7
  obtain ⟨c, hc⟩ := own_typed h2 k hk
  exact Kd.R_ne h hc (by decide)
def OPut (w : World) (b0 : Nat) (ok : Nat → Prop) (gs : List (List Nt)) (nt : Nt) (e : Ending) (w' : World) : Prop :=
  ∃ A' c', e = .returned (.slice A' (putG gs nt).length c') ∧ gK.R 37 w' b0 ok (.slice A' (putG gs nt).length c') (gr (putG gs nt)) ∧ Below w.heap.size w w'
theorem oput_end {w w8 : World} {b0 n8 c8 : Nat} {ok : Nat → Prop} {gs : List (List Nt)} {nt : Nt} {A8 : Option Addr} {xs : List (List S30)} (h : gK.R 37 w8 b0 ok (.slice A8 n8 c8) xs) (e : xs = gr (putG gs nt)) (hb : Below w.heap.size w w8) : OPut w b0 ok gs nt (.returned (.slice A8 n8 c8)) w8 := by
  have h1 := (Kd.R_reads' h).1
  rw [e, gr_len] at h1
  subst h1 e
  exact ⟨A8, c8, rfl, h, hb⟩

set_option maxHeartbeats 1000000 in
set_option maxRecDepth 100000 in
theorem oput_nil {w : World} {ok : Nat → Prop} (hf : ∀ k, w.heap.size ≤ k → ok k) (b0 : Nat) (A : Option Addr) (c : Nat) (nt : Nt) (A3 : Option Addr) (c3 : Nat) (hp : (Kd.int .i64).R 3 w b0 ok (.slice A3 nt.path.length c3) nt.path) (hok : OkNt nt) (hb0 : b0 ≤ w.heap.size) :
    Calls Try.prog 18 #[.slice A 0 c, .agg #[.int .i64 nt.b, .int .i64 nt.path.length, .int .i64 nt.s, .slice A3 nt.path.length c3]] w (OPut w b0 ok [] nt) := by
  have HR := Aside0.mk hp
  have HP := Aside0.mk (Kd.R_reads' hp).2.2
  have HC3 := Aside0.mk (Kd.R_reads' hp).2.1
  have HOK := Aside0.mk hok
  have HB0 := Aside0.mk hb0
  have HF := Aside0.mk hf
  clear hp hok hb0 hf
  obtain ⟨SB, hSB⟩ : ∃ x, x = strOfNums (encNt nt) := ⟨_, rfl⟩
  have SBZ : Aside0 (SB.size = (encNt nt).length) := ⟨by rw [hSB, strOfNums_size]⟩
  have sbz : SB.size ≤ 8222 := by rw [SBZ.out]; exact encNt_len HOK.out
  have RB := Aside0.mk (fun W hb => renc_any HP.out HC3.out HOK.out W hb)
  rw [← hSB] at RB
  clear hSB
  have hu := Try.underlying30
  go_enter Try.func18, Try.ntmps18
  go_wp2_with fail
  have B1 : Aside0 (Below w.heap.size w (w.alloc (.cells #[.int .i64 nt.b, .int .i64 nt.path.length, .int .i64 nt.s, .slice A3 nt.path.length c3] 30))) := ⟨below_alloc (Below.refl _ _) _⟩
  have K1 : Aside0 ((w.alloc (.cells #[.int .i64 nt.b, .int .i64 nt.path.length, .int .i64 nt.s, .slice A3 nt.path.length c3] 30)).heap[w.heap.size]? = some (.cells #[.int .i64 nt.b, .int .i64 nt.path.length, .int .i64 nt.s, .slice A3 nt.path.length c3] 30 (0, 0))) := ⟨heap_alloc_new w _⟩
  obtain ⟨w1, hw1⟩ : ∃ x, x = w.alloc (.cells #[.int .i64 nt.b, .int .i64 nt.path.length, .int .i64 nt.s, .slice A3 nt.path.length c3] 30) := ⟨_, rfl⟩
  rw [← hw1] at B1 K1 ⊢
  clear hw1
  refine (RB.out w1 B1.out).mono ?_
  rintro e w2 ⟨rfl, hb2⟩
  have B2 := Aside0.mk (bthen B1.out hb2)
  have K2 := Aside0.mk ((hb2.block _ (blk_lt K1.out)).trans K1.out)
  clear hb2 B1 K1
  have R0 : Aside0 (ReadsRow (gK.M w b0 ok) gK.sz w A 0 ([] : List (List S30))) := ⟨rfl, by omega, fun h => absurd h (Nat.lt_irrefl 0)⟩
  go_wp2_with (first
    | (at_builtin; refine Kd.R_append_rows gK (Rr := gK.M w b0 ok) (w0 := w) b0 rfl (.tmp 62) (.tmp 63) 49 37 (.slice none 0 0) 24 rfl Try.underlying49 info37 rfl Nat.one_pos (by omega) (.slice none 0 0) [] [] A 0 c ok ok rfl rfl (Kd.R_nil _ _ _ _ _) (later R0.out B2.out) (fun _ _ hx => Kd.M_below hx B2.out) (fun k hk => ⟨hk, by simp [Value.ownBlock]⟩) (fun k hk => HF.out k (Nat.le_trans B2.out.size hk)) (B2.out.mono HB0.out) (Nat.le_trans HB0.out B2.out.size) (by simp) ?_; intro v7 w7 ho7 _ hg7 hat7; rw [List.nil_append] at ho7; obtain ⟨A7, n7, c7, rfl, _⟩ := R_open (d := gK) ho7; have O7 := Aside0.mk ho7; have T7 := Aside0.mk hat7; have BB7 : Aside0 (Below w2.heap.size w2 w7) := ⟨⟨hg7.os, hg7.tape, hg7.output, hg7.size, fun i hi => hg7.block i hi (by simp [Value.ownBlock])⟩⟩; have B7 := Aside0.mk (bthen B2.out BB7.out); clear ho7 hat7 hg7; have K7 := Aside0.mk ((BB7.out.block _ (blk_lt K2.out)).trans K2.out); have f0 : w7.cell? ⟨w.heap.size, 0, none⟩ = some (.int .i64 nt.b) := (blk_c K7.out 0).trans rfl; have f1 : w7.cell? ⟨w.heap.size, 1, none⟩ = some (.int .i64 nt.path.length) := (blk_c K7.out 1).trans rfl; have f2 : w7.cell? ⟨w.heap.size, 2, none⟩ = some (.int .i64 nt.s) := (blk_c K7.out 2).trans rfl; have f3 : w7.cell? ⟨w.heap.size, 3, none⟩ = some (.slice A3 nt.path.length c3) := (blk_c K7.out 3).trans rfl)
    | (at_builtin; go_must (refine R_append_q gK (w0 := w) b0 rfl (.tmp 65) (.tmp 68) 49 37 (.slice none 0 0) 24 rfl Try.underlying49 info37 rfl Nat.one_pos (by omega) (.slice A7 n7 c7) [] [toR nt] [.slice (some ⟨w7.heap.size, 0, none⟩) 1 1] ok (fun k => ok k ∧ NotG (w7.alloc (.cells #[.int .i64 nt.b, .int .i64 nt.path.length, .int .i64 nt.s, .slice A3 nt.path.length c3] 30)) k) rfl (w7.heap.size + 1) rfl (by simp) (gM_of (own_one (heap_alloc_new w7 _) (Kd.R_below HR.out (B7.out.alloc B7.out.size _)) (Nat.le_trans HB0.out B7.out.size) (HF.out _ B7.out.size))) (notG_ne (Kd.R_below O7.out (below_alloc (Below.refl _ _) _))) (fun k hk => HF.out k (Nat.le_trans (B7.out.alloc B7.out.size _).size hk)) (Kd.R_below O7.out (below_alloc (Below.refl _ _) _)) ((B7.out.alloc B7.out.size _).mono HB0.out) (by have := B7.out.size; have := HB0.out; simp; omega) (by simp) ?_); intro v8 w8 ho8 hb8 hg8 hat8; have O8 := Aside0.mk ho8; have B8 : Aside0 (Below w.heap.size w w8) := ⟨pw_below_grown (B7.out.alloc B7.out.size _) _ (by have := B7.out.size; simp; omega) hg8 (fun k hk => by rcases T7.out with h | ⟨b, h, h2⟩ <;> rw [hk] at h <;> simp [Value.ownBlock] at h; have := B2.out.size; omega)⟩; clear ho8 hb8 hg8 hat8 f0 f1 f2 f3))
  go_ret
  obtain ⟨A8, n8, c8, rfl, _⟩ := R_open O8.out
  exact oput_end O8.out rfl B8.out

set_option maxHeartbeats 2000000 in
set_option maxRecDepth 100000 in
theorem oput_snoc {w : World} {ok : Nat → Prop} (hf : ∀ k, w.heap.size ≤ k → ok k) (b0 : Nat) (A : Option Addr) (c : Nat) (ini : List (List Nt)) (g : List Nt) (nt : Nt) (A3 : Option Addr) (c3 : Nat) (hr : gK.Q 37 w b0 ok (.slice A (ini ++ [g]).length c) (gr (ini ++ [g]))) (hp : (Kd.int .i64).R 3 w b0 ok (.slice A3 nt.path.length c3) nt.path) (hok : OkNt nt)
    (hokg : ∀ x ∈ g, OkNt x) (hl : ini.length ≤ 90000) (hlg : g.length ≤ 90000) (hb0 : b0 ≤ w.heap.size) :
    Calls Try.prog 18 #[.slice A (ini ++ [g]).length c, .agg #[.int .i64 nt.b, .int .i64 nt.path.length, .int .i64 nt.s, .slice A3 nt.path.length c3]] w (OPut w b0 ok (ini ++ [g]) nt) := by
  have HR := Aside0.mk hp
  have HP := Aside0.mk (Kd.R_reads' hp).2.2
  have HC3 := Aside0.mk (Kd.R_reads' hp).2.1
  have HOK := Aside0.mk hok
  have HB0 := Aside0.mk hb0
  have HF := Aside0.mk hf
  clear hp hok hb0 hf
  obtain ⟨SB, hSB⟩ : ∃ x, x = strOfNums (encNt nt) := ⟨_, rfl⟩
  have SBZ : Aside0 (SB.size = (encNt nt).length) := ⟨by rw [hSB, strOfNums_size]⟩
  have sbz : SB.size ≤ 8222 := by rw [SBZ.out]; exact encNt_len HOK.out
  have RB := Aside0.mk (fun W hb => renc_any HP.out HC3.out HOK.out W hb)
  rw [← hSB] at RB
  clear hSB
  have e : (ini ++ [g]).length = ini.length + 1 := by simp
  have h := (Kd.Q_reads' hr).2.2
  have hc := (Kd.Q_reads' hr).2.1
  rw [gr_len] at h
  have hrr := Q_rows hr
  rw [e] at h hc hrr ⊢
  obtain ⟨k, hk⟩ : ∃ k, k = ini.length := ⟨_, rfl⟩
  rw [← hk] at h hc hl hrr ⊢
  have hri : ReadsRow (gK.M w b0 ok) gK.sz w A k (gr ini) := by
    refine ⟨by rw [gr_len, hk], by have := hrr.2.1; omega, fun hpos => ?_⟩
    obtain ⟨ad, ea, hrow⟩ := hrr.2.2 (by omega)
    refine ⟨ad, ea, fun j p hj => hrow j p ?_⟩
    have hjl : j < (gr ini).length := (List.getElem?_eq_some_iff.1 hj).1
    have e2 : gr (ini ++ [g]) = gr ini ++ gr [g] := by simp [gr]
    rw [e2, List.getElem?_append_left hjl]
    exact hj
  obtain ⟨ad, ea, hrow⟩ := hrr.2.2 (by omega)
  subst ea
  obtain ⟨cs, hcl, ⟨vg, rfl, hRG⟩, hcell⟩ := hrow k (g.map toR) (by simp [gr, hk])
  obtain ⟨AG, nG, cG, rfl, _⟩ := R_open hRG
  obtain ⟨rfl, hcG, hCG⟩ := Kd.R_reads' hRG
  have fg : w.cell? (ad.add k) = some (.slice AG (g.map toR).length cG) := by
    have := hcell 0 _ rfl
    rwa [show gK.sz = 1 from rfl, Nat.mul_one, Nat.add_zero] at this
  have hrg := R_rows hRG
  rw [List.length_map] at fg hcG hCG hrg
  obtain ⟨m, hm⟩ : ∃ m, m = g.length := ⟨_, rfl⟩
  rw [← hm] at fg hcG hCG hlg hrg
  have RI := Aside0.mk hri
  have RA := Aside0.mk hrr
  have RG := Aside0.mk hrg
  have CG := Aside0.mk hCG
  have HCG := Aside0.mk hcG
  have HK := Aside0.mk hk
  have HM := Aside0.mk hm
  have FG := Aside0.mk fg
  have OKG := Aside0.mk hokg
  clear h hcG hCG hk hm fg e hokg hri hrr hrg hRG hrow hcl hcell hr
  have hgl : (encAll g).length ≤ 8222 * 90000 := Nat.le_trans (encAll_len OKG.out) (by rw [← HM.out]; omega)
  have hu := Try.underlying30
  go_enter Try.func18, Try.ntmps18
  go_wp2_with fail
  have B1 : Aside0 (Below w.heap.size w (w.alloc (.cells #[.int .i64 nt.b, .int .i64 nt.path.length, .int .i64 nt.s, .slice A3 nt.path.length c3] 30))) := ⟨below_alloc (Below.refl _ _) _⟩
  have K1 : Aside0 ((w.alloc (.cells #[.int .i64 nt.b, .int .i64 nt.path.length, .int .i64 nt.s, .slice A3 nt.path.length c3] 30)).heap[w.heap.size]? = some (.cells #[.int .i64 nt.b, .int .i64 nt.path.length, .int .i64 nt.s, .slice A3 nt.path.length c3] 30 (0, 0))) := ⟨heap_alloc_new w _⟩
  obtain ⟨w1, hw1⟩ : ∃ x, x = w.alloc (.cells #[.int .i64 nt.b, .int .i64 nt.path.length, .int .i64 nt.s, .slice A3 nt.path.length c3] 30) := ⟨_, rfl⟩
  rw [← hw1] at B1 K1 ⊢
  clear hw1
  refine (RB.out w1 B1.out).mono ?_
  rintro e w2 ⟨rfl, hb2⟩
  have B2 := Aside0.mk (bthen B1.out hb2)
  have K2 := Aside0.mk ((hb2.block _ (blk_lt K1.out)).trans K1.out)
  clear hb2 B1 K1
  have fg := pw_cell_below B2.out FG.out
  have BB2 : Aside0 (Below w2.heap.size w2 w2) := ⟨Below.refl _ _⟩
  go_wp2_with fail
  clear fg
  go_loopw [6, 8] (fun v6 v8 wr => ∃ i : Nat, i ≤ m ∧ v6 = .int .i64 (encAll (g.take i)).length ∧ v8 = .int .i64 i ∧ Aside0 (Below w2.heap.size w2 wr)) (fun _ v _ => m - (intOf v).toNat)
  case atStart => exact ⟨0, Nat.zero_le _, rfl, rfl, BB2⟩
  case round =>
    obtain ⟨i, hi, rfl, rfl, BR⟩ := hrel
    by_cases hlt : i < m
    · obtain ⟨x, hx⟩ : ∃ x, g[i]? = some x := ⟨g[i]'(by have := HM.out; omega), List.getElem?_eq_getElem _⟩
      have OKX := Aside0.mk (OKG.out x (List.mem_of_getElem? hx))
      obtain ⟨aw, B1, d1, rfl, x0, x1, x2, x3, hl1, hC1⟩ := nr_at CG.out i x hx
      have TK : Aside0 (encAll (g.take (i + 1)) = encAll (g.take i) ++ encNt x) := ⟨by rw [List.take_add_one, hx]; simp [encAll]⟩
      have RX := Aside0.mk (fun W hb => renc_any hC1 hl1 OKX.out W hb)
      obtain ⟨SX, hSX⟩ : ∃ y, y = strOfNums (encNt x) := ⟨_, rfl⟩
      rw [← hSX] at RX
      have SXZ : Aside0 (SX.size = (encNt x).length) := ⟨by rw [hSX, strOfNums_size]⟩
      have sxz : SX.size ≤ 8222 := by rw [SXZ.out]; exact encNt_len OKX.out
      obtain ⟨z, hz⟩ : ∃ z, z = (encAll (g.take i)).length := ⟨_, rfl⟩
      have hz2 : z ≤ 8222 * 90000 := by
        rw [hz]
        exact Nat.le_trans (encAll_len (fun y hy => OKG.out y (List.mem_of_mem_take hy))) (Nat.mul_le_mul_left _ (by rw [List.length_take]; omega))
      rw [← hz]
      have HZ := Aside0.mk hz
      have BW := Aside0.mk (bthen B2.out BR.out)
      have p0 := pw_cell_below BW.out x0
      have p1 := pw_cell_below BW.out x1
      have p2 := pw_cell_below BW.out x2
      have p3 := pw_cell_below BW.out x3
      clear hx x0 x1 x2 x3 hl1 hC1 hSX hz
      go_wp2_with fail
      clear p0 p1 p2 p3
      refine (RX.out _ BW.out).mono ?_
      rintro e w4 ⟨rfl, hb4⟩
      have B4 := Aside0.mk (bthen BR.out hb4)
      clear hb4
      go_wp2_with fail
      go_roundw
      case measure => simp [intOf]; omega
      case rel => exact ⟨i + 1, by omega, by rw [TK.out, List.length_append, ← HZ.out, ← SXZ.out]; go_num, by go_num, B4⟩
    · obtain rfl : i = m := by omega
      have BW := Aside0.mk (bthen B2.out BR.out)
      have KR := Aside0.mk ((BR.out.block _ (blk_lt K2.out)).trans K2.out)
      clear B2 BB2 K2
      have eg : encAll (g.take i) = encAll g := by rw [HM.out, List.take_length]
      rw [eg]
      clear eg
      obtain ⟨z, hz⟩ : ∃ z, z = (encAll g).length := ⟨_, rfl⟩
      rw [← hz] at hgl ⊢
      have HZ := Aside0.mk hz
      clear hz
      obtain ⟨w3, hw3⟩ : ∃ x, x = wr := ⟨_, rfl⟩
      rw [← hw3] at BW KR ⊢
      clear hw3 BR
      have B3 := BW
      have K3 := KR
      clear BW KR
      by_cases hfit : z + SB.size ≤ 4096
      · have t1 : decide ((z : Int) + (SB.size : Int) ≤ 4096) = true := decide_eq_true (by omega)
        go_wp2_with (first
          | (at_builtin; refine Kd.R_append_rows gK (Rr := gK.M w b0 ok) (w0 := w) b0 rfl (.tmp 44) (.tmp 49) 49 37 (.slice none 0 0) 24 rfl Try.underlying49 info37 rfl Nat.one_pos (by omega) (.slice none 0 0) [] (gr ini) (some ad) k c ok ok rfl rfl (Kd.R_nil _ _ _ _ _) (later RI.out B3.out) (fun _ _ hx => Kd.M_below hx B3.out) (fun k hk => ⟨hk, by simp [Value.ownBlock]⟩) (fun k hk => HF.out k (Nat.le_trans B3.out.size hk)) (B3.out.mono HB0.out) (Nat.le_trans HB0.out B3.out.size) (by simp; omega) ?_; intro v5 w5 ho5 _ hg5 hat5; rw [List.nil_append] at ho5; obtain ⟨A5, n5, c5, rfl, _⟩ := R_open (d := gK) ho5; have O5 := Aside0.mk ho5; have T5 := Aside0.mk hat5; have BB5 : Aside0 (Below w3.heap.size w3 w5) := ⟨⟨hg5.os, hg5.tape, hg5.output, hg5.size, fun i hi => hg5.block i hi (by simp [Value.ownBlock])⟩⟩; have B5 := Aside0.mk (bthen B3.out BB5.out); clear ho5 hat5 hg5; have K5 := Aside0.mk ((BB5.out.block _ (blk_lt K3.out)).trans K3.out))
          | (at_builtin; refine Kd.R_append_rows k30 (Rr := k30.M w b0 ok) (w0 := w) b0 rfl (.tmp 51) (.tmp 52) 37 30 (.agg #[(.int .i64 0), (.int .i64 0), (.int .i64 0), (.slice none 0 0)]) 48 rfl Try.underlying37 info30 rfl (by show 0 < 4; omega) (by omega) (.slice none 0 0) [] (g.map toR) AG i cG ok ok rfl rfl (Kd.R_nil _ _ _ _ _) (later RG.out B5.out) (fun _ _ hx => Kd.M_below hx B5.out) (fun k hk => ⟨hk, by simp [Value.ownBlock]⟩) (fun k hk => HF.out k (Nat.le_trans B5.out.size hk)) (B5.out.mono HB0.out) (Nat.le_trans HB0.out B5.out.size) (by simp; omega) ?_; intro v6 w6 ho6 _ hg6 hat6; rw [List.nil_append] at ho6; obtain ⟨A6, n6, c6, rfl, _⟩ := R_open (d := k30) ho6; have O6 := Aside0.mk ho6; have T6 := Aside0.mk hat6; have BB6 : Aside0 (Below w5.heap.size w5 w6) := ⟨⟨hg6.os, hg6.tape, hg6.output, hg6.size, fun i hi => hg6.block i hi (by simp [Value.ownBlock])⟩⟩; have B6 := Aside0.mk (bthen B5.out BB6.out); clear ho6 hat6 hg6; have K6 := Aside0.mk ((BB6.out.block _ (blk_lt K5.out)).trans K5.out); have f0 : w6.cell? ⟨w.heap.size, 0, none⟩ = some (.int .i64 nt.b) := (blk_c K6.out 0).trans rfl; have f1 : w6.cell? ⟨w.heap.size, 1, none⟩ = some (.int .i64 nt.path.length) := (blk_c K6.out 1).trans rfl; have f2 : w6.cell? ⟨w.heap.size, 2, none⟩ = some (.int .i64 nt.s) := (blk_c K6.out 2).trans rfl; have f3 : w6.cell? ⟨w.heap.size, 3, none⟩ = some (.slice A3 nt.path.length c3) := (blk_c K6.out 3).trans rfl)
          | (at_builtin; refine R_append_q k30 (w0 := w) b0 rfl (.tmp 54) (.tmp 56) 37 30 (.agg #[(.int .i64 0), (.int .i64 0), (.int .i64 0), (.slice none 0 0)]) 48 rfl Try.underlying37 info30 rfl (by show 0 < 4; omega) (by omega) (.slice A6 n6 c6) (g.map toR) (toR nt) [.int .i64 nt.b, .int .i64 nt.path.length, .int .i64 nt.s, .slice A3 nt.path.length c3] ok (fun k => ok k ∧ some k ≠ (Value.slice A6 n6 c6).ownBlock) rfl w6.heap.size rfl rfl (note_M (Kd.R_reok rfl (Kd.R_below HR.out B6.out) (fun k hk => ⟨HR.out.1 k hk, int_ne O6.out (Kd.R_below HR.out B6.out) hk⟩))) (fun k hk => hk) (fun k hk => HF.out k (Nat.le_trans B6.out.size hk)) O6.out (B6.out.mono HB0.out) (Nat.le_trans HB0.out B6.out.size) (by rw [List.length_map, ← HM.out]; omega) ?_; intro v7 w7 ho7 hb7 hg7 _; obtain ⟨A7, n7, c7, rfl, _⟩ := R_open (d := k30) ho7; have O7 := Aside0.mk ho7; have B57 : Aside0 (Below w5.heap.size w5 w7) := ⟨pw_below_grown BB6.out _ BB6.out.size hg7 (fun k hk => by rcases T6.out with h | ⟨b, h, h2⟩ <;> rw [hk] at h <;> simp [Value.ownBlock] at h; omega)⟩; clear ho7 hb7 hg7 f0 f1 f2 f3)
          | (at_builtin; go_must (refine R_append_q gK (w0 := w) b0 rfl (.tmp 58) (.tmp 60) 49 37 (.slice none 0 0) 24 rfl Try.underlying49 info37 rfl Nat.one_pos (by omega) (.slice A5 n5 c5) (gr ini) (g.map toR ++ [toR nt]) [.slice A7 n7 c7] ok (fun k => ok k ∧ NotG w7 k) rfl w7.heap.size rfl rfl (gM_of O7.out) (notG_ne (Kd.R_below O5.out B57.out)) (fun k hk => HF.out k (Nat.le_trans (Nat.le_trans B5.out.size B57.out.size) hk)) (Kd.R_below O5.out B57.out) ((below_then B5.out B5.out.size B57.out).mono HB0.out) (Nat.le_trans HB0.out (Nat.le_trans B5.out.size B57.out.size)) (by rw [gr_len, ← HK.out]; omega) ?_); intro v8 w8 ho8 hb8 hg8 hat8; have O8 := Aside0.mk ho8; have B8 : Aside0 (Below w.heap.size w w8) := ⟨pw_below_grown (below_then B5.out B5.out.size B57.out) _ (Nat.le_trans B5.out.size B57.out.size) hg8 (fun k hk => by rcases T5.out with h | ⟨b, h, h2⟩ <;> rw [hk] at h <;> simp [Value.ownBlock] at h; have := B3.out.size; omega)⟩; clear ho8 hb8 hg8 hat8))
        go_ret
        obtain ⟨A8, n8, c8, rfl, _⟩ := R_open (d := gK) O8.out
        exact oput_end O8.out (by rw [putG_snoc, if_pos (by rw [← HZ.out, ← SBZ.out]; exact hfit)]; simp [gr]) B8.out
      · have t1 : decide ((z : Int) + (SB.size : Int) ≤ 4096) = false := decide_eq_false (by omega)
        go_wp2_with (first
          | (at_builtin; refine Kd.R_append_rows gK (Rr := gK.M w b0 ok) (w0 := w) b0 rfl (.tmp 62) (.tmp 63) 49 37 (.slice none 0 0) 24 rfl Try.underlying49 info37 rfl Nat.one_pos (by omega) (.slice none 0 0) [] (gr (ini ++ [g])) (some ad) (k + 1) c ok ok rfl rfl (Kd.R_nil _ _ _ _ _) (later RA.out B3.out) (fun _ _ hx => Kd.M_below hx B3.out) (fun k hk => ⟨hk, by simp [Value.ownBlock]⟩) (fun k hk => HF.out k (Nat.le_trans B3.out.size hk)) (B3.out.mono HB0.out) (Nat.le_trans HB0.out B3.out.size) (by simp; omega) ?_; intro v7 w7 ho7 _ hg7 hat7; rw [List.nil_append] at ho7; obtain ⟨A7, n7, c7, rfl, _⟩ := R_open (d := gK) ho7; have O7 := Aside0.mk ho7; have T7 := Aside0.mk hat7; have BB7 : Aside0 (Below w3.heap.size w3 w7) := ⟨⟨hg7.os, hg7.tape, hg7.output, hg7.size, fun i hi => hg7.block i hi (by simp [Value.ownBlock])⟩⟩; have B7 := Aside0.mk (bthen B3.out BB7.out); clear ho7 hat7 hg7; have K7 := Aside0.mk ((BB7.out.block _ (blk_lt K3.out)).trans K3.out); have f0 : w7.cell? ⟨w.heap.size, 0, none⟩ = some (.int .i64 nt.b) := (blk_c K7.out 0).trans rfl; have f1 : w7.cell? ⟨w.heap.size, 1, none⟩ = some (.int .i64 nt.path.length) := (blk_c K7.out 1).trans rfl; have f2 : w7.cell? ⟨w.heap.size, 2, none⟩ = some (.int .i64 nt.s) := (blk_c K7.out 2).trans rfl; have f3 : w7.cell? ⟨w.heap.size, 3, none⟩ = some (.slice A3 nt.path.length c3) := (blk_c K7.out 3).trans rfl)
          | (at_builtin; go_must (refine R_append_q gK (w0 := w) b0 rfl (.tmp 65) (.tmp 68) 49 37 (.slice none 0 0) 24 rfl Try.underlying49 info37 rfl Nat.one_pos (by omega) (.slice A7 n7 c7) (gr (ini ++ [g])) [toR nt] [.slice (some ⟨w7.heap.size, 0, none⟩) 1 1] ok (fun k => ok k ∧ NotG (w7.alloc (.cells #[.int .i64 nt.b, .int .i64 nt.path.length, .int .i64 nt.s, .slice A3 nt.path.length c3] 30)) k) rfl (w7.heap.size + 1) rfl (by simp) (gM_of (own_one (heap_alloc_new w7 _) (Kd.R_below HR.out (B7.out.alloc B7.out.size _)) (Nat.le_trans HB0.out B7.out.size) (HF.out _ B7.out.size))) (notG_ne (Kd.R_below O7.out (below_alloc (Below.refl _ _) _))) (fun k hk => HF.out k (Nat.le_trans (B7.out.alloc B7.out.size _).size hk)) (Kd.R_below O7.out (below_alloc (Below.refl _ _) _)) ((B7.out.alloc B7.out.size _).mono HB0.out) (by have := B7.out.size; have := HB0.out; simp; omega) (by rw [gr_len]; simp [← HK.out]; omega) ?_); intro v8 w8 ho8 hb8 hg8 hat8; have O8 := Aside0.mk ho8; have B8 : Aside0 (Below w.heap.size w w8) := ⟨pw_below_grown (B7.out.alloc B7.out.size _) _ (by have := B7.out.size; simp; omega) hg8 (fun k hk => by rcases T7.out with h | ⟨b, h, h2⟩ <;> rw [hk] at h <;> simp [Value.ownBlock] at h; have := B3.out.size; omega)⟩; clear ho8 hb8 hg8 hat8 f0 f1 f2 f3))
        go_ret
        obtain ⟨A8, n8, c8, rfl, _⟩ := R_open (d := gK) O8.out
        exact oput_end O8.out (by rw [putG_snoc, if_neg (by rw [← HZ.out, ← SBZ.out]; exact hfit)]; simp [gr]) B8.out
theorem oput_any (w : World) {ok : Nat → Prop} (hf : ∀ k, w.heap.size ≤ k → ok k) (b0 : Nat) (A : Option Addr) (n c : Nat) (gs : List (List Nt)) (nt : Nt) (A3 : Option Addr) (c3 : Nat) (hr : gK.Q 37 w b0 ok (.slice A n c) (gr gs)) (hp : (Kd.int .i64).R 3 w b0 ok (.slice A3 nt.path.length c3) nt.path) (hok : OkNt nt)
    (hokg : ∀ g ∈ gs, ∀ x ∈ g, OkNt x) (hne : ∀ g ∈ gs, g ≠ []) (hl : gs.flatten.length ≤ 90000) (hb0 : b0 ≤ w.heap.size) :
    Calls Try.prog 18 #[.slice A n c, .agg #[.int .i64 nt.b, .int .i64 nt.path.length, .int .i64 nt.s, .slice A3 nt.path.length c3]] w (OPut w b0 ok gs nt) := by
  have h0 := (Kd.Q_reads' hr).1
  rw [gr_len] at h0
  subst h0
  rcases snoc_cases gs with rfl | ⟨i, g, rfl⟩
  · exact oput_nil hf b0 A c nt A3 c3 hp hok hb0
  · have h1 := len_flat hne
    rw [List.length_append, List.length_singleton] at h1
    have h2 : (i ++ [g]).flatten.length = i.flatten.length + g.length := by simp
    exact oput_snoc hf b0 A c i g nt A3 c3 hr hp hok (hokg g (by simp)) (by omega) (by omega) hb0
end Go.Proofs.Ytebbikihhkjaaaa.Hand
