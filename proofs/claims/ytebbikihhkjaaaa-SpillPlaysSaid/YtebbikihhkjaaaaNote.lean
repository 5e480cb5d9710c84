/- note. -/
import Derived.Test.YtebbikihhkjaaaaEnc
import Derived.Deep.RegionHeld3
import Derived.RegionTactic
import Derived.BigRegion
import Derived.Deep.DeepCutAuto
import Derived.Deep.CutBlock
namespace Go.Proofs.Ytebbikihhkjaaaa.Hand
open Go.RowKit Go.Proofs.YtebbikihhkjaaaaW.PrintWords Go.Proofs.YtebbikihhkjaaaaW.PrintMore
attribute [local go_sem] max2_int min2_int max_two min_two

theorem info3n : (Try.prog.info? 3).map (fun i => (i.zero, i.size, i.bytes)) = some (some (.int .i64 0), 1, 8) := by kernel_rfl
/-- So many times. -/
def rep : Nat → List Int → List Int
  | 0, _ => []
  | k + 1, l => rep k l ++ l
theorem rep_len (k : Nat) (l : List Int) : (rep k l).length = k * l.length := by
  induction k with
  | zero => simp [rep]
  | succ k ih => simp [rep, ih, Nat.add_mul]
def fixP (x : Int) : Int := (if 0 < x then x else 0) % 4097
def mapTo (k : Nat) (l : List Int) : List Int := (l.take k).map fixP ++ l.drop k
theorem mapTo_len (k : Nat) (l : List Int) : (mapTo k l).length = l.length := by simp [mapTo]; omega
theorem mapTo_rd {k : Nat} {l : List Int} (h : k < l.length) : rdOf 0 (mapTo k l) k = l[k] := by
  simp [rdOf, mapTo, List.getD_eq_getElem?_getD]
  rw [List.getElem?_append_right (by rw [List.length_take]; exact Nat.min_le_left _ _)]
  simp
  rw [Nat.min_eq_left (by omega)]
  simp [h]
theorem mapTo_set {k : Nat} {l : List Int} (h : k < l.length) : (mapTo k l).set k (fixP l[k]) = mapTo (k + 1) l := by
  unfold mapTo
  rw [List.take_succ_eq_append_getElem h, List.map_append, List.append_assoc]
  rw [List.set_append_right _ _ (by rw [List.length_map, List.length_take]; exact Nat.min_le_left _ _)]
  congr 1
  have : min k l.length = k := Nat.min_eq_left (by omega)
  simp only [List.length_map, List.length_take, this, Nat.sub_self]
  rw [List.drop_eq_getElem_cons h]
  rfl
theorem mapTo_all (l : List Int) : mapTo l.length l = l.map fixP := by simp [mapTo]
theorem mapTo_zero (l : List Int) : mapTo 0 l = l := by simp [mapTo]

def box24 (b d sq tm : Int) (rt : Bool) (v : Value) : Obj := .cells #[.int .i64 b, .int .i64 d, .int .i64 sq, v, .int .u8 tm, .bool rt] 24
def zero28 : Obj := .cells #[.int .i64 0, .int .i64 0, .int .i64 0, .slice none 0 0] 28
def zero30 : Obj := .cells #[.int .i64 0, .int .i64 0, .int .i64 0, .slice none 0 0] 30
def NW (w : World) (b d sq tm : Int) (rt : Bool) (v : Value) : World := ((w.alloc (box24 b d sq tm rt v)).alloc zero28).alloc zero30
theorem NW_size (w : World) (b d sq tm : Int) (rt : Bool) (v : Value) : (NW w b d sq tm rt v).heap.size = w.heap.size + 3 := by simp [NW]
theorem NW_0 {w wr : World} {b d sq tm : Int} {rt : Bool} {v : Value} (h : Below (w.heap.size + 3) (NW w b d sq tm rt v) wr) : wr.heap[w.heap.size]? = some (.cells #[.int .i64 b, .int .i64 d, .int .i64 sq, v, .int .u8 tm, .bool rt] 24 (0, 0)) := by
  rw [h.block _ (by omega)]
  unfold NW
  rw [Below.heap_alloc _ _ _ (by simp; omega), Below.heap_alloc _ _ _ (by simp)]
  exact heap_alloc_new w _
theorem NW_1 {w wr : World} {b d sq tm : Int} {rt : Bool} {v : Value} (h : Below (w.heap.size + 3) (NW w b d sq tm rt v) wr) : wr.heap[w.heap.size + 1]? = some (.cells #[.int .i64 0, .int .i64 0, .int .i64 0, .slice none 0 0] 28 (0, 0)) := by
  rw [h.block _ (by omega)]
  unfold NW
  rw [Below.heap_alloc _ _ _ (by simp)]
  have := heap_alloc_new (w.alloc (box24 b d sq tm rt v)) zero28
  rw [World.size_alloc] at this
  exact this
theorem NW_2 {w wr : World} {b d sq tm : Int} {rt : Bool} {v : Value} (h : Below (w.heap.size + 3) (NW w b d sq tm rt v) wr) : wr.heap[w.heap.size + 1 + 1]? = some (.cells #[.int .i64 0, .int .i64 0, .int .i64 0, .slice none 0 0] 30 (0, 0)) := by
  rw [h.block _ (by omega)]
  unfold NW
  have := heap_alloc_new ((w.alloc (box24 b d sq tm rt v)).alloc zero28) zero30
  rw [World.size_alloc, World.size_alloc] at this
  exact this
theorem NW_below {w wr : World} {b d sq tm : Int} {rt : Bool} {v : Value} (h : Below (w.heap.size + 3) (NW w b d sq tm rt v) wr) : Below w.heap.size w wr := by
  have h0 : Below w.heap.size w (NW w b d sq tm rt v) := below_alloc (below_alloc (below_alloc (Below.refl _ _) _) _) _
  exact h0.trans (h.mono (by omega))
theorem blk_c {w : World} {g : Nat} {cs : Array Value} {t : TypeId} {m : Nat × Nat} (h : w.heap[g]? = some (.cells cs t m)) (j : Nat) : w.cell? ⟨g, j, none⟩ = cs[j]? := by simp [World.cell?, h]
theorem blk_f {w : World} {g : Nat} {cs : Array Value} {t : TypeId} (h : w.heap[g]? = some (.cells cs t (0, 0))) (j : Nat) : w.frozen? ⟨g, j, none⟩ = false := by simp [World.frozen?, h]

theorem far1 {w : World} {p : Addr} {u v : Value} {g j : Nat} (h : w.cell? ⟨g, j, none⟩ = some v) (hp : g ≠ p.block) : (w.setCell p u).cell? ⟨g, j, none⟩ = some v := (cell_far hp u).trans h
theorem cell_drew (w : World) (a : Addr) : w.drew.cell? a = w.cell? a := rfl
theorem far8 {w : World} {g j : Nat} {v u0 u1 u2 u3 u4 u5 u6 u7 : Value} (h : w.cell? ⟨g, j, none⟩ = some v) :
    ((((((((w.setCell ⟨g + 1, 0, none⟩ u0).setCell ⟨g + 1, 1, none⟩ u1).setCell ⟨g + 1, 2, none⟩ u2).setCell ⟨g + 1, 3, none⟩ u3).setCell ⟨g + 1 + 1, 0, none⟩ u4).setCell ⟨g + 1 + 1, 1, none⟩ u5).setCell ⟨g + 1 + 1, 2, none⟩ u6).setCell ⟨g + 1 + 1, 3, none⟩ u7).drew.cell? ⟨g, j, none⟩ = some v := by
  rw [cell_drew]
  have h1 : g ≠ g + 1 := by omega
  have h2 : g ≠ g + 1 + 1 := by omega
  exact far1 (far1 (far1 (far1 (far1 (far1 (far1 (far1 h h1) h1) h1) h1) h2) h2) h2) h2

def noteP (m t : Nat) (rt : Bool) (l : List Int) : List Int := if rt = true then (rep (1 + t % 40) (l.take m)).map fixP else rep (1 + t % 40) (l.take m)
def noteD (d : Int) (rt : Bool) (p : List Int) : Int := if rt = true then (p.length : Int) else d
structure NoteMid (w wc : World) (b d' sq tm : Int) (rt : Bool) (v v4 : Value) (p : List Int) : Prop where
  b0 : wc.heap[w.heap.size]? = some (.cells #[.int .i64 b, .int .i64 d', .int .i64 sq, v, .int .u8 tm, .bool rt] 24 (0, 0))
  b1 : wc.heap[w.heap.size + 1]? = some (.cells #[.int .i64 0, .int .i64 0, .int .i64 0, .slice none 0 0] 28 (0, 0))
  b2 : wc.heap[w.heap.size + 1 + 1]? = some (.cells #[.int .i64 0, .int .i64 0, .int .i64 0, .slice none 0 0] 30 (0, 0))
  row : Kd.R (Kd.int .i64) 3 wc (w.heap.size + 3) (fun k => w.heap.size + 3 ≤ k) v4 p
  bel : Below w.heap.size w wc

theorem R_some {α : Type} {d : Kd α} {e base : Nat} {w : World} {ok : Nat → Prop} {A : Option Addr} {n c : Nat} {xs : List α} (h : d.R e w base ok (.slice A n c) xs) (h0 : 0 < n) : ∃ g, A = some ⟨g, 0, none⟩ := by
  obtain ⟨inner, ho⟩ := Kd.R_own h
  have hl := (Kd.R_reads' h).1
  rcases ho.2 with ⟨_, h1⟩ | ⟨g, cap, cur, hv, _⟩
  · omega
  · injection hv with hv _ _
    exact ⟨g, hv⟩
theorem NoteMid.store {w wc : World} {b d' sq tm : Int} {rt : Bool} {v : Value} {g n c : Nat} {p : List Int} (h : NoteMid w wc b d' sq tm rt v (.slice (some ⟨g, 0, none⟩) n c) p) (k : Nat) (x : Int) : NoteMid w (wc.setCell ⟨g, k, none⟩ (.int .i64 x)) b d' sq tm rt v (.slice (some ⟨g, 0, none⟩) n c) (p.set k x) := by
  have hg : w.heap.size + 3 ≤ g := h.row.1 g rfl
  have e := Kd.R_putn h.row (k : Int) x
  rw [Int.toNat_natCast] at e
  exact ⟨by rw [Below.heap_setCell _ _ _ _ (by simp only; omega)]; exact h.b0, by rw [Below.heap_setCell _ _ _ _ (by simp only; omega)]; exact h.b1, by rw [Below.heap_setCell _ _ _ _ (by simp only; omega)]; exact h.b2, e, h.bel.setCell (by simp only; omega) _⟩

def st8 (wc : World) (g : Nat) (b d' sq : Int) (v : Value) : World :=
  ((((((((wc.setCell ⟨g + 1, 0, none⟩ (.int .i64 b)).setCell ⟨g + 1, 1, none⟩ (.int .i64 d')).setCell ⟨g + 1, 2, none⟩ (.int .i64 sq)).setCell ⟨g + 1, 3, none⟩ v).setCell ⟨g + 1 + 1, 0, none⟩ (.int .i64 b)).setCell ⟨g + 1 + 1, 1, none⟩ (.int .i64 d')).setCell ⟨g + 1 + 1, 2, none⟩ (.int .i64 sq)).setCell ⟨g + 1 + 1, 3, none⟩ v).drew
theorem heap_drew (w : World) : w.drew.heap = w.heap := rfl
theorem st8_far (wc : World) (g : Nat) (b d' sq : Int) (v : Value) (k : Nat) (h1 : k ≠ g + 1) (h2 : k ≠ g + 1 + 1) : (st8 wc g b d' sq v).heap[k]? = wc.heap[k]? := by
  unfold st8
  rw [heap_drew]
  rw [Below.heap_setCell _ _ _ _ h2, Below.heap_setCell _ _ _ _ h2, Below.heap_setCell _ _ _ _ h2, Below.heap_setCell _ _ _ _ h2]
  rw [Below.heap_setCell _ _ _ _ h1, Below.heap_setCell _ _ _ _ h1, Below.heap_setCell _ _ _ _ h1, Below.heap_setCell _ _ _ _ h1]
theorem st8_below {w wc : World} (h : Below w.heap.size w wc) (b d' sq : Int) (v : Value) : Below w.heap.size w (st8 wc w.heap.size b d' sq v) := by
  have h1 : w.heap.size ≤ w.heap.size + 1 := by omega
  have h2 : w.heap.size ≤ w.heap.size + 1 + 1 := by omega
  exact Below.drew (Below.setCell (Below.setCell (Below.setCell (Below.setCell (Below.setCell (Below.setCell (Below.setCell (Below.setCell h h1 _) h1 _) h1 _) h1 _) h2 _) h2 _) h2 _) h2 _)
theorem st8_1 {wc : World} {g : Nat} {b d' sq : Int} {v : Value} (h : wc.heap[g + 1]? = some (.cells #[.int .i64 0, .int .i64 0, .int .i64 0, .slice none 0 0] 28 (0, 0))) :
    (st8 wc g b d' sq v).heap[g + 1]? = some (.cells #[.int .i64 b, .int .i64 d', .int .i64 sq, v] 28 (0, 0)) := by
  unfold st8
  have h1 := blk_put h 0 (.int .i64 b) rfl
  have h2 := blk_put h1 1 (.int .i64 d') rfl
  have h3 := blk_put h2 2 (.int .i64 sq) rfl
  have h4 := blk_put h3 3 v rfl
  have hne : ∀ (W : World) (j : Nat) (u : Value), (W.setCell ⟨g + 1 + 1, j, none⟩ u).heap[g + 1]? = W.heap[g + 1]? := fun W j u => Below.heap_setCell W _ u _ (by simp)
  rw [heap_drew, hne, hne, hne, hne]
  exact h4
theorem st8_2 {wc : World} {g : Nat} {b d' sq : Int} {v : Value} (h : wc.heap[g + 1 + 1]? = some (.cells #[.int .i64 0, .int .i64 0, .int .i64 0, .slice none 0 0] 30 (0, 0))) :
    (st8 wc g b d' sq v).heap[g + 1 + 1]? = some (.cells #[.int .i64 b, .int .i64 d', .int .i64 sq, v] 30 (0, 0)) := by
  have hne : ∀ (W : World) (j : Nat) (u : Value), (W.setCell ⟨g + 1, j, none⟩ u).heap[g + 1 + 1]? = W.heap[g + 1 + 1]? := fun W j u => Below.heap_setCell W _ u _ (by simp)
  have h0 : ((((wc.setCell ⟨g + 1, 0, none⟩ (.int .i64 b)).setCell ⟨g + 1, 1, none⟩ (.int .i64 d')).setCell ⟨g + 1, 2, none⟩ (.int .i64 sq)).setCell ⟨g + 1, 3, none⟩ v).heap[g + 1 + 1]? = some (.cells #[.int .i64 0, .int .i64 0, .int .i64 0, .slice none 0 0] 30 (0, 0)) := by
    rw [hne, hne, hne, hne]; exact h
  have h1 := blk_put h0 0 (.int .i64 b) rfl
  have h2 := blk_put h1 1 (.int .i64 d') rfl
  have h3 := blk_put h2 2 (.int .i64 sq) rfl
  have h4 := blk_put h3 3 v rfl
  unfold st8
  rw [heap_drew]
  exact h4

set_option maxHeartbeats 1000000 in
set_option maxRecDepth 100000 in
theorem note_any (b d sq tm : Int) (rt : Bool) (A : Option Addr) (c : Nat) (l : List Int) (w : World) (h : Kd.C (Kd.int .i64) w A l.length l) (hc : l.length ≤ c) (ht0 : 0 ≤ tm) (ht1 : tm ≤ 255) (hl : l.length ≤ 17592186044416) :
    Calls Try.prog 9 #[.agg #[.int .i64 b, .int .i64 d, .int .i64 sq, .slice A l.length c, .int .u8 tm, .bool rt]] w fun e w' => ∃ (A4 : Option Addr) (n4 c4 : Nat) (p : List Int) (d' : Int), e = .returned (.tuple #[.agg #[.int .i64 b, .int .i64 d', .int .i64 sq, .slice A4 n4 c4], .agg #[.int .i64 b, .int .i64 d', .int .i64 sq, .slice A4 n4 c4]]) ∧
      p = noteP (min l.length 40) tm.toNat rt l ∧ d' = noteD d rt p ∧ Kd.R (Kd.int .i64) 3 w' w.heap.size (fun _ => True) (.slice A4 n4 c4) p ∧ Below w.heap.size w w' := by
  have H := Aside0.mk h
  clear h
  have hu := Try.underlying24
  have hu2 := Try.underlying28
  have hu3 := Try.underlying30
  obtain ⟨n, hn⟩ : ∃ n, n = l.length := ⟨_, rfl⟩
  rw [← hn] at hc hl ⊢
  have HN := Aside0.mk hn
  clear hn
  obtain ⟨m, hm⟩ : ∃ m : Nat, m = min n 40 := ⟨_, rfl⟩
  have hm1 : m ≤ 40 := by omega
  have hm2 : m ≤ n := by omega
  have hmn : (if (40 : Int) < (n : Int) then (40 : Int) else (n : Int)) = (m : Int) := by split <;> omega
  have HM := Aside0.mk hm
  clear hm
  obtain ⟨t, ht⟩ : ∃ t : Nat, tm = t := ⟨tm.toNat, by omega⟩
  subst ht
  have htr : t % 40 ≤ 39 := by omega
  go_enter Try.func9, Try.ntmps9
  go_wp2_with fail
  clear hmn
  have HMN := Aside0.mk hm2
  have HLM : Aside0 ((l.take m).length = m) := ⟨by rw [List.length_take]; have := HN.out; omega⟩
  go_loopw [4, 19] (fun v4 i wr => ∃ (k : Nat) (A4 : Option Addr) (n4 c4 : Nat), k ≤ 1 + t % 40 ∧ v4 = .slice A4 n4 c4 ∧ i = .int .i64 k ∧ Aside0 (Kd.R (Kd.int .i64) 3 wr (w.heap.size + 3) (fun k => w.heap.size + 3 ≤ k) (.slice A4 n4 c4) (rep k (l.take m))) ∧ Aside0 (Below (w.heap.size + 3) (NW w b d sq t rt (.slice A m c)) wr)) (fun _ i _ => 1 + t % 40 - (intOf i).toNat)
  case atStart => exact ⟨0, none, 0, 0, Nat.zero_le _, rfl, rfl, ⟨Kd.R_nil _ _ _ _ _⟩, ⟨Below.refl _ _⟩⟩
  case round =>
    obtain ⟨k, A4, n4, c4, hk, rfl, rfl, O4, B4⟩ := hrel
    by_cases hlt : k < 1 + t % 40
    · have f3 := (blk_c (NW_0 B4.out) 3).trans rfl
      have HR := Aside0.mk (Kd.C_below (Kd.C_take H.out (by rw [← HN.out]; exact HMN.out)) (NW_below B4.out))
      rw [HLM.out] at HR
      have HLN : Aside0 (((rep k (l.take m)).length + m) * 8 ≤ 140737488355328) := ⟨by
        rw [rep_len, HLM.out]
        have : k * m ≤ 40 * 40 := Nat.mul_le_mul (by omega) hm1
        omega⟩
      have HSZ := Aside0.mk B4.out.size
      rw [NW_size] at HSZ
      go_wp2_with (at_builtin; refine Kd.R_append_row (Value.int .i64) (0 : Int) (h1 := fun _ => rfl) (w0 := NW w b d sq t rt (.slice A m c)) (w.heap.size + 3) rfl _ _ 22 3 (.int .i64 0) 8 rfl Try.underlying22 info3n rfl (by omega) (.slice A4 n4 c4) (rep k (l.take m)) (l.take m) A m c (fun k => w.heap.size + 3 ≤ k) rfl rfl (fun _ h => Nat.le_trans HSZ.out h) O4.out HR.out B4.out HSZ.out HLN.out ?_; intro v7 w7 ho7 hb7 _ _; obtain ⟨A7, n7, c7, rfl, _⟩ := R_open ho7; have O7 := Aside0.mk ho7; have B7 := Aside0.mk hb7; clear ho7 hb7 f3)
      go_roundw
      case rel => exact ⟨k + 1, _, _, _, by omega, rfl, by go_num, O7, B7⟩
      case measure => simp [intOf]; omega
    · obtain rfl : k = 1 + t % 40 := by omega
      have f5 : wr.cell? ⟨w.heap.size, 5, none⟩ = some (.bool rt) := (blk_c (NW_0 B4.out) 5).trans rfl
      go_upto_if 27 with (fail)
      clear f5
      go_cut [] (fun wc => Aside0 (NoteMid w wc b (noteD d rt (noteP m t rt l)) sq t rt (.slice A m c) (.slice A4 n4 c4) (noteP m t rt l)))
      case first =>
        have f1 := (blk_c (NW_0 B4.out) 1).trans rfl
        have g1 := blk_f (NW_0 B4.out) 1
        cases rt with
        | false =>
          go_wp2_with fail
          go_meet
          case rel => exact ⟨⟨NW_0 B4.out, NW_1 B4.out, NW_2 B4.out, O4.out, NW_below B4.out⟩⟩
        | true =>
          go_wp2_with fail
          clear f1 g1
          have hn4 : Aside0 (n4 = (rep (1 + t % 40) (l.take m)).length) := ⟨(Kd.R_reads' O4.out).1⟩
          have hn4b : n4 ≤ 1600 := by
            rw [hn4.out, rep_len, HLM.out]
            have : (1 + t % 40) * m ≤ 40 * 40 := Nat.mul_le_mul (by omega) hm1
            omega
          go_loopw [33] (fun i wx => ∃ k : Nat, k ≤ n4 ∧ i = .int .i64 k ∧ Aside0 (NoteMid w wx b n4 sq t true (.slice A m c) (.slice A4 n4 c4) (mapTo k (rep (1 + t % 40) (l.take m))))) (fun i _ => n4 - (intOf i).toNat)
          case atStart => exact ⟨0, Nat.zero_le _, rfl, ⟨blk_put (NW_0 B4.out) 1 _ rfl, by rw [Below.heap_setCell _ _ _ _ (by simp)]; exact NW_1 B4.out, by rw [Below.heap_setCell _ _ _ _ (by simp only; omega)]; exact NW_2 B4.out, by rw [mapTo_zero]; exact Kd.R_far O4.out (fun k hk => by simp only at hk ⊢; omega) _, (NW_below B4.out).setCell (Nat.le_refl _) _⟩⟩
          case round =>
            obtain ⟨k, hk, rfl, M⟩ := hrel
            by_cases hlt : k < n4
            · obtain ⟨g, rfl⟩ := R_some M.out.row (by omega)
              have hlt2 : k < (rep (1 + t % 40) (l.take m)).length := by rw [← hn4.out]; exact hlt
              have hc := Kd.R_celln (d := (0 : Int)) M.out.row (k : Int) (by omega) (by omega)
              obtain ⟨hc1, hc2⟩ := hc
              rw [Int.toNat_natCast, mapTo_rd hlt2] at hc1
              rw [Int.toNat_natCast] at hc2
              have hset := Aside0.mk (mapTo_set hlt2)
              have hst := fun x => M.out.store k x
              generalize (rep (1 + t % 40) (l.take m))[k] = q at hc1 hset
              obtain ⟨z, hz⟩ : ∃ z : Nat, (if (0 : Int) < q then q else 0) = (z : Int) := ⟨(if (0 : Int) < q then q else 0).toNat, by split <;> omega⟩
              have HF : Aside0 (fixP q = (z : Int) % 4097) := ⟨by unfold fixP; rw [hz]⟩
              have HST := Aside0.mk hst
              clear hst
              go_wp2
              clear hc1 hc2 hz
              go_roundw
              case rel =>
                refine ⟨k + 1, by omega, by go_num, ⟨?_⟩⟩
                rw [← hset.out, HF.out]
                exact HST.out _
              case measure => simp [intOf]; omega
            · obtain rfl : k = n4 := by omega
              go_wp2
              go_meet
              case rel =>
                refine ⟨?_⟩
                have e1 : noteP m t true l = mapTo k (rep (1 + t % 40) (l.take m)) := by
                  unfold noteP
                  rw [if_pos rfl, hn4.out, mapTo_all]
                have e2 : noteD d true (noteP m t true l) = (k : Int) := by
                  unfold noteD
                  rw [if_pos rfl, e1, mapTo_len, hn4.out]
                rw [e2, e1]
                exact M.out
      case rest =>
        have M := hcut
        clear hcut
        have hP : Aside0 ((noteP m t rt l).length ≤ 1600) := ⟨by
          have : (1 + t % 40) * m ≤ 40 * 40 := Nat.mul_le_mul (by omega) hm1
          unfold noteP
          split <;> simp only [List.length_map, rep_len, HLM.out] <;> omega⟩
        obtain ⟨p, hp⟩ : ∃ p, p = noteP m t rt l := ⟨_, rfl⟩
        rw [← hp] at M hP
        obtain ⟨d', hd'⟩ : ∃ d', d' = noteD d rt p := ⟨_, rfl⟩
        rw [← hd'] at M
        have HP := Aside0.mk hp
        have HD := Aside0.mk hd'
        clear hp hd'
        have f0 : wc.cell? ⟨w.heap.size, 0, none⟩ = some (.int .i64 b) := (blk_c M.out.b0 0).trans rfl
        have f1 : wc.cell? ⟨w.heap.size, 1, none⟩ = some (.int .i64 d') := (blk_c M.out.b0 1).trans rfl
        have f2 : wc.cell? ⟨w.heap.size, 2, none⟩ = some (.int .i64 sq) := (blk_c M.out.b0 2).trans rfl
        have a0 : wc.cell? ⟨w.heap.size + 1, 0, none⟩ = some (.int .i64 0) := (blk_c M.out.b1 0).trans rfl
        have a1 : wc.cell? ⟨w.heap.size + 1, 1, none⟩ = some (.int .i64 0) := (blk_c M.out.b1 1).trans rfl
        have a2 : wc.cell? ⟨w.heap.size + 1, 2, none⟩ = some (.int .i64 0) := (blk_c M.out.b1 2).trans rfl
        have a3 : wc.cell? ⟨w.heap.size + 1, 3, none⟩ = some (.slice none 0 0) := (blk_c M.out.b1 3).trans rfl
        have a4 := fun j => blk_f M.out.b1 j
        have b0 : wc.cell? ⟨w.heap.size + 1 + 1, 0, none⟩ = some (.int .i64 0) := (blk_c M.out.b2 0).trans rfl
        have b1 : wc.cell? ⟨w.heap.size + 1 + 1, 1, none⟩ = some (.int .i64 0) := (blk_c M.out.b2 1).trans rfl
        have b2 : wc.cell? ⟨w.heap.size + 1 + 1, 2, none⟩ = some (.int .i64 0) := (blk_c M.out.b2 2).trans rfl
        have b3 : wc.cell? ⟨w.heap.size + 1 + 1, 3, none⟩ = some (.slice none 0 0) := (blk_c M.out.b2 3).trans rfl
        have b4 := fun j => blk_f M.out.b2 j
        have HF := Aside0.mk (st8_far wc w.heap.size b d' sq (.slice A4 n4 c4))
        have HFB := Aside0.mk (st8_below M.out.bel b d' sq (.slice A4 n4 c4))
        have HF1 := Aside0.mk (st8_1 (b := b) (d' := d') (sq := sq) (v := .slice A4 n4 c4) M.out.b1)
        have HF2 := Aside0.mk (st8_2 (b := b) (d' := d') (sq := sq) (v := .slice A4 n4 c4) M.out.b2)
        unfold st8 at HF HFB HF1 HF2
        go_wp2_with fail
        go_region
        clear f0 f1 f2 a0 a1 a2 a3 a4 b0 b1 b2 b3 b4
        generalize ((((((((wc.setCell ⟨w.heap.size + 1, 0, none⟩ (.int .i64 b)).setCell ⟨w.heap.size + 1, 1, none⟩ (.int .i64 d')).setCell ⟨w.heap.size + 1, 2, none⟩ (.int .i64 sq)).setCell ⟨w.heap.size + 1, 3, none⟩ (.slice A4 n4 c4)).setCell ⟨w.heap.size + 1 + 1, 0, none⟩ (.int .i64 b)).setCell ⟨w.heap.size + 1 + 1, 1, none⟩ (.int .i64 d')).setCell ⟨w.heap.size + 1 + 1, 2, none⟩ (.int .i64 sq)).setCell ⟨w.heap.size + 1 + 1, 3, none⟩ (.slice A4 n4 c4)).drew = wf at HF HFB HF1 HF2 ⊢
        have q0 : wf.cell? ⟨w.heap.size + 1, 0, none⟩ = some (.int .i64 b) := (blk_c HF1.out 0).trans rfl
        have q1 : wf.cell? ⟨w.heap.size + 1, 1, none⟩ = some (.int .i64 d') := (blk_c HF1.out 1).trans rfl
        have q2 : wf.cell? ⟨w.heap.size + 1, 2, none⟩ = some (.int .i64 sq) := (blk_c HF1.out 2).trans rfl
        have q3 : wf.cell? ⟨w.heap.size + 1, 3, none⟩ = some (.slice A4 n4 c4) := (blk_c HF1.out 3).trans rfl
        have r0 : wf.cell? ⟨w.heap.size + 1 + 1, 0, none⟩ = some (.int .i64 b) := (blk_c HF2.out 0).trans rfl
        have r1 : wf.cell? ⟨w.heap.size + 1 + 1, 1, none⟩ = some (.int .i64 d') := (blk_c HF2.out 1).trans rfl
        have r2 : wf.cell? ⟨w.heap.size + 1 + 1, 2, none⟩ = some (.int .i64 sq) := (blk_c HF2.out 2).trans rfl
        have r3 : wf.cell? ⟨w.heap.size + 1 + 1, 3, none⟩ = some (.slice A4 n4 c4) := (blk_c HF2.out 3).trans rfl
        go_wp2_with fail
        refine bodyPost_ret (v := .tuple #[.agg #[.int .i64 b, .int .i64 d', .int .i64 sq, .slice A4 n4 c4], .agg #[.int .i64 b, .int .i64 d', .int .i64 sq, .slice A4 n4 c4]]) (by simp [results, Try.results9, go_sem, q0, q1, q2, q3, r0, r1, r2, r3]) rfl ?_
        refine ⟨A4, n4, c4, p, d', rfl, by rw [HP.out, HM.out]; rfl, HD.out, ?_, HFB.out⟩
        exact Kd.R_mono (Kd.R_step (Kd.R_lower M.out.row (by omega)) (fun k hk _ => HF.out k (by omega) (by omega))) (fun _ _ => trivial)
end Go.Proofs.Ytebbikihhkjaaaa.Hand
