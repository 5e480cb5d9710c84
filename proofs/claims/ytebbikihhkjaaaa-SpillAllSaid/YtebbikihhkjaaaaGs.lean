/- A log as segments of notes, in plain Lean; its blocks' types. -/
import Derived.Test.YtebbikihhkjaaaaTake0
import Derived.Test.YtebbikihhkjaaaaSegs
import Derived.Test.YtebbikihhkjaaaaIn
namespace Go.Proofs.Ytebbikihhkjaaaa.Hand
open Go.RowKit Go.Proofs.YtebbikihhkjaaaaW.PrintWords Go.Proofs.YtebbikihhkjaaaaW.PrintMore
def contG (gs : List (List Nt)) : List (List Int × Nat) := gs.map fun g => (encAll g, g.length)
def putG (gs : List (List Nt)) (n : Nt) : List (List Nt) :=
  match gs.getLast? with
  | some g => if (encAll g).length + (encNt n).length ≤ 4096 then gs.dropLast ++ [g ++ [n]] else gs ++ [[n]]
  | none => [[n]]
theorem putG_snoc (i : List (List Nt)) (g : List Nt) (n : Nt) : putG (i ++ [g]) n = if (encAll g).length + (encNt n).length ≤ 4096 then i ++ [g ++ [n]] else i ++ [g] ++ [[n]] := by simp [putG]
theorem snoc_cases {α : Type} (l : List α) : l = [] ∨ ∃ i x, l = i ++ [x] := by
  rcases List.eq_nil_or_concat l with h | ⟨i, x, h⟩
  · exact .inl h
  · exact .inr ⟨i, x, by rw [h, List.concat_eq_append]⟩
theorem putC_G (gs : List (List Nt)) (n : Nt) : putC (contG gs) (encNt n) = contG (putG gs n) := by
  rcases snoc_cases gs with rfl | ⟨i, g, rfl⟩
  · simp [putC, contG, putG, encAll]
  · rw [putG_snoc]
    by_cases h : (encAll g).length + (encNt n).length ≤ 4096
    · rw [if_pos h]
      simp [putC, contG, h, encAll_snoc]
    · rw [if_neg h]
      have e : encAll [n] = encNt n := by simp [encAll]
      simp [putC, contG, h, e]
theorem putG_flat (gs : List (List Nt)) (n : Nt) : (putG gs n).flatten = gs.flatten ++ [n] := by
  rcases snoc_cases gs with rfl | ⟨i, g, rfl⟩
  · simp [putG]
  · rw [putG_snoc]
    split <;> simp
theorem putG_ne {gs : List (List Nt)} (h : ∀ g ∈ gs, g ≠ []) (n : Nt) : ∀ g ∈ putG gs n, g ≠ [] := by
  rcases snoc_cases gs with rfl | ⟨i, g, rfl⟩
  · simp [putG]
  · rw [putG_snoc]
    intro x hx
    split at hx
    · rcases List.mem_append.1 hx with h1 | h1
      · exact h x (by simp [h1])
      · simp at h1
        subst h1
        simp
    · simp at hx
      rcases hx with h1 | rfl | rfl
      · exact h x (by simp [h1])
      · exact h x (by simp)
      · simp
/-- No segment is longer than 4096, but where one note alone is. -/
def Fit (g : List Nt) : Prop := (encAll g).length ≤ 4096 ∨ ∃ n, g = [n]
theorem putG_fit {gs : List (List Nt)} (h : ∀ g ∈ gs, Fit g) (n : Nt) : ∀ g ∈ putG gs n, Fit g := by
  rcases snoc_cases gs with rfl | ⟨i, g, rfl⟩
  · intro x hx
    simp [putG] at hx
    subst hx
    exact .inr ⟨n, rfl⟩
  · rw [putG_snoc]
    intro x hx
    split at hx
    · rename_i hle
      rcases List.mem_append.1 hx with h1 | h1
      · exact h x (by simp [h1])
      · simp at h1
        subst h1
        left
        rw [encAll_snoc, List.length_append]
        exact hle
    · simp at hx
      rcases hx with h1 | rfl | rfl
      · exact h x (by simp [h1])
      · exact h x (by simp)
      · exact .inr ⟨n, rfl⟩
theorem tot_cont (ss : List Sg) (gs : List (List Nt)) (h : cont ss = contG gs) : tot ss = gs.flatten.length := by
  have e : tot ss = ((cont ss).map (·.2)).sum := by
    unfold tot cont
    rw [List.map_map]
    rfl
  rw [e, h]
  unfold contG
  rw [List.map_map, List.length_flatten]
  rfl
theorem len_cont {ss : List Sg} {gs : List (List Nt)} (h : cont ss = contG gs) : ss.length = gs.length := by
  have := congrArg List.length h
  simpa [cont, contG] using this
theorem len_flat {gs : List (List Nt)} (h : ∀ g ∈ gs, g ≠ []) : gs.length ≤ gs.flatten.length := by
  induction gs with
  | nil => simp
  | cons g gs ih =>
    have h1 := List.length_pos_iff.2 (h g List.mem_cons_self)
    have h2 := ih (fun x hx => h x (List.mem_cons_of_mem _ hx))
    rw [List.flatten_cons, List.length_append, List.length_cons]
    omega
theorem LogAt.typed {fr : Bool} {ok : Nat → Prop} {w : World} {l : Nat} {v : Value} {ss : List Sg} (h : LogAt fr ok w l v ss) : LogAt fr (fun k => ok k ∧ ∃ c q m, w.heap[k]? = some (.cells c q m) ∧ (q = 88 ∨ q = 89 ∨ q = 99 ∨ q = 5)) w l v ss :=
  ⟨h.blk, ⟨h.okl, _, _, _, h.blk, .inl rfl⟩, h.row, fun k hk => ⟨h.okv k hk, by
    obtain ⟨c, hc⟩ := own_typed h.row k hk
    exact ⟨_, _, _, hc, .inr (.inl rfl)⟩⟩, fun s hs => ⟨(h.segs s hs).1, ⟨(h.segs s hs).2.1, _, _, _, (h.segs s hs).1.blk, .inr (.inr (.inl rfl))⟩, ⟨(h.segs s hs).2.2, by
    obtain ⟨cur, mk, hb, _⟩ := (h.segs s hs).1.buf
    exact ⟨_, _, _, hb, .inr (.inr (.inr rfl))⟩⟩⟩, h.apart⟩
def LogTy (q : Nat) : Prop := q = 88 ∨ q = 89 ∨ q = 99 ∨ q = 5
def Typed (w : World) (ok : Nat → Prop) (k : Nat) : Prop := ok k ∧ ∃ c q m, w.heap[k]? = some (.cells c q m) ∧ LogTy q
theorem LogAt.ty {fr : Bool} {ok : Nat → Prop} {w : World} {l : Nat} {v : Value} {ss : List Sg} (h : LogAt fr ok w l v ss) : LogAt fr (Typed w ok) w l v ss := h.typed
/-- Another row stays where only the log's blocks turn. -/
theorem R_log {α : Type} {d : Kd α} {e base : Nat} {w w1 : World} {ok okL : Nat → Prop} {v : Value} {xs : List α} (h : d.R e w base ok v xs) (hE : ∀ q ∈ e :: d.E, ¬ LogTy q) (hc : Chg (Typed w okL) w w1) : d.R e w1 base ok v xs :=
  Kd.R_mono (Kd.R_step (Kd.R_bound h) (fun k hk hlt => hc.block k hlt (fun ⟨_, c, q, m, h1, h2⟩ => by
    obtain ⟨_, _, _, q', hq', c', h3⟩ := hk
    rw [h1] at h3
    injection h3 with h3
    injection h3 with _ h3 _
    rw [← h3] at hq'
    exact hE q hq' h2))) (fun _ hk => hk.1)
/-- The log stays where only another row turns. -/
theorem LogAt.row_chg {fr : Bool} {ok : Nat → Prop} {w w1 : World} {l : Nat} {v : Value} {ss : List Sg} (h : LogAt fr ok w l v ss) {base e size n : Nat} {v' : Value} {xs : List Value} (ho : w.ownsRow base e size v' n xs) (he : ¬ LogTy e) (hc : Chg (fun k => some k = v'.ownBlock) w w1) : LogAt fr ok w1 l v ss :=
  (h.ty.chg hc (fun k hk ⟨_, c, q, m, h1, h2⟩ hs => by
    obtain ⟨c', h3⟩ := own_typed ho k hs.symm
    rw [h1] at h3
    injection h3 with h3
    injection h3 with _ h3 _
    rw [h3] at h2
    exact he h2)).mono (fun _ _ hk => hk.1)
theorem blk_log {w w1 : World} {g t : Nat} {cs : Array Value} {m : Nat × Nat} {okL : Nat → Prop} (h : w.heap[g]? = some (.cells cs t m)) (ht : ¬ LogTy t) (hc : Chg (Typed w okL) w w1) : w1.heap[g]? = some (.cells cs t m) :=
  hc.blk h (fun ⟨_, c, q, m', h1, h2⟩ => by
    rw [h1] at h
    injection h with h
    injection h with _ h _
    rw [h] at h2
    exact ht h2)
def encS (n : Nt) : ByteArray := strOfNums (encNt n)
theorem encNt_short {n : Nt} (h : OkNt n) (hp : n.path.length ≤ 1600) : (encNt n).length ≤ 3222 := by
  have h1 := vb_len10 (zz_lt h.b)
  have h2 := vb_len10 (zz_lt h.s)
  have h3 := vb_len 2 n.path.length (by omega) (by omega)
  have h4 := pathB_len h.ds
  simp only [encNt, List.length_append]
  omega
theorem info9s : (Try.prog.info? 9).map (fun i => (i.zero, i.size, i.bytes)) = some (some (.string ByteArray.empty), 1, 16) := by kernel_rfl
end Go.Proofs.Ytebbikihhkjaaaa.Hand
