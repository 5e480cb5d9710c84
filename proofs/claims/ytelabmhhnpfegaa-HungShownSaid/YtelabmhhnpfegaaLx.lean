/- HungMoved: its words. Without conditions. -/
import Derived.Test.YtelabmhhnpfegaaLt
import Derived.Test.YtelabmhhnpfegaaLs
namespace Go.Proofs.Ytelabmhhnpfegaa.Hand
open Go.RowKit Go.Proofs.YtelabmhhnpfegaaW.PrintWords Go.Proofs.YtelabmhhnpfegaaW.PrintLast Go.Proofs.YtelabmhhnpfegaaW.PrintMore
theorem RawI.below {w w1 : World} {A : Option Addr} {nc : Nat} {len : Nat → Nat} {c : Nat → Nat → Int} (h : RawI w A nc len c) (hb : Below w.heap.size w w1) : RawI w1 A nc len c := fun i hi => by
  obtain ⟨ad, AR, cR, e, h1, h2⟩ := h i hi
  refine ⟨ad, AR, cR, e, pw_cell_below hb h1, fun k hk => ?_⟩
  obtain ⟨ad, e, h3⟩ := h2 k hk
  exact ⟨ad, e, pw_cell_below hb h3⟩
theorem RawB.below {w w1 : World} {A : Option Addr} {nc : Nat} {len : Nat → Nat} {c : Nat → Nat → Bool} (h : RawB w A nc len c) (hb : Below w.heap.size w w1) : RawB w1 A nc len c := fun i hi => by
  obtain ⟨ad, AR, cR, e, h1, h2⟩ := h i hi
  refine ⟨ad, AR, cR, e, pw_cell_below hb h1, fun k hk => ?_⟩
  obtain ⟨ad, e, h3⟩ := h2 k hk
  exact ⟨ad, e, pw_cell_below hb h3⟩
theorem cutT_ok {nc nn most : Nat} {len mlen : Nat → Nat} {c : Nat → Nat → Int} {g : Nat → Nat → Bool} (hm : most ≤ 64) : TbOk (cutT nc nn most len mlen c g) := by
  constructor
  · show min nc most ≤ 64
    omega
  · intro i k _ _
    show _ ≤ (if k < len i then min (max (c i k) (-2147483648)) 2147483648 else 0) ∧ (if k < len i then min (max (c i k) (-2147483648)) 2147483648 else 0) ≤ _
    split <;> omega
/-- The law's table, in a world in which its arguments are. -/
theorem table_sqc {w : World} {A B : Option Addr} {nc nn : Nat} {len mlen : Nat → Nat} {c : Nat → Nat → Int} {g : Nat → Nat → Bool} (cA cB : Nat) (h : RawI w A nc len c) (hg : RawB w B nn mlen g) (most : Nat) (hm : most ≤ 64) (h1 : nc ≤ 17592186044416) (h2 : nn ≤ 17592186044416) (hl : ∀ i, i < nc → len i ≤ 17592186044416) (hl2 : ∀ i, i < nn → mlen i ≤ 140737488355328) {W : World} (hb : Below w.heap.size w W) {t : Tb} (ht : t = cutT nc nn most len mlen c g) {n : Nat} (hn : n = t.n) :
    Calls Try.prog 12 #[.slice A nc cA, .slice B nn cB, .int .i64 (most : Int)] W fun e w' => ∃ AC cC AN cN B' D', e = .returned (.agg #[.slice AC n cC, .slice AN n cN]) ∧ Aside0 (Sq w' W.heap.size w'.heap.size AC AN n t.c t.no B' D' ∧ Below W.heap.size W w' ∧ n ≤ cC ∧ n ≤ cN) := by
  subst hn
  subst ht
  refine (table_any W A B nc nn cA cB len mlen c g (h.below hb) (hg.below hb) most hm h1 h2 hl hl2).mono ?_
  rintro e w' ⟨AC, cC, AN, cN, B', D', rfl, T⟩
  exact ⟨_, _, _, _, B', D', rfl, ⟨T.out.1.sq, T.out.2⟩⟩
theorem table_sq {w : World} {A B : Option Addr} {nc nn : Nat} {len mlen : Nat → Nat} {c : Nat → Nat → Int} {g : Nat → Nat → Bool} (cA cB : Nat) (h : RawI w A nc len c) (hg : RawB w B nn mlen g) (most : Nat) (hm : most ≤ 64) (h1 : nc ≤ 17592186044416) (h2 : nn ≤ 17592186044416) (hl : ∀ i, i < nc → len i ≤ 17592186044416) (hl2 : ∀ i, i < nn → mlen i ≤ 140737488355328) {W : World} (hb : Below w.heap.size w W) {t : Tb} (ht : t = cutT nc nn most len mlen c g) {n : Nat} (hn : n = t.n) :
    Calls Try.prog 12 #[.slice A nc cA, .slice B nn cB, .int .i64 (most : Int)] W fun e w' => ∃ AC cC AN cN B' D', e = .returned (.agg #[.slice AC n cC, .slice AN n cN]) ∧ Aside0 (Sq w' W.heap.size w'.heap.size AC AN n t.c t.no B' D' ∧ Below W.heap.size W w') :=
  (table_sqc cA cB h hg most hm h1 h2 hl hl2 hb ht hn).mono fun _ _ ⟨AC, cC, AN, cN, B', D', he, T⟩ => ⟨AC, cC, AN, cN, B', D', he, ⟨T.out.1, T.out.2.1⟩⟩
/-- What Solve tells, its cost laid open. -/
theorem solve_tell (w : World) (AC AN : Option Addr) (cC cN : Nat) (t : Tb) (h : TabR w AC AN t) (ht : TbOk t) :
    Calls Try.prog 13 #[.agg #[.slice AC t.n cC, .slice AN t.n cN]] w fun e w' => ∃ a0 l0 c0 x a2 l2 c2 a3 l3 c3 ok, e = .returned (.tuple #[.agg #[.slice a0 l0 c0, .int .i64 x, .slice a2 l2 c2, .slice a3 l3 c3], .bool ok]) ∧ Aside0 (Below w.heap.size w w' ∧ IsLeast t.n t.c t.no (if ok then some x else none) ∧ (ok = false → x = 0) ∧ -137438953472 ≤ x ∧ x ≤ 137438953472) := by
  refine (solve_any w AC AN cC cN t h ht).mono ?_
  rintro e w' ⟨m, okv, rfl, T⟩
  obtain ⟨⟨ok, rfl, T⟩⟩ := T
  cases ok with
  | false =>
    obtain ⟨rfl, hno⟩ := T.no rfl
    exact ⟨_, _, _, _, _, _, _, _, _, _, false, rfl, ⟨T.below, hno, fun _ => rfl, by omega, by omega⟩⟩
  | true =>
    obtain ⟨σ, u, v, of, C, r, c, rfl, D, _, _, _⟩ := T.yes rfl
    have hb := sumTo_abs (n := t.n) (f := fun i => t.c i (σ i)) (B := 2147483648) (fun i hi => ht.mag i (σ i) hi (D.pm.inj.lt i hi))
    have h64 := ht.n64
    have e : cost t.n t.c σ = sumTo t.n (fun i => t.c i (σ i)) := rfl
    exact ⟨_, _, _, _, _, _, _, _, _, _, true, rfl, ⟨T.below, D.least, fun x => (by cases x), by rw [e]; omega, by rw [e]; omega⟩⟩
theorem eq_least {n : Nat} {c : Nat → Nat → Int} {no : Nat → Nat → Bool} {a b : Bool} {x y : Int} (h1 : IsLeast n c no (if a then some x else none)) (h2 : IsLeast n c no (if b then some y else none)) (hx : a = false → x = 0) (hy : b = false → y = 0) : a = b ∧ x = y := by
  have e := h1.uniq h2
  cases a with
  | true =>
    cases b with
    | true =>
      injection e with e
      exact ⟨rfl, e⟩
    | false => cases e
  | false =>
    cases b with
    | true => cases e
    | false => exact ⟨rfl, by rw [hx rfl, hy rfl]⟩
def inTwo (a b c d : Nat) : Nat → Prop := fun k => (a ≤ k ∧ k < b) ∨ (c ≤ k ∧ k < d)
end Go.Proofs.Ytelabmhhnpfegaa.Hand
