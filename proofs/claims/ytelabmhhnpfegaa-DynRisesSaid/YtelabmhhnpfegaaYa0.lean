/- Texts Kp, cut to what is used. -/
import Derived.Laws.BitsLemmas
set_option linter.unusedVariables false
set_option linter.unusedSimpArgs false
namespace Go.Proofs.Ytelabmhhnpfegaa
theorem lsA {α : Type _} {l : List α} {i : Nat} {a : α} : l.toArray.setIfInBounds i a = (l.set i a).toArray := List.setIfInBounds_toArray ..
theorem lsB {α : Type _} {x y : α} {l : List α} : (x :: l).set 0 y = y :: l := List.set_cons_zero ..
theorem lsC {α : Type _} {x y : α} {l : List α} {n : Nat} : (x :: l).set (n + 1) y = x :: l.set n y := List.set_cons_succ ..
end Go.Proofs.Ytelabmhhnpfegaa
section
namespace Go.Proofs.Ytelabmhhnpfegaa.Hand
end Go.Proofs.Ytelabmhhnpfegaa.Hand
end
