/-
  DERIVED. GIVEN WITH THE SEED: THE CARDS: each row of YtlilfgfkedlbcaaDoorRows.lean that lists a variable, with what it lists TIED to the program's text (the seventh form; the later family's looks); each row that meets fmt, with fmt's text TOLD by the authors' own Lean function (tested against real Go, not proved from fmt's source: count such statements apart). THE CARD IS WHAT COUNTS. Prove the row's statement (the work); the ties are given (YtlilfgfkedlbcaaDoorTie.lean); close each card by the builder's one call (the guide's Derived/Test/ToyasCard.lean, 'card_holds'). Laid BY PROGRAM, IN A SANDBOX (cutbox-door.mjs). By AI agents, Wed Nov 11 2026. No macro, syntax, notation, axiom, sorry.
-/
import Derived.Test.YtlilfgfkedlbcaaDoorRows
import GoSem.ClaimSeven
namespace Go.Proofs.YtlilfgfkedlbcaaDoor
namespace Rows

/-- THE TIED CARD OF 'secateurlaw12.EvalBetter'. -/
def evalBetterCard : Claim7 := { stood := { row := evalBetterRow, standIns := [], harness := (true, "3d9a41ed5ed5b6c764cdf7c805e95c0066f7b1f38db31bc9f20a1abfa4886839"), looks := false }, kinds := [], alts := [], laidByText := true, laidKinds := [.data, .data, .data], laidTests := true, laidLooks := .later }
def EvalBetterCardSaid : Prop := Claim7.holds Tryd.pinned (.plain (OpenSpec.ofChange evalBetterSpec)) evalBetterCard

/-- THE TIED CARD OF 'secateurlaw12.EvalAnswers'. -/
def evalAnswersCard : Claim7 := { stood := { row := evalAnswersRow, standIns := [], harness := (true, "3d9a41ed5ed5b6c764cdf7c805e95c0066f7b1f38db31bc9f20a1abfa4886839"), looks := false }, kinds := [], alts := [], laidByText := true, laidKinds := [.data, .data, .data], laidTests := true, laidLooks := .later }
def EvalAnswersCardSaid : Prop := Claim7.holds Tryd.pinned (.plain (OpenSpec.ofChange evalAnswersSpec)) evalAnswersCard

/-- THE SECOND FORM's CARD OF 'secateurlaw12.EvalBetter'. -/
def evalBetterUptoCard : Claim7 := { stood := { row := evalBetterUptoRow, standIns := [], harness := (true, "3d9a41ed5ed5b6c764cdf7c805e95c0066f7b1f38db31bc9f20a1abfa4886839"), looks := false }, kinds := [], alts := [], laidByText := true, laidKinds := [.data, .data, .data], laidTests := true, laidLooks := .later }
def EvalBetterUptoCardSaid : Prop := Claim7.holds Tryd.pinned (.plain (OpenSpec.upto evalBetterSpec)) evalBetterUptoCard

/-- THE SECOND FORM's CARD OF 'secateurlaw12.EvalAnswers'. -/
def evalAnswersUptoCard : Claim7 := { stood := { row := evalAnswersUptoRow, standIns := [], harness := (true, "3d9a41ed5ed5b6c764cdf7c805e95c0066f7b1f38db31bc9f20a1abfa4886839"), looks := false }, kinds := [], alts := [], laidByText := true, laidKinds := [.data, .data, .data], laidTests := true, laidLooks := .later }
def EvalAnswersUptoCardSaid : Prop := Claim7.holds Tryd.pinned (.plain (OpenSpec.upto evalAnswersSpec)) evalAnswersUptoCard
end Rows
end Go.Proofs.YtlilfgfkedlbcaaDoor
