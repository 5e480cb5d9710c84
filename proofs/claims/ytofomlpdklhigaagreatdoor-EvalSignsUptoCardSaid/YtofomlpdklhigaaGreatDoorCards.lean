/-
  DERIVED. GIVEN WITH THE SEED: THE CARDS: each row of YtofomlpdklhigaaGreatDoorRows.lean that lists a variable, with what it lists TIED to the program's text (the seventh form; the later family's looks); each row that meets fmt, with fmt's text TOLD by the authors' own Lean function (tested against real Go, not proved from fmt's source: count such statements apart). THE CARD IS WHAT COUNTS. Prove the row's statement (the work); the ties are given (YtofomlpdklhigaaGreatDoorTie.lean); close each card by the builder's one call (the guide's Derived/Test/ToyasCard.lean, 'card_holds'). Laid BY PROGRAM, IN A SANDBOX (cutbox-door.mjs). By AI agents, Wed Nov 11 2026. No macro, syntax, notation, axiom, sorry.
-/
import Derived.Test.YtofomlpdklhigaaGreatDoorRows
import GoSem.ClaimSeven
namespace Go.Proofs.YtofomlpdklhigaaGreatDoor
namespace Rows

/-- THE TIED CARD OF 'secateurlaw12.EvalSigns'. -/
def evalSignsCard : Claim7 := { stood := { row := evalSignsRow, standIns := [], harness := (true, "cf8f477c5f0fa8f9506f315565b4c119b6128f240a5da1cbf091e166199f93b0"), looks := true }, kinds := [], alts := [], laidByText := true, laidKinds := [.data, .data, .data, .data, .sentinel, .sentinel, .pinned], laidTests := true, laidLooks := .later }
def EvalSignsCardSaid : Prop := Claim7.holds Tryz.pinned (.plain (OpenSpec.ofChange evalSignsSpec)) evalSignsCard

/-- THE TIED CARD OF 'secateurlaw24.CertTexts'. -/
def certTextsCard : Claim7 := { stood := { row := certTextsRow, standIns := [], harness := (true, "cf8f477c5f0fa8f9506f315565b4c119b6128f240a5da1cbf091e166199f93b0"), looks := true }, kinds := [], alts := [], laidByText := true, laidKinds := [.data, .data, .data, .data, .data, .sentinel, .sentinel, .widerDeep, .pinned], laidTests := true, laidLooks := .later }
def CertTextsCardSaid : Prop := Claim7.holds Tryz.pinned (.plain (OpenSpec.ofChange certTextsSpec)) certTextsCard

/-- THE TIED CARD OF 'secateurlaw24.CertReads'. -/
def certReadsCard : Claim7 := { stood := { row := certReadsRow, standIns := [], harness := (true, "cf8f477c5f0fa8f9506f315565b4c119b6128f240a5da1cbf091e166199f93b0"), looks := true }, kinds := [], alts := [], laidByText := true, laidKinds := [.data, .data, .data, .data, .data, .sentinel, .sentinel, .widerDeep, .pinned], laidTests := true, laidLooks := .later }
def CertReadsCardSaid : Prop := Claim7.holds Tryz.pinned (.plain (OpenSpec.ofChange certReadsSpec)) certReadsCard

/-- THE TIED CARD OF 'secateurlaw24.CertBack'. -/
def certBackCard : Claim7 := { stood := { row := certBackRow, standIns := [], harness := (true, "cf8f477c5f0fa8f9506f315565b4c119b6128f240a5da1cbf091e166199f93b0"), looks := true }, kinds := [], alts := [], laidByText := true, laidKinds := [.data, .data, .data, .data, .data, .sentinel, .sentinel, .widerDeep, .pinned], laidTests := true, laidLooks := .later }
def CertBackCardSaid : Prop := Claim7.holds Tryz.pinned (.plain (OpenSpec.ofChange certBackSpec)) certBackCard

/-- THE TIED CARD OF 'secateurlaw24.CertLines'. -/
def certLinesCard : Claim7 := { stood := { row := certLinesRow, standIns := [], harness := (true, "cf8f477c5f0fa8f9506f315565b4c119b6128f240a5da1cbf091e166199f93b0"), looks := true }, kinds := [], alts := [], laidByText := true, laidKinds := [.data, .data, .data, .data, .data, .sentinel, .sentinel, .widerDeep, .pinned], laidTests := true, laidLooks := .later }
def CertLinesCardSaid : Prop := Claim7.holds Tryz.pinned (.plain (OpenSpec.ofChange certLinesSpec)) certLinesCard

/-- THE SECOND FORM's CARD OF 'secateurlaw12.EvalSigns'. -/
def evalSignsUptoCard : Claim7 := { stood := { row := evalSignsUptoRow, standIns := [], harness := (true, "cf8f477c5f0fa8f9506f315565b4c119b6128f240a5da1cbf091e166199f93b0"), looks := true }, kinds := [], alts := [], laidByText := true, laidKinds := [.data, .data, .data, .data, .sentinel, .sentinel, .pinned], laidTests := true, laidLooks := .later }
def EvalSignsUptoCardSaid : Prop := Claim7.holds Tryz.pinned (.plain (OpenSpec.upto evalSignsSpec)) evalSignsUptoCard

/-- THE SECOND FORM's CARD OF 'secateurlaw24.CertTexts'. -/
def certTextsUptoCard : Claim7 := { stood := { row := certTextsUptoRow, standIns := [], harness := (true, "cf8f477c5f0fa8f9506f315565b4c119b6128f240a5da1cbf091e166199f93b0"), looks := true }, kinds := [], alts := [], laidByText := true, laidKinds := [.data, .data, .data, .data, .data, .sentinel, .sentinel, .widerDeep, .pinned], laidTests := true, laidLooks := .later }
def CertTextsUptoCardSaid : Prop := Claim7.holds Tryz.pinned (.plain (OpenSpec.upto certTextsSpec)) certTextsUptoCard

/-- THE SECOND FORM's CARD OF 'secateurlaw24.CertReads'. -/
def certReadsUptoCard : Claim7 := { stood := { row := certReadsUptoRow, standIns := [], harness := (true, "cf8f477c5f0fa8f9506f315565b4c119b6128f240a5da1cbf091e166199f93b0"), looks := true }, kinds := [], alts := [], laidByText := true, laidKinds := [.data, .data, .data, .data, .data, .sentinel, .sentinel, .widerDeep, .pinned], laidTests := true, laidLooks := .later }
def CertReadsUptoCardSaid : Prop := Claim7.holds Tryz.pinned (.plain (OpenSpec.upto certReadsSpec)) certReadsUptoCard

/-- THE SECOND FORM's CARD OF 'secateurlaw24.CertBack'. -/
def certBackUptoCard : Claim7 := { stood := { row := certBackUptoRow, standIns := [], harness := (true, "cf8f477c5f0fa8f9506f315565b4c119b6128f240a5da1cbf091e166199f93b0"), looks := true }, kinds := [], alts := [], laidByText := true, laidKinds := [.data, .data, .data, .data, .data, .sentinel, .sentinel, .widerDeep, .pinned], laidTests := true, laidLooks := .later }
def CertBackUptoCardSaid : Prop := Claim7.holds Tryz.pinned (.plain (OpenSpec.upto certBackSpec)) certBackUptoCard

/-- THE SECOND FORM's CARD OF 'secateurlaw24.CertLines'. -/
def certLinesUptoCard : Claim7 := { stood := { row := certLinesUptoRow, standIns := [], harness := (true, "cf8f477c5f0fa8f9506f315565b4c119b6128f240a5da1cbf091e166199f93b0"), looks := true }, kinds := [], alts := [], laidByText := true, laidKinds := [.data, .data, .data, .data, .data, .sentinel, .sentinel, .widerDeep, .pinned], laidTests := true, laidLooks := .later }
def CertLinesUptoCardSaid : Prop := Claim7.holds Tryz.pinned (.plain (OpenSpec.upto certLinesSpec)) certLinesUptoCard
end Rows
end Go.Proofs.YtofomlpdklhigaaGreatDoor
