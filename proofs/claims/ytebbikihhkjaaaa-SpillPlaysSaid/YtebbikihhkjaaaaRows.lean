/-
  No cell of these rows narrows 'for every input' (looked for: loops, veiled, ifaces, maps, wideKeys, modest, calm, conditions, laid).
  DERIVED. THE GIVEN ROWS OF THIS SEAT. 6 by the template 'for every input the law returns true; each argument reads behind the call as it read before'; 0 by the template 'total and deterministic' (their statements: YtebbikihhkjaaaaTotals.lean).
  GIVEN WITH THE SEED: the statements are not yours to turn. If you find one false, say at which input.
  Laid BY PROGRAM, IN A SANDBOX (cutbox-rows.mjs): the forced cells as the released guide's own fill.sh prints them over the translation 5cb521795e294660… (all of the seat's roots in one cut). By AI agents, Wed Nov 11 2026. No macro, syntax, notation, axiom, sorry.
-/
import Derived.Test.YtebbikihhkjaaaaChecked
import GoSem.Claim
import GoSem.ClaimJoined
import GoSem.ClaimMapViews
import Derived.JoinedTies
import Derived.KernelRfl
namespace Go.Proofs.Ytebbikihhkjaaaa
/- THE CELL 'sum', in the pinned program and in every row, IS THE sha256 OF THE DUMP (.gsa) THAT YtebbikihhkjaaaaProg.lean LOADS. Nothing in Lean hashes anything: it is a label: what it is worth is what the hold of that sum in a sandbox is worth. -/
noncomputable def Try.pinned : Pinned := { name := "ytebbikihhkjaaaa", sum := "5cb521795e294660e2de047a0b643b479b5ef6b7ef4e6cc8096058085bbf64d7", checked := Try.checked }
namespace Rows
def none {H : Type} : Left H := { results := [], args := [] }

/-- 'secateurlaw21.SpillBytes': WHATEVER THE INPUT: true; the input reads as it did. -/
def spillBytesSpec : ChangeSpec := { name := "spillBytes", fn := fun _ => fun
  | [d1, d2] => { results := [.lit (.bool true)], args := [d1, d2] }
  | _ => none }
def spillBytesRow : OpenClaim := { program := "ytebbikihhkjaaaa", sum := "5cb521795e294660e2de047a0b643b479b5ef6b7ef4e6cc8096058085bbf64d7", func := "secateur/secateurlaw21.SpillBytes", spec := "spillBytes", inPlace := ["internal/abi.NoEscape"], unfollowed := true, recurses := true, apart := false }
def SpillBytesSaid : Prop := spillBytesRow.holds Try.pinned (OpenSpec.ofChange spillBytesSpec)

/-- ITS FALSE NEIGHBOUR: 'it returns false'. Refute it at one input. -/
def spillBytesWrong : ChangeSpec := { name := "spillBytes", fn := fun _ => fun
  | [d1, d2] => { results := [.lit (.bool false)], args := [d1, d2] }
  | _ => none }
def SpillBytesWrongFalsely : Prop := spillBytesRow.holds Try.pinned (OpenSpec.ofChange spillBytesWrong)

/-- 'secateurlaw21.SpillBack': WHATEVER THE INPUT: true; the input reads as it did. -/
def spillBackSpec : ChangeSpec := { name := "spillBack", fn := fun _ => fun
  | [d1, d2] => { results := [.lit (.bool true)], args := [d1, d2] }
  | _ => none }
def spillBackRow : OpenClaim := { program := "ytebbikihhkjaaaa", sum := "5cb521795e294660e2de047a0b643b479b5ef6b7ef4e6cc8096058085bbf64d7", func := "secateur/secateurlaw21.SpillBack", spec := "spillBack", inPlace := ["internal/abi.NoEscape"], unfollowed := true, recurses := true, apart := false }
def SpillBackSaid : Prop := spillBackRow.holds Try.pinned (OpenSpec.ofChange spillBackSpec)

/-- ITS FALSE NEIGHBOUR: 'it returns false'. Refute it at one input. -/
def spillBackWrong : ChangeSpec := { name := "spillBack", fn := fun _ => fun
  | [d1, d2] => { results := [.lit (.bool false)], args := [d1, d2] }
  | _ => none }
def SpillBackWrongFalsely : Prop := spillBackRow.holds Try.pinned (OpenSpec.ofChange spillBackWrong)

/-- 'secateurlaw21.SpillSaves': WHATEVER THE INPUT: true; the input reads as it did. -/
def spillSavesSpec : ChangeSpec := { name := "spillSaves", fn := fun _ => fun
  | [d1, d2, d3] => { results := [.lit (.bool true)], args := [d1, d2, d3] }
  | _ => none }
def spillSavesRow : OpenClaim := { program := "ytebbikihhkjaaaa", sum := "5cb521795e294660e2de047a0b643b479b5ef6b7ef4e6cc8096058085bbf64d7", func := "secateur/secateurlaw21.SpillSaves", spec := "spillSaves", inPlace := ["internal/abi.NoEscape"], unfollowed := true, recurses := true, apart := false }
def SpillSavesSaid : Prop := spillSavesRow.holds Try.pinned (OpenSpec.ofChange spillSavesSpec)

/-- ITS FALSE NEIGHBOUR: 'it returns false'. Refute it at one input. -/
def spillSavesWrong : ChangeSpec := { name := "spillSaves", fn := fun _ => fun
  | [d1, d2, d3] => { results := [.lit (.bool false)], args := [d1, d2, d3] }
  | _ => none }
def SpillSavesWrongFalsely : Prop := spillSavesRow.holds Try.pinned (OpenSpec.ofChange spillSavesWrong)

/-- 'secateurlaw21.SpillPlays': WHATEVER THE INPUT: true; the input reads as it did. -/
def spillPlaysSpec : ChangeSpec := { name := "spillPlays", fn := fun _ => fun
  | [d] => { results := [.lit (.bool true)], args := [d] }
  | _ => none }
def spillPlaysRow : OpenClaim := { program := "ytebbikihhkjaaaa", sum := "5cb521795e294660e2de047a0b643b479b5ef6b7ef4e6cc8096058085bbf64d7", func := "secateur/secateurlaw21.SpillPlays", spec := "spillPlays", inPlace := ["internal/abi.NoEscape"], unfollowed := true, recurses := true, apart := false }
def SpillPlaysSaid : Prop := spillPlaysRow.holds Try.pinned (OpenSpec.ofChange spillPlaysSpec)

/-- ITS FALSE NEIGHBOUR: 'it returns false'. Refute it at one input. -/
def spillPlaysWrong : ChangeSpec := { name := "spillPlays", fn := fun _ => fun
  | [d] => { results := [.lit (.bool false)], args := [d] }
  | _ => none }
def SpillPlaysWrongFalsely : Prop := spillPlaysRow.holds Try.pinned (OpenSpec.ofChange spillPlaysWrong)

/-- 'secateurlaw21.SpillAll': WHATEVER THE INPUT: true; the input reads as it did. -/
def spillAllSpec : ChangeSpec := { name := "spillAll", fn := fun _ => fun
  | [d] => { results := [.lit (.bool true)], args := [d] }
  | _ => none }
def spillAllRow : OpenClaim := { program := "ytebbikihhkjaaaa", sum := "5cb521795e294660e2de047a0b643b479b5ef6b7ef4e6cc8096058085bbf64d7", func := "secateur/secateurlaw21.SpillAll", spec := "spillAll", inPlace := ["internal/abi.NoEscape"], unfollowed := true, recurses := true, apart := false }
def SpillAllSaid : Prop := spillAllRow.holds Try.pinned (OpenSpec.ofChange spillAllSpec)

/-- ITS FALSE NEIGHBOUR: 'it returns false'. Refute it at one input. -/
def spillAllWrong : ChangeSpec := { name := "spillAll", fn := fun _ => fun
  | [d] => { results := [.lit (.bool false)], args := [d] }
  | _ => none }
def SpillAllWrongFalsely : Prop := spillAllRow.holds Try.pinned (OpenSpec.ofChange spillAllWrong)

/-- 'secateurlaw21.SpillLoads': WHATEVER THE INPUT: true; the input reads as it did. -/
def spillLoadsSpec : ChangeSpec := { name := "spillLoads", fn := fun _ => fun
  | [d] => { results := [.lit (.bool true)], args := [d] }
  | _ => none }
def spillLoadsRow : OpenClaim := { program := "ytebbikihhkjaaaa", sum := "5cb521795e294660e2de047a0b643b479b5ef6b7ef4e6cc8096058085bbf64d7", func := "secateur/secateurlaw21.SpillLoads", spec := "spillLoads", inPlace := ["internal/abi.NoEscape"], unfollowed := true, recurses := true, apart := false }
def SpillLoadsSaid : Prop := spillLoadsRow.holds Try.pinned (OpenSpec.ofChange spillLoadsSpec)

/-- ITS FALSE NEIGHBOUR: 'it returns false'. Refute it at one input. -/
def spillLoadsWrong : ChangeSpec := { name := "spillLoads", fn := fun _ => fun
  | [d] => { results := [.lit (.bool false)], args := [d] }
  | _ => none }
def SpillLoadsWrongFalsely : Prop := spillLoadsRow.holds Try.pinned (OpenSpec.ofChange spillLoadsWrong)

/- THE SECOND FORM. 'bulk': how many values and letters a reading holds, each counted each time it is reached (what is shared counts as often as it is met; a slice's spare places count too). A statement '..UptoSaid' is the law's where the arguments, and the package variables that the reading takes, are together of bulk at most 1048576: NARROWER than '..Said'. Prove '..Said' where nothing that the law and all that it calls make is longer than what came in: it says more and counts as full. Else prove '..UptoSaid'. A law counts once. -/
mutual
def uptoBulk {H : Type} : DataW H → Nat
  | .lit (.string bytes) => bytes.length + 1
  | .lit _ => 1
  | .nil => 1
  | .ptr d => uptoBulk d + 1
  | .slice elems spare => uptoBulkAll elems + uptoBulkAll spare + 1
  | .agg parts => uptoBulkAll parts + 1
  | .iface _ d => uptoBulk d + 1
  | .map entries => uptoBulkEntries entries + 1
  | .held _ => 1
def uptoBulkAll {H : Type} : List (DataW H) → Nat
  | [] => 0
  | d :: r => uptoBulk d + uptoBulkAll r
def uptoBulkEntries {H : Type} : List (Lit × DataW H) → Nat
  | [] => 0
  | x :: r => uptoBulkEntry x + uptoBulkEntries r
def uptoBulkEntry {H : Type} : Lit × DataW H → Nat
  | (.string bytes, d) => bytes.length + uptoBulk d + 1
  | (_, d) => uptoBulk d + 1
 end
def uptoSmall : (H : Type) → List (DataW H) → Bool := fun _ ds => decide (uptoBulkAll ds ≤ 1048576)
def OpenSpec.upto (s : _root_.Go.ChangeSpec) : _root_.Go.OpenSpec := { _root_.Go.OpenSpec.ofChange s with cond := some uptoSmall }

/-- 'secateurlaw21.SpillBytes', WHERE WHAT IT READS IS OF BULK AT MOST 1048576: true; the input reads as it did. -/
def spillBytesUptoRow : OpenClaim := { program := "ytebbikihhkjaaaa", sum := "5cb521795e294660e2de047a0b643b479b5ef6b7ef4e6cc8096058085bbf64d7", func := "secateur/secateurlaw21.SpillBytes", spec := "spillBytes", inPlace := ["internal/abi.NoEscape"], unfollowed := true, recurses := true, apart := false, narrowed := true }
def SpillBytesUptoSaid : Prop := spillBytesUptoRow.holds Try.pinned (OpenSpec.upto spillBytesSpec)

/-- 'secateurlaw21.SpillBack', WHERE WHAT IT READS IS OF BULK AT MOST 1048576: true; the input reads as it did. -/
def spillBackUptoRow : OpenClaim := { program := "ytebbikihhkjaaaa", sum := "5cb521795e294660e2de047a0b643b479b5ef6b7ef4e6cc8096058085bbf64d7", func := "secateur/secateurlaw21.SpillBack", spec := "spillBack", inPlace := ["internal/abi.NoEscape"], unfollowed := true, recurses := true, apart := false, narrowed := true }
def SpillBackUptoSaid : Prop := spillBackUptoRow.holds Try.pinned (OpenSpec.upto spillBackSpec)

/-- 'secateurlaw21.SpillSaves', WHERE WHAT IT READS IS OF BULK AT MOST 1048576: true; the input reads as it did. -/
def spillSavesUptoRow : OpenClaim := { program := "ytebbikihhkjaaaa", sum := "5cb521795e294660e2de047a0b643b479b5ef6b7ef4e6cc8096058085bbf64d7", func := "secateur/secateurlaw21.SpillSaves", spec := "spillSaves", inPlace := ["internal/abi.NoEscape"], unfollowed := true, recurses := true, apart := false, narrowed := true }
def SpillSavesUptoSaid : Prop := spillSavesUptoRow.holds Try.pinned (OpenSpec.upto spillSavesSpec)

/-- 'secateurlaw21.SpillPlays', WHERE WHAT IT READS IS OF BULK AT MOST 1048576: true; the input reads as it did. -/
def spillPlaysUptoRow : OpenClaim := { program := "ytebbikihhkjaaaa", sum := "5cb521795e294660e2de047a0b643b479b5ef6b7ef4e6cc8096058085bbf64d7", func := "secateur/secateurlaw21.SpillPlays", spec := "spillPlays", inPlace := ["internal/abi.NoEscape"], unfollowed := true, recurses := true, apart := false, narrowed := true }
def SpillPlaysUptoSaid : Prop := spillPlaysUptoRow.holds Try.pinned (OpenSpec.upto spillPlaysSpec)

/-- 'secateurlaw21.SpillAll', WHERE WHAT IT READS IS OF BULK AT MOST 1048576: true; the input reads as it did. -/
def spillAllUptoRow : OpenClaim := { program := "ytebbikihhkjaaaa", sum := "5cb521795e294660e2de047a0b643b479b5ef6b7ef4e6cc8096058085bbf64d7", func := "secateur/secateurlaw21.SpillAll", spec := "spillAll", inPlace := ["internal/abi.NoEscape"], unfollowed := true, recurses := true, apart := false, narrowed := true }
def SpillAllUptoSaid : Prop := spillAllUptoRow.holds Try.pinned (OpenSpec.upto spillAllSpec)

/-- 'secateurlaw21.SpillLoads', WHERE WHAT IT READS IS OF BULK AT MOST 1048576: true; the input reads as it did. -/
def spillLoadsUptoRow : OpenClaim := { program := "ytebbikihhkjaaaa", sum := "5cb521795e294660e2de047a0b643b479b5ef6b7ef4e6cc8096058085bbf64d7", func := "secateur/secateurlaw21.SpillLoads", spec := "spillLoads", inPlace := ["internal/abi.NoEscape"], unfollowed := true, recurses := true, apart := false, narrowed := true }
def SpillLoadsUptoSaid : Prop := spillLoadsUptoRow.holds Try.pinned (OpenSpec.upto spillLoadsSpec)

end Rows
end Go.Proofs.Ytebbikihhkjaaaa
