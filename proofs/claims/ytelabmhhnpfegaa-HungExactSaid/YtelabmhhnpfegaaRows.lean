/-
  No cell of these rows narrows 'for every input' (looked for: loops, veiled, ifaces, maps, wideKeys, modest, calm, conditions, laid).
  DERIVED. THE GIVEN ROWS OF THIS SEAT. 9 by the template 'for every input the law returns true; each argument reads behind the call as it read before'; 0 by the template 'total and deterministic' (their statements: YtelabmhhnpfegaaTotals.lean).
  GIVEN WITH THE SEED: the statements are not yours to turn. If you find one false, say at which input.
  Laid BY PROGRAM, IN A SANDBOX (cutbox-rows.mjs): the forced cells as the released guide's own fill.sh prints them over the translation 4390204f1f1e2867… (all of the seat's roots in one cut). By AI agents, Wed Nov 11 2026. No macro, syntax, notation, axiom, sorry.
-/
import Derived.Test.YtelabmhhnpfegaaChecked
import GoSem.Claim
import GoSem.ClaimJoined
import GoSem.ClaimMapViews
import Derived.JoinedTies
import Derived.KernelRfl
namespace Go.Proofs.Ytelabmhhnpfegaa
/- THE CELL 'sum', in the pinned program and in every row, IS THE sha256 OF THE DUMP (.gsa) THAT YtelabmhhnpfegaaProg.lean LOADS. Nothing in Lean hashes anything: it is a label: what it is worth is what the hold of that sum in a sandbox is worth. -/
noncomputable def Try.pinned : Pinned := { name := "ytelabmhhnpfegaa", sum := "4390204f1f1e2867a0414581ac14e40da39392ee7aa09d70d556c34e666b6cc4", checked := Try.checked }
namespace Rows
def none {H : Type} : Left H := { results := [], args := [] }

/-- 'secateurlaw29.HungMoved': WHATEVER THE INPUT: true; the input reads as it did. -/
def hungMovedSpec : ChangeSpec := { name := "hungMoved", fn := fun _ => fun
  | [d1, d2, d3] => { results := [.lit (.bool true)], args := [d1, d2, d3] }
  | _ => none }
def hungMovedRow : OpenClaim := { program := "ytelabmhhnpfegaa", sum := "4390204f1f1e2867a0414581ac14e40da39392ee7aa09d70d556c34e666b6cc4", func := "secateur/secateurlaw29.HungMoved", spec := "hungMoved", unfollowed := true, recurses := true, apart := false }
def HungMovedSaid : Prop := hungMovedRow.holds Try.pinned (OpenSpec.ofChange hungMovedSpec)

/-- ITS FALSE NEIGHBOUR: 'it returns false'. Refute it at one input. -/
def hungMovedWrong : ChangeSpec := { name := "hungMoved", fn := fun _ => fun
  | [d1, d2, d3] => { results := [.lit (.bool false)], args := [d1, d2, d3] }
  | _ => none }
def HungMovedWrongFalsely : Prop := hungMovedRow.holds Try.pinned (OpenSpec.ofChange hungMovedWrong)

/-- 'secateurlaw29.HungLeast': WHATEVER THE INPUT: true; the input reads as it did. -/
def hungLeastSpec : ChangeSpec := { name := "hungLeast", fn := fun _ => fun
  | [d1, d2] => { results := [.lit (.bool true)], args := [d1, d2] }
  | _ => none }
def hungLeastRow : OpenClaim := { program := "ytelabmhhnpfegaa", sum := "4390204f1f1e2867a0414581ac14e40da39392ee7aa09d70d556c34e666b6cc4", func := "secateur/secateurlaw29.HungLeast", spec := "hungLeast", inPlace := ["math/bits.Add64", "math/bits.Sub64"], unfollowed := true, recurses := true, apart := false }
def HungLeastSaid : Prop := hungLeastRow.holds Try.pinned (OpenSpec.ofChange hungLeastSpec)

/-- ITS FALSE NEIGHBOUR: 'it returns false'. Refute it at one input. -/
def hungLeastWrong : ChangeSpec := { name := "hungLeast", fn := fun _ => fun
  | [d1, d2] => { results := [.lit (.bool false)], args := [d1, d2] }
  | _ => none }
def HungLeastWrongFalsely : Prop := hungLeastRow.holds Try.pinned (OpenSpec.ofChange hungLeastWrong)

/-- 'secateurlaw29.HungShown': WHATEVER THE INPUT: true; the input reads as it did. -/
def hungShownSpec : ChangeSpec := { name := "hungShown", fn := fun _ => fun
  | [d1, d2, d3] => { results := [.lit (.bool true)], args := [d1, d2, d3] }
  | _ => none }
def hungShownRow : OpenClaim := { program := "ytelabmhhnpfegaa", sum := "4390204f1f1e2867a0414581ac14e40da39392ee7aa09d70d556c34e666b6cc4", func := "secateur/secateurlaw29.HungShown", spec := "hungShown", inPlace := ["math/bits.Add64", "math/bits.Sub64"], unfollowed := true, recurses := true, apart := false }
def HungShownSaid : Prop := hungShownRow.holds Try.pinned (OpenSpec.ofChange hungShownSpec)

/-- ITS FALSE NEIGHBOUR: 'it returns false'. Refute it at one input. -/
def hungShownWrong : ChangeSpec := { name := "hungShown", fn := fun _ => fun
  | [d1, d2, d3] => { results := [.lit (.bool false)], args := [d1, d2, d3] }
  | _ => none }
def HungShownWrongFalsely : Prop := hungShownRow.holds Try.pinned (OpenSpec.ofChange hungShownWrong)

/-- 'secateurlaw30.DynCells': WHATEVER THE INPUT: true; the input reads as it did. -/
def dynCellsSpec : ChangeSpec := { name := "dynCells", fn := fun _ => fun
  | [d] => { results := [.lit (.bool true)], args := [d] }
  | _ => none }
def dynCellsRow : OpenClaim := { program := "ytelabmhhnpfegaa", sum := "4390204f1f1e2867a0414581ac14e40da39392ee7aa09d70d556c34e666b6cc4", func := "secateur/secateurlaw30.DynCells", spec := "dynCells", unfollowed := true, recurses := true, apart := false }
def DynCellsSaid : Prop := dynCellsRow.holds Try.pinned (OpenSpec.ofChange dynCellsSpec)

/-- ITS FALSE NEIGHBOUR: 'it returns false'. Refute it at one input. -/
def dynCellsWrong : ChangeSpec := { name := "dynCells", fn := fun _ => fun
  | [d] => { results := [.lit (.bool false)], args := [d] }
  | _ => none }
def DynCellsWrongFalsely : Prop := dynCellsRow.holds Try.pinned (OpenSpec.ofChange dynCellsWrong)

/-- 'secateurlaw30.DynRooms': WHATEVER THE INPUT: true; the input reads as it did. -/
def dynRoomsSpec : ChangeSpec := { name := "dynRooms", fn := fun _ => fun
  | [d] => { results := [.lit (.bool true)], args := [d] }
  | _ => none }
def dynRoomsRow : OpenClaim := { program := "ytelabmhhnpfegaa", sum := "4390204f1f1e2867a0414581ac14e40da39392ee7aa09d70d556c34e666b6cc4", func := "secateur/secateurlaw30.DynRooms", spec := "dynRooms", unfollowed := true, recurses := true, apart := false }
def DynRoomsSaid : Prop := dynRoomsRow.holds Try.pinned (OpenSpec.ofChange dynRoomsSpec)

/-- ITS FALSE NEIGHBOUR: 'it returns false'. Refute it at one input. -/
def dynRoomsWrong : ChangeSpec := { name := "dynRooms", fn := fun _ => fun
  | [d] => { results := [.lit (.bool false)], args := [d] }
  | _ => none }
def DynRoomsWrongFalsely : Prop := dynRoomsRow.holds Try.pinned (OpenSpec.ofChange dynRoomsWrong)

/-- 'secateurlaw30.DynMatch': WHATEVER THE INPUT: true; the input reads as it did. -/
def dynMatchSpec : ChangeSpec := { name := "dynMatch", fn := fun _ => fun
  | [d] => { results := [.lit (.bool true)], args := [d] }
  | _ => none }
def dynMatchRow : OpenClaim := { program := "ytelabmhhnpfegaa", sum := "4390204f1f1e2867a0414581ac14e40da39392ee7aa09d70d556c34e666b6cc4", func := "secateur/secateurlaw30.DynMatch", spec := "dynMatch", unfollowed := true, recurses := true, apart := false }
def DynMatchSaid : Prop := dynMatchRow.holds Try.pinned (OpenSpec.ofChange dynMatchSpec)

/-- ITS FALSE NEIGHBOUR: 'it returns false'. Refute it at one input. -/
def dynMatchWrong : ChangeSpec := { name := "dynMatch", fn := fun _ => fun
  | [d] => { results := [.lit (.bool false)], args := [d] }
  | _ => none }
def DynMatchWrongFalsely : Prop := dynMatchRow.holds Try.pinned (OpenSpec.ofChange dynMatchWrong)

/-- 'secateurlaw30.DynBest': WHATEVER THE INPUT: true; the input reads as it did. -/
def dynBestSpec : ChangeSpec := { name := "dynBest", fn := fun _ => fun
  | [d] => { results := [.lit (.bool true)], args := [d] }
  | _ => none }
def dynBestRow : OpenClaim := { program := "ytelabmhhnpfegaa", sum := "4390204f1f1e2867a0414581ac14e40da39392ee7aa09d70d556c34e666b6cc4", func := "secateur/secateurlaw30.DynBest", spec := "dynBest", inPlace := ["math/bits.Add64", "math/bits.Sub64"], unfollowed := true, recurses := true, apart := false }
def DynBestSaid : Prop := dynBestRow.holds Try.pinned (OpenSpec.ofChange dynBestSpec)

/-- ITS FALSE NEIGHBOUR: 'it returns false'. Refute it at one input. -/
def dynBestWrong : ChangeSpec := { name := "dynBest", fn := fun _ => fun
  | [d] => { results := [.lit (.bool false)], args := [d] }
  | _ => none }
def DynBestWrongFalsely : Prop := dynBestRow.holds Try.pinned (OpenSpec.ofChange dynBestWrong)

/-- 'secateurlaw29.HungExact': WHATEVER THE INPUT: true; the input reads as it did. -/
def hungExactSpec : ChangeSpec := { name := "hungExact", fn := fun _ => fun
  | [d] => { results := [.lit (.bool true)], args := [d] }
  | _ => none }
def hungExactRow : OpenClaim := { program := "ytelabmhhnpfegaa", sum := "4390204f1f1e2867a0414581ac14e40da39392ee7aa09d70d556c34e666b6cc4", func := "secateur/secateurlaw29.HungExact", spec := "hungExact", inPlace := ["math/bits.Add64", "math/bits.Sub64"], unfollowed := true, recurses := true, apart := false }
def HungExactSaid : Prop := hungExactRow.holds Try.pinned (OpenSpec.ofChange hungExactSpec)

/-- ITS FALSE NEIGHBOUR: 'it returns false'. Refute it at one input. -/
def hungExactWrong : ChangeSpec := { name := "hungExact", fn := fun _ => fun
  | [d] => { results := [.lit (.bool false)], args := [d] }
  | _ => none }
def HungExactWrongFalsely : Prop := hungExactRow.holds Try.pinned (OpenSpec.ofChange hungExactWrong)

/-- 'secateurlaw30.DynRises': WHATEVER THE INPUT: true; the input reads as it did. -/
def dynRisesSpec : ChangeSpec := { name := "dynRises", fn := fun _ => fun
  | [d] => { results := [.lit (.bool true)], args := [d] }
  | _ => none }
def dynRisesRow : OpenClaim := { program := "ytelabmhhnpfegaa", sum := "4390204f1f1e2867a0414581ac14e40da39392ee7aa09d70d556c34e666b6cc4", func := "secateur/secateurlaw30.DynRises", spec := "dynRises", inPlace := ["math/bits.Add64", "math/bits.Sub64"], unfollowed := true, recurses := true, apart := false }
def DynRisesSaid : Prop := dynRisesRow.holds Try.pinned (OpenSpec.ofChange dynRisesSpec)

/-- ITS FALSE NEIGHBOUR: 'it returns false'. Refute it at one input. -/
def dynRisesWrong : ChangeSpec := { name := "dynRises", fn := fun _ => fun
  | [d] => { results := [.lit (.bool false)], args := [d] }
  | _ => none }
def DynRisesWrongFalsely : Prop := dynRisesRow.holds Try.pinned (OpenSpec.ofChange dynRisesWrong)

/- THE SECOND FORM. 'bulk': how many values and letters a reading holds, each counted each time it is reached (what is shared counts as often as it is met; a slice's spare places count too). A statement '..UptoSaid' is the law's where the arguments, and the package variables that the reading takes, are together of bulk at most 1048576: NARROWER than '..Said'. Prove '..Said' where nothing that the law and all that it calls make is longer than what came in: it says more and counts as full. Else prove '..UptoSaid'. A law counts once. -/
mutual
def uptoBulk {H : Type} : DataW H → Nat
  | .lit (.string bytes) => bytes.length + 1
  | .lit _ => 1
  | .nil => 1
  | .ptr d => uptoBulk d + 1
  | .slice elems spare => uptoBulkAll elems + uptoBulkAll spare + 1
  | .agg parts => uptoBulkAll parts + 1
  | .iface _ d => uptoBulk d + 1
  | .map entries => uptoBulkEntries entries + 1
  | .held _ => 1
def uptoBulkAll {H : Type} : List (DataW H) → Nat
  | [] => 0
  | d :: r => uptoBulk d + uptoBulkAll r
def uptoBulkEntries {H : Type} : List (Lit × DataW H) → Nat
  | [] => 0
  | x :: r => uptoBulkEntry x + uptoBulkEntries r
def uptoBulkEntry {H : Type} : Lit × DataW H → Nat
  | (.string bytes, d) => bytes.length + uptoBulk d + 1
  | (_, d) => uptoBulk d + 1
 end
def uptoSmall : (H : Type) → List (DataW H) → Bool := fun _ ds => decide (uptoBulkAll ds ≤ 1048576)
def OpenSpec.upto (s : _root_.Go.ChangeSpec) : _root_.Go.OpenSpec := { _root_.Go.OpenSpec.ofChange s with cond := some uptoSmall }

/-- 'secateurlaw29.HungMoved', WHERE WHAT IT READS IS OF BULK AT MOST 1048576: true; the input reads as it did. -/
def hungMovedUptoRow : OpenClaim := { program := "ytelabmhhnpfegaa", sum := "4390204f1f1e2867a0414581ac14e40da39392ee7aa09d70d556c34e666b6cc4", func := "secateur/secateurlaw29.HungMoved", spec := "hungMoved", unfollowed := true, recurses := true, apart := false, narrowed := true }
def HungMovedUptoSaid : Prop := hungMovedUptoRow.holds Try.pinned (OpenSpec.upto hungMovedSpec)

/-- 'secateurlaw29.HungLeast', WHERE WHAT IT READS IS OF BULK AT MOST 1048576: true; the input reads as it did. -/
def hungLeastUptoRow : OpenClaim := { program := "ytelabmhhnpfegaa", sum := "4390204f1f1e2867a0414581ac14e40da39392ee7aa09d70d556c34e666b6cc4", func := "secateur/secateurlaw29.HungLeast", spec := "hungLeast", inPlace := ["math/bits.Add64", "math/bits.Sub64"], unfollowed := true, recurses := true, apart := false, narrowed := true }
def HungLeastUptoSaid : Prop := hungLeastUptoRow.holds Try.pinned (OpenSpec.upto hungLeastSpec)

/-- 'secateurlaw29.HungShown', WHERE WHAT IT READS IS OF BULK AT MOST 1048576: true; the input reads as it did. -/
def hungShownUptoRow : OpenClaim := { program := "ytelabmhhnpfegaa", sum := "4390204f1f1e2867a0414581ac14e40da39392ee7aa09d70d556c34e666b6cc4", func := "secateur/secateurlaw29.HungShown", spec := "hungShown", inPlace := ["math/bits.Add64", "math/bits.Sub64"], unfollowed := true, recurses := true, apart := false, narrowed := true }
def HungShownUptoSaid : Prop := hungShownUptoRow.holds Try.pinned (OpenSpec.upto hungShownSpec)

/-- 'secateurlaw30.DynCells', WHERE WHAT IT READS IS OF BULK AT MOST 1048576: true; the input reads as it did. -/
def dynCellsUptoRow : OpenClaim := { program := "ytelabmhhnpfegaa", sum := "4390204f1f1e2867a0414581ac14e40da39392ee7aa09d70d556c34e666b6cc4", func := "secateur/secateurlaw30.DynCells", spec := "dynCells", unfollowed := true, recurses := true, apart := false, narrowed := true }
def DynCellsUptoSaid : Prop := dynCellsUptoRow.holds Try.pinned (OpenSpec.upto dynCellsSpec)

/-- 'secateurlaw30.DynRooms', WHERE WHAT IT READS IS OF BULK AT MOST 1048576: true; the input reads as it did. -/
def dynRoomsUptoRow : OpenClaim := { program := "ytelabmhhnpfegaa", sum := "4390204f1f1e2867a0414581ac14e40da39392ee7aa09d70d556c34e666b6cc4", func := "secateur/secateurlaw30.DynRooms", spec := "dynRooms", unfollowed := true, recurses := true, apart := false, narrowed := true }
def DynRoomsUptoSaid : Prop := dynRoomsUptoRow.holds Try.pinned (OpenSpec.upto dynRoomsSpec)

/-- 'secateurlaw30.DynMatch', WHERE WHAT IT READS IS OF BULK AT MOST 1048576: true; the input reads as it did. -/
def dynMatchUptoRow : OpenClaim := { program := "ytelabmhhnpfegaa", sum := "4390204f1f1e2867a0414581ac14e40da39392ee7aa09d70d556c34e666b6cc4", func := "secateur/secateurlaw30.DynMatch", spec := "dynMatch", unfollowed := true, recurses := true, apart := false, narrowed := true }
def DynMatchUptoSaid : Prop := dynMatchUptoRow.holds Try.pinned (OpenSpec.upto dynMatchSpec)

/-- 'secateurlaw30.DynBest', WHERE WHAT IT READS IS OF BULK AT MOST 1048576: true; the input reads as it did. -/
def dynBestUptoRow : OpenClaim := { program := "ytelabmhhnpfegaa", sum := "4390204f1f1e2867a0414581ac14e40da39392ee7aa09d70d556c34e666b6cc4", func := "secateur/secateurlaw30.DynBest", spec := "dynBest", inPlace := ["math/bits.Add64", "math/bits.Sub64"], unfollowed := true, recurses := true, apart := false, narrowed := true }
def DynBestUptoSaid : Prop := dynBestUptoRow.holds Try.pinned (OpenSpec.upto dynBestSpec)

/-- 'secateurlaw29.HungExact', WHERE WHAT IT READS IS OF BULK AT MOST 1048576: true; the input reads as it did. -/
def hungExactUptoRow : OpenClaim := { program := "ytelabmhhnpfegaa", sum := "4390204f1f1e2867a0414581ac14e40da39392ee7aa09d70d556c34e666b6cc4", func := "secateur/secateurlaw29.HungExact", spec := "hungExact", inPlace := ["math/bits.Add64", "math/bits.Sub64"], unfollowed := true, recurses := true, apart := false, narrowed := true }
def HungExactUptoSaid : Prop := hungExactUptoRow.holds Try.pinned (OpenSpec.upto hungExactSpec)

/-- 'secateurlaw30.DynRises', WHERE WHAT IT READS IS OF BULK AT MOST 1048576: true; the input reads as it did. -/
def dynRisesUptoRow : OpenClaim := { program := "ytelabmhhnpfegaa", sum := "4390204f1f1e2867a0414581ac14e40da39392ee7aa09d70d556c34e666b6cc4", func := "secateur/secateurlaw30.DynRises", spec := "dynRises", inPlace := ["math/bits.Add64", "math/bits.Sub64"], unfollowed := true, recurses := true, apart := false, narrowed := true }
def DynRisesUptoSaid : Prop := dynRisesUptoRow.holds Try.pinned (OpenSpec.upto dynRisesSpec)

end Rows
end Go.Proofs.Ytelabmhhnpfegaa
