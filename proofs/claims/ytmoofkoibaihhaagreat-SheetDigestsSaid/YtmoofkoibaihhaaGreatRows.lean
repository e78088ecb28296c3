/-
  No cell of these rows narrows 'for every input' (looked for: loops, veiled, ifaces, maps, wideKeys, modest, calm, conditions, laid).
  DERIVED. THE GIVEN ROWS OF THIS SEAT. 8 by the template 'for every input the law returns true; each argument reads behind the call as it read before'; 0 by the template 'total and deterministic' (their statements: YtmoofkoibaihhaaGreatTotals.lean).
  GIVEN WITH THE SEED: the statements are not yours to turn. If you find one false, say at which input.
  Laid BY PROGRAM, IN A SANDBOX (cutbox-rows.mjs): the forced cells as the released guide's own fill.sh prints them over the translation de2eb4fa2172d9bf… (all of the seat's roots in one cut). By AI agents, Wed Nov 11 2026. No macro, syntax, notation, axiom, sorry.
-/
import Derived.Test.YtmoofkoibaihhaaGreatChecked
import GoSem.Claim
import GoSem.ClaimJoined
import GoSem.ClaimMapViews
import Derived.JoinedTies
import Derived.KernelRfl
namespace Go.Proofs.YtmoofkoibaihhaaGreat
/- THE CELL 'sum', in the pinned program and in every row, IS THE sha256 OF THE DUMP (.gsa) THAT YtmoofkoibaihhaaGreatProg.lean LOADS. Nothing in Lean hashes anything: it is a label: what it is worth is what the hold of that sum in a sandbox is worth. -/
noncomputable def Tryz.pinned : Pinned := { name := "ytmoofkoibaihhaagreat", sum := "de2eb4fa2172d9bf967ec9aaad8a8b1599712f6310c64d93581fb8f6f19820c8", checked := Tryz.checked }
namespace Rows
def none {H : Type} : Left H := { results := [], args := [] }

/-- 'seamarklaw14.SheetBack': WHATEVER THE INPUT: true; the input reads as it did. -/
def sheetBackSpec : ChangeSpec := { name := "sheetBack", fn := fun _ => fun
  | [d1, d2] => { results := [.lit (.bool true)], args := [d1, d2] }
  | _ => none }
def sheetBackRow : OpenClaim := { program := "ytmoofkoibaihhaagreat", sum := "de2eb4fa2172d9bf967ec9aaad8a8b1599712f6310c64d93581fb8f6f19820c8", func := "seamark/seamarklaw14.SheetBack", spec := "sheetBack", unfollowed := true, recurses := true, apart := false }
def SheetBackSaid : Prop := sheetBackRow.holds Tryz.pinned (OpenSpec.ofChange sheetBackSpec)

/-- ITS FALSE NEIGHBOUR: 'it returns false'. Refute it at one input. -/
def sheetBackWrong : ChangeSpec := { name := "sheetBack", fn := fun _ => fun
  | [d1, d2] => { results := [.lit (.bool false)], args := [d1, d2] }
  | _ => none }
def SheetBackWrongFalsely : Prop := sheetBackRow.holds Tryz.pinned (OpenSpec.ofChange sheetBackWrong)

/-- 'seamarklaw14.SheetBeginning': WHATEVER THE INPUT: true; the input reads as it did. -/
def sheetBeginningSpec : ChangeSpec := { name := "sheetBeginning", fn := fun _ => fun
  | [d1, d2, d3] => { results := [.lit (.bool true)], args := [d1, d2, d3] }
  | _ => none }
def sheetBeginningRow : OpenClaim := { program := "ytmoofkoibaihhaagreat", sum := "de2eb4fa2172d9bf967ec9aaad8a8b1599712f6310c64d93581fb8f6f19820c8", func := "seamark/seamarklaw14.SheetBeginning", spec := "sheetBeginning", unfollowed := true, recurses := true, apart := false }
def SheetBeginningSaid : Prop := sheetBeginningRow.holds Tryz.pinned (OpenSpec.ofChange sheetBeginningSpec)

/-- ITS FALSE NEIGHBOUR: 'it returns false'. Refute it at one input. -/
def sheetBeginningWrong : ChangeSpec := { name := "sheetBeginning", fn := fun _ => fun
  | [d1, d2, d3] => { results := [.lit (.bool false)], args := [d1, d2, d3] }
  | _ => none }
def SheetBeginningWrongFalsely : Prop := sheetBeginningRow.holds Tryz.pinned (OpenSpec.ofChange sheetBeginningWrong)

/-- 'seamarklaw14.SheetDiffer': WHATEVER THE INPUT: true; the input reads as it did. -/
def sheetDifferSpec : ChangeSpec := { name := "sheetDiffer", fn := fun _ => fun
  | [d1, d2, d3] => { results := [.lit (.bool true)], args := [d1, d2, d3] }
  | _ => none }
def sheetDifferRow : OpenClaim := { program := "ytmoofkoibaihhaagreat", sum := "de2eb4fa2172d9bf967ec9aaad8a8b1599712f6310c64d93581fb8f6f19820c8", func := "seamark/seamarklaw14.SheetDiffer", spec := "sheetDiffer", unfollowed := true, recurses := true, apart := false }
def SheetDifferSaid : Prop := sheetDifferRow.holds Tryz.pinned (OpenSpec.ofChange sheetDifferSpec)

/-- ITS FALSE NEIGHBOUR: 'it returns false'. Refute it at one input. -/
def sheetDifferWrong : ChangeSpec := { name := "sheetDiffer", fn := fun _ => fun
  | [d1, d2, d3] => { results := [.lit (.bool false)], args := [d1, d2, d3] }
  | _ => none }
def SheetDifferWrongFalsely : Prop := sheetDifferRow.holds Tryz.pinned (OpenSpec.ofChange sheetDifferWrong)

/-- 'seamarklaw14.SheetSame': WHATEVER THE INPUT: true; the input reads as it did. -/
def sheetSameSpec : ChangeSpec := { name := "sheetSame", fn := fun _ => fun
  | [d1, d2] => { results := [.lit (.bool true)], args := [d1, d2] }
  | _ => none }
def sheetSameRow : OpenClaim := { program := "ytmoofkoibaihhaagreat", sum := "de2eb4fa2172d9bf967ec9aaad8a8b1599712f6310c64d93581fb8f6f19820c8", func := "seamark/seamarklaw14.SheetSame", spec := "sheetSame", unfollowed := true, recurses := true, apart := false }
def SheetSameSaid : Prop := sheetSameRow.holds Tryz.pinned (OpenSpec.ofChange sheetSameSpec)

/-- ITS FALSE NEIGHBOUR: 'it returns false'. Refute it at one input. -/
def sheetSameWrong : ChangeSpec := { name := "sheetSame", fn := fun _ => fun
  | [d1, d2] => { results := [.lit (.bool false)], args := [d1, d2] }
  | _ => none }
def SheetSameWrongFalsely : Prop := sheetSameRow.holds Tryz.pinned (OpenSpec.ofChange sheetSameWrong)

/-- 'seamarklaw14.SheetShown': WHATEVER THE INPUT: true; the input reads as it did. -/
def sheetShownSpec : ChangeSpec := { name := "sheetShown", fn := fun _ => fun
  | [d1, d2, d3, d4] => { results := [.lit (.bool true)], args := [d1, d2, d3, d4] }
  | _ => none }
def sheetShownRow : OpenClaim := { program := "ytmoofkoibaihhaagreat", sum := "de2eb4fa2172d9bf967ec9aaad8a8b1599712f6310c64d93581fb8f6f19820c8", func := "seamark/seamarklaw14.SheetShown", spec := "sheetShown", unfollowed := true, recurses := true, apart := false }
def SheetShownSaid : Prop := sheetShownRow.holds Tryz.pinned (OpenSpec.ofChange sheetShownSpec)

/-- ITS FALSE NEIGHBOUR: 'it returns false'. Refute it at one input. -/
def sheetShownWrong : ChangeSpec := { name := "sheetShown", fn := fun _ => fun
  | [d1, d2, d3, d4] => { results := [.lit (.bool false)], args := [d1, d2, d3, d4] }
  | _ => none }
def SheetShownWrongFalsely : Prop := sheetShownRow.holds Tryz.pinned (OpenSpec.ofChange sheetShownWrong)

/-- 'seamarklaw14.SheetElsewhere': WHATEVER THE INPUT: true; the input reads as it did. -/
def sheetElsewhereSpec : ChangeSpec := { name := "sheetElsewhere", fn := fun _ => fun
  | [d1, d2, d3] => { results := [.lit (.bool true)], args := [d1, d2, d3] }
  | _ => none }
def sheetElsewhereRow : OpenClaim := { program := "ytmoofkoibaihhaagreat", sum := "de2eb4fa2172d9bf967ec9aaad8a8b1599712f6310c64d93581fb8f6f19820c8", func := "seamark/seamarklaw14.SheetElsewhere", spec := "sheetElsewhere", unfollowed := true, recurses := true, apart := false }
def SheetElsewhereSaid : Prop := sheetElsewhereRow.holds Tryz.pinned (OpenSpec.ofChange sheetElsewhereSpec)

/-- ITS FALSE NEIGHBOUR: 'it returns false'. Refute it at one input. -/
def sheetElsewhereWrong : ChangeSpec := { name := "sheetElsewhere", fn := fun _ => fun
  | [d1, d2, d3] => { results := [.lit (.bool false)], args := [d1, d2, d3] }
  | _ => none }
def SheetElsewhereWrongFalsely : Prop := sheetElsewhereRow.holds Tryz.pinned (OpenSpec.ofChange sheetElsewhereWrong)

/-- 'seamarklaw14.SheetMatchesReference': WHATEVER THE INPUT: true; the input reads as it did. -/
def sheetMatchesReferenceSpec : ChangeSpec := { name := "sheetMatchesReference", fn := fun _ => fun
  | [d1, d2, d3, d4, d5] => { results := [.lit (.bool true)], args := [d1, d2, d3, d4, d5] }
  | _ => none }
def sheetMatchesReferenceRow : OpenClaim := { program := "ytmoofkoibaihhaagreat", sum := "de2eb4fa2172d9bf967ec9aaad8a8b1599712f6310c64d93581fb8f6f19820c8", func := "seamark/seamarklaw14.SheetMatchesReference", spec := "sheetMatchesReference", unfollowed := true, recurses := true, apart := false }
def SheetMatchesReferenceSaid : Prop := sheetMatchesReferenceRow.holds Tryz.pinned (OpenSpec.ofChange sheetMatchesReferenceSpec)

/-- ITS FALSE NEIGHBOUR: 'it returns false'. Refute it at one input. -/
def sheetMatchesReferenceWrong : ChangeSpec := { name := "sheetMatchesReference", fn := fun _ => fun
  | [d1, d2, d3, d4, d5] => { results := [.lit (.bool false)], args := [d1, d2, d3, d4, d5] }
  | _ => none }
def SheetMatchesReferenceWrongFalsely : Prop := sheetMatchesReferenceRow.holds Tryz.pinned (OpenSpec.ofChange sheetMatchesReferenceWrong)

/-- 'seamarklaw14.SheetDigests': WHATEVER THE INPUT: true; the input reads as it did. -/
def sheetDigestsSpec : ChangeSpec := { name := "sheetDigests", fn := fun _ => fun
  | [d1, d2, d3, d4] => { results := [.lit (.bool true)], args := [d1, d2, d3, d4] }
  | _ => none }
def sheetDigestsRow : OpenClaim := { program := "ytmoofkoibaihhaagreat", sum := "de2eb4fa2172d9bf967ec9aaad8a8b1599712f6310c64d93581fb8f6f19820c8", func := "seamark/seamarklaw14.SheetDigests", spec := "sheetDigests", unfollowed := true, recurses := true, apart := false }
def SheetDigestsSaid : Prop := sheetDigestsRow.holds Tryz.pinned (OpenSpec.ofChange sheetDigestsSpec)

/-- ITS FALSE NEIGHBOUR: 'it returns false'. Refute it at one input. -/
def sheetDigestsWrong : ChangeSpec := { name := "sheetDigests", fn := fun _ => fun
  | [d1, d2, d3, d4] => { results := [.lit (.bool false)], args := [d1, d2, d3, d4] }
  | _ => none }
def SheetDigestsWrongFalsely : Prop := sheetDigestsRow.holds Tryz.pinned (OpenSpec.ofChange sheetDigestsWrong)

/- THE SECOND FORM. 'bulk': how many values and letters a reading holds, each counted each time it is reached (what is shared counts as often as it is met; a slice's spare places count too). A statement '..UptoSaid' is the law's where the arguments, and the package variables that the reading takes, are together of bulk at most 1048576: NARROWER than '..Said'. Prove '..Said' where nothing that the law and all that it calls make is longer than what came in: it says more and counts as full. Else prove '..UptoSaid'. A law counts once. -/
mutual
def uptoBulk {H : Type} : DataW H → Nat
  | .lit (.string bytes) => bytes.length + 1
  | .lit _ => 1
  | .nil => 1
  | .ptr d => uptoBulk d + 1
  | .slice elems spare => uptoBulkAll elems + uptoBulkAll spare + 1
  | .agg parts => uptoBulkAll parts + 1
  | .iface _ d => uptoBulk d + 1
  | .map entries => uptoBulkEntries entries + 1
  | .held _ => 1
def uptoBulkAll {H : Type} : List (DataW H) → Nat
  | [] => 0
  | d :: r => uptoBulk d + uptoBulkAll r
def uptoBulkEntries {H : Type} : List (Lit × DataW H) → Nat
  | [] => 0
  | x :: r => uptoBulkEntry x + uptoBulkEntries r
def uptoBulkEntry {H : Type} : Lit × DataW H → Nat
  | (.string bytes, d) => bytes.length + uptoBulk d + 1
  | (_, d) => uptoBulk d + 1
 end
def uptoSmall : (H : Type) → List (DataW H) → Bool := fun _ ds => decide (uptoBulkAll ds ≤ 1048576)
def OpenSpec.upto (s : _root_.Go.ChangeSpec) : _root_.Go.OpenSpec := { _root_.Go.OpenSpec.ofChange s with cond := some uptoSmall }

/-- 'seamarklaw14.SheetBack', WHERE WHAT IT READS IS OF BULK AT MOST 1048576: true; the input reads as it did. -/
def sheetBackUptoRow : OpenClaim := { program := "ytmoofkoibaihhaagreat", sum := "de2eb4fa2172d9bf967ec9aaad8a8b1599712f6310c64d93581fb8f6f19820c8", func := "seamark/seamarklaw14.SheetBack", spec := "sheetBack", unfollowed := true, recurses := true, apart := false, narrowed := true }
def SheetBackUptoSaid : Prop := sheetBackUptoRow.holds Tryz.pinned (OpenSpec.upto sheetBackSpec)

/-- 'seamarklaw14.SheetBeginning', WHERE WHAT IT READS IS OF BULK AT MOST 1048576: true; the input reads as it did. -/
def sheetBeginningUptoRow : OpenClaim := { program := "ytmoofkoibaihhaagreat", sum := "de2eb4fa2172d9bf967ec9aaad8a8b1599712f6310c64d93581fb8f6f19820c8", func := "seamark/seamarklaw14.SheetBeginning", spec := "sheetBeginning", unfollowed := true, recurses := true, apart := false, narrowed := true }
def SheetBeginningUptoSaid : Prop := sheetBeginningUptoRow.holds Tryz.pinned (OpenSpec.upto sheetBeginningSpec)

/-- 'seamarklaw14.SheetDiffer', WHERE WHAT IT READS IS OF BULK AT MOST 1048576: true; the input reads as it did. -/
def sheetDifferUptoRow : OpenClaim := { program := "ytmoofkoibaihhaagreat", sum := "de2eb4fa2172d9bf967ec9aaad8a8b1599712f6310c64d93581fb8f6f19820c8", func := "seamark/seamarklaw14.SheetDiffer", spec := "sheetDiffer", unfollowed := true, recurses := true, apart := false, narrowed := true }
def SheetDifferUptoSaid : Prop := sheetDifferUptoRow.holds Tryz.pinned (OpenSpec.upto sheetDifferSpec)

/-- 'seamarklaw14.SheetSame', WHERE WHAT IT READS IS OF BULK AT MOST 1048576: true; the input reads as it did. -/
def sheetSameUptoRow : OpenClaim := { program := "ytmoofkoibaihhaagreat", sum := "de2eb4fa2172d9bf967ec9aaad8a8b1599712f6310c64d93581fb8f6f19820c8", func := "seamark/seamarklaw14.SheetSame", spec := "sheetSame", unfollowed := true, recurses := true, apart := false, narrowed := true }
def SheetSameUptoSaid : Prop := sheetSameUptoRow.holds Tryz.pinned (OpenSpec.upto sheetSameSpec)

/-- 'seamarklaw14.SheetShown', WHERE WHAT IT READS IS OF BULK AT MOST 1048576: true; the input reads as it did. -/
def sheetShownUptoRow : OpenClaim := { program := "ytmoofkoibaihhaagreat", sum := "de2eb4fa2172d9bf967ec9aaad8a8b1599712f6310c64d93581fb8f6f19820c8", func := "seamark/seamarklaw14.SheetShown", spec := "sheetShown", unfollowed := true, recurses := true, apart := false, narrowed := true }
def SheetShownUptoSaid : Prop := sheetShownUptoRow.holds Tryz.pinned (OpenSpec.upto sheetShownSpec)

/-- 'seamarklaw14.SheetElsewhere', WHERE WHAT IT READS IS OF BULK AT MOST 1048576: true; the input reads as it did. -/
def sheetElsewhereUptoRow : OpenClaim := { program := "ytmoofkoibaihhaagreat", sum := "de2eb4fa2172d9bf967ec9aaad8a8b1599712f6310c64d93581fb8f6f19820c8", func := "seamark/seamarklaw14.SheetElsewhere", spec := "sheetElsewhere", unfollowed := true, recurses := true, apart := false, narrowed := true }
def SheetElsewhereUptoSaid : Prop := sheetElsewhereUptoRow.holds Tryz.pinned (OpenSpec.upto sheetElsewhereSpec)

/-- 'seamarklaw14.SheetMatchesReference', WHERE WHAT IT READS IS OF BULK AT MOST 1048576: true; the input reads as it did. -/
def sheetMatchesReferenceUptoRow : OpenClaim := { program := "ytmoofkoibaihhaagreat", sum := "de2eb4fa2172d9bf967ec9aaad8a8b1599712f6310c64d93581fb8f6f19820c8", func := "seamark/seamarklaw14.SheetMatchesReference", spec := "sheetMatchesReference", unfollowed := true, recurses := true, apart := false, narrowed := true }
def SheetMatchesReferenceUptoSaid : Prop := sheetMatchesReferenceUptoRow.holds Tryz.pinned (OpenSpec.upto sheetMatchesReferenceSpec)

/-- 'seamarklaw14.SheetDigests', WHERE WHAT IT READS IS OF BULK AT MOST 1048576: true; the input reads as it did. -/
def sheetDigestsUptoRow : OpenClaim := { program := "ytmoofkoibaihhaagreat", sum := "de2eb4fa2172d9bf967ec9aaad8a8b1599712f6310c64d93581fb8f6f19820c8", func := "seamark/seamarklaw14.SheetDigests", spec := "sheetDigests", unfollowed := true, recurses := true, apart := false, narrowed := true }
def SheetDigestsUptoSaid : Prop := sheetDigestsUptoRow.holds Tryz.pinned (OpenSpec.upto sheetDigestsSpec)

end Rows
end Go.Proofs.YtmoofkoibaihhaaGreat
