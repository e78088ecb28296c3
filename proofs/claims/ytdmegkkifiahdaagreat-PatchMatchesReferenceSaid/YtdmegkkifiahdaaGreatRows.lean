/-
  No cell of these rows narrows 'for every input' (looked for: loops, veiled, ifaces, maps, wideKeys, modest, calm, conditions, laid).
  DERIVED. THE GIVEN ROWS OF THIS SEAT. 7 by the template 'for every input the law returns true; each argument reads behind the call as it read before'; 0 by the template 'total and deterministic' (their statements: YtdmegkkifiahdaaGreatTotals.lean).
  GIVEN WITH THE SEED: the statements are not yours to turn. If you find one false, say at which input.
  Laid BY PROGRAM, IN A SANDBOX (cutbox-rows.mjs): the forced cells as the released guide's own fill.sh prints them over the translation 8fab355ee5593068… (all of the seat's roots in one cut). By AI agents, Wed Nov 11 2026. No macro, syntax, notation, axiom, sorry.
-/
import Derived.Test.YtdmegkkifiahdaaGreatChecked
import GoSem.Claim
import GoSem.ClaimJoined
import GoSem.ClaimMapViews
import Derived.JoinedTies
import Derived.KernelRfl
namespace Go.Proofs.YtdmegkkifiahdaaGreat
/- THE CELL 'sum', in the pinned program and in every row, IS THE sha256 OF THE DUMP (.gsa) THAT YtdmegkkifiahdaaGreatProg.lean LOADS. Nothing in Lean hashes anything: it is a label: what it is worth is what the hold of that sum in a sandbox is worth. -/
noncomputable def Tryz.pinned : Pinned := { name := "ytdmegkkifiahdaagreat", sum := "8fab355ee55930684050f93db335d66d8a0774107a300080ed54f29561129a98", checked := Tryz.checked }
namespace Rows
def none {H : Type} : Left H := { results := [], args := [] }

/-- 'seamarklaw17.PatchMatchesReference': WHATEVER THE INPUT: true; the input reads as it did. -/
def patchMatchesReferenceSpec : ChangeSpec := { name := "patchMatchesReference", fn := fun _ => fun
  | [d1, d2, d3, d4] => { results := [.lit (.bool true)], args := [d1, d2, d3, d4] }
  | _ => none }
def patchMatchesReferenceRow : OpenClaim := { program := "ytdmegkkifiahdaagreat", sum := "8fab355ee55930684050f93db335d66d8a0774107a300080ed54f29561129a98", func := "seamark/seamarklaw17.PatchMatchesReference", spec := "patchMatchesReference", unfollowed := true, recurses := true, apart := false }
def PatchMatchesReferenceSaid : Prop := patchMatchesReferenceRow.holds Tryz.pinned (OpenSpec.ofChange patchMatchesReferenceSpec)

/-- ITS FALSE NEIGHBOUR: 'it returns false'. Refute it at one input. -/
def patchMatchesReferenceWrong : ChangeSpec := { name := "patchMatchesReference", fn := fun _ => fun
  | [d1, d2, d3, d4] => { results := [.lit (.bool false)], args := [d1, d2, d3, d4] }
  | _ => none }
def PatchMatchesReferenceWrongFalsely : Prop := patchMatchesReferenceRow.holds Tryz.pinned (OpenSpec.ofChange patchMatchesReferenceWrong)

/-- 'seamarklaw14.SheetMatchesReference': WHATEVER THE INPUT: true; the input reads as it did. -/
def sheetMatchesReferenceSpec : ChangeSpec := { name := "sheetMatchesReference", fn := fun _ => fun
  | [d1, d2, d3, d4, d5] => { results := [.lit (.bool true)], args := [d1, d2, d3, d4, d5] }
  | _ => none }
def sheetMatchesReferenceRow : OpenClaim := { program := "ytdmegkkifiahdaagreat", sum := "8fab355ee55930684050f93db335d66d8a0774107a300080ed54f29561129a98", func := "seamark/seamarklaw14.SheetMatchesReference", spec := "sheetMatchesReference", unfollowed := true, recurses := true, apart := false }
def SheetMatchesReferenceSaid : Prop := sheetMatchesReferenceRow.holds Tryz.pinned (OpenSpec.ofChange sheetMatchesReferenceSpec)

/-- ITS FALSE NEIGHBOUR: 'it returns false'. Refute it at one input. -/
def sheetMatchesReferenceWrong : ChangeSpec := { name := "sheetMatchesReference", fn := fun _ => fun
  | [d1, d2, d3, d4, d5] => { results := [.lit (.bool false)], args := [d1, d2, d3, d4, d5] }
  | _ => none }
def SheetMatchesReferenceWrongFalsely : Prop := sheetMatchesReferenceRow.holds Tryz.pinned (OpenSpec.ofChange sheetMatchesReferenceWrong)

/-- 'seamarklaw20.TransportWhole': WHATEVER THE INPUT: true; the input reads as it did. -/
def transportWholeSpec : ChangeSpec := { name := "transportWhole", fn := fun _ => fun
  | [d1, d2] => { results := [.lit (.bool true)], args := [d1, d2] }
  | _ => none }
def transportWholeRow : OpenClaim := { program := "ytdmegkkifiahdaagreat", sum := "8fab355ee55930684050f93db335d66d8a0774107a300080ed54f29561129a98", func := "seamark/seamarklaw20.TransportWhole", spec := "transportWhole", unfollowed := true, recurses := true, apart := false }
def TransportWholeSaid : Prop := transportWholeRow.holds Tryz.pinned (OpenSpec.ofChange transportWholeSpec)

/-- ITS FALSE NEIGHBOUR: 'it returns false'. Refute it at one input. -/
def transportWholeWrong : ChangeSpec := { name := "transportWhole", fn := fun _ => fun
  | [d1, d2] => { results := [.lit (.bool false)], args := [d1, d2] }
  | _ => none }
def TransportWholeWrongFalsely : Prop := transportWholeRow.holds Tryz.pinned (OpenSpec.ofChange transportWholeWrong)

/-- 'seamarklaw20.TransportStands': WHATEVER THE INPUT: true; the input reads as it did. -/
def transportStandsSpec : ChangeSpec := { name := "transportStands", fn := fun _ => fun
  | [d1, d2, d3, d4, d5, d6, d7] => { results := [.lit (.bool true)], args := [d1, d2, d3, d4, d5, d6, d7] }
  | _ => none }
def transportStandsRow : OpenClaim := { program := "ytdmegkkifiahdaagreat", sum := "8fab355ee55930684050f93db335d66d8a0774107a300080ed54f29561129a98", func := "seamark/seamarklaw20.TransportStands", spec := "transportStands", unfollowed := true, recurses := true, apart := false }
def TransportStandsSaid : Prop := transportStandsRow.holds Tryz.pinned (OpenSpec.ofChange transportStandsSpec)

/-- ITS FALSE NEIGHBOUR: 'it returns false'. Refute it at one input. -/
def transportStandsWrong : ChangeSpec := { name := "transportStands", fn := fun _ => fun
  | [d1, d2, d3, d4, d5, d6, d7] => { results := [.lit (.bool false)], args := [d1, d2, d3, d4, d5, d6, d7] }
  | _ => none }
def TransportStandsWrongFalsely : Prop := transportStandsRow.holds Tryz.pinned (OpenSpec.ofChange transportStandsWrong)

/-- 'seamarklaw20.TransportSheets': WHATEVER THE INPUT: true; the input reads as it did. -/
def transportSheetsSpec : ChangeSpec := { name := "transportSheets", fn := fun _ => fun
  | [d1, d2, d3, d4, d5, d6, d7] => { results := [.lit (.bool true)], args := [d1, d2, d3, d4, d5, d6, d7] }
  | _ => none }
def transportSheetsRow : OpenClaim := { program := "ytdmegkkifiahdaagreat", sum := "8fab355ee55930684050f93db335d66d8a0774107a300080ed54f29561129a98", func := "seamark/seamarklaw20.TransportSheets", spec := "transportSheets", unfollowed := true, recurses := true, apart := false }
def TransportSheetsSaid : Prop := transportSheetsRow.holds Tryz.pinned (OpenSpec.ofChange transportSheetsSpec)

/-- ITS FALSE NEIGHBOUR: 'it returns false'. Refute it at one input. -/
def transportSheetsWrong : ChangeSpec := { name := "transportSheets", fn := fun _ => fun
  | [d1, d2, d3, d4, d5, d6, d7] => { results := [.lit (.bool false)], args := [d1, d2, d3, d4, d5, d6, d7] }
  | _ => none }
def TransportSheetsWrongFalsely : Prop := transportSheetsRow.holds Tryz.pinned (OpenSpec.ofChange transportSheetsWrong)

/-- 'seamarklaw20.TransportPatches': WHATEVER THE INPUT: true; the input reads as it did. -/
def transportPatchesSpec : ChangeSpec := { name := "transportPatches", fn := fun _ => fun
  | [d1, d2, d3, d4, d5] => { results := [.lit (.bool true)], args := [d1, d2, d3, d4, d5] }
  | _ => none }
def transportPatchesRow : OpenClaim := { program := "ytdmegkkifiahdaagreat", sum := "8fab355ee55930684050f93db335d66d8a0774107a300080ed54f29561129a98", func := "seamark/seamarklaw20.TransportPatches", spec := "transportPatches", unfollowed := true, recurses := true, apart := false }
def TransportPatchesSaid : Prop := transportPatchesRow.holds Tryz.pinned (OpenSpec.ofChange transportPatchesSpec)

/-- ITS FALSE NEIGHBOUR: 'it returns false'. Refute it at one input. -/
def transportPatchesWrong : ChangeSpec := { name := "transportPatches", fn := fun _ => fun
  | [d1, d2, d3, d4, d5] => { results := [.lit (.bool false)], args := [d1, d2, d3, d4, d5] }
  | _ => none }
def TransportPatchesWrongFalsely : Prop := transportPatchesRow.holds Tryz.pinned (OpenSpec.ofChange transportPatchesWrong)

/-- 'seamarklaw20.TransportMatchesReference': WHATEVER THE INPUT: true; the input reads as it did. -/
def transportMatchesReferenceSpec : ChangeSpec := { name := "transportMatchesReference", fn := fun _ => fun
  | [d1, d2, d3, d4, d5, d6, d7, d8, d9, d10] => { results := [.lit (.bool true)], args := [d1, d2, d3, d4, d5, d6, d7, d8, d9, d10] }
  | _ => none }
def transportMatchesReferenceRow : OpenClaim := { program := "ytdmegkkifiahdaagreat", sum := "8fab355ee55930684050f93db335d66d8a0774107a300080ed54f29561129a98", func := "seamark/seamarklaw20.TransportMatchesReference", spec := "transportMatchesReference", unfollowed := true, recurses := true, apart := false }
def TransportMatchesReferenceSaid : Prop := transportMatchesReferenceRow.holds Tryz.pinned (OpenSpec.ofChange transportMatchesReferenceSpec)

/-- ITS FALSE NEIGHBOUR: 'it returns false'. Refute it at one input. -/
def transportMatchesReferenceWrong : ChangeSpec := { name := "transportMatchesReference", fn := fun _ => fun
  | [d1, d2, d3, d4, d5, d6, d7, d8, d9, d10] => { results := [.lit (.bool false)], args := [d1, d2, d3, d4, d5, d6, d7, d8, d9, d10] }
  | _ => none }
def TransportMatchesReferenceWrongFalsely : Prop := transportMatchesReferenceRow.holds Tryz.pinned (OpenSpec.ofChange transportMatchesReferenceWrong)

/- THE SECOND FORM. 'bulk': how many values and letters a reading holds, each counted each time it is reached (what is shared counts as often as it is met; a slice's spare places count too). A statement '..UptoSaid' is the law's where the arguments, and the package variables that the reading takes, are together of bulk at most 1048576: NARROWER than '..Said'. Prove '..Said' where nothing that the law and all that it calls make is longer than what came in: it says more and counts as full. Else prove '..UptoSaid'. A law counts once. -/
mutual
def uptoBulk {H : Type} : DataW H → Nat
  | .lit (.string bytes) => bytes.length + 1
  | .lit _ => 1
  | .nil => 1
  | .ptr d => uptoBulk d + 1
  | .slice elems spare => uptoBulkAll elems + uptoBulkAll spare + 1
  | .agg parts => uptoBulkAll parts + 1
  | .iface _ d => uptoBulk d + 1
  | .map entries => uptoBulkEntries entries + 1
  | .held _ => 1
def uptoBulkAll {H : Type} : List (DataW H) → Nat
  | [] => 0
  | d :: r => uptoBulk d + uptoBulkAll r
def uptoBulkEntries {H : Type} : List (Lit × DataW H) → Nat
  | [] => 0
  | x :: r => uptoBulkEntry x + uptoBulkEntries r
def uptoBulkEntry {H : Type} : Lit × DataW H → Nat
  | (.string bytes, d) => bytes.length + uptoBulk d + 1
  | (_, d) => uptoBulk d + 1
 end
def uptoSmall : (H : Type) → List (DataW H) → Bool := fun _ ds => decide (uptoBulkAll ds ≤ 1048576)
def OpenSpec.upto (s : _root_.Go.ChangeSpec) : _root_.Go.OpenSpec := { _root_.Go.OpenSpec.ofChange s with cond := some uptoSmall }

/-- 'seamarklaw17.PatchMatchesReference', WHERE WHAT IT READS IS OF BULK AT MOST 1048576: true; the input reads as it did. -/
def patchMatchesReferenceUptoRow : OpenClaim := { program := "ytdmegkkifiahdaagreat", sum := "8fab355ee55930684050f93db335d66d8a0774107a300080ed54f29561129a98", func := "seamark/seamarklaw17.PatchMatchesReference", spec := "patchMatchesReference", unfollowed := true, recurses := true, apart := false, narrowed := true }
def PatchMatchesReferenceUptoSaid : Prop := patchMatchesReferenceUptoRow.holds Tryz.pinned (OpenSpec.upto patchMatchesReferenceSpec)

/-- 'seamarklaw14.SheetMatchesReference', WHERE WHAT IT READS IS OF BULK AT MOST 1048576: true; the input reads as it did. -/
def sheetMatchesReferenceUptoRow : OpenClaim := { program := "ytdmegkkifiahdaagreat", sum := "8fab355ee55930684050f93db335d66d8a0774107a300080ed54f29561129a98", func := "seamark/seamarklaw14.SheetMatchesReference", spec := "sheetMatchesReference", unfollowed := true, recurses := true, apart := false, narrowed := true }
def SheetMatchesReferenceUptoSaid : Prop := sheetMatchesReferenceUptoRow.holds Tryz.pinned (OpenSpec.upto sheetMatchesReferenceSpec)

/-- 'seamarklaw20.TransportWhole', WHERE WHAT IT READS IS OF BULK AT MOST 1048576: true; the input reads as it did. -/
def transportWholeUptoRow : OpenClaim := { program := "ytdmegkkifiahdaagreat", sum := "8fab355ee55930684050f93db335d66d8a0774107a300080ed54f29561129a98", func := "seamark/seamarklaw20.TransportWhole", spec := "transportWhole", unfollowed := true, recurses := true, apart := false, narrowed := true }
def TransportWholeUptoSaid : Prop := transportWholeUptoRow.holds Tryz.pinned (OpenSpec.upto transportWholeSpec)

/-- 'seamarklaw20.TransportStands', WHERE WHAT IT READS IS OF BULK AT MOST 1048576: true; the input reads as it did. -/
def transportStandsUptoRow : OpenClaim := { program := "ytdmegkkifiahdaagreat", sum := "8fab355ee55930684050f93db335d66d8a0774107a300080ed54f29561129a98", func := "seamark/seamarklaw20.TransportStands", spec := "transportStands", unfollowed := true, recurses := true, apart := false, narrowed := true }
def TransportStandsUptoSaid : Prop := transportStandsUptoRow.holds Tryz.pinned (OpenSpec.upto transportStandsSpec)

/-- 'seamarklaw20.TransportSheets', WHERE WHAT IT READS IS OF BULK AT MOST 1048576: true; the input reads as it did. -/
def transportSheetsUptoRow : OpenClaim := { program := "ytdmegkkifiahdaagreat", sum := "8fab355ee55930684050f93db335d66d8a0774107a300080ed54f29561129a98", func := "seamark/seamarklaw20.TransportSheets", spec := "transportSheets", unfollowed := true, recurses := true, apart := false, narrowed := true }
def TransportSheetsUptoSaid : Prop := transportSheetsUptoRow.holds Tryz.pinned (OpenSpec.upto transportSheetsSpec)

/-- 'seamarklaw20.TransportPatches', WHERE WHAT IT READS IS OF BULK AT MOST 1048576: true; the input reads as it did. -/
def transportPatchesUptoRow : OpenClaim := { program := "ytdmegkkifiahdaagreat", sum := "8fab355ee55930684050f93db335d66d8a0774107a300080ed54f29561129a98", func := "seamark/seamarklaw20.TransportPatches", spec := "transportPatches", unfollowed := true, recurses := true, apart := false, narrowed := true }
def TransportPatchesUptoSaid : Prop := transportPatchesUptoRow.holds Tryz.pinned (OpenSpec.upto transportPatchesSpec)

/-- 'seamarklaw20.TransportMatchesReference', WHERE WHAT IT READS IS OF BULK AT MOST 1048576: true; the input reads as it did. -/
def transportMatchesReferenceUptoRow : OpenClaim := { program := "ytdmegkkifiahdaagreat", sum := "8fab355ee55930684050f93db335d66d8a0774107a300080ed54f29561129a98", func := "seamark/seamarklaw20.TransportMatchesReference", spec := "transportMatchesReference", unfollowed := true, recurses := true, apart := false, narrowed := true }
def TransportMatchesReferenceUptoSaid : Prop := transportMatchesReferenceUptoRow.holds Tryz.pinned (OpenSpec.upto transportMatchesReferenceSpec)

end Rows
end Go.Proofs.YtdmegkkifiahdaaGreat
