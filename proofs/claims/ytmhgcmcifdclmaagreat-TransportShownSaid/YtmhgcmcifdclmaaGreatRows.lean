/-
  No cell of these rows narrows 'for every input' (looked for: loops, veiled, ifaces, maps, wideKeys, modest, calm, conditions, laid).
  DERIVED. THE GIVEN ROWS OF THIS SEAT. 9 by the template 'for every input the law returns true; each argument reads behind the call as it read before'; 0 by the template 'total and deterministic' (their statements: YtmhgcmcifdclmaaGreatTotals.lean).
  GIVEN WITH THE SEED: the statements are not yours to turn. If you find one false, say at which input.
  Laid BY PROGRAM, IN A SANDBOX (cutbox-rows.mjs): the forced cells as the released guide's own fill.sh prints them over the translation fb2774f5ac1da389… (all of the seat's roots in one cut). By AI agents, Wed Nov 11 2026. No macro, syntax, notation, axiom, sorry.
-/
import Derived.Test.YtmhgcmcifdclmaaGreatChecked
import GoSem.Claim
import GoSem.ClaimJoined
import GoSem.ClaimMapViews
import Derived.JoinedTies
import Derived.KernelRfl
namespace Go.Proofs.YtmhgcmcifdclmaaGreat
/- THE CELL 'sum', in the pinned program and in every row, IS THE sha256 OF THE DUMP (.gsa) THAT YtmhgcmcifdclmaaGreatProg.lean LOADS. Nothing in Lean hashes anything: it is a label: what it is worth is what the hold of that sum in a sandbox is worth. -/
noncomputable def Tryz.pinned : Pinned := { name := "ytmhgcmcifdclmaagreat", sum := "fb2774f5ac1da389fbb7b6da608c0ebf6044d992da42866cbd476b45773d9843", checked := Tryz.checked }
namespace Rows
def none {H : Type} : Left H := { results := [], args := [] }

/-- 'seamarklaw20.TransportSymbols': WHATEVER THE INPUT: true; the input reads as it did. -/
def transportSymbolsSpec : ChangeSpec := { name := "transportSymbols", fn := fun _ => fun
  | [d1, d2, d3, d4] => { results := [.lit (.bool true)], args := [d1, d2, d3, d4] }
  | _ => none }
def transportSymbolsRow : OpenClaim := { program := "ytmhgcmcifdclmaagreat", sum := "fb2774f5ac1da389fbb7b6da608c0ebf6044d992da42866cbd476b45773d9843", func := "seamark/seamarklaw20.TransportSymbols", spec := "transportSymbols", unfollowed := true, recurses := true, apart := false }
def TransportSymbolsSaid : Prop := transportSymbolsRow.holds Tryz.pinned (OpenSpec.ofChange transportSymbolsSpec)

/-- ITS FALSE NEIGHBOUR: 'it returns false'. Refute it at one input. -/
def transportSymbolsWrong : ChangeSpec := { name := "transportSymbols", fn := fun _ => fun
  | [d1, d2, d3, d4] => { results := [.lit (.bool false)], args := [d1, d2, d3, d4] }
  | _ => none }
def TransportSymbolsWrongFalsely : Prop := transportSymbolsRow.holds Tryz.pinned (OpenSpec.ofChange transportSymbolsWrong)

/-- 'seamarklaw20.TransportWhole': WHATEVER THE INPUT: true; the input reads as it did. -/
def transportWholeSpec : ChangeSpec := { name := "transportWhole", fn := fun _ => fun
  | [d1, d2] => { results := [.lit (.bool true)], args := [d1, d2] }
  | _ => none }
def transportWholeRow : OpenClaim := { program := "ytmhgcmcifdclmaagreat", sum := "fb2774f5ac1da389fbb7b6da608c0ebf6044d992da42866cbd476b45773d9843", func := "seamark/seamarklaw20.TransportWhole", spec := "transportWhole", unfollowed := true, recurses := true, apart := false }
def TransportWholeSaid : Prop := transportWholeRow.holds Tryz.pinned (OpenSpec.ofChange transportWholeSpec)

/-- ITS FALSE NEIGHBOUR: 'it returns false'. Refute it at one input. -/
def transportWholeWrong : ChangeSpec := { name := "transportWhole", fn := fun _ => fun
  | [d1, d2] => { results := [.lit (.bool false)], args := [d1, d2] }
  | _ => none }
def TransportWholeWrongFalsely : Prop := transportWholeRow.holds Tryz.pinned (OpenSpec.ofChange transportWholeWrong)

/-- 'seamarklaw20.TransportCovered': WHATEVER THE INPUT: true; the input reads as it did. -/
def transportCoveredSpec : ChangeSpec := { name := "transportCovered", fn := fun _ => fun
  | [d1, d2, d3, d4, d5, d6] => { results := [.lit (.bool true)], args := [d1, d2, d3, d4, d5, d6] }
  | _ => none }
def transportCoveredRow : OpenClaim := { program := "ytmhgcmcifdclmaagreat", sum := "fb2774f5ac1da389fbb7b6da608c0ebf6044d992da42866cbd476b45773d9843", func := "seamark/seamarklaw20.TransportCovered", spec := "transportCovered", unfollowed := true, recurses := true, apart := false }
def TransportCoveredSaid : Prop := transportCoveredRow.holds Tryz.pinned (OpenSpec.ofChange transportCoveredSpec)

/-- ITS FALSE NEIGHBOUR: 'it returns false'. Refute it at one input. -/
def transportCoveredWrong : ChangeSpec := { name := "transportCovered", fn := fun _ => fun
  | [d1, d2, d3, d4, d5, d6] => { results := [.lit (.bool false)], args := [d1, d2, d3, d4, d5, d6] }
  | _ => none }
def TransportCoveredWrongFalsely : Prop := transportCoveredRow.holds Tryz.pinned (OpenSpec.ofChange transportCoveredWrong)

/-- 'seamarklaw20.TransportStands': WHATEVER THE INPUT: true; the input reads as it did. -/
def transportStandsSpec : ChangeSpec := { name := "transportStands", fn := fun _ => fun
  | [d1, d2, d3, d4, d5, d6, d7] => { results := [.lit (.bool true)], args := [d1, d2, d3, d4, d5, d6, d7] }
  | _ => none }
def transportStandsRow : OpenClaim := { program := "ytmhgcmcifdclmaagreat", sum := "fb2774f5ac1da389fbb7b6da608c0ebf6044d992da42866cbd476b45773d9843", func := "seamark/seamarklaw20.TransportStands", spec := "transportStands", unfollowed := true, recurses := true, apart := false }
def TransportStandsSaid : Prop := transportStandsRow.holds Tryz.pinned (OpenSpec.ofChange transportStandsSpec)

/-- ITS FALSE NEIGHBOUR: 'it returns false'. Refute it at one input. -/
def transportStandsWrong : ChangeSpec := { name := "transportStands", fn := fun _ => fun
  | [d1, d2, d3, d4, d5, d6, d7] => { results := [.lit (.bool false)], args := [d1, d2, d3, d4, d5, d6, d7] }
  | _ => none }
def TransportStandsWrongFalsely : Prop := transportStandsRow.holds Tryz.pinned (OpenSpec.ofChange transportStandsWrong)

/-- 'seamarklaw20.TransportTwo': WHATEVER THE INPUT: true; the input reads as it did. -/
def transportTwoSpec : ChangeSpec := { name := "transportTwo", fn := fun _ => fun
  | [d1, d2, d3, d4, d5, d6, d7, d8, d9] => { results := [.lit (.bool true)], args := [d1, d2, d3, d4, d5, d6, d7, d8, d9] }
  | _ => none }
def transportTwoRow : OpenClaim := { program := "ytmhgcmcifdclmaagreat", sum := "fb2774f5ac1da389fbb7b6da608c0ebf6044d992da42866cbd476b45773d9843", func := "seamark/seamarklaw20.TransportTwo", spec := "transportTwo", unfollowed := true, recurses := true, apart := false }
def TransportTwoSaid : Prop := transportTwoRow.holds Tryz.pinned (OpenSpec.ofChange transportTwoSpec)

/-- ITS FALSE NEIGHBOUR: 'it returns false'. Refute it at one input. -/
def transportTwoWrong : ChangeSpec := { name := "transportTwo", fn := fun _ => fun
  | [d1, d2, d3, d4, d5, d6, d7, d8, d9] => { results := [.lit (.bool false)], args := [d1, d2, d3, d4, d5, d6, d7, d8, d9] }
  | _ => none }
def TransportTwoWrongFalsely : Prop := transportTwoRow.holds Tryz.pinned (OpenSpec.ofChange transportTwoWrong)

/-- 'seamarklaw20.TransportShown': WHATEVER THE INPUT: true; the input reads as it did. -/
def transportShownSpec : ChangeSpec := { name := "transportShown", fn := fun _ => fun
  | [d1, d2, d3, d4, d5, d6, d7, d8] => { results := [.lit (.bool true)], args := [d1, d2, d3, d4, d5, d6, d7, d8] }
  | _ => none }
def transportShownRow : OpenClaim := { program := "ytmhgcmcifdclmaagreat", sum := "fb2774f5ac1da389fbb7b6da608c0ebf6044d992da42866cbd476b45773d9843", func := "seamark/seamarklaw20.TransportShown", spec := "transportShown", unfollowed := true, recurses := true, apart := false }
def TransportShownSaid : Prop := transportShownRow.holds Tryz.pinned (OpenSpec.ofChange transportShownSpec)

/-- ITS FALSE NEIGHBOUR: 'it returns false'. Refute it at one input. -/
def transportShownWrong : ChangeSpec := { name := "transportShown", fn := fun _ => fun
  | [d1, d2, d3, d4, d5, d6, d7, d8] => { results := [.lit (.bool false)], args := [d1, d2, d3, d4, d5, d6, d7, d8] }
  | _ => none }
def TransportShownWrongFalsely : Prop := transportShownRow.holds Tryz.pinned (OpenSpec.ofChange transportShownWrong)

/-- 'seamarklaw20.TransportSheets': WHATEVER THE INPUT: true; the input reads as it did. -/
def transportSheetsSpec : ChangeSpec := { name := "transportSheets", fn := fun _ => fun
  | [d1, d2, d3, d4, d5, d6, d7] => { results := [.lit (.bool true)], args := [d1, d2, d3, d4, d5, d6, d7] }
  | _ => none }
def transportSheetsRow : OpenClaim := { program := "ytmhgcmcifdclmaagreat", sum := "fb2774f5ac1da389fbb7b6da608c0ebf6044d992da42866cbd476b45773d9843", func := "seamark/seamarklaw20.TransportSheets", spec := "transportSheets", unfollowed := true, recurses := true, apart := false }
def TransportSheetsSaid : Prop := transportSheetsRow.holds Tryz.pinned (OpenSpec.ofChange transportSheetsSpec)

/-- ITS FALSE NEIGHBOUR: 'it returns false'. Refute it at one input. -/
def transportSheetsWrong : ChangeSpec := { name := "transportSheets", fn := fun _ => fun
  | [d1, d2, d3, d4, d5, d6, d7] => { results := [.lit (.bool false)], args := [d1, d2, d3, d4, d5, d6, d7] }
  | _ => none }
def TransportSheetsWrongFalsely : Prop := transportSheetsRow.holds Tryz.pinned (OpenSpec.ofChange transportSheetsWrong)

/-- 'seamarklaw20.TransportPatches': WHATEVER THE INPUT: true; the input reads as it did. -/
def transportPatchesSpec : ChangeSpec := { name := "transportPatches", fn := fun _ => fun
  | [d1, d2, d3, d4, d5] => { results := [.lit (.bool true)], args := [d1, d2, d3, d4, d5] }
  | _ => none }
def transportPatchesRow : OpenClaim := { program := "ytmhgcmcifdclmaagreat", sum := "fb2774f5ac1da389fbb7b6da608c0ebf6044d992da42866cbd476b45773d9843", func := "seamark/seamarklaw20.TransportPatches", spec := "transportPatches", unfollowed := true, recurses := true, apart := false }
def TransportPatchesSaid : Prop := transportPatchesRow.holds Tryz.pinned (OpenSpec.ofChange transportPatchesSpec)

/-- ITS FALSE NEIGHBOUR: 'it returns false'. Refute it at one input. -/
def transportPatchesWrong : ChangeSpec := { name := "transportPatches", fn := fun _ => fun
  | [d1, d2, d3, d4, d5] => { results := [.lit (.bool false)], args := [d1, d2, d3, d4, d5] }
  | _ => none }
def TransportPatchesWrongFalsely : Prop := transportPatchesRow.holds Tryz.pinned (OpenSpec.ofChange transportPatchesWrong)

/-- 'seamarklaw20.TransportMatchesReference': WHATEVER THE INPUT: true; the input reads as it did. -/
def transportMatchesReferenceSpec : ChangeSpec := { name := "transportMatchesReference", fn := fun _ => fun
  | [d1, d2, d3, d4, d5, d6, d7, d8, d9, d10] => { results := [.lit (.bool true)], args := [d1, d2, d3, d4, d5, d6, d7, d8, d9, d10] }
  | _ => none }
def transportMatchesReferenceRow : OpenClaim := { program := "ytmhgcmcifdclmaagreat", sum := "fb2774f5ac1da389fbb7b6da608c0ebf6044d992da42866cbd476b45773d9843", func := "seamark/seamarklaw20.TransportMatchesReference", spec := "transportMatchesReference", unfollowed := true, recurses := true, apart := false }
def TransportMatchesReferenceSaid : Prop := transportMatchesReferenceRow.holds Tryz.pinned (OpenSpec.ofChange transportMatchesReferenceSpec)

/-- ITS FALSE NEIGHBOUR: 'it returns false'. Refute it at one input. -/
def transportMatchesReferenceWrong : ChangeSpec := { name := "transportMatchesReference", fn := fun _ => fun
  | [d1, d2, d3, d4, d5, d6, d7, d8, d9, d10] => { results := [.lit (.bool false)], args := [d1, d2, d3, d4, d5, d6, d7, d8, d9, d10] }
  | _ => none }
def TransportMatchesReferenceWrongFalsely : Prop := transportMatchesReferenceRow.holds Tryz.pinned (OpenSpec.ofChange transportMatchesReferenceWrong)

/- THE SECOND FORM. 'bulk': how many values and letters a reading holds, each counted each time it is reached (what is shared counts as often as it is met; a slice's spare places count too). A statement '..UptoSaid' is the law's where the arguments, and the package variables that the reading takes, are together of bulk at most 1048576: NARROWER than '..Said'. Prove '..Said' where nothing that the law and all that it calls make is longer than what came in: it says more and counts as full. Else prove '..UptoSaid'. A law counts once. -/
mutual
def uptoBulk {H : Type} : DataW H → Nat
  | .lit (.string bytes) => bytes.length + 1
  | .lit _ => 1
  | .nil => 1
  | .ptr d => uptoBulk d + 1
  | .slice elems spare => uptoBulkAll elems + uptoBulkAll spare + 1
  | .agg parts => uptoBulkAll parts + 1
  | .iface _ d => uptoBulk d + 1
  | .map entries => uptoBulkEntries entries + 1
  | .held _ => 1
def uptoBulkAll {H : Type} : List (DataW H) → Nat
  | [] => 0
  | d :: r => uptoBulk d + uptoBulkAll r
def uptoBulkEntries {H : Type} : List (Lit × DataW H) → Nat
  | [] => 0
  | x :: r => uptoBulkEntry x + uptoBulkEntries r
def uptoBulkEntry {H : Type} : Lit × DataW H → Nat
  | (.string bytes, d) => bytes.length + uptoBulk d + 1
  | (_, d) => uptoBulk d + 1
 end
def uptoSmall : (H : Type) → List (DataW H) → Bool := fun _ ds => decide (uptoBulkAll ds ≤ 1048576)
def OpenSpec.upto (s : _root_.Go.ChangeSpec) : _root_.Go.OpenSpec := { _root_.Go.OpenSpec.ofChange s with cond := some uptoSmall }

/-- 'seamarklaw20.TransportSymbols', WHERE WHAT IT READS IS OF BULK AT MOST 1048576: true; the input reads as it did. -/
def transportSymbolsUptoRow : OpenClaim := { program := "ytmhgcmcifdclmaagreat", sum := "fb2774f5ac1da389fbb7b6da608c0ebf6044d992da42866cbd476b45773d9843", func := "seamark/seamarklaw20.TransportSymbols", spec := "transportSymbols", unfollowed := true, recurses := true, apart := false, narrowed := true }
def TransportSymbolsUptoSaid : Prop := transportSymbolsUptoRow.holds Tryz.pinned (OpenSpec.upto transportSymbolsSpec)

/-- 'seamarklaw20.TransportWhole', WHERE WHAT IT READS IS OF BULK AT MOST 1048576: true; the input reads as it did. -/
def transportWholeUptoRow : OpenClaim := { program := "ytmhgcmcifdclmaagreat", sum := "fb2774f5ac1da389fbb7b6da608c0ebf6044d992da42866cbd476b45773d9843", func := "seamark/seamarklaw20.TransportWhole", spec := "transportWhole", unfollowed := true, recurses := true, apart := false, narrowed := true }
def TransportWholeUptoSaid : Prop := transportWholeUptoRow.holds Tryz.pinned (OpenSpec.upto transportWholeSpec)

/-- 'seamarklaw20.TransportCovered', WHERE WHAT IT READS IS OF BULK AT MOST 1048576: true; the input reads as it did. -/
def transportCoveredUptoRow : OpenClaim := { program := "ytmhgcmcifdclmaagreat", sum := "fb2774f5ac1da389fbb7b6da608c0ebf6044d992da42866cbd476b45773d9843", func := "seamark/seamarklaw20.TransportCovered", spec := "transportCovered", unfollowed := true, recurses := true, apart := false, narrowed := true }
def TransportCoveredUptoSaid : Prop := transportCoveredUptoRow.holds Tryz.pinned (OpenSpec.upto transportCoveredSpec)

/-- 'seamarklaw20.TransportStands', WHERE WHAT IT READS IS OF BULK AT MOST 1048576: true; the input reads as it did. -/
def transportStandsUptoRow : OpenClaim := { program := "ytmhgcmcifdclmaagreat", sum := "fb2774f5ac1da389fbb7b6da608c0ebf6044d992da42866cbd476b45773d9843", func := "seamark/seamarklaw20.TransportStands", spec := "transportStands", unfollowed := true, recurses := true, apart := false, narrowed := true }
def TransportStandsUptoSaid : Prop := transportStandsUptoRow.holds Tryz.pinned (OpenSpec.upto transportStandsSpec)

/-- 'seamarklaw20.TransportTwo', WHERE WHAT IT READS IS OF BULK AT MOST 1048576: true; the input reads as it did. -/
def transportTwoUptoRow : OpenClaim := { program := "ytmhgcmcifdclmaagreat", sum := "fb2774f5ac1da389fbb7b6da608c0ebf6044d992da42866cbd476b45773d9843", func := "seamark/seamarklaw20.TransportTwo", spec := "transportTwo", unfollowed := true, recurses := true, apart := false, narrowed := true }
def TransportTwoUptoSaid : Prop := transportTwoUptoRow.holds Tryz.pinned (OpenSpec.upto transportTwoSpec)

/-- 'seamarklaw20.TransportShown', WHERE WHAT IT READS IS OF BULK AT MOST 1048576: true; the input reads as it did. -/
def transportShownUptoRow : OpenClaim := { program := "ytmhgcmcifdclmaagreat", sum := "fb2774f5ac1da389fbb7b6da608c0ebf6044d992da42866cbd476b45773d9843", func := "seamark/seamarklaw20.TransportShown", spec := "transportShown", unfollowed := true, recurses := true, apart := false, narrowed := true }
def TransportShownUptoSaid : Prop := transportShownUptoRow.holds Tryz.pinned (OpenSpec.upto transportShownSpec)

/-- 'seamarklaw20.TransportSheets', WHERE WHAT IT READS IS OF BULK AT MOST 1048576: true; the input reads as it did. -/
def transportSheetsUptoRow : OpenClaim := { program := "ytmhgcmcifdclmaagreat", sum := "fb2774f5ac1da389fbb7b6da608c0ebf6044d992da42866cbd476b45773d9843", func := "seamark/seamarklaw20.TransportSheets", spec := "transportSheets", unfollowed := true, recurses := true, apart := false, narrowed := true }
def TransportSheetsUptoSaid : Prop := transportSheetsUptoRow.holds Tryz.pinned (OpenSpec.upto transportSheetsSpec)

/-- 'seamarklaw20.TransportPatches', WHERE WHAT IT READS IS OF BULK AT MOST 1048576: true; the input reads as it did. -/
def transportPatchesUptoRow : OpenClaim := { program := "ytmhgcmcifdclmaagreat", sum := "fb2774f5ac1da389fbb7b6da608c0ebf6044d992da42866cbd476b45773d9843", func := "seamark/seamarklaw20.TransportPatches", spec := "transportPatches", unfollowed := true, recurses := true, apart := false, narrowed := true }
def TransportPatchesUptoSaid : Prop := transportPatchesUptoRow.holds Tryz.pinned (OpenSpec.upto transportPatchesSpec)

/-- 'seamarklaw20.TransportMatchesReference', WHERE WHAT IT READS IS OF BULK AT MOST 1048576: true; the input reads as it did. -/
def transportMatchesReferenceUptoRow : OpenClaim := { program := "ytmhgcmcifdclmaagreat", sum := "fb2774f5ac1da389fbb7b6da608c0ebf6044d992da42866cbd476b45773d9843", func := "seamark/seamarklaw20.TransportMatchesReference", spec := "transportMatchesReference", unfollowed := true, recurses := true, apart := false, narrowed := true }
def TransportMatchesReferenceUptoSaid : Prop := transportMatchesReferenceUptoRow.holds Tryz.pinned (OpenSpec.upto transportMatchesReferenceSpec)

end Rows
end Go.Proofs.YtmhgcmcifdclmaaGreat
