/-
  No cell of these rows narrows 'for every input' (looked for: loops, veiled, ifaces, maps, wideKeys, modest, calm, conditions, laid).
  DERIVED. THE GIVEN ROWS OF THIS SEAT. 8 by the template 'for every input the law returns true; each argument reads behind the call as it read before'; 0 by the template 'total and deterministic' (their statements: YtnidacjmgekdjaaTotals.lean).
  GIVEN WITH THE SEED: the statements are not yours to turn. If you find one false, say at which input.
  Laid BY PROGRAM, IN A SANDBOX (cutbox-rows.mjs): the forced cells as the released guide's own fill.sh prints them over the translation a0c0866f7da82d97… (all of the seat's roots in one cut). By AI agents, Wed Nov 11 2026. No macro, syntax, notation, axiom, sorry.
-/
import Derived.Test.YtnidacjmgekdjaaChecked
import GoSem.Claim
import GoSem.ClaimJoined
import GoSem.ClaimMapViews
import Derived.JoinedTies
import Derived.KernelRfl
namespace Go.Proofs.Ytnidacjmgekdjaa
/- THE CELL 'sum', in the pinned program and in every row, IS THE sha256 OF THE DUMP (.gsa) THAT YtnidacjmgekdjaaProg.lean LOADS. Nothing in Lean hashes anything: it is a label: what it is worth is what the hold of that sum in a sandbox is worth. -/
noncomputable def Try.pinned : Pinned := { name := "ytnidacjmgekdjaa", sum := "a0c0866f7da82d97877fdda9e3fd05ad534ff93759061486ae30fa6cd9769960", checked := Try.checked }
namespace Rows
def none {H : Type} : Left H := { results := [], args := [] }

/-- 'seamarklaw31.StationMatchesReference': WHATEVER THE INPUT: true; the input reads as it did. -/
def stationMatchesReferenceSpec : ChangeSpec := { name := "stationMatchesReference", fn := fun _ => fun
  | [d1, d2, d3, d4, d5, d6] => { results := [.lit (.bool true)], args := [d1, d2, d3, d4, d5, d6] }
  | _ => none }
def stationMatchesReferenceRow : OpenClaim := { program := "ytnidacjmgekdjaa", sum := "a0c0866f7da82d97877fdda9e3fd05ad534ff93759061486ae30fa6cd9769960", func := "seamark/seamarklaw31.StationMatchesReference", spec := "stationMatchesReference", unfollowed := true, recurses := true, apart := false }
def StationMatchesReferenceSaid : Prop := stationMatchesReferenceRow.holds Try.pinned (OpenSpec.ofChange stationMatchesReferenceSpec)

/-- ITS FALSE NEIGHBOUR: 'it returns false'. Refute it at one input. -/
def stationMatchesReferenceWrong : ChangeSpec := { name := "stationMatchesReference", fn := fun _ => fun
  | [d1, d2, d3, d4, d5, d6] => { results := [.lit (.bool false)], args := [d1, d2, d3, d4, d5, d6] }
  | _ => none }
def StationMatchesReferenceWrongFalsely : Prop := stationMatchesReferenceRow.holds Try.pinned (OpenSpec.ofChange stationMatchesReferenceWrong)

/-- 'seamarklaw31.StationDays': WHATEVER THE INPUT: true; the input reads as it did. -/
def stationDaysSpec : ChangeSpec := { name := "stationDays", fn := fun _ => fun
  | [d1, d2, d3, d4] => { results := [.lit (.bool true)], args := [d1, d2, d3, d4] }
  | _ => none }
def stationDaysRow : OpenClaim := { program := "ytnidacjmgekdjaa", sum := "a0c0866f7da82d97877fdda9e3fd05ad534ff93759061486ae30fa6cd9769960", func := "seamark/seamarklaw31.StationDays", spec := "stationDays", unfollowed := true, recurses := true, apart := false }
def StationDaysSaid : Prop := stationDaysRow.holds Try.pinned (OpenSpec.ofChange stationDaysSpec)

/-- ITS FALSE NEIGHBOUR: 'it returns false'. Refute it at one input. -/
def stationDaysWrong : ChangeSpec := { name := "stationDays", fn := fun _ => fun
  | [d1, d2, d3, d4] => { results := [.lit (.bool false)], args := [d1, d2, d3, d4] }
  | _ => none }
def StationDaysWrongFalsely : Prop := stationDaysRow.holds Try.pinned (OpenSpec.ofChange stationDaysWrong)

/-- 'seamarklaw31.StationHears': WHATEVER THE INPUT: true; the input reads as it did. -/
def stationHearsSpec : ChangeSpec := { name := "stationHears", fn := fun _ => fun
  | [d1, d2, d3, d4, d5, d6] => { results := [.lit (.bool true)], args := [d1, d2, d3, d4, d5, d6] }
  | _ => none }
def stationHearsRow : OpenClaim := { program := "ytnidacjmgekdjaa", sum := "a0c0866f7da82d97877fdda9e3fd05ad534ff93759061486ae30fa6cd9769960", func := "seamark/seamarklaw31.StationHears", spec := "stationHears", unfollowed := true, recurses := true, apart := false }
def StationHearsSaid : Prop := stationHearsRow.holds Try.pinned (OpenSpec.ofChange stationHearsSpec)

/-- ITS FALSE NEIGHBOUR: 'it returns false'. Refute it at one input. -/
def stationHearsWrong : ChangeSpec := { name := "stationHears", fn := fun _ => fun
  | [d1, d2, d3, d4, d5, d6] => { results := [.lit (.bool false)], args := [d1, d2, d3, d4, d5, d6] }
  | _ => none }
def StationHearsWrongFalsely : Prop := stationHearsRow.holds Try.pinned (OpenSpec.ofChange stationHearsWrong)

/-- 'seamarklaw31.StationRanges': WHATEVER THE INPUT: true; the input reads as it did. -/
def stationRangesSpec : ChangeSpec := { name := "stationRanges", fn := fun _ => fun
  | [d1, d2, d3, d4, d5, d6] => { results := [.lit (.bool true)], args := [d1, d2, d3, d4, d5, d6] }
  | _ => none }
def stationRangesRow : OpenClaim := { program := "ytnidacjmgekdjaa", sum := "a0c0866f7da82d97877fdda9e3fd05ad534ff93759061486ae30fa6cd9769960", func := "seamark/seamarklaw31.StationRanges", spec := "stationRanges", unfollowed := true, recurses := true, apart := false }
def StationRangesSaid : Prop := stationRangesRow.holds Try.pinned (OpenSpec.ofChange stationRangesSpec)

/-- ITS FALSE NEIGHBOUR: 'it returns false'. Refute it at one input. -/
def stationRangesWrong : ChangeSpec := { name := "stationRanges", fn := fun _ => fun
  | [d1, d2, d3, d4, d5, d6] => { results := [.lit (.bool false)], args := [d1, d2, d3, d4, d5, d6] }
  | _ => none }
def StationRangesWrongFalsely : Prop := stationRangesRow.holds Try.pinned (OpenSpec.ofChange stationRangesWrong)

/-- 'seamarklaw31.StationSlots': WHATEVER THE INPUT: true; the input reads as it did. -/
def stationSlotsSpec : ChangeSpec := { name := "stationSlots", fn := fun _ => fun
  | [d1, d2, d3, d4, d5] => { results := [.lit (.bool true)], args := [d1, d2, d3, d4, d5] }
  | _ => none }
def stationSlotsRow : OpenClaim := { program := "ytnidacjmgekdjaa", sum := "a0c0866f7da82d97877fdda9e3fd05ad534ff93759061486ae30fa6cd9769960", func := "seamark/seamarklaw31.StationSlots", spec := "stationSlots", unfollowed := true, recurses := true, apart := false }
def StationSlotsSaid : Prop := stationSlotsRow.holds Try.pinned (OpenSpec.ofChange stationSlotsSpec)

/-- ITS FALSE NEIGHBOUR: 'it returns false'. Refute it at one input. -/
def stationSlotsWrong : ChangeSpec := { name := "stationSlots", fn := fun _ => fun
  | [d1, d2, d3, d4, d5] => { results := [.lit (.bool false)], args := [d1, d2, d3, d4, d5] }
  | _ => none }
def StationSlotsWrongFalsely : Prop := stationSlotsRow.holds Try.pinned (OpenSpec.ofChange stationSlotsWrong)

/-- 'seamarklaw31.StationSure': WHATEVER THE INPUT: true; the input reads as it did. -/
def stationSureSpec : ChangeSpec := { name := "stationSure", fn := fun _ => fun
  | [d1, d2, d3, d4, d5, d6] => { results := [.lit (.bool true)], args := [d1, d2, d3, d4, d5, d6] }
  | _ => none }
def stationSureRow : OpenClaim := { program := "ytnidacjmgekdjaa", sum := "a0c0866f7da82d97877fdda9e3fd05ad534ff93759061486ae30fa6cd9769960", func := "seamark/seamarklaw31.StationSure", spec := "stationSure", unfollowed := true, recurses := true, apart := false }
def StationSureSaid : Prop := stationSureRow.holds Try.pinned (OpenSpec.ofChange stationSureSpec)

/-- ITS FALSE NEIGHBOUR: 'it returns false'. Refute it at one input. -/
def stationSureWrong : ChangeSpec := { name := "stationSure", fn := fun _ => fun
  | [d1, d2, d3, d4, d5, d6] => { results := [.lit (.bool false)], args := [d1, d2, d3, d4, d5, d6] }
  | _ => none }
def StationSureWrongFalsely : Prop := stationSureRow.holds Try.pinned (OpenSpec.ofChange stationSureWrong)

/-- 'seamarklaw31.StationNext': WHATEVER THE INPUT: true; the input reads as it did. -/
def stationNextSpec : ChangeSpec := { name := "stationNext", fn := fun _ => fun
  | [d1, d2] => { results := [.lit (.bool true)], args := [d1, d2] }
  | _ => none }
def stationNextRow : OpenClaim := { program := "ytnidacjmgekdjaa", sum := "a0c0866f7da82d97877fdda9e3fd05ad534ff93759061486ae30fa6cd9769960", func := "seamark/seamarklaw31.StationNext", spec := "stationNext", unfollowed := true, recurses := true, apart := false }
def StationNextSaid : Prop := stationNextRow.holds Try.pinned (OpenSpec.ofChange stationNextSpec)

/-- ITS FALSE NEIGHBOUR: 'it returns false'. Refute it at one input. -/
def stationNextWrong : ChangeSpec := { name := "stationNext", fn := fun _ => fun
  | [d1, d2] => { results := [.lit (.bool false)], args := [d1, d2] }
  | _ => none }
def StationNextWrongFalsely : Prop := stationNextRow.holds Try.pinned (OpenSpec.ofChange stationNextWrong)

/-- 'seamarklaw31.StationMoved': WHATEVER THE INPUT: true; the input reads as it did. -/
def stationMovedSpec : ChangeSpec := { name := "stationMoved", fn := fun _ => fun
  | [d1, d2, d3, d4, d5, d6, d7] => { results := [.lit (.bool true)], args := [d1, d2, d3, d4, d5, d6, d7] }
  | _ => none }
def stationMovedRow : OpenClaim := { program := "ytnidacjmgekdjaa", sum := "a0c0866f7da82d97877fdda9e3fd05ad534ff93759061486ae30fa6cd9769960", func := "seamark/seamarklaw31.StationMoved", spec := "stationMoved", unfollowed := true, recurses := true, apart := false }
def StationMovedSaid : Prop := stationMovedRow.holds Try.pinned (OpenSpec.ofChange stationMovedSpec)

/-- ITS FALSE NEIGHBOUR: 'it returns false'. Refute it at one input. -/
def stationMovedWrong : ChangeSpec := { name := "stationMoved", fn := fun _ => fun
  | [d1, d2, d3, d4, d5, d6, d7] => { results := [.lit (.bool false)], args := [d1, d2, d3, d4, d5, d6, d7] }
  | _ => none }
def StationMovedWrongFalsely : Prop := stationMovedRow.holds Try.pinned (OpenSpec.ofChange stationMovedWrong)

/- THE SECOND FORM. 'bulk': how many values and letters a reading holds, each counted each time it is reached (what is shared counts as often as it is met; a slice's spare places count too). A statement '..UptoSaid' is the law's where the arguments, and the package variables that the reading takes, are together of bulk at most 1048576: NARROWER than '..Said'. Prove '..Said' where nothing that the law and all that it calls make is longer than what came in: it says more and counts as full. Else prove '..UptoSaid'. A law counts once. -/
mutual
def uptoBulk {H : Type} : DataW H → Nat
  | .lit (.string bytes) => bytes.length + 1
  | .lit _ => 1
  | .nil => 1
  | .ptr d => uptoBulk d + 1
  | .slice elems spare => uptoBulkAll elems + uptoBulkAll spare + 1
  | .agg parts => uptoBulkAll parts + 1
  | .iface _ d => uptoBulk d + 1
  | .map entries => uptoBulkEntries entries + 1
  | .held _ => 1
def uptoBulkAll {H : Type} : List (DataW H) → Nat
  | [] => 0
  | d :: r => uptoBulk d + uptoBulkAll r
def uptoBulkEntries {H : Type} : List (Lit × DataW H) → Nat
  | [] => 0
  | x :: r => uptoBulkEntry x + uptoBulkEntries r
def uptoBulkEntry {H : Type} : Lit × DataW H → Nat
  | (.string bytes, d) => bytes.length + uptoBulk d + 1
  | (_, d) => uptoBulk d + 1
 end
def uptoSmall : (H : Type) → List (DataW H) → Bool := fun _ ds => decide (uptoBulkAll ds ≤ 1048576)
def OpenSpec.upto (s : _root_.Go.ChangeSpec) : _root_.Go.OpenSpec := { _root_.Go.OpenSpec.ofChange s with cond := some uptoSmall }

/-- 'seamarklaw31.StationMatchesReference', WHERE WHAT IT READS IS OF BULK AT MOST 1048576: true; the input reads as it did. -/
def stationMatchesReferenceUptoRow : OpenClaim := { program := "ytnidacjmgekdjaa", sum := "a0c0866f7da82d97877fdda9e3fd05ad534ff93759061486ae30fa6cd9769960", func := "seamark/seamarklaw31.StationMatchesReference", spec := "stationMatchesReference", unfollowed := true, recurses := true, apart := false, narrowed := true }
def StationMatchesReferenceUptoSaid : Prop := stationMatchesReferenceUptoRow.holds Try.pinned (OpenSpec.upto stationMatchesReferenceSpec)

/-- 'seamarklaw31.StationDays', WHERE WHAT IT READS IS OF BULK AT MOST 1048576: true; the input reads as it did. -/
def stationDaysUptoRow : OpenClaim := { program := "ytnidacjmgekdjaa", sum := "a0c0866f7da82d97877fdda9e3fd05ad534ff93759061486ae30fa6cd9769960", func := "seamark/seamarklaw31.StationDays", spec := "stationDays", unfollowed := true, recurses := true, apart := false, narrowed := true }
def StationDaysUptoSaid : Prop := stationDaysUptoRow.holds Try.pinned (OpenSpec.upto stationDaysSpec)

/-- 'seamarklaw31.StationHears', WHERE WHAT IT READS IS OF BULK AT MOST 1048576: true; the input reads as it did. -/
def stationHearsUptoRow : OpenClaim := { program := "ytnidacjmgekdjaa", sum := "a0c0866f7da82d97877fdda9e3fd05ad534ff93759061486ae30fa6cd9769960", func := "seamark/seamarklaw31.StationHears", spec := "stationHears", unfollowed := true, recurses := true, apart := false, narrowed := true }
def StationHearsUptoSaid : Prop := stationHearsUptoRow.holds Try.pinned (OpenSpec.upto stationHearsSpec)

/-- 'seamarklaw31.StationRanges', WHERE WHAT IT READS IS OF BULK AT MOST 1048576: true; the input reads as it did. -/
def stationRangesUptoRow : OpenClaim := { program := "ytnidacjmgekdjaa", sum := "a0c0866f7da82d97877fdda9e3fd05ad534ff93759061486ae30fa6cd9769960", func := "seamark/seamarklaw31.StationRanges", spec := "stationRanges", unfollowed := true, recurses := true, apart := false, narrowed := true }
def StationRangesUptoSaid : Prop := stationRangesUptoRow.holds Try.pinned (OpenSpec.upto stationRangesSpec)

/-- 'seamarklaw31.StationSlots', WHERE WHAT IT READS IS OF BULK AT MOST 1048576: true; the input reads as it did. -/
def stationSlotsUptoRow : OpenClaim := { program := "ytnidacjmgekdjaa", sum := "a0c0866f7da82d97877fdda9e3fd05ad534ff93759061486ae30fa6cd9769960", func := "seamark/seamarklaw31.StationSlots", spec := "stationSlots", unfollowed := true, recurses := true, apart := false, narrowed := true }
def StationSlotsUptoSaid : Prop := stationSlotsUptoRow.holds Try.pinned (OpenSpec.upto stationSlotsSpec)

/-- 'seamarklaw31.StationSure', WHERE WHAT IT READS IS OF BULK AT MOST 1048576: true; the input reads as it did. -/
def stationSureUptoRow : OpenClaim := { program := "ytnidacjmgekdjaa", sum := "a0c0866f7da82d97877fdda9e3fd05ad534ff93759061486ae30fa6cd9769960", func := "seamark/seamarklaw31.StationSure", spec := "stationSure", unfollowed := true, recurses := true, apart := false, narrowed := true }
def StationSureUptoSaid : Prop := stationSureUptoRow.holds Try.pinned (OpenSpec.upto stationSureSpec)

/-- 'seamarklaw31.StationNext', WHERE WHAT IT READS IS OF BULK AT MOST 1048576: true; the input reads as it did. -/
def stationNextUptoRow : OpenClaim := { program := "ytnidacjmgekdjaa", sum := "a0c0866f7da82d97877fdda9e3fd05ad534ff93759061486ae30fa6cd9769960", func := "seamark/seamarklaw31.StationNext", spec := "stationNext", unfollowed := true, recurses := true, apart := false, narrowed := true }
def StationNextUptoSaid : Prop := stationNextUptoRow.holds Try.pinned (OpenSpec.upto stationNextSpec)

/-- 'seamarklaw31.StationMoved', WHERE WHAT IT READS IS OF BULK AT MOST 1048576: true; the input reads as it did. -/
def stationMovedUptoRow : OpenClaim := { program := "ytnidacjmgekdjaa", sum := "a0c0866f7da82d97877fdda9e3fd05ad534ff93759061486ae30fa6cd9769960", func := "seamark/seamarklaw31.StationMoved", spec := "stationMoved", unfollowed := true, recurses := true, apart := false, narrowed := true }
def StationMovedUptoSaid : Prop := stationMovedUptoRow.holds Try.pinned (OpenSpec.upto stationMovedSpec)

end Rows
end Go.Proofs.Ytnidacjmgekdjaa
