/-
  No cell of these rows narrows 'for every input' (looked for: loops, veiled, ifaces, maps, wideKeys, modest, calm, conditions, laid).
  DERIVED. THE GIVEN ROWS OF THIS SEAT. 8 by the template 'for every input the law returns true; each argument reads behind the call as it read before'; 0 by the template 'total and deterministic' (their statements: YtkpmiehggmeejaaTotals.lean).
  GIVEN WITH THE SEED: the statements are not yours to turn. If you find one false, say at which input.
  Laid BY PROGRAM, IN A SANDBOX (cutbox-rows.mjs): the forced cells as the released guide's own fill.sh prints them over the translation c15371f8e5b11b28… (all of the seat's roots in one cut). By AI agents, Wed Nov 11 2026. No macro, syntax, notation, axiom, sorry.
-/
import Derived.Test.YtkpmiehggmeejaaChecked
import GoSem.Claim
import GoSem.ClaimJoined
import GoSem.ClaimMapViews
import Derived.JoinedTies
import Derived.KernelRfl
namespace Go.Proofs.Ytkpmiehggmeejaa
/- THE CELL 'sum', in the pinned program and in every row, IS THE sha256 OF THE DUMP (.gsa) THAT YtkpmiehggmeejaaProg.lean LOADS. Nothing in Lean hashes anything: it is a label: what it is worth is what the hold of that sum in a sandbox is worth. -/
noncomputable def Try.pinned : Pinned := { name := "ytkpmiehggmeejaa", sum := "c15371f8e5b11b28c0cca3672713b5882d4d38336b8d9df1b673bae339ce9ae3", checked := Try.checked }
namespace Rows
def none {H : Type} : Left H := { results := [], args := [] }

/-- 'seamarklaw01.PlaneTurns': WHATEVER THE INPUT: true; the input reads as it did. -/
def planeTurnsSpec : ChangeSpec := { name := "planeTurns", fn := fun _ => fun
  | [d1, d2, d3] => { results := [.lit (.bool true)], args := [d1, d2, d3] }
  | _ => none }
def planeTurnsRow : OpenClaim := { program := "ytkpmiehggmeejaa", sum := "c15371f8e5b11b28c0cca3672713b5882d4d38336b8d9df1b673bae339ce9ae3", func := "seamark/seamarklaw01.PlaneTurns", spec := "planeTurns", unfollowed := true, recurses := true, apart := false }
def PlaneTurnsSaid : Prop := planeTurnsRow.holds Try.pinned (OpenSpec.ofChange planeTurnsSpec)

/-- ITS FALSE NEIGHBOUR: 'it returns false'. Refute it at one input. -/
def planeTurnsWrong : ChangeSpec := { name := "planeTurns", fn := fun _ => fun
  | [d1, d2, d3] => { results := [.lit (.bool false)], args := [d1, d2, d3] }
  | _ => none }
def PlaneTurnsWrongFalsely : Prop := planeTurnsRow.holds Try.pinned (OpenSpec.ofChange planeTurnsWrong)

/-- 'seamarklaw01.PlaneMeets': WHATEVER THE INPUT: true; the input reads as it did. -/
def planeMeetsSpec : ChangeSpec := { name := "planeMeets", fn := fun _ => fun
  | [d1, d2, d3, d4, d5] => { results := [.lit (.bool true)], args := [d1, d2, d3, d4, d5] }
  | _ => none }
def planeMeetsRow : OpenClaim := { program := "ytkpmiehggmeejaa", sum := "c15371f8e5b11b28c0cca3672713b5882d4d38336b8d9df1b673bae339ce9ae3", func := "seamark/seamarklaw01.PlaneMeets", spec := "planeMeets", unfollowed := true, recurses := true, apart := false }
def PlaneMeetsSaid : Prop := planeMeetsRow.holds Try.pinned (OpenSpec.ofChange planeMeetsSpec)

/-- ITS FALSE NEIGHBOUR: 'it returns false'. Refute it at one input. -/
def planeMeetsWrong : ChangeSpec := { name := "planeMeets", fn := fun _ => fun
  | [d1, d2, d3, d4, d5] => { results := [.lit (.bool false)], args := [d1, d2, d3, d4, d5] }
  | _ => none }
def PlaneMeetsWrongFalsely : Prop := planeMeetsRow.holds Try.pinned (OpenSpec.ofChange planeMeetsWrong)

/-- 'seamarklaw01.PlaneDistances': WHATEVER THE INPUT: true; the input reads as it did. -/
def planeDistancesSpec : ChangeSpec := { name := "planeDistances", fn := fun _ => fun
  | [d1, d2, d3] => { results := [.lit (.bool true)], args := [d1, d2, d3] }
  | _ => none }
def planeDistancesRow : OpenClaim := { program := "ytkpmiehggmeejaa", sum := "c15371f8e5b11b28c0cca3672713b5882d4d38336b8d9df1b673bae339ce9ae3", func := "seamark/seamarklaw01.PlaneDistances", spec := "planeDistances", unfollowed := true, recurses := true, apart := false }
def PlaneDistancesSaid : Prop := planeDistancesRow.holds Try.pinned (OpenSpec.ofChange planeDistancesSpec)

/-- ITS FALSE NEIGHBOUR: 'it returns false'. Refute it at one input. -/
def planeDistancesWrong : ChangeSpec := { name := "planeDistances", fn := fun _ => fun
  | [d1, d2, d3] => { results := [.lit (.bool false)], args := [d1, d2, d3] }
  | _ => none }
def PlaneDistancesWrongFalsely : Prop := planeDistancesRow.holds Try.pinned (OpenSpec.ofChange planeDistancesWrong)

/-- 'seamarklaw01.PlaneDiscs': WHATEVER THE INPUT: true; the input reads as it did. -/
def planeDiscsSpec : ChangeSpec := { name := "planeDiscs", fn := fun _ => fun
  | [d1, d2, d3, d4, d5, d6] => { results := [.lit (.bool true)], args := [d1, d2, d3, d4, d5, d6] }
  | _ => none }
def planeDiscsRow : OpenClaim := { program := "ytkpmiehggmeejaa", sum := "c15371f8e5b11b28c0cca3672713b5882d4d38336b8d9df1b673bae339ce9ae3", func := "seamark/seamarklaw01.PlaneDiscs", spec := "planeDiscs", unfollowed := true, recurses := true, apart := false }
def PlaneDiscsSaid : Prop := planeDiscsRow.holds Try.pinned (OpenSpec.ofChange planeDiscsSpec)

/-- ITS FALSE NEIGHBOUR: 'it returns false'. Refute it at one input. -/
def planeDiscsWrong : ChangeSpec := { name := "planeDiscs", fn := fun _ => fun
  | [d1, d2, d3, d4, d5, d6] => { results := [.lit (.bool false)], args := [d1, d2, d3, d4, d5, d6] }
  | _ => none }
def PlaneDiscsWrongFalsely : Prop := planeDiscsRow.holds Try.pinned (OpenSpec.ofChange planeDiscsWrong)

/-- 'seamarklaw01.PlaneClose': WHATEVER THE INPUT: true; the input reads as it did. -/
def planeCloseSpec : ChangeSpec := { name := "planeClose", fn := fun _ => fun
  | [d1, d2, d3, d4, d5, d6, d7, d8] => { results := [.lit (.bool true)], args := [d1, d2, d3, d4, d5, d6, d7, d8] }
  | _ => none }
def planeCloseRow : OpenClaim := { program := "ytkpmiehggmeejaa", sum := "c15371f8e5b11b28c0cca3672713b5882d4d38336b8d9df1b673bae339ce9ae3", func := "seamark/seamarklaw01.PlaneClose", spec := "planeClose", unfollowed := true, recurses := true, apart := false }
def PlaneCloseSaid : Prop := planeCloseRow.holds Try.pinned (OpenSpec.ofChange planeCloseSpec)

/-- ITS FALSE NEIGHBOUR: 'it returns false'. Refute it at one input. -/
def planeCloseWrong : ChangeSpec := { name := "planeClose", fn := fun _ => fun
  | [d1, d2, d3, d4, d5, d6, d7, d8] => { results := [.lit (.bool false)], args := [d1, d2, d3, d4, d5, d6, d7, d8] }
  | _ => none }
def PlaneCloseWrongFalsely : Prop := planeCloseRow.holds Try.pinned (OpenSpec.ofChange planeCloseWrong)

/-- 'seamarklaw01.PlaneMoved': WHATEVER THE INPUT: true; the input reads as it did. -/
def planeMovedSpec : ChangeSpec := { name := "planeMoved", fn := fun _ => fun
  | [d1, d2, d3, d4, d5, d6, d7] => { results := [.lit (.bool true)], args := [d1, d2, d3, d4, d5, d6, d7] }
  | _ => none }
def planeMovedRow : OpenClaim := { program := "ytkpmiehggmeejaa", sum := "c15371f8e5b11b28c0cca3672713b5882d4d38336b8d9df1b673bae339ce9ae3", func := "seamark/seamarklaw01.PlaneMoved", spec := "planeMoved", unfollowed := true, recurses := true, apart := false }
def PlaneMovedSaid : Prop := planeMovedRow.holds Try.pinned (OpenSpec.ofChange planeMovedSpec)

/-- ITS FALSE NEIGHBOUR: 'it returns false'. Refute it at one input. -/
def planeMovedWrong : ChangeSpec := { name := "planeMoved", fn := fun _ => fun
  | [d1, d2, d3, d4, d5, d6, d7] => { results := [.lit (.bool false)], args := [d1, d2, d3, d4, d5, d6, d7] }
  | _ => none }
def PlaneMovedWrongFalsely : Prop := planeMovedRow.holds Try.pinned (OpenSpec.ofChange planeMovedWrong)

/-- 'seamarklaw01.PlaneMatchesReference': WHATEVER THE INPUT: true; the input reads as it did. -/
def planeMatchesReferenceSpec : ChangeSpec := { name := "planeMatchesReference", fn := fun _ => fun
  | [d1, d2, d3, d4, d5, d6] => { results := [.lit (.bool true)], args := [d1, d2, d3, d4, d5, d6] }
  | _ => none }
def planeMatchesReferenceRow : OpenClaim := { program := "ytkpmiehggmeejaa", sum := "c15371f8e5b11b28c0cca3672713b5882d4d38336b8d9df1b673bae339ce9ae3", func := "seamark/seamarklaw01.PlaneMatchesReference", spec := "planeMatchesReference", unfollowed := true, recurses := true, apart := false }
def PlaneMatchesReferenceSaid : Prop := planeMatchesReferenceRow.holds Try.pinned (OpenSpec.ofChange planeMatchesReferenceSpec)

/-- ITS FALSE NEIGHBOUR: 'it returns false'. Refute it at one input. -/
def planeMatchesReferenceWrong : ChangeSpec := { name := "planeMatchesReference", fn := fun _ => fun
  | [d1, d2, d3, d4, d5, d6] => { results := [.lit (.bool false)], args := [d1, d2, d3, d4, d5, d6] }
  | _ => none }
def PlaneMatchesReferenceWrongFalsely : Prop := planeMatchesReferenceRow.holds Try.pinned (OpenSpec.ofChange planeMatchesReferenceWrong)

/-- 'seamarklaw01.PlaneNear': WHATEVER THE INPUT: true; the input reads as it did. -/
def planeNearSpec : ChangeSpec := { name := "planeNear", fn := fun _ => fun
  | [d1, d2, d3, d4, d5, d6] => { results := [.lit (.bool true)], args := [d1, d2, d3, d4, d5, d6] }
  | _ => none }
def planeNearRow : OpenClaim := { program := "ytkpmiehggmeejaa", sum := "c15371f8e5b11b28c0cca3672713b5882d4d38336b8d9df1b673bae339ce9ae3", func := "seamark/seamarklaw01.PlaneNear", spec := "planeNear", unfollowed := true, recurses := true, apart := false }
def PlaneNearSaid : Prop := planeNearRow.holds Try.pinned (OpenSpec.ofChange planeNearSpec)

/-- ITS FALSE NEIGHBOUR: 'it returns false'. Refute it at one input. -/
def planeNearWrong : ChangeSpec := { name := "planeNear", fn := fun _ => fun
  | [d1, d2, d3, d4, d5, d6] => { results := [.lit (.bool false)], args := [d1, d2, d3, d4, d5, d6] }
  | _ => none }
def PlaneNearWrongFalsely : Prop := planeNearRow.holds Try.pinned (OpenSpec.ofChange planeNearWrong)

/- THE SECOND FORM. 'bulk': how many values and letters a reading holds, each counted each time it is reached (what is shared counts as often as it is met; a slice's spare places count too). A statement '..UptoSaid' is the law's where the arguments, and the package variables that the reading takes, are together of bulk at most 1048576: NARROWER than '..Said'. Prove '..Said' where nothing that the law and all that it calls make is longer than what came in: it says more and counts as full. Else prove '..UptoSaid'. A law counts once. -/
mutual
def uptoBulk {H : Type} : DataW H → Nat
  | .lit (.string bytes) => bytes.length + 1
  | .lit _ => 1
  | .nil => 1
  | .ptr d => uptoBulk d + 1
  | .slice elems spare => uptoBulkAll elems + uptoBulkAll spare + 1
  | .agg parts => uptoBulkAll parts + 1
  | .iface _ d => uptoBulk d + 1
  | .map entries => uptoBulkEntries entries + 1
  | .held _ => 1
def uptoBulkAll {H : Type} : List (DataW H) → Nat
  | [] => 0
  | d :: r => uptoBulk d + uptoBulkAll r
def uptoBulkEntries {H : Type} : List (Lit × DataW H) → Nat
  | [] => 0
  | x :: r => uptoBulkEntry x + uptoBulkEntries r
def uptoBulkEntry {H : Type} : Lit × DataW H → Nat
  | (.string bytes, d) => bytes.length + uptoBulk d + 1
  | (_, d) => uptoBulk d + 1
 end
def uptoSmall : (H : Type) → List (DataW H) → Bool := fun _ ds => decide (uptoBulkAll ds ≤ 1048576)
def OpenSpec.upto (s : _root_.Go.ChangeSpec) : _root_.Go.OpenSpec := { _root_.Go.OpenSpec.ofChange s with cond := some uptoSmall }

/-- 'seamarklaw01.PlaneTurns', WHERE WHAT IT READS IS OF BULK AT MOST 1048576: true; the input reads as it did. -/
def planeTurnsUptoRow : OpenClaim := { program := "ytkpmiehggmeejaa", sum := "c15371f8e5b11b28c0cca3672713b5882d4d38336b8d9df1b673bae339ce9ae3", func := "seamark/seamarklaw01.PlaneTurns", spec := "planeTurns", unfollowed := true, recurses := true, apart := false, narrowed := true }
def PlaneTurnsUptoSaid : Prop := planeTurnsUptoRow.holds Try.pinned (OpenSpec.upto planeTurnsSpec)

/-- 'seamarklaw01.PlaneMeets', WHERE WHAT IT READS IS OF BULK AT MOST 1048576: true; the input reads as it did. -/
def planeMeetsUptoRow : OpenClaim := { program := "ytkpmiehggmeejaa", sum := "c15371f8e5b11b28c0cca3672713b5882d4d38336b8d9df1b673bae339ce9ae3", func := "seamark/seamarklaw01.PlaneMeets", spec := "planeMeets", unfollowed := true, recurses := true, apart := false, narrowed := true }
def PlaneMeetsUptoSaid : Prop := planeMeetsUptoRow.holds Try.pinned (OpenSpec.upto planeMeetsSpec)

/-- 'seamarklaw01.PlaneDistances', WHERE WHAT IT READS IS OF BULK AT MOST 1048576: true; the input reads as it did. -/
def planeDistancesUptoRow : OpenClaim := { program := "ytkpmiehggmeejaa", sum := "c15371f8e5b11b28c0cca3672713b5882d4d38336b8d9df1b673bae339ce9ae3", func := "seamark/seamarklaw01.PlaneDistances", spec := "planeDistances", unfollowed := true, recurses := true, apart := false, narrowed := true }
def PlaneDistancesUptoSaid : Prop := planeDistancesUptoRow.holds Try.pinned (OpenSpec.upto planeDistancesSpec)

/-- 'seamarklaw01.PlaneDiscs', WHERE WHAT IT READS IS OF BULK AT MOST 1048576: true; the input reads as it did. -/
def planeDiscsUptoRow : OpenClaim := { program := "ytkpmiehggmeejaa", sum := "c15371f8e5b11b28c0cca3672713b5882d4d38336b8d9df1b673bae339ce9ae3", func := "seamark/seamarklaw01.PlaneDiscs", spec := "planeDiscs", unfollowed := true, recurses := true, apart := false, narrowed := true }
def PlaneDiscsUptoSaid : Prop := planeDiscsUptoRow.holds Try.pinned (OpenSpec.upto planeDiscsSpec)

/-- 'seamarklaw01.PlaneClose', WHERE WHAT IT READS IS OF BULK AT MOST 1048576: true; the input reads as it did. -/
def planeCloseUptoRow : OpenClaim := { program := "ytkpmiehggmeejaa", sum := "c15371f8e5b11b28c0cca3672713b5882d4d38336b8d9df1b673bae339ce9ae3", func := "seamark/seamarklaw01.PlaneClose", spec := "planeClose", unfollowed := true, recurses := true, apart := false, narrowed := true }
def PlaneCloseUptoSaid : Prop := planeCloseUptoRow.holds Try.pinned (OpenSpec.upto planeCloseSpec)

/-- 'seamarklaw01.PlaneMoved', WHERE WHAT IT READS IS OF BULK AT MOST 1048576: true; the input reads as it did. -/
def planeMovedUptoRow : OpenClaim := { program := "ytkpmiehggmeejaa", sum := "c15371f8e5b11b28c0cca3672713b5882d4d38336b8d9df1b673bae339ce9ae3", func := "seamark/seamarklaw01.PlaneMoved", spec := "planeMoved", unfollowed := true, recurses := true, apart := false, narrowed := true }
def PlaneMovedUptoSaid : Prop := planeMovedUptoRow.holds Try.pinned (OpenSpec.upto planeMovedSpec)

/-- 'seamarklaw01.PlaneMatchesReference', WHERE WHAT IT READS IS OF BULK AT MOST 1048576: true; the input reads as it did. -/
def planeMatchesReferenceUptoRow : OpenClaim := { program := "ytkpmiehggmeejaa", sum := "c15371f8e5b11b28c0cca3672713b5882d4d38336b8d9df1b673bae339ce9ae3", func := "seamark/seamarklaw01.PlaneMatchesReference", spec := "planeMatchesReference", unfollowed := true, recurses := true, apart := false, narrowed := true }
def PlaneMatchesReferenceUptoSaid : Prop := planeMatchesReferenceUptoRow.holds Try.pinned (OpenSpec.upto planeMatchesReferenceSpec)

/-- 'seamarklaw01.PlaneNear', WHERE WHAT IT READS IS OF BULK AT MOST 1048576: true; the input reads as it did. -/
def planeNearUptoRow : OpenClaim := { program := "ytkpmiehggmeejaa", sum := "c15371f8e5b11b28c0cca3672713b5882d4d38336b8d9df1b673bae339ce9ae3", func := "seamark/seamarklaw01.PlaneNear", spec := "planeNear", unfollowed := true, recurses := true, apart := false, narrowed := true }
def PlaneNearUptoSaid : Prop := planeNearUptoRow.holds Try.pinned (OpenSpec.upto planeNearSpec)

end Rows
end Go.Proofs.Ytkpmiehggmeejaa
