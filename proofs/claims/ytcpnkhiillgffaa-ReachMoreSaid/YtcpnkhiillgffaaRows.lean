/-
  No cell of these rows narrows 'for every input' (looked for: loops, veiled, ifaces, maps, wideKeys, modest, calm, conditions, laid).
  DERIVED. THE GIVEN ROWS OF THIS SEAT. 8 by the template 'for every input the law returns true; each argument reads behind the call as it read before'; 0 by the template 'total and deterministic' (their statements: YtcpnkhiillgffaaTotals.lean).
  GIVEN WITH THE SEED: the statements are not yours to turn. If you find one false, say at which input.
  Laid BY PROGRAM, IN A SANDBOX (cutbox-rows.mjs): the forced cells as the released guide's own fill.sh prints them over the translation a5459211d1a76a5e… (all of the seat's roots in one cut). By AI agents, Wed Nov 11 2026. No macro, syntax, notation, axiom, sorry.
-/
import Derived.Test.YtcpnkhiillgffaaChecked
import GoSem.Claim
import GoSem.ClaimJoined
import GoSem.ClaimMapViews
import Derived.JoinedTies
import Derived.KernelRfl
namespace Go.Proofs.Ytcpnkhiillgffaa
/- THE CELL 'sum', in the pinned program and in every row, IS THE sha256 OF THE DUMP (.gsa) THAT YtcpnkhiillgffaaProg.lean LOADS. Nothing in Lean hashes anything: it is a label: what it is worth is what the hold of that sum in a sandbox is worth. -/
noncomputable def Try.pinned : Pinned := { name := "ytcpnkhiillgffaa", sum := "a5459211d1a76a5e0490853ea182798ffac0963ecd463dc40398c5d359cec7c0", checked := Try.checked }
namespace Rows
def none {H : Type} : Left H := { results := [], args := [] }

/-- 'seamarklaw33.ReachMatchesReference': WHATEVER THE INPUT: true; the input reads as it did. -/
def reachMatchesReferenceSpec : ChangeSpec := { name := "reachMatchesReference", fn := fun _ => fun
  | [d1, d2, d3, d4, d5, d6, d7, d8, d9] => { results := [.lit (.bool true)], args := [d1, d2, d3, d4, d5, d6, d7, d8, d9] }
  | _ => none }
def reachMatchesReferenceRow : OpenClaim := { program := "ytcpnkhiillgffaa", sum := "a5459211d1a76a5e0490853ea182798ffac0963ecd463dc40398c5d359cec7c0", func := "seamark/seamarklaw33.ReachMatchesReference", spec := "reachMatchesReference", unfollowed := true, recurses := true, plainKeys := false, apart := false }
def ReachMatchesReferenceSaid : Prop := reachMatchesReferenceRow.holds Try.pinned (OpenSpec.ofChange reachMatchesReferenceSpec)

/-- ITS FALSE NEIGHBOUR: 'it returns false'. Refute it at one input. -/
def reachMatchesReferenceWrong : ChangeSpec := { name := "reachMatchesReference", fn := fun _ => fun
  | [d1, d2, d3, d4, d5, d6, d7, d8, d9] => { results := [.lit (.bool false)], args := [d1, d2, d3, d4, d5, d6, d7, d8, d9] }
  | _ => none }
def ReachMatchesReferenceWrongFalsely : Prop := reachMatchesReferenceRow.holds Try.pinned (OpenSpec.ofChange reachMatchesReferenceWrong)

/-- 'seamarklaw33.ReachLeast': WHATEVER THE INPUT: true; the input reads as it did. -/
def reachLeastSpec : ChangeSpec := { name := "reachLeast", fn := fun _ => fun
  | [d1, d2, d3, d4, d5] => { results := [.lit (.bool true)], args := [d1, d2, d3, d4, d5] }
  | _ => none }
def reachLeastRow : OpenClaim := { program := "ytcpnkhiillgffaa", sum := "a5459211d1a76a5e0490853ea182798ffac0963ecd463dc40398c5d359cec7c0", func := "seamark/seamarklaw33.ReachLeast", spec := "reachLeast", unfollowed := true, recurses := true, plainKeys := false, apart := false }
def ReachLeastSaid : Prop := reachLeastRow.holds Try.pinned (OpenSpec.ofChange reachLeastSpec)

/-- ITS FALSE NEIGHBOUR: 'it returns false'. Refute it at one input. -/
def reachLeastWrong : ChangeSpec := { name := "reachLeast", fn := fun _ => fun
  | [d1, d2, d3, d4, d5] => { results := [.lit (.bool false)], args := [d1, d2, d3, d4, d5] }
  | _ => none }
def ReachLeastWrongFalsely : Prop := reachLeastRow.holds Try.pinned (OpenSpec.ofChange reachLeastWrong)

/-- 'seamarklaw33.ReachWorst': WHATEVER THE INPUT: true; the input reads as it did. -/
def reachWorstSpec : ChangeSpec := { name := "reachWorst", fn := fun _ => fun
  | [d1, d2, d3, d4, d5] => { results := [.lit (.bool true)], args := [d1, d2, d3, d4, d5] }
  | _ => none }
def reachWorstRow : OpenClaim := { program := "ytcpnkhiillgffaa", sum := "a5459211d1a76a5e0490853ea182798ffac0963ecd463dc40398c5d359cec7c0", func := "seamark/seamarklaw33.ReachWorst", spec := "reachWorst", unfollowed := true, recurses := true, plainKeys := false, apart := false }
def ReachWorstSaid : Prop := reachWorstRow.holds Try.pinned (OpenSpec.ofChange reachWorstSpec)

/-- ITS FALSE NEIGHBOUR: 'it returns false'. Refute it at one input. -/
def reachWorstWrong : ChangeSpec := { name := "reachWorst", fn := fun _ => fun
  | [d1, d2, d3, d4, d5] => { results := [.lit (.bool false)], args := [d1, d2, d3, d4, d5] }
  | _ => none }
def ReachWorstWrongFalsely : Prop := reachWorstRow.holds Try.pinned (OpenSpec.ofChange reachWorstWrong)

/-- 'seamarklaw33.ReachChecked': WHATEVER THE INPUT: true; the input reads as it did. -/
def reachCheckedSpec : ChangeSpec := { name := "reachChecked", fn := fun _ => fun
  | [d1, d2, d3, d4, d5, d6, d7, d8, d9] => { results := [.lit (.bool true)], args := [d1, d2, d3, d4, d5, d6, d7, d8, d9] }
  | _ => none }
def reachCheckedRow : OpenClaim := { program := "ytcpnkhiillgffaa", sum := "a5459211d1a76a5e0490853ea182798ffac0963ecd463dc40398c5d359cec7c0", func := "seamark/seamarklaw33.ReachChecked", spec := "reachChecked", unfollowed := true, recurses := true, plainKeys := false, apart := false }
def ReachCheckedSaid : Prop := reachCheckedRow.holds Try.pinned (OpenSpec.ofChange reachCheckedSpec)

/-- ITS FALSE NEIGHBOUR: 'it returns false'. Refute it at one input. -/
def reachCheckedWrong : ChangeSpec := { name := "reachChecked", fn := fun _ => fun
  | [d1, d2, d3, d4, d5, d6, d7, d8, d9] => { results := [.lit (.bool false)], args := [d1, d2, d3, d4, d5, d6, d7, d8, d9] }
  | _ => none }
def ReachCheckedWrongFalsely : Prop := reachCheckedRow.holds Try.pinned (OpenSpec.ofChange reachCheckedWrong)

/-- 'seamarklaw33.ReachDelay': WHATEVER THE INPUT: true; the input reads as it did. -/
def reachDelaySpec : ChangeSpec := { name := "reachDelay", fn := fun _ => fun
  | [d1, d2, d3, d4, d5, d6, d7] => { results := [.lit (.bool true)], args := [d1, d2, d3, d4, d5, d6, d7] }
  | _ => none }
def reachDelayRow : OpenClaim := { program := "ytcpnkhiillgffaa", sum := "a5459211d1a76a5e0490853ea182798ffac0963ecd463dc40398c5d359cec7c0", func := "seamark/seamarklaw33.ReachDelay", spec := "reachDelay", unfollowed := true, recurses := true, plainKeys := false, apart := false }
def ReachDelaySaid : Prop := reachDelayRow.holds Try.pinned (OpenSpec.ofChange reachDelaySpec)

/-- ITS FALSE NEIGHBOUR: 'it returns false'. Refute it at one input. -/
def reachDelayWrong : ChangeSpec := { name := "reachDelay", fn := fun _ => fun
  | [d1, d2, d3, d4, d5, d6, d7] => { results := [.lit (.bool false)], args := [d1, d2, d3, d4, d5, d6, d7] }
  | _ => none }
def ReachDelayWrongFalsely : Prop := reachDelayRow.holds Try.pinned (OpenSpec.ofChange reachDelayWrong)

/-- 'seamarklaw33.ReachMore': WHATEVER THE INPUT: true; the input reads as it did. -/
def reachMoreSpec : ChangeSpec := { name := "reachMore", fn := fun _ => fun
  | [d1, d2, d3, d4, d5, d6, d7, d8] => { results := [.lit (.bool true)], args := [d1, d2, d3, d4, d5, d6, d7, d8] }
  | _ => none }
def reachMoreRow : OpenClaim := { program := "ytcpnkhiillgffaa", sum := "a5459211d1a76a5e0490853ea182798ffac0963ecd463dc40398c5d359cec7c0", func := "seamark/seamarklaw33.ReachMore", spec := "reachMore", unfollowed := true, recurses := true, plainKeys := false, apart := false }
def ReachMoreSaid : Prop := reachMoreRow.holds Try.pinned (OpenSpec.ofChange reachMoreSpec)

/-- ITS FALSE NEIGHBOUR: 'it returns false'. Refute it at one input. -/
def reachMoreWrong : ChangeSpec := { name := "reachMore", fn := fun _ => fun
  | [d1, d2, d3, d4, d5, d6, d7, d8] => { results := [.lit (.bool false)], args := [d1, d2, d3, d4, d5, d6, d7, d8] }
  | _ => none }
def ReachMoreWrongFalsely : Prop := reachMoreRow.holds Try.pinned (OpenSpec.ofChange reachMoreWrong)

/-- 'seamarklaw33.ReachLater': WHATEVER THE INPUT: true; the input reads as it did. -/
def reachLaterSpec : ChangeSpec := { name := "reachLater", fn := fun _ => fun
  | [d1, d2, d3, d4, d5, d6] => { results := [.lit (.bool true)], args := [d1, d2, d3, d4, d5, d6] }
  | _ => none }
def reachLaterRow : OpenClaim := { program := "ytcpnkhiillgffaa", sum := "a5459211d1a76a5e0490853ea182798ffac0963ecd463dc40398c5d359cec7c0", func := "seamark/seamarklaw33.ReachLater", spec := "reachLater", unfollowed := true, recurses := true, plainKeys := false, apart := false }
def ReachLaterSaid : Prop := reachLaterRow.holds Try.pinned (OpenSpec.ofChange reachLaterSpec)

/-- ITS FALSE NEIGHBOUR: 'it returns false'. Refute it at one input. -/
def reachLaterWrong : ChangeSpec := { name := "reachLater", fn := fun _ => fun
  | [d1, d2, d3, d4, d5, d6] => { results := [.lit (.bool false)], args := [d1, d2, d3, d4, d5, d6] }
  | _ => none }
def ReachLaterWrongFalsely : Prop := reachLaterRow.holds Try.pinned (OpenSpec.ofChange reachLaterWrong)

/-- 'seamarklaw33.ReachHeard': WHATEVER THE INPUT: true; the input reads as it did. -/
def reachHeardSpec : ChangeSpec := { name := "reachHeard", fn := fun _ => fun
  | [d1, d2, d3, d4, d5] => { results := [.lit (.bool true)], args := [d1, d2, d3, d4, d5] }
  | _ => none }
def reachHeardRow : OpenClaim := { program := "ytcpnkhiillgffaa", sum := "a5459211d1a76a5e0490853ea182798ffac0963ecd463dc40398c5d359cec7c0", func := "seamark/seamarklaw33.ReachHeard", spec := "reachHeard", unfollowed := true, recurses := true, plainKeys := false, apart := false }
def ReachHeardSaid : Prop := reachHeardRow.holds Try.pinned (OpenSpec.ofChange reachHeardSpec)

/-- ITS FALSE NEIGHBOUR: 'it returns false'. Refute it at one input. -/
def reachHeardWrong : ChangeSpec := { name := "reachHeard", fn := fun _ => fun
  | [d1, d2, d3, d4, d5] => { results := [.lit (.bool false)], args := [d1, d2, d3, d4, d5] }
  | _ => none }
def ReachHeardWrongFalsely : Prop := reachHeardRow.holds Try.pinned (OpenSpec.ofChange reachHeardWrong)

/- THE SECOND FORM. 'bulk': how many values and letters a reading holds, each counted each time it is reached (what is shared counts as often as it is met; a slice's spare places count too). A statement '..UptoSaid' is the law's where the arguments, and the package variables that the reading takes, are together of bulk at most 1048576: NARROWER than '..Said'. Prove '..Said' where nothing that the law and all that it calls make is longer than what came in: it says more and counts as full. Else prove '..UptoSaid'. A law counts once. -/
mutual
def uptoBulk {H : Type} : DataW H → Nat
  | .lit (.string bytes) => bytes.length + 1
  | .lit _ => 1
  | .nil => 1
  | .ptr d => uptoBulk d + 1
  | .slice elems spare => uptoBulkAll elems + uptoBulkAll spare + 1
  | .agg parts => uptoBulkAll parts + 1
  | .iface _ d => uptoBulk d + 1
  | .map entries => uptoBulkEntries entries + 1
  | .held _ => 1
def uptoBulkAll {H : Type} : List (DataW H) → Nat
  | [] => 0
  | d :: r => uptoBulk d + uptoBulkAll r
def uptoBulkEntries {H : Type} : List (Lit × DataW H) → Nat
  | [] => 0
  | x :: r => uptoBulkEntry x + uptoBulkEntries r
def uptoBulkEntry {H : Type} : Lit × DataW H → Nat
  | (.string bytes, d) => bytes.length + uptoBulk d + 1
  | (_, d) => uptoBulk d + 1
 end
def uptoSmall : (H : Type) → List (DataW H) → Bool := fun _ ds => decide (uptoBulkAll ds ≤ 1048576)
def OpenSpec.upto (s : _root_.Go.ChangeSpec) : _root_.Go.OpenSpec := { _root_.Go.OpenSpec.ofChange s with cond := some uptoSmall }

/-- 'seamarklaw33.ReachMatchesReference', WHERE WHAT IT READS IS OF BULK AT MOST 1048576: true; the input reads as it did. -/
def reachMatchesReferenceUptoRow : OpenClaim := { program := "ytcpnkhiillgffaa", sum := "a5459211d1a76a5e0490853ea182798ffac0963ecd463dc40398c5d359cec7c0", func := "seamark/seamarklaw33.ReachMatchesReference", spec := "reachMatchesReference", unfollowed := true, recurses := true, plainKeys := false, apart := false, narrowed := true }
def ReachMatchesReferenceUptoSaid : Prop := reachMatchesReferenceUptoRow.holds Try.pinned (OpenSpec.upto reachMatchesReferenceSpec)

/-- 'seamarklaw33.ReachLeast', WHERE WHAT IT READS IS OF BULK AT MOST 1048576: true; the input reads as it did. -/
def reachLeastUptoRow : OpenClaim := { program := "ytcpnkhiillgffaa", sum := "a5459211d1a76a5e0490853ea182798ffac0963ecd463dc40398c5d359cec7c0", func := "seamark/seamarklaw33.ReachLeast", spec := "reachLeast", unfollowed := true, recurses := true, plainKeys := false, apart := false, narrowed := true }
def ReachLeastUptoSaid : Prop := reachLeastUptoRow.holds Try.pinned (OpenSpec.upto reachLeastSpec)

/-- 'seamarklaw33.ReachWorst', WHERE WHAT IT READS IS OF BULK AT MOST 1048576: true; the input reads as it did. -/
def reachWorstUptoRow : OpenClaim := { program := "ytcpnkhiillgffaa", sum := "a5459211d1a76a5e0490853ea182798ffac0963ecd463dc40398c5d359cec7c0", func := "seamark/seamarklaw33.ReachWorst", spec := "reachWorst", unfollowed := true, recurses := true, plainKeys := false, apart := false, narrowed := true }
def ReachWorstUptoSaid : Prop := reachWorstUptoRow.holds Try.pinned (OpenSpec.upto reachWorstSpec)

/-- 'seamarklaw33.ReachChecked', WHERE WHAT IT READS IS OF BULK AT MOST 1048576: true; the input reads as it did. -/
def reachCheckedUptoRow : OpenClaim := { program := "ytcpnkhiillgffaa", sum := "a5459211d1a76a5e0490853ea182798ffac0963ecd463dc40398c5d359cec7c0", func := "seamark/seamarklaw33.ReachChecked", spec := "reachChecked", unfollowed := true, recurses := true, plainKeys := false, apart := false, narrowed := true }
def ReachCheckedUptoSaid : Prop := reachCheckedUptoRow.holds Try.pinned (OpenSpec.upto reachCheckedSpec)

/-- 'seamarklaw33.ReachDelay', WHERE WHAT IT READS IS OF BULK AT MOST 1048576: true; the input reads as it did. -/
def reachDelayUptoRow : OpenClaim := { program := "ytcpnkhiillgffaa", sum := "a5459211d1a76a5e0490853ea182798ffac0963ecd463dc40398c5d359cec7c0", func := "seamark/seamarklaw33.ReachDelay", spec := "reachDelay", unfollowed := true, recurses := true, plainKeys := false, apart := false, narrowed := true }
def ReachDelayUptoSaid : Prop := reachDelayUptoRow.holds Try.pinned (OpenSpec.upto reachDelaySpec)

/-- 'seamarklaw33.ReachMore', WHERE WHAT IT READS IS OF BULK AT MOST 1048576: true; the input reads as it did. -/
def reachMoreUptoRow : OpenClaim := { program := "ytcpnkhiillgffaa", sum := "a5459211d1a76a5e0490853ea182798ffac0963ecd463dc40398c5d359cec7c0", func := "seamark/seamarklaw33.ReachMore", spec := "reachMore", unfollowed := true, recurses := true, plainKeys := false, apart := false, narrowed := true }
def ReachMoreUptoSaid : Prop := reachMoreUptoRow.holds Try.pinned (OpenSpec.upto reachMoreSpec)

/-- 'seamarklaw33.ReachLater', WHERE WHAT IT READS IS OF BULK AT MOST 1048576: true; the input reads as it did. -/
def reachLaterUptoRow : OpenClaim := { program := "ytcpnkhiillgffaa", sum := "a5459211d1a76a5e0490853ea182798ffac0963ecd463dc40398c5d359cec7c0", func := "seamark/seamarklaw33.ReachLater", spec := "reachLater", unfollowed := true, recurses := true, plainKeys := false, apart := false, narrowed := true }
def ReachLaterUptoSaid : Prop := reachLaterUptoRow.holds Try.pinned (OpenSpec.upto reachLaterSpec)

/-- 'seamarklaw33.ReachHeard', WHERE WHAT IT READS IS OF BULK AT MOST 1048576: true; the input reads as it did. -/
def reachHeardUptoRow : OpenClaim := { program := "ytcpnkhiillgffaa", sum := "a5459211d1a76a5e0490853ea182798ffac0963ecd463dc40398c5d359cec7c0", func := "seamark/seamarklaw33.ReachHeard", spec := "reachHeard", unfollowed := true, recurses := true, plainKeys := false, apart := false, narrowed := true }
def ReachHeardUptoSaid : Prop := reachHeardUptoRow.holds Try.pinned (OpenSpec.upto reachHeardSpec)

end Rows
end Go.Proofs.Ytcpnkhiillgffaa
