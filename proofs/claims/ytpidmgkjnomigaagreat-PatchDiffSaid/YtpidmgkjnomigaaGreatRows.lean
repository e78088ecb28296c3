/-
  No cell of these rows narrows 'for every input' (looked for: loops, veiled, ifaces, maps, wideKeys, modest, calm, conditions, laid).
  DERIVED. THE GIVEN ROWS OF THIS SEAT. 9 by the template 'for every input the law returns true; each argument reads behind the call as it read before'; 0 by the template 'total and deterministic' (their statements: YtpidmgkjnomigaaGreatTotals.lean).
  GIVEN WITH THE SEED: the statements are not yours to turn. If you find one false, say at which input.
  Laid BY PROGRAM, IN A SANDBOX (cutbox-rows.mjs): the forced cells as the released guide's own fill.sh prints them over the translation 06424a4222d5ca91… (all of the seat's roots in one cut). By AI agents, Wed Nov 11 2026. No macro, syntax, notation, axiom, sorry.
-/
import Derived.Test.YtpidmgkjnomigaaGreatChecked
import GoSem.Claim
import GoSem.ClaimJoined
import GoSem.ClaimMapViews
import Derived.JoinedTies
import Derived.KernelRfl
namespace Go.Proofs.YtpidmgkjnomigaaGreat
/- THE CELL 'sum', in the pinned program and in every row, IS THE sha256 OF THE DUMP (.gsa) THAT YtpidmgkjnomigaaGreatProg.lean LOADS. Nothing in Lean hashes anything: it is a label: what it is worth is what the hold of that sum in a sandbox is worth. -/
noncomputable def Tryz.pinned : Pinned := { name := "ytpidmgkjnomigaagreat", sum := "06424a4222d5ca915ef989a7b6beef06f66358dbd78ac36cc0f85ec9734c9863", checked := Tryz.checked }
namespace Rows
def none {H : Type} : Left H := { results := [], args := [] }

/-- 'seamarklaw17.PatchBack': WHATEVER THE INPUT: true; the input reads as it did. -/
def patchBackSpec : ChangeSpec := { name := "patchBack", fn := fun _ => fun
  | [d1, d2] => { results := [.lit (.bool true)], args := [d1, d2] }
  | _ => none }
def patchBackRow : OpenClaim := { program := "ytpidmgkjnomigaagreat", sum := "06424a4222d5ca915ef989a7b6beef06f66358dbd78ac36cc0f85ec9734c9863", func := "seamark/seamarklaw17.PatchBack", spec := "patchBack", unfollowed := true, recurses := true, apart := false }
def PatchBackSaid : Prop := patchBackRow.holds Tryz.pinned (OpenSpec.ofChange patchBackSpec)

/-- ITS FALSE NEIGHBOUR: 'it returns false'. Refute it at one input. -/
def patchBackWrong : ChangeSpec := { name := "patchBack", fn := fun _ => fun
  | [d1, d2] => { results := [.lit (.bool false)], args := [d1, d2] }
  | _ => none }
def PatchBackWrongFalsely : Prop := patchBackRow.holds Tryz.pinned (OpenSpec.ofChange patchBackWrong)

/-- 'seamarklaw17.PatchExchange': WHATEVER THE INPUT: true; the input reads as it did. -/
def patchExchangeSpec : ChangeSpec := { name := "patchExchange", fn := fun _ => fun
  | [d1, d2, d3] => { results := [.lit (.bool true)], args := [d1, d2, d3] }
  | _ => none }
def patchExchangeRow : OpenClaim := { program := "ytpidmgkjnomigaagreat", sum := "06424a4222d5ca915ef989a7b6beef06f66358dbd78ac36cc0f85ec9734c9863", func := "seamark/seamarklaw17.PatchExchange", spec := "patchExchange", unfollowed := true, recurses := true, apart := false }
def PatchExchangeSaid : Prop := patchExchangeRow.holds Tryz.pinned (OpenSpec.ofChange patchExchangeSpec)

/-- ITS FALSE NEIGHBOUR: 'it returns false'. Refute it at one input. -/
def patchExchangeWrong : ChangeSpec := { name := "patchExchange", fn := fun _ => fun
  | [d1, d2, d3] => { results := [.lit (.bool false)], args := [d1, d2, d3] }
  | _ => none }
def PatchExchangeWrongFalsely : Prop := patchExchangeRow.holds Tryz.pinned (OpenSpec.ofChange patchExchangeWrong)

/-- 'seamarklaw17.PatchNormal': WHATEVER THE INPUT: true; the input reads as it did. -/
def patchNormalSpec : ChangeSpec := { name := "patchNormal", fn := fun _ => fun
  | [d1, d2] => { results := [.lit (.bool true)], args := [d1, d2] }
  | _ => none }
def patchNormalRow : OpenClaim := { program := "ytpidmgkjnomigaagreat", sum := "06424a4222d5ca915ef989a7b6beef06f66358dbd78ac36cc0f85ec9734c9863", func := "seamark/seamarklaw17.PatchNormal", spec := "patchNormal", unfollowed := true, recurses := true, apart := false }
def PatchNormalSaid : Prop := patchNormalRow.holds Tryz.pinned (OpenSpec.ofChange patchNormalSpec)

/-- ITS FALSE NEIGHBOUR: 'it returns false'. Refute it at one input. -/
def patchNormalWrong : ChangeSpec := { name := "patchNormal", fn := fun _ => fun
  | [d1, d2] => { results := [.lit (.bool false)], args := [d1, d2] }
  | _ => none }
def PatchNormalWrongFalsely : Prop := patchNormalRow.holds Tryz.pinned (OpenSpec.ofChange patchNormalWrong)

/-- 'seamarklaw17.PatchAfter': WHATEVER THE INPUT: true; the input reads as it did. -/
def patchAfterSpec : ChangeSpec := { name := "patchAfter", fn := fun _ => fun
  | [d1, d2, d3] => { results := [.lit (.bool true)], args := [d1, d2, d3] }
  | _ => none }
def patchAfterRow : OpenClaim := { program := "ytpidmgkjnomigaagreat", sum := "06424a4222d5ca915ef989a7b6beef06f66358dbd78ac36cc0f85ec9734c9863", func := "seamark/seamarklaw17.PatchAfter", spec := "patchAfter", unfollowed := true, recurses := true, apart := false }
def PatchAfterSaid : Prop := patchAfterRow.holds Tryz.pinned (OpenSpec.ofChange patchAfterSpec)

/-- ITS FALSE NEIGHBOUR: 'it returns false'. Refute it at one input. -/
def patchAfterWrong : ChangeSpec := { name := "patchAfter", fn := fun _ => fun
  | [d1, d2, d3] => { results := [.lit (.bool false)], args := [d1, d2, d3] }
  | _ => none }
def PatchAfterWrongFalsely : Prop := patchAfterRow.holds Tryz.pinned (OpenSpec.ofChange patchAfterWrong)

/-- 'seamarklaw17.PatchApart': WHATEVER THE INPUT: true; the input reads as it did. -/
def patchApartSpec : ChangeSpec := { name := "patchApart", fn := fun _ => fun
  | [d1, d2, d3] => { results := [.lit (.bool true)], args := [d1, d2, d3] }
  | _ => none }
def patchApartRow : OpenClaim := { program := "ytpidmgkjnomigaagreat", sum := "06424a4222d5ca915ef989a7b6beef06f66358dbd78ac36cc0f85ec9734c9863", func := "seamark/seamarklaw17.PatchApart", spec := "patchApart", unfollowed := true, recurses := true, apart := false }
def PatchApartSaid : Prop := patchApartRow.holds Tryz.pinned (OpenSpec.ofChange patchApartSpec)

/-- ITS FALSE NEIGHBOUR: 'it returns false'. Refute it at one input. -/
def patchApartWrong : ChangeSpec := { name := "patchApart", fn := fun _ => fun
  | [d1, d2, d3] => { results := [.lit (.bool false)], args := [d1, d2, d3] }
  | _ => none }
def PatchApartWrongFalsely : Prop := patchApartRow.holds Tryz.pinned (OpenSpec.ofChange patchApartWrong)

/-- 'seamarklaw17.PatchFailure': WHATEVER THE INPUT: true; the input reads as it did. -/
def patchFailureSpec : ChangeSpec := { name := "patchFailure", fn := fun _ => fun
  | [d1, d2] => { results := [.lit (.bool true)], args := [d1, d2] }
  | _ => none }
def patchFailureRow : OpenClaim := { program := "ytpidmgkjnomigaagreat", sum := "06424a4222d5ca915ef989a7b6beef06f66358dbd78ac36cc0f85ec9734c9863", func := "seamark/seamarklaw17.PatchFailure", spec := "patchFailure", unfollowed := true, recurses := true, apart := false }
def PatchFailureSaid : Prop := patchFailureRow.holds Tryz.pinned (OpenSpec.ofChange patchFailureSpec)

/-- ITS FALSE NEIGHBOUR: 'it returns false'. Refute it at one input. -/
def patchFailureWrong : ChangeSpec := { name := "patchFailure", fn := fun _ => fun
  | [d1, d2] => { results := [.lit (.bool false)], args := [d1, d2] }
  | _ => none }
def PatchFailureWrongFalsely : Prop := patchFailureRow.holds Tryz.pinned (OpenSpec.ofChange patchFailureWrong)

/-- 'seamarklaw17.PatchMatchesReference': WHATEVER THE INPUT: true; the input reads as it did. -/
def patchMatchesReferenceSpec : ChangeSpec := { name := "patchMatchesReference", fn := fun _ => fun
  | [d1, d2, d3, d4] => { results := [.lit (.bool true)], args := [d1, d2, d3, d4] }
  | _ => none }
def patchMatchesReferenceRow : OpenClaim := { program := "ytpidmgkjnomigaagreat", sum := "06424a4222d5ca915ef989a7b6beef06f66358dbd78ac36cc0f85ec9734c9863", func := "seamark/seamarklaw17.PatchMatchesReference", spec := "patchMatchesReference", unfollowed := true, recurses := true, apart := false }
def PatchMatchesReferenceSaid : Prop := patchMatchesReferenceRow.holds Tryz.pinned (OpenSpec.ofChange patchMatchesReferenceSpec)

/-- ITS FALSE NEIGHBOUR: 'it returns false'. Refute it at one input. -/
def patchMatchesReferenceWrong : ChangeSpec := { name := "patchMatchesReference", fn := fun _ => fun
  | [d1, d2, d3, d4] => { results := [.lit (.bool false)], args := [d1, d2, d3, d4] }
  | _ => none }
def PatchMatchesReferenceWrongFalsely : Prop := patchMatchesReferenceRow.holds Tryz.pinned (OpenSpec.ofChange patchMatchesReferenceWrong)

/-- 'seamarklaw17.PatchDiff': WHATEVER THE INPUT: true; the input reads as it did. -/
def patchDiffSpec : ChangeSpec := { name := "patchDiff", fn := fun _ => fun
  | [d1, d2] => { results := [.lit (.bool true)], args := [d1, d2] }
  | _ => none }
def patchDiffRow : OpenClaim := { program := "ytpidmgkjnomigaagreat", sum := "06424a4222d5ca915ef989a7b6beef06f66358dbd78ac36cc0f85ec9734c9863", func := "seamark/seamarklaw17.PatchDiff", spec := "patchDiff", unfollowed := true, recurses := true, apart := false }
def PatchDiffSaid : Prop := patchDiffRow.holds Tryz.pinned (OpenSpec.ofChange patchDiffSpec)

/-- ITS FALSE NEIGHBOUR: 'it returns false'. Refute it at one input. -/
def patchDiffWrong : ChangeSpec := { name := "patchDiff", fn := fun _ => fun
  | [d1, d2] => { results := [.lit (.bool false)], args := [d1, d2] }
  | _ => none }
def PatchDiffWrongFalsely : Prop := patchDiffRow.holds Tryz.pinned (OpenSpec.ofChange patchDiffWrong)

/-- 'seamarklaw17.PatchShoaler': WHATEVER THE INPUT: true; the input reads as it did. -/
def patchShoalerSpec : ChangeSpec := { name := "patchShoaler", fn := fun _ => fun
  | [d1, d2, d3] => { results := [.lit (.bool true)], args := [d1, d2, d3] }
  | _ => none }
def patchShoalerRow : OpenClaim := { program := "ytpidmgkjnomigaagreat", sum := "06424a4222d5ca915ef989a7b6beef06f66358dbd78ac36cc0f85ec9734c9863", func := "seamark/seamarklaw17.PatchShoaler", spec := "patchShoaler", unfollowed := true, recurses := true, apart := false }
def PatchShoalerSaid : Prop := patchShoalerRow.holds Tryz.pinned (OpenSpec.ofChange patchShoalerSpec)

/-- ITS FALSE NEIGHBOUR: 'it returns false'. Refute it at one input. -/
def patchShoalerWrong : ChangeSpec := { name := "patchShoaler", fn := fun _ => fun
  | [d1, d2, d3] => { results := [.lit (.bool false)], args := [d1, d2, d3] }
  | _ => none }
def PatchShoalerWrongFalsely : Prop := patchShoalerRow.holds Tryz.pinned (OpenSpec.ofChange patchShoalerWrong)

/- THE SECOND FORM. 'bulk': how many values and letters a reading holds, each counted each time it is reached (what is shared counts as often as it is met; a slice's spare places count too). A statement '..UptoSaid' is the law's where the arguments, and the package variables that the reading takes, are together of bulk at most 1048576: NARROWER than '..Said'. Prove '..Said' where nothing that the law and all that it calls make is longer than what came in: it says more and counts as full. Else prove '..UptoSaid'. A law counts once. -/
mutual
def uptoBulk {H : Type} : DataW H → Nat
  | .lit (.string bytes) => bytes.length + 1
  | .lit _ => 1
  | .nil => 1
  | .ptr d => uptoBulk d + 1
  | .slice elems spare => uptoBulkAll elems + uptoBulkAll spare + 1
  | .agg parts => uptoBulkAll parts + 1
  | .iface _ d => uptoBulk d + 1
  | .map entries => uptoBulkEntries entries + 1
  | .held _ => 1
def uptoBulkAll {H : Type} : List (DataW H) → Nat
  | [] => 0
  | d :: r => uptoBulk d + uptoBulkAll r
def uptoBulkEntries {H : Type} : List (Lit × DataW H) → Nat
  | [] => 0
  | x :: r => uptoBulkEntry x + uptoBulkEntries r
def uptoBulkEntry {H : Type} : Lit × DataW H → Nat
  | (.string bytes, d) => bytes.length + uptoBulk d + 1
  | (_, d) => uptoBulk d + 1
 end
def uptoSmall : (H : Type) → List (DataW H) → Bool := fun _ ds => decide (uptoBulkAll ds ≤ 1048576)
def OpenSpec.upto (s : _root_.Go.ChangeSpec) : _root_.Go.OpenSpec := { _root_.Go.OpenSpec.ofChange s with cond := some uptoSmall }

/-- 'seamarklaw17.PatchBack', WHERE WHAT IT READS IS OF BULK AT MOST 1048576: true; the input reads as it did. -/
def patchBackUptoRow : OpenClaim := { program := "ytpidmgkjnomigaagreat", sum := "06424a4222d5ca915ef989a7b6beef06f66358dbd78ac36cc0f85ec9734c9863", func := "seamark/seamarklaw17.PatchBack", spec := "patchBack", unfollowed := true, recurses := true, apart := false, narrowed := true }
def PatchBackUptoSaid : Prop := patchBackUptoRow.holds Tryz.pinned (OpenSpec.upto patchBackSpec)

/-- 'seamarklaw17.PatchExchange', WHERE WHAT IT READS IS OF BULK AT MOST 1048576: true; the input reads as it did. -/
def patchExchangeUptoRow : OpenClaim := { program := "ytpidmgkjnomigaagreat", sum := "06424a4222d5ca915ef989a7b6beef06f66358dbd78ac36cc0f85ec9734c9863", func := "seamark/seamarklaw17.PatchExchange", spec := "patchExchange", unfollowed := true, recurses := true, apart := false, narrowed := true }
def PatchExchangeUptoSaid : Prop := patchExchangeUptoRow.holds Tryz.pinned (OpenSpec.upto patchExchangeSpec)

/-- 'seamarklaw17.PatchNormal', WHERE WHAT IT READS IS OF BULK AT MOST 1048576: true; the input reads as it did. -/
def patchNormalUptoRow : OpenClaim := { program := "ytpidmgkjnomigaagreat", sum := "06424a4222d5ca915ef989a7b6beef06f66358dbd78ac36cc0f85ec9734c9863", func := "seamark/seamarklaw17.PatchNormal", spec := "patchNormal", unfollowed := true, recurses := true, apart := false, narrowed := true }
def PatchNormalUptoSaid : Prop := patchNormalUptoRow.holds Tryz.pinned (OpenSpec.upto patchNormalSpec)

/-- 'seamarklaw17.PatchAfter', WHERE WHAT IT READS IS OF BULK AT MOST 1048576: true; the input reads as it did. -/
def patchAfterUptoRow : OpenClaim := { program := "ytpidmgkjnomigaagreat", sum := "06424a4222d5ca915ef989a7b6beef06f66358dbd78ac36cc0f85ec9734c9863", func := "seamark/seamarklaw17.PatchAfter", spec := "patchAfter", unfollowed := true, recurses := true, apart := false, narrowed := true }
def PatchAfterUptoSaid : Prop := patchAfterUptoRow.holds Tryz.pinned (OpenSpec.upto patchAfterSpec)

/-- 'seamarklaw17.PatchApart', WHERE WHAT IT READS IS OF BULK AT MOST 1048576: true; the input reads as it did. -/
def patchApartUptoRow : OpenClaim := { program := "ytpidmgkjnomigaagreat", sum := "06424a4222d5ca915ef989a7b6beef06f66358dbd78ac36cc0f85ec9734c9863", func := "seamark/seamarklaw17.PatchApart", spec := "patchApart", unfollowed := true, recurses := true, apart := false, narrowed := true }
def PatchApartUptoSaid : Prop := patchApartUptoRow.holds Tryz.pinned (OpenSpec.upto patchApartSpec)

/-- 'seamarklaw17.PatchFailure', WHERE WHAT IT READS IS OF BULK AT MOST 1048576: true; the input reads as it did. -/
def patchFailureUptoRow : OpenClaim := { program := "ytpidmgkjnomigaagreat", sum := "06424a4222d5ca915ef989a7b6beef06f66358dbd78ac36cc0f85ec9734c9863", func := "seamark/seamarklaw17.PatchFailure", spec := "patchFailure", unfollowed := true, recurses := true, apart := false, narrowed := true }
def PatchFailureUptoSaid : Prop := patchFailureUptoRow.holds Tryz.pinned (OpenSpec.upto patchFailureSpec)

/-- 'seamarklaw17.PatchMatchesReference', WHERE WHAT IT READS IS OF BULK AT MOST 1048576: true; the input reads as it did. -/
def patchMatchesReferenceUptoRow : OpenClaim := { program := "ytpidmgkjnomigaagreat", sum := "06424a4222d5ca915ef989a7b6beef06f66358dbd78ac36cc0f85ec9734c9863", func := "seamark/seamarklaw17.PatchMatchesReference", spec := "patchMatchesReference", unfollowed := true, recurses := true, apart := false, narrowed := true }
def PatchMatchesReferenceUptoSaid : Prop := patchMatchesReferenceUptoRow.holds Tryz.pinned (OpenSpec.upto patchMatchesReferenceSpec)

/-- 'seamarklaw17.PatchDiff', WHERE WHAT IT READS IS OF BULK AT MOST 1048576: true; the input reads as it did. -/
def patchDiffUptoRow : OpenClaim := { program := "ytpidmgkjnomigaagreat", sum := "06424a4222d5ca915ef989a7b6beef06f66358dbd78ac36cc0f85ec9734c9863", func := "seamark/seamarklaw17.PatchDiff", spec := "patchDiff", unfollowed := true, recurses := true, apart := false, narrowed := true }
def PatchDiffUptoSaid : Prop := patchDiffUptoRow.holds Tryz.pinned (OpenSpec.upto patchDiffSpec)

/-- 'seamarklaw17.PatchShoaler', WHERE WHAT IT READS IS OF BULK AT MOST 1048576: true; the input reads as it did. -/
def patchShoalerUptoRow : OpenClaim := { program := "ytpidmgkjnomigaagreat", sum := "06424a4222d5ca915ef989a7b6beef06f66358dbd78ac36cc0f85ec9734c9863", func := "seamark/seamarklaw17.PatchShoaler", spec := "patchShoaler", unfollowed := true, recurses := true, apart := false, narrowed := true }
def PatchShoalerUptoSaid : Prop := patchShoalerUptoRow.holds Tryz.pinned (OpenSpec.upto patchShoalerSpec)

end Rows
end Go.Proofs.YtpidmgkjnomigaaGreat
