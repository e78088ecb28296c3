/- The head of chapter 33's laws: the net and the pieces of the examples. -/
import Derived.Test.YtcpnkhiillgffaaRtJ
import Derived.Test.YtcpnkhiillgffaaReachI
import Derived.Test.YtcpnkhiillgffaaReachL
namespace Go.Proofs.Ytcpnkhiillgffaa
open Go.RowKit
attribute [local go_sem] bqOp bqAll bqUpon
attribute [local irreducible] wpQuiet wpBQ
set_option linter.unusedVariables false
def seaX (i j : Nat) : Int := if j = 0 then (if i = 1 then 100 else if i = 2 then 300 else 0) else 0
def seaE (i j : Nat) : Int := if j = 0 then (if i = 0 then 0 else 1) else if j = 1 then (if i = 0 then 1 else 2) else if j = 2 then 2 else 3
def airA (i j : Nat) : Int := if j = 0 then (i : Int) + 1 else if j = 3 then (if i < 3 then 150 else 50) else 0
/-- A block of cells reads as rows. -/
theorem rows_block {k n g c : Nat} {w : World} {cs : Array Value} {ty : TypeId} {m : Nat × Nat} {X : Nat → Nat → Int} (hn : n ≤ 9223372036854775807) (h : w.heap[g]? = some (.cells cs ty m)) (hx : ∀ i, i < n → ∀ j, j < k → cs[i * k + j]? = some (.int .i64 (X i j))) : Rows k w (.slice (some ⟨g, 0, none⟩) n c) n X :=
  ⟨_, c, rfl, hn, fun i hi => ⟨g, 0, rfl, fun j hj => by rw [Nat.zero_add, cell_block h]; exact hx i hi j hj⟩⟩
theorem rows_nil (k : Nat) (w : World) (X : Nat → Nat → Int) : Rows k w (.slice none 0 0) 0 X :=
  ⟨none, 0, rfl, by omega, fun i hi => by omega⟩
def SeaP (w : World) (z : Ending) (w' : World) : Prop := Below w.heap.size w w' ∧ ∃ g g2, z = .returned (.agg #[.slice (some ⟨g, 0, none⟩) 3 3, .slice (some ⟨g2, 0, none⟩) 2 2]) ∧ Rows 2 w' (.slice (some ⟨g, 0, none⟩) 3 3) 3 seaX ∧ Rows 4 w' (.slice (some ⟨g2, 0, none⟩) 2 2) 2 seaE
theorem l33sea_any (w : World) : Calls Try.prog 37 #[] w (SeaP w) := by
  go_enter Try.func37, Try.ntmps37
  go_wp2
  refine bodyPost_ret (v := .agg #[.slice (some ⟨w.heap.size + 1, 0, none⟩) 3 3, .slice (some ⟨w.heap.size + 2, 0, none⟩) 2 2]) (by simp [results, Try.results37, go_sem]) rfl ?_
  generalize hW : (World.alloc _ _) = W
  obtain ⟨p1, p2, p3, hB⟩ := box3 hW.symm
  refine ⟨hB, _, _, rfl, rows_block (by omega) p2 (fun i hi j hj => ?_), rows_block (by omega) p3 (fun i hi j hj => ?_)⟩
  · match i, j, hi, hj with
    | 0, 0, _, _ => rfl
    | 0, 1, _, _ => rfl
    | 1, 0, _, _ => rfl
    | 1, 1, _, _ => rfl
    | 2, 0, _, _ => rfl
    | 2, 1, _, _ => rfl
  · match i, j, hi, hj with
    | 0, 0, _, _ => rfl
    | 0, 1, _, _ => rfl
    | 0, 2, _, _ => rfl
    | 0, 3, _, _ => rfl
    | 1, 0, _, _ => rfl
    | 1, 1, _, _ => rfl
    | 1, 2, _, _ => rfl
    | 1, 3, _, _ => rfl
def AirP (w : World) (z : Ending) (w' : World) : Prop := Below w.heap.size w w' ∧ ∃ g, z = .returned (.slice (some ⟨g, 0, none⟩) 5 5) ∧ Rows 4 w' (.slice (some ⟨g, 0, none⟩) 5 5) 5 airA
theorem l33air_any (w : World) : Calls Try.prog 38 #[] w (AirP w) := by
  go_enter Try.func38, Try.ntmps38
  go_wp2
  go_returns
  generalize hW : (World.alloc _ _) = W
  obtain ⟨p1, hB⟩ := box1 hW.symm
  refine ⟨hB, _, rfl, rows_block (by omega) p1 (fun i hi j hj => ?_)⟩
  match i, j, hi, hj with
  | 0, 0, _, _ => rfl
  | 0, 1, _, _ => rfl
  | 0, 2, _, _ => rfl
  | 0, 3, _, _ => rfl
  | 1, 0, _, _ => rfl
  | 1, 1, _, _ => rfl
  | 1, 2, _, _ => rfl
  | 1, 3, _, _ => rfl
  | 2, 0, _, _ => rfl
  | 2, 1, _, _ => rfl
  | 2, 2, _, _ => rfl
  | 2, 3, _, _ => rfl
  | 3, 0, _, _ => rfl
  | 3, 1, _, _ => rfl
  | 3, 2, _, _ => rfl
  | 3, 3, _, _ => rfl
  | 4, 0, _, _ => rfl
  | 4, 1, _, _ => rfl
  | 4, 2, _, _ => rfl
  | 4, 3, _, _ => rfl
def L3 (i j : Nat) : Int := if j = 0 then (i : Int) else if i = 0 then 0 else if i = 1 then 2 else 5
theorem v_net : NetOk 3 seaX 2 seaE := by decide +kernel
theorem v_airs : AirsOk 5 airA := by decide +kernel
theorem v_times : TimesOk 0 3 := by decide +kernel
theorem v_area : AreaOk 3 1 (fun _ _ => 1) := by decide +kernel
theorem v_no : decide (NetOk 0 (fun _ _ => 0) 0 (fun _ _ => 0)) = false := by decide +kernel
theorem v_h1 : hearsNR 3 seaX 2 seaE 1 0 0 150 1 1 = (true, 0) := by decide +kernel
theorem v_h2 : hearsNR 3 seaX 2 seaE 1 0 0 150 0 1 = (true, 0) := by decide +kernel
theorem v_h3 : hearsNR 3 seaX 2 seaE 1 0 0 150 1 2 = (false, 0) := by decide +kernel
theorem v_count : countR 3 seaX 2 seaE 3 L3 5 airA 0 = (2, 0) := by decide +kernel
theorem v_worst : worstQ 3 seaX 2 seaE 5 airA 1 (fun _ _ => 1) 0 3 = (2, 0) := by decide +kernel
theorem v_delay1 : delayQ 3 seaX 2 seaE 5 airA 1 (fun _ _ => 1) 0 5 1 = (2, 0) := by decide +kernel
theorem v_delay4 : delayQ 3 seaX 2 seaE 5 airA 1 (fun _ _ => 1) 0 5 4 = (0, 4) := by decide +kernel
def T4 (t j : Nat) : Int := if t < 2 then 0 else if j = 2 then 0 else if t = 2 then 1 else 2
theorem v_tab : TabsEq 4 4 (fun _ => 3) (fun _ => 3) (tblN seaX airA seaE 5 0 2 4) T4 := by decide +kernel
theorem v_check : checkQ 3 seaX 2 seaE 5 airA 1 (fun _ _ => 1) 0 2 3 1 4 (fun _ => 3) (tblN seaX airA seaE 5 0 2 4) = (true, 0) := by decide +kernel
def trkL : List (Int × Int) := ((1 : Int), (3 : Int)) :: trk seaX airA seaE (tblI seaX airA seaE 5 0 3 2) 5 0 2 4 3 1
theorem v_track : TrackOk 3 seaX 2 seaE trkL.length (fun i j => pairX trkL (trkL.length - 1 - i) j) := by decide +kernel
end Go.Proofs.Ytcpnkhiillgffaa
