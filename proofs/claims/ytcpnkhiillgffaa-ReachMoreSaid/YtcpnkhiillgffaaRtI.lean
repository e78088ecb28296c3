/- The walk of slices.Backward at rows. -/
import Derived.Test.YtcpnkhiillgffaaRtH
namespace Go.Proofs.Ytcpnkhiillgffaa
open Go.RowKit
attribute [local go_sem] Oper.semAt_some
set_option linter.unusedVariables false
/-- The indexes that have come after k rounds. -/
def dn (n k : Nat) : List Nat := (List.range k).map fun i => n - 1 - i
theorem dn_succ (n k : Nat) : dn n (k + 1) = dn n k ++ [n - 1 - k] := by
  unfold dn
  rw [List.range_succ, List.map_append]
  rfl
theorem lBackward_any (ad : Option Addr) (n c : Nat) (w : World) : Calls Try.prog 73 #[.slice ad n c] w fun z w' =>
    z = .returned (.func (.func 93) #[] #[.pointer (some ⟨w.heap.size, 0, none⟩)]) ∧ Below w.heap.size w w' ∧ w'.heap.size = w.heap.size + 1 ∧ ∃ ty, w'.heap[w.heap.size]? = some (.cells #[.slice ad n c] ty (0, 0)) := by
  go_enter Try.func73, Try.ntmps73
  go_wp2
  go_returns
  refine ⟨rfl, ?_⟩
  generalize hW : (World.alloc _ _) = W
  have hs : W.heap.size = w.heap.size + 1 := by subst hW; simp
  obtain ⟨p1, hB⟩ := box1 hW.symm
  exact ⟨hB, hs, _, p1⟩
theorem lBackward1_stops (m n c bx g o : Nat) (hm : 1 ≤ m) (Av : Nat → Prop) (rv : Nat → Value) (w : World) (hn : n ≤ 1000000) (hbx : ∃ ty, w.heap[bx]? = some (.cells #[.slice (some ⟨g, o, none⟩) n c] ty (0, 0))) (hc : ∀ t, t < n → w.cell? ⟨g, o + t, none⟩ = some (rv t)) (hg : g < w.heap.size) (a1 : ¬ Av bx) (a2 : ¬ Av g) :
    SeqStopsK Fence.wide m Try.prog 93 #[.pointer (some ⟨bx, 0, none⟩)] (fun x : { t : Nat // t < n } => #[.int .i64 (x.1 : Int), rv x.1]) (Kp Av) (fun xs => xs.map (·.1) = dn n n) (fun pre => ∃ k, pre.map (·.1) = dn n k) n w := by
  intro l J Jx W hW hJ hJx hY h0
  obtain ⟨ty, hbx⟩ := hbx
  have HC := Lib.hid hc
  have HY := Lib.hid hY
  have HBX := Lib.hid (block_later hW hbx)
  have H0 := Lib.hid h0
  have HCW : Hid (∀ t, t < n → W.cell? ⟨g, o + t, none⟩ = some (rv t)) := Lib.hid (fun t ht => cell_later hW (hc t ht))
  have hgW : g < W.heap.size := Nat.lt_of_lt_of_le hg hW.size
  have hbW := lt_block HBX.out
  clear hc hY hbx h0
  have q0 := cell_block HBX.out 0
  have j1 : IntKind.i64.wrap ((n : Int) - 1) = (n : Int) - 1 := IntWalk.i64_in _ (by omega)
  refine callsIn_of_wp Try.func93 rfl trivial ?_ rfl
  simp only [Try.ntmps93, List.append_toArray, List.cons_append, List.nil_append, List.size_toArray, List.length_cons, List.length_nil, Nat.reduceAdd, Nat.reduceSub, Array.replicate_succ, Array.replicate_zero, List.push_toArray]
  gi_wp2
  gi_loopw [3] (fun i wr => ∃ (k : Nat) (pre : List { t : Nat // t < n }), k ≤ n ∧ i = .int .i64 ((n : Int) - 1 - (k : Int)) ∧ pre.map (·.1) = dn n k ∧ J pre wr ∧ Kp Av W wr) (fun i _ => (intOf i + 1).toNat)
  case atStart => exact ⟨0, [], by omega, by go_num, rfl, H0.out, ⟨Nat.le_refl _, fun _ _ _ => rfl⟩⟩
  case round =>
    obtain ⟨k, pre, hk, rfl, hpre, hJp, hkp⟩ := hrel
    have HP := Lib.hid hpre
    have HJ := Lib.hid hJp
    clear hpre hJp
    by_cases hlt : k < n
    · obtain ⟨q, hq⟩ : ∃ q : Nat, (n : Int) - 1 - (k : Int) = (q : Int) := ⟨n - 1 - k, by omega⟩
      have hqn : q < n := by omega
      have hlen : pre.length < n := by
        have := congrArg List.length HP.out
        simp [dn] at this
        omega
      have c1 := (World.cell?_of_block (a := ⟨g, o + q, none⟩) (hkp.block g hgW a2)).trans (HCW.out q hqn)
      have q1 := cell_block ((hkp.block bx hbW a1).trans HBX.out) 0
      obtain ⟨fn, tmps, assign, body, hy, hR⟩ := HY.out pre ⟨q, hqn⟩ wr HJ.out hlen
      rw [hq]
      have HQ := Lib.hid hq
      have jq : (q : Int) < (n : Int) := by omega
      have jq0 : (0 : Int) ≤ (q : Int) := by omega
      dsimp only at hy
      clear hq
      gi_wp2
      refine hR.mono ?_
      rintro e w1 (⟨rfl, hJ1, hk1⟩ | ⟨rfl, hJ1⟩)
      · have J1 := Lib.hid hJ1
        clear hJ1 hy hR
        gi_wp2
        go_roundw
        case rel => exact ⟨k + 1, pre ++ [⟨q, hqn⟩], by omega, by have := HQ.out; rw [show (q : Int) - 1 = (n : Int) - 1 - ((k + 1 : Nat) : Int) by omega], by
          rw [List.map_append, HP.out, dn_succ]
          have := HQ.out
          rw [show n - 1 - k = q by omega]
          rfl, J1.out, hkp.trans hk1⟩
        case measure => simp [intOf]
      · have J1 := Lib.hid hJ1
        clear hJ1 hy hR
        gi_wp2
        refine bodyPost_ret (results_none rfl _ _ _) rfl ⟨⟨_, rfl⟩, .inr ⟨pre ++ [⟨q, hqn⟩], ⟨k + 1, ?_⟩, J1.out⟩⟩
        rw [List.map_append, HP.out, dn_succ]
        have := HQ.out
        rw [show n - 1 - k = q by omega]
        rfl
    · obtain rfl : k = n := by omega
      have z1 : (k : Int) - 1 - (k : Int) < 0 := by omega
      have z2 : ¬ (0 : Int) ≤ (k : Int) - 1 - (k : Int) := by omega
      gi_wp2
      go_end0
      exact ⟨⟨_, rfl⟩, .inl ⟨pre, HP.out, HJ.out⟩⟩
end Go.Proofs.Ytcpnkhiillgffaa
