import Derived.Test.YtdmegkkifiahdaaGreatPatNmA
import Derived.Test.YtdmegkkifiahdaaGreatPatComm
namespace Go.Proofs.YtdmegkkifiahdaaGreat
open Go.RowKit
set_option linter.unusedVariables false
set_option maxHeartbeats 2000000 in
theorem paNormal_no (ops : List Opn) (v0 : Value) (w : World) (h : OpsAt w v0 ops) (ho : decide (OpsOk ops) = false) : Calls Tryz.prog 22 #[v0] w fun e w' => e = .returned (.tuple #[.slice none 0 0, .int .i64 1]) ∧ Below w.heap.size w w' := by
 obtain ⟨ad, c, rfl, k1, hn1, _⟩ := h.form
 have H1 := Lib.hid k1
 have OK := Lib.hid ho
 clear h k1 ho
 obtain ⟨n, hln⟩ : ∃ n, ops.length = n := ⟨_, rfl⟩
 rw [hln] at H1 ⊢
 clear hln
 go_enter Tryz.func22, Tryz.ntmps22
 go_wp2_with fail
 refine calls_named fun W hW => ?_
 obtain ⟨p1, p2, hB⟩ := box2 hW
 clear hW
 (with_reducible refine (paTouch_no ops _ W (H1.out.later hB) (of_decide_eq_false OK.out)).mono ?_)
 rintro e w1 ⟨rfl, hb1⟩
 have hB1 := below_step hB hb1
 have q1 := block_later hb1 p1
 have q2 := block_later hb1 p2
 have c0 := cell_block q1 0
 have c1 := cell_block q2 0
 have c2 := free_block q1 0
 have c3 := free_block q2 0
 go_wp2_with fail
 have cs : ∀ (u : World) (b : Nat) (x : Value) (k : Nat), k ≠ b → (u.setCell ⟨b, 0, none⟩ x).heap[k]? = u.heap[k]? := fun u b x k h => Below.heap_setCell _ _ _ _ h
 have k2 := (cs (w1.setCell ⟨w.heap.size, 0, none⟩ (.slice none 0 0)) (w.heap.size + 1) (.int .i64 1) _ (by omega)).trans (block_set (i := 0) q1 (.slice none 0 0))
 have k3 := block_set (i := 0) ((cs w1 w.heap.size (.slice none 0 0) _ (by omega)).trans q2) (.int .i64 1)
 have hc5 := cell_block k2 0
 have hc6 := cell_block k3 0
 exact bodyPost_ret (v := .tuple #[.slice none 0 0, .int .i64 1]) (by simp [results, Tryz.results22, go_sem, hc5, hc6]) rfl ⟨rfl, (hB1.setCell (p := ⟨w.heap.size, 0, none⟩) (Nat.le_refl _) _).setCell (p := ⟨w.heap.size + 1, 0, none⟩) (by simp) _⟩
theorem touch_of {ops : List Opn} {ids : List Int} (h1 : ids.Pairwise (· < ·)) (h2 : ∀ id ∈ ids, ∃ o ∈ ops, o.id = id) (h3 : ∀ o ∈ ops, o.id ∈ ids) : TouchL ops ids :=
 ⟨h1, fun id => ⟨h2 id, fun ⟨o, ho, e⟩ => e ▸ h3 o ho⟩⟩
theorem touch_one {ops : List Opn} {a b : List Int} (h : TouchL ops a) (k : TouchL ops b) : a = b := rise_ext h.1 k.1 fun x => (h.2 x).trans (k.2 x).symm
structure NormEx (ops : List Opn) (ids : List Int) (out : List Opn) : Prop where
 ok : decide (OpsOk ops) = true
 up : ids.Pairwise (· < ·)
 touch : (∀ id ∈ ids, ∃ o ∈ ops, o.id = id) ∧ ∀ o ∈ ops, o.id ∈ ids
 says : ∀ id ∈ ids, (saysS (ofId id ops) said0).isSome = true
 norm : normL ids ops = out
structure NormNo (ops : List Opn) (ids : List Int) : Prop where
 ok : decide (OpsOk ops) = true
 up : ids.Pairwise (· < ·)
 touch : (∀ id ∈ ids, ∃ o ∈ ops, o.id = id) ∧ ∀ o ∈ ops, o.id ∈ ids
 says : ¬ ∀ id ∈ ids, (saysS (ofId id ops) said0).isSome = true
theorem paNormal_ex {ids : List Int} (ops out : List Opn) (v0 : Value) (w : World) (h : OpsAt w v0 ops) (hx : NormEx ops ids out) : Calls Tryz.prog 22 #[v0] w fun e w' => ∃ (ad : Option Addr) (n c : Nat), out.length = n ∧ e = .returned (.tuple #[.slice ad n c, .int .i64 0]) ∧ OpsAt w' (.slice ad n c) out ∧ Below w.heap.size w w' := by
 have ok := of_decide_eq_true hx.ok
 refine (paNormal_yes ops v0 w h ok.1 ok.2).mono ?_
 rintro e w' ⟨ids', ht, hb, hd⟩
 obtain rfl := touch_one (touch_of hx.up hx.touch.1 hx.touch.2) ht
 rcases hd with ⟨_, ad, n, c, hn, he, hops⟩ | ⟨hno, _⟩
 · rw [hx.norm] at hn hops
   exact ⟨ad, n, c, hn, he, hops, hb⟩
 · exact absurd hx.says hno
theorem paNormal_exno {ids : List Int} (ops : List Opn) (v0 : Value) (w : World) (h : OpsAt w v0 ops) (hx : NormNo ops ids) : Calls Tryz.prog 22 #[v0] w fun e w' => e = .returned (.tuple #[.slice none 0 0, .int .i64 6]) ∧ Below w.heap.size w w' := by
 have ok := of_decide_eq_true hx.ok
 refine (paNormal_yes ops v0 w h ok.1 ok.2).mono ?_
 rintro e w' ⟨ids', ht, hb, hd⟩
 obtain rfl := touch_one (touch_of hx.up hx.touch.1 hx.touch.2) ht
 rcases hd with ⟨hy, _⟩ | ⟨_, he⟩
 · exact absurd hy hx.says
 · exact ⟨he, hb⟩
end Go.Proofs.YtdmegkkifiahdaaGreat
