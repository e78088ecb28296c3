import Derived.Test.YtdmegkkifiahdaaGreatPatNrm
import Derived.Test.YtdmegkkifiahdaaGreatRpU
import Derived.Test.YtdmegkkifiahdaaGreatRpN
namespace Go.Proofs.YtdmegkkifiahdaaGreat
open Go.RowKit
set_option linter.unusedVariables false
theorem normal_both (ops : List Opn) : ∃ (os : List Opn) (er : Int), ∀ (v0 : Value) (w : World), OpsAt w v0 ops → (Calls Tryz.prog 22 #[v0] w (UndoP w os er)) ∧ (Calls Tryz.prog 23 #[v0] w (UndoP w os er)) := by
 by_cases ho : OpsOk ops
 · by_cases hx : ∃ ids, TouchL ops ids
   · obtain ⟨ids, ht⟩ := hx
     by_cases hs : SaysAll ids ops
     · have key : ∀ (w : World) (e : Ending) (w' : World), NormP ops w e w' → UndoP w (normL ids ops) 0 e w' := by
        rintro w e w' ⟨ids', ht', hb, hd⟩
        obtain rfl := touch_one ht ht'
        rcases hd with ⟨_, ad, n, c, hn, he, hops⟩ | ⟨hno, _⟩
        · exact ⟨ad, n, c, hn, he, hops, hb⟩
        · exact absurd hs hno
       exact ⟨normL ids ops, 0, fun v0 w h => ⟨(paNormal_yes ops v0 w h ho.1 ho.2).mono (key w), (q17Normal_yes ops v0 w h ho).mono (key w)⟩⟩
     · have key : ∀ (w : World) (e : Ending) (w' : World), NormP ops w e w' → UndoP w [] 6 e w' := by
        rintro w e w' ⟨ids', ht', hb, hd⟩
        obtain rfl := touch_one ht ht'
        rcases hd with ⟨hy, _⟩ | ⟨_, he⟩
        · exact absurd hy hs
        · exact ⟨none, 0, 0, rfl, he, ops_nil _, hb⟩
       exact ⟨[], 6, fun v0 w h => ⟨(paNormal_yes ops v0 w h ho.1 ho.2).mono (key w), (q17Normal_yes ops v0 w h ho).mono (key w)⟩⟩
   · have key : ∀ (w : World) (e : Ending) (w' : World), NormP ops w e w' → UndoP w [] 0 e w' := by
      rintro w e w' ⟨ids', ht', _⟩
      exact absurd ⟨ids', ht'⟩ hx
     exact ⟨[], 0, fun v0 w h => ⟨(paNormal_yes ops v0 w h ho.1 ho.2).mono (key w), (q17Normal_yes ops v0 w h ho).mono (key w)⟩⟩
 · have key : ∀ (w : World) (e : Ending) (w' : World), (e = .returned (.tuple #[.slice none 0 0, .int .i64 1]) ∧ Below w.heap.size w w') → UndoP w [] 1 e w' := by
    rintro w e w' ⟨he, hb⟩
    exact ⟨none, 0, 0, rfl, he, ops_nil _, hb⟩
   exact ⟨[], 1, fun v0 w h => ⟨(paNormal_no ops v0 w h (decide_eq_false ho)).mono (key w), (q17Normal_no ops v0 w h (decide_eq_false ho)).mono (key w)⟩⟩
def IdsP (ids : List Int) (er : Int) (w : World) (e : Ending) (w' : World) : Prop := ∃ (ad : Option Addr) (n c : Nat), ids.length = n ∧ e = .returned (.tuple #[.slice ad n c, .int .i64 er]) ∧ IntsAt w' (.slice ad n c) ids ∧ Below w.heap.size w w'
theorem touch_both (ops : List Opn) : ∃ (ids : List Int) (er : Int), ∀ (v0 : Value) (w : World), OpsAt w v0 ops → (Calls Tryz.prog 26 #[v0] w (IdsP ids er w)) ∧ (Calls Tryz.prog 27 #[v0] w (IdsP ids er w)) := by
 by_cases ho : OpsOk ops
 · by_cases hx : ∃ ids, TouchL ops ids
   · obtain ⟨ids, ht⟩ := hx
     have key : ∀ (w : World) (e : Ending) (w' : World), TouchP ops w e w' → IdsP ids 0 w e w' := by
      rintro w e w' ⟨ad, n, c, ids', hn, ht', he, hi, hb⟩
      obtain rfl := touch_one ht ht'
      exact ⟨ad, n, c, hn, he, hi, hb⟩
     exact ⟨ids, 0, fun v0 w h => ⟨(paTouch_yes ops v0 w h ho.1 ho.2).mono (key w), (q17Touch_yes ops v0 w h ho).mono (key w)⟩⟩
   · have key : ∀ (w : World) (e : Ending) (w' : World), TouchP ops w e w' → IdsP [] 0 w e w' := by
      rintro w e w' ⟨ad, n, c, ids', hn, ht', _⟩
      exact absurd ⟨ids', ht'⟩ hx
     exact ⟨[], 0, fun v0 w h => ⟨(paTouch_yes ops v0 w h ho.1 ho.2).mono (key w), (q17Touch_yes ops v0 w h ho).mono (key w)⟩⟩
 · have key : ∀ (w : World) (e : Ending) (w' : World), (e = .returned (.tuple #[nilV, .int .i64 1]) ∧ Below w.heap.size w w') → IdsP [] 1 w e w' := by
    rintro w e w' ⟨he, hb⟩
    exact ⟨none, 0, 0, rfl, he, ⟨⟨none, 0, rfl, by simp, fun i hi => absurd hi (Nat.not_lt_zero i)⟩, fun a n c e => by cases e; exact Nat.zero_le _⟩, hb⟩
   exact ⟨[], 1, fun v0 w h => ⟨(paTouch_no ops v0 w h ho).mono (key w), (q17Touch_no ops v0 w h ho).mono (key w)⟩⟩
end Go.Proofs.YtdmegkkifiahdaaGreat
