/- maps.Keys and slices.Sorted at the map of operations, by the kit's contracts. -/
import Derived.Test.YtpidmgkjnomigaaGreatPatKeys
namespace Go.Proofs
open Go.RowKit Go.Maps Go.Sort Go.Shelf
namespace YtpidmgkjnomigaaGreat
theorem keysO_any (mb : Option Nat) (W : World) : Calls Tryz.prog 51 #[.map mb] W fun e w' => e = .returned (.func (.func 81) #[] #[.pointer (some ⟨W.heap.size, 0, none⟩)]) ∧ w' = W.alloc (.cells #[.map mb] 75 (0, 0)) :=
  (callsIn_wide (n := 5)).1 (AnyZI.keys_in Tryz.keysB Fence.wide 5 trivial rfl mb W)
set_option maxHeartbeats 1000000 in
theorem sortedO_any {H : Type} (b nn : Nat) (D0 : DataW H) (R : Value → Option (DataW H × List MemPlace)) (w : World) (hown : w.ownsMap Tryz.prog 3 R b nn D0) (hmax : Maps.size D0 ≤ maxLen) (hbytes : Maps.size D0 * 8 ≤ 140737488355328) :
    Calls Tryz.prog 50 #[.func (.func 81) #[] #[.pointer (some ⟨w.heap.size, 0, none⟩)]] (w.alloc (.cells #[.map (some b)] 75 (0, 0))) fun e w' => ∃ (v : Value) (ss : List Int), e = .returned v ∧ ss.Perm (intKeys D0) ∧
      w'.ownsRow (w.alloc (.cells #[.map (some b)] 75 (0, 0))).heap.size 3 1 v ss.length ((ss.mergeSort (fun x y => decide (x ≤ y))).map encZ) ∧ (v = .slice none 0 0 ↔ ss = []) ∧ Below (w.alloc (.cells #[.map (some b)] 75 (0, 0))).heap.size (w.alloc (.cells #[.map (some b)] 75 (0, 0))) w' := by
  have hbl := hown.lt
  have hseq : SeqGives Fence.wide 2 Tryz.prog 81 #[.pointer (some ⟨w.heap.size, 0, none⟩)] encZ (fun ss => ss.Perm (intKeys D0)) (Maps.size D0) (w.alloc (.cells #[.map (some b)] 75 (0, 0))) :=
    AnyZI.keys_gives (ρ := Tryz.keysB_ren) { Tryz.keysB with } Fence.wide _ trivial rfl (by omega) w.heap.size b nn D0 _ (by simp) (by simp) (by
      obtain ⟨es, clock, hb, Ft, hs, hD⟩ := hown
      exact ⟨es, clock, (Below.heap_alloc _ _ b hbl).trans hb, Ft, hs, hD⟩)
  have cS := AnyZI.sorted_in Tryz.sortedA Fence.wide 5 trivial trivial trivial trivial rfl (by omega) (Tryz.sortsA _) (enters_of Tryz.func53 (by kernel_rfl) rfl) 81 #[.pointer (some ⟨w.heap.size, 0, none⟩)] trivial (enters_of Tryz.func81 (by kernel_rfl) rfl) _ _ hmax hbytes _ hseq
  change CallsIn _ _ Tryz.prog 50 _ _ _ at cS
  refine ((callsIn_wide (n := 5)).1 cS).mono ?_
  rintro e w' ⟨v, ss, h1, h2, h3, h4, h5⟩
  exact ⟨v, ss, h1, h2, h3, h4, h5⟩
end YtpidmgkjnomigaaGreat
end Go.Proofs
