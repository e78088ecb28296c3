/- The walks of the reference's comparison of lists, and of the law's boxes. -/
import Derived.Test.YtnidacjmgekdjaaStationI
namespace Go.Proofs.Ytnidacjmgekdjaa
open Go.RowKit
attribute [local go_sem] bqOp bqAll bqUpon
attribute [local irreducible] wpQuiet wpBQ
/-- The slice v reads as the list L of integers. -/
def Lst (w : World) (v : Value) (L : List Int) : Prop :=
  ∃ ad c, v = .slice ad L.length c ∧ ∀ i, i < L.length → ∃ g, ad = some ⟨g, 0, none⟩ ∧ w.cell? ⟨g, i, none⟩ = some (.int .i64 (L.getD i 0))
theorem Lst.later {w w' : World} {v : Value} {L : List Int} (h : Lst w v L) (hb : Below w.heap.size w w') : Lst w' v L := by
  obtain ⟨ad, c, hv, hc⟩ := h
  exact ⟨ad, c, hv, fun i hi => by obtain ⟨g, hg, h⟩ := hc i hi; exact ⟨g, hg, cell_later hb h⟩⟩
theorem Lst.nil (w : World) : Lst w (.slice none 0 0) [] := ⟨none, 0, rfl, fun i hi => by simp at hi⟩
theorem Lst.owned {w : World} {base : Nat} {e : TypeId} {v : Value} {L : List Int} (h : w.ownsRow base e 1 v L.length (L.map (Value.int .i64))) : Lst w v L := by
  rcases h.2 with ⟨rfl, hn⟩ | ⟨g, cap, cur, rfl, _, hg, _, _, _, hx⟩
  · have : L = [] := List.length_eq_zero_iff.1 hn
    subst this
    exact Lst.nil w
  · refine ⟨some ⟨g, 0, none⟩, cap, rfl, fun i hi => ⟨g, rfl, ?_⟩⟩
    rw [cell_block hg]
    have h1 : (cur.toList.take (L.length * 1))[i]? = (L.map (Value.int .i64))[i]? := by rw [hx]
    rw [List.getElem?_take, if_pos (by omega), Array.getElem?_toList] at h1
    rw [h1]
    simp [List.getD, hi]
theorem box_any (a b c d : Int) (w : World) : Calls Try.prog 29 #[.int .i64 a, .int .i64 b, .int .i64 c, .int .i64 d] w fun e w' => e = .returned (.agg #[.int .i64 a, .int .i64 b, .int .i64 c, .int .i64 d]) ∧ Below w.heap.size w w' := by
  go_enter Try.func29, Try.ntmps29
  go_wp2
  go_returns
  exact ⟨rfl, by go_grown⟩
theorem ints_any (v1 v2 : Value) (L M : List Int) (w : World) (hL : L.length ≤ 1000000) (h1 : Lst w v1 L) (h2 : Lst w v2 M) {r : Bool} (hr : decide (L = M) = r) :
    Calls Try.prog 26 #[v1, v2] w fun e w' => e = .returned (.bool r) ∧ Below w.heap.size w w' := by
  obtain ⟨a1, c1, rfl, hc1⟩ := h1
  obtain ⟨a2, c2, rfl, hc2⟩ := h2
  have HR := Lib.hid hr
  have C1 := Lib.hid hc1
  have C2 := Lib.hid hc2
  clear hr hc1 hc2
  by_cases hlen : L.length = M.length
  · obtain ⟨n, hn⟩ : ∃ n, L.length = n := ⟨_, rfl⟩
    have hm : M.length = n := by omega
    have N1 := Lib.hid hn
    have N2 := Lib.hid hm
    rw [hn, hm]
    rw [hn] at hL
    clear hlen hn hm
    go_enter Try.func26, Try.ntmps26
    go_wp2
    go_loopw [5] (fun i wr => ∃ k : Nat, k ≤ n ∧ i = .int .i64 k ∧ Below w.heap.size w wr ∧ ∀ j, j < k → L.getD j 0 = M.getD j 0) (fun i _ => n - (intOf i).toNat)
    case atStart => exact ⟨0, by omega, rfl, Below.refl _ _, fun j hj => by omega⟩
    case round =>
      obtain ⟨k, hk, rfl, hb, heq⟩ := hrel
      have EQ := Lib.hid heq
      clear heq
      by_cases hlt : k < n
      · obtain ⟨g1, rfl, d1⟩ := C1.out k (by rw [N1.out]; exact hlt)
        obtain ⟨g2, rfl, d2⟩ := C2.out k (by rw [N2.out]; exact hlt)
        have q1 := fun d os => cell_later (below_regrown wr d os) (cell_later hb d1)
        have q2 := fun d os => cell_later (below_regrown wr d os) (cell_later hb d2)
        obtain ⟨x, hx⟩ : ∃ x, L.getD k 0 = x := ⟨_, rfl⟩
        obtain ⟨y, hy⟩ : ∃ y, M.getD k 0 = y := ⟨_, rfl⟩
        rw [hx] at q1
        rw [hy] at q2
        have X := Lib.hid hx
        have Y := Lib.hid hy
        clear hx hy d1 d2
        go_wp2_with fail
        (refine wp_region_quiet_below (by kernel_rfl) (by kernel_rfl) ?_; (repeat (refine wpQuiet_step (fun K hK => ?_); replace hK := Lib.hid hK; go_simp; first | (refine hK.out _ ?_; clear hK K) | (apply Exists.intro; refine ⟨fun _ => ?_, hK.out _ ?_⟩; (fail); clear hK K))); refine wpQuiet_nil ?_)
        intro W4 hW4
        have hb4 := below_step hb (regrown_below hW4)
        clear hW4 q1 q2
        by_cases hxy : x = y
        · subst hxy
          go_wp2_with fail
          go_roundw
          case rel => exact ⟨k + 1, by omega, by go_num, hb4, fun j hj => by
            rcases Nat.lt_or_ge j k with h | h
            · exact EQ.out j h
            · have : j = k := by omega
              subst this
              rw [X.out, Y.out]⟩
          case measure => simp [intOf]; omega
        · have hxy' : (x == y) = false := by simp [hxy]
          have NE := Lib.hid hxy
          clear hxy
          go_wp2_with fail
          go_returns
          refine ⟨ret_bool ?_, hb4⟩
          rw [← HR.out]
          exact (decide_eq_false fun h => NE.out (by rw [← X.out, ← Y.out, h])).symm
      · have hkn : k = n := by omega
        subst hkn
        go_wp2_with fail
        go_returns
        refine ⟨ret_bool ?_, hb⟩
        rw [← HR.out]
        refine (decide_eq_true ?_).symm
        refine List.ext_getElem (by rw [N1.out, N2.out]) fun i h1 h2 => ?_
        have := EQ.out i (by rw [← N1.out]; exact h1)
        simpa [List.getD, h1, h2] using this
  · have hne : ((L.length : Int) == (M.length : Int)) = false := by simp; omega
    have F : false = r := by rw [← HR.out]; exact (decide_eq_false fun h => hlen (by rw [h])).symm
    subst F
    clear HR
    go_enter Try.func26, Try.ntmps26
    go_wp2
    go_returns
    exact ⟨rfl, Below.refl _ _⟩
end Go.Proofs.Ytnidacjmgekdjaa
