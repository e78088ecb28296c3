/- The walk of slices.Reverse at stops. -/
import Derived.Test.YtcpnkhiillgffaaRtC
import Derived.BigRegion
namespace Go.Proofs.Ytcpnkhiillgffaa
open Go.RowKit
set_option linter.unusedVariables false
/-- Block g is a row whose first n elements are the pairs X. -/
def RowP (w : World) (g : Nat) (ty : TypeId) (n : Nat) (X : Nat → Nat → Int) : Prop := ∃ cur : Array Value, w.heap[g]? = some (.cells cur ty (0, 0)) ∧ n * 2 ≤ cur.size ∧ ∀ i, i < n → ∀ j, j < 2 → cur[i * 2 + j]? = some (.int .i64 (X i j))
theorem RowP.cell {w : World} {g n : Nat} {ty : TypeId} {X : Nat → Nat → Int} (h : RowP w g ty n X) {i j : Nat} (hi : i < n) (hj : j < 2) : w.cell? ⟨g, i * 2 + j, none⟩ = some (.int .i64 (X i j)) ∧ w.frozen? ⟨g, i * 2 + j, none⟩ = false := by
  obtain ⟨cur, h1, _, h3⟩ := h
  exact ⟨(cell_block h1 _).trans (h3 i hi j hj), free_block h1 _⟩
theorem RowP.set {w : World} {g n : Nat} {ty : TypeId} {X Y : Nat → Nat → Int} (h : RowP w g ty n X) {i j : Nat} (hi : i < n) (hj : j < 2) {v : Int} (hY : ∀ i', i' < n → ∀ j', j' < 2 → Y i' j' = if i' = i ∧ j' = j then v else X i' j') : RowP (w.setCell ⟨g, i * 2 + j, none⟩ (.int .i64 v)) g ty n Y := by
  obtain ⟨cur, h1, h2, h3⟩ := h
  refine ⟨_, block_set h1 _, by simpa using h2, fun i' hi' j' hj' => ?_⟩
  rw [hY i' hi' j' hj']
  by_cases e : i' = i ∧ j' = j
  · obtain ⟨rfl, rfl⟩ := e
    rw [if_pos ⟨rfl, rfl⟩]
    simp [show i' * 2 + j' < cur.size by omega]
  · rw [if_neg e, Array.getElem?_setIfInBounds, if_neg (by omega)]; exact h3 i' hi' j' hj'
theorem RowP.eqv {w : World} {g n : Nat} {ty : TypeId} {X Y : Nat → Nat → Int} (h : RowP w g ty n X) (hY : ∀ i, i < n → ∀ j, j < 2 → Y i j = X i j) : RowP w g ty n Y := by
  obtain ⟨cur, h1, h2, h3⟩ := h
  exact ⟨cur, h1, h2, fun i hi j hj => by rw [hY i hi j hj]; exact h3 i hi j hj⟩
def updX (X : Nat → Nat → Int) (i j : Nat) (v : Int) (i' j' : Nat) : Int := if i' = i ∧ j' = j then v else X i' j'
def swapX (X : Nat → Nat → Int) (n k i j : Nat) : Int := if i < k ∨ n - 1 - k < i then X (n - 1 - i) j else X i j
set_option maxRecDepth 20000 in
set_option maxHeartbeats 2000000 in
theorem lRevStop_any (g n c : Nat) (ty : TypeId) (X : Nat → Nat → Int) (w : World) (h : RowP w g ty n X) (hn : n ≤ 1000000) (h1 : 1 ≤ n) :
    Calls Try.prog 86 #[.slice (some ⟨g, 0, none⟩) n c] w fun e w' => (∃ v, e = .returned v) ∧ Bes g w w' ∧ RowP w' g ty n (fun i j => X (n - 1 - i) j) := by
  have H := Lib.hid h
  clear h
  have j1 : IntKind.i64.wrap ((n : Int) - 1) = (n : Int) - 1 := IntWalk.i64_in _ (by omega)
  go_enter Try.func86, Try.ntmps86
  go_wp2_with fail
  go_loopw [2, 3] (fun i j wr => ∃ k : Nat, 2 * k ≤ n ∧ i = .int .i64 k ∧ j = .int .i64 ((n : Int) - 1 - (k : Int)) ∧ Bes g w wr ∧ RowP wr g ty n (swapX X n k)) (fun i _ _ => n - (intOf i).toNat)
  case atStart =>
    refine ⟨0, by omega, rfl, by go_num, Bes.refl _ _, ?_⟩
    obtain ⟨cur, h1, h2, h3⟩ := H.out
    exact ⟨cur, h1, h2, fun i hi j hj => by rw [h3 i hi j hj]; unfold swapX; rw [if_neg (by omega)]⟩
  case round =>
    obtain ⟨k, hk, rfl, rfl, hb, hr⟩ := hrel
    have HR := Lib.hid hr
    clear hr
    by_cases hlt : 2 * k + 1 < n
    · obtain ⟨q, hq⟩ : ∃ q : Nat, (n : Int) - 1 - (k : Int) = (q : Int) := ⟨n - 1 - k, by omega⟩
      have lt1 : (k : Int) < (q : Int) := by omega
      have k1 : k < n := by omega
      have k2 : q < n := by omega
      have k3 : (k : Int) < (n : Int) := by omega
      have k4 : (q : Int) < (n : Int) := by omega
      obtain ⟨a0, a0'⟩ := HR.out.cell (j := 0) k1 (by omega)
      obtain ⟨a1, a1'⟩ := HR.out.cell (j := 1) k1 (by omega)
      obtain ⟨b0, b0'⟩ := HR.out.cell (j := 0) k2 (by omega)
      obtain ⟨b1, b1'⟩ := HR.out.cell (j := 1) k2 (by omega)
      simp only [Nat.add_zero] at a0 b0 a0' b0'
      rw [hq]
      have HQ := Lib.hid hq
      clear hq
      go_wp2_with fail
      go_region
      have W1 := (HR.out.set (Y := updX (swapX X n k) k 0 (swapX X n k q 0)) k1 (show 0 < 2 by omega) (v := swapX X n k q 0) (fun _ _ _ _ => rfl))
      have W2 := (W1.set (Y := updX (updX (swapX X n k) k 0 (swapX X n k q 0)) k 1 (swapX X n k q 1)) k1 (show 1 < 2 by omega) (v := swapX X n k q 1) (fun _ _ _ _ => rfl))
      have W3 := (W2.set (Y := updX (updX (updX (swapX X n k) k 0 (swapX X n k q 0)) k 1 (swapX X n k q 1)) q 0 (swapX X n k k 0)) k2 (show 0 < 2 by omega) (v := swapX X n k k 0) (fun _ _ _ _ => rfl))
      have W4 := Lib.hid ((W3.set (Y := updX (updX (updX (updX (swapX X n k) k 0 (swapX X n k q 0)) k 1 (swapX X n k q 1)) q 0 (swapX X n k k 0)) q 1 (swapX X n k k 1)) k2 (show 1 < 2 by omega) (v := swapX X n k k 1) (fun _ _ _ _ => rfl)).eqv (Y := swapX X n (k + 1)) (fun i hi j hj => by
        have hq := HQ.out
        unfold updX
        rcases (show i = k ∨ i = q ∨ (i ≠ k ∧ i ≠ q) by omega) with rfl | rfl | ⟨e1, e2⟩
        · have e : swapX X n (i + 1) i j = X q j := by unfold swapX; rw [if_pos (by omega), show n - 1 - i = q by omega]
          have e2 : swapX X n i q j = X q j := by unfold swapX; rw [if_neg (by omega)]
          rw [e, if_neg (by omega), if_neg (by omega)]
          rcases (show j = 0 ∨ j = 1 by omega) with rfl | rfl
          · rw [if_neg (by omega), if_pos ⟨rfl, rfl⟩, e2]
          · rw [if_pos ⟨rfl, rfl⟩, e2]
        · have e : swapX X n (k + 1) i j = X k j := by unfold swapX; rw [if_pos (by omega), show n - 1 - i = k by omega]
          have e2 : swapX X n k k j = X k j := by unfold swapX; rw [if_neg (by omega)]
          rw [e]
          rcases (show j = 0 ∨ j = 1 by omega) with rfl | rfl
          · rw [if_neg (by omega), if_pos ⟨rfl, rfl⟩, e2]
          · rw [if_pos ⟨rfl, rfl⟩, e2]
        · rw [if_neg (by omega), if_neg (by omega), if_neg (by omega), if_neg (by omega)]
          unfold swapX
          by_cases e : i < k ∨ n - 1 - k < i
          · rw [if_pos e, if_pos (by omega)]
          · rw [if_neg e, if_neg (by omega)]))
      clear W1 W2 W3
      have stay : ∀ (u : World) (i : Nat) (v : Value), Bes g w u → Bes g w (u.setCell ⟨g, i, none⟩ v) := fun u i v hu => hu.trans ⟨rfl, rfl, rfl, (kp_set (Av := fun _ => True) u g i v trivial).size, fun x _ hx => Below.heap_setCell u _ v x (fun e => hx (by rw [e]))⟩
      have STAY := Lib.hid stay
      clear stay
      go_wp2_with fail
      go_roundw
      case rel => exact ⟨k + 1, by omega, by go_num, by have := HQ.out; rw [show (q : Int) - 1 = (n : Int) - 1 - ((k + 1 : Nat) : Int) by omega], (STAY.out _ _ _ (STAY.out _ _ _ (STAY.out _ _ _ (STAY.out _ _ _ hb)))).trans (Bes.of_below (Below.refl _ _).drew), by
        have h := W4.out
        simp only [Nat.add_zero] at h
        obtain ⟨cur, h1, h2⟩ := h
        exact ⟨cur, h1, h2⟩⟩
      case measure => simp [intOf]; omega
    · have ge : ¬ (k : Int) < (n : Int) - 1 - (k : Int) := by omega
      have ge2 : (n : Int) - 1 - (k : Int) ≤ (k : Int) := by omega
      go_wp2_with fail
      go_end0
      exact ⟨⟨_, rfl⟩, hb, HR.out.eqv (fun i hi j _ => by
        unfold swapX
        by_cases e : i < k ∨ n - 1 - k < i
        · rw [if_pos e]
        · rw [if_neg e, show n - 1 - i = i by omega])⟩
end Go.Proofs.Ytcpnkhiillgffaa
