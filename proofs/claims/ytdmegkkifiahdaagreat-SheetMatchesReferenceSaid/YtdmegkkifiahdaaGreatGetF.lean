/- The walk of get at Feature. -/
import Derived.Test.YtdmegkkifiahdaaGreatFromF
namespace Go.Proofs.YtdmegkkifiahdaaGreat
open Go.RowKit
set_option linter.unusedVariables false
theorem grow_keep {w w' : World} {b : Nat} {o : Obj} {row : Option Nat} (hg : w.grownBy w' row) (hb : w.heap[b]? = some o) (hne : row ≠ some b) : w'.heap[b]? = some o :=
  (hg.block b (lt_block hb) (fun e => hne e.symm)).trans hb
theorem own_grow {w w' : World} {base base' k n k' n' : Nat} {e e' : TypeId} {v v' : Value} {xs xs' : List Value} (hg : w.grownBy w' v.ownBlock) (hown : w.ownsRow base e k v n xs) (h : w.ownsRow base' e' k' v' n' xs') (hne : e' ≠ e) : w'.ownsRow base' e' k' v' n' xs' := by
  refine ⟨h.1, ?_⟩
  rcases h.2 with h | ⟨g, cap, cur, hv, hbg, hg', rest⟩
  · exact .inl h
  · refine .inr ⟨g, cap, cur, hv, hbg, grow_keep hg hg' (fun h => ?_), rest⟩
    rcases hown.2 with ⟨rfl, _⟩ | ⟨g2, cap2, cur2, rfl, _, hg2, _⟩
    · simp [Value.ownBlock] at h
    · simp only [Value.ownBlock, Option.some.injEq] at h
      subst h
      rw [hg2] at hg'
      cases hg'
      exact hne rfl
/-- A list of features that a call owns, with the values of its areas and sectors. -/
abbrev FItem := Feat × Value × Value
def featCells (x : FItem) : List Value := [.int .i64 x.1.id, .int .i64 x.1.kind, .int .i64 x.1.x, .int .i64 x.1.y, .int .i64 x.1.rad, x.2.1, .int .i64 x.1.dep, .int .i64 x.1.sym, x.2.2]
def OwnR (base : Nat) (w : World) (v : Value) (l : List FItem) : Prop := w.ownsRow base 32 9 v l.length (l.flatMap featCells)
def Parts (base : Nat) (w : World) (l : List FItem) : Prop := ∀ x ∈ l, OwnP base w x.2.1 x.1.area ∧ OwnS base w x.2.2 x.1.secs
theorem Parts.wr {base br : Nat} {w w' : World} {l : List FItem} (h : Parts base w l) (hb : Wr br w w') (hlt : br < base) : Parts base w' l := fun x hx => ⟨own_wr (h x hx).1 hb hlt, own_wr (h x hx).2 hb hlt⟩
theorem Parts.keep {base : Nat} {w w' : World} {l : List FItem} (h : Parts base w l) (hb : Below w.heap.size w w') : Parts base w' l := fun x hx => ⟨own_keep (h x hx).1 hb, own_keep (h x hx).2 hb⟩
theorem Parts.grow {base k n : Nat} {w w' : World} {l : List FItem} {v : Value} {xs : List Value} (h : Parts base w l) (hg : w.grownBy w' v.ownBlock) (hown : w.ownsRow base 32 k v n xs) : Parts base w' l := fun x hx => ⟨own_grow hg hown (h x hx).1 (by decide), own_grow hg hown (h x hx).2 (by decide)⟩
theorem parts_snoc {base : Nat} {w : World} {l : List FItem} {x : FItem} (h : Parts base w l) (h1 : OwnP base w x.2.1 x.1.area) (h2 : OwnS base w x.2.2 x.1.secs) : Parts base w (l ++ [x]) := fun y hy => by
  rw [List.mem_append] at hy
  rcases hy with hy | hy
  · exact h y hy
  · obtain rfl : y = x := by simpa using hy
    exact ⟨h1, h2⟩
theorem FeatsAt.of_own {base : Nat} {w : World} {v : Value} {l : List FItem} (h : OwnR base w v l) (hp : Parts base w l) (hl : l.length ≤ 9223372036854775807) (hla : ∀ x ∈ l, x.1.area.length ≤ 9223372036854775807 ∧ x.1.secs.length ≤ 9223372036854775807) : FeatsAt w v (l.map Prod.fst) := by
  have hc := own_cap h
  obtain ⟨ad, c, rfl⟩ := owns_form h
  have key := fun i (hi : i < l.length) j (hj : j < 9) => flat_get featCells 9 (fun _ => rfl) ((noFeat, .slice none 0 0, .slice none 0 0) : FItem) l i j hi hj
  refine ⟨ad, c, by simp, ⟨by simpa using hl, by rw [List.length_map]; exact hc _ _ _ rfl⟩, fun i hi => ?_⟩
  rw [List.length_map] at hi
  obtain ⟨x, hx⟩ : ∃ x, l.getD i ((noFeat, .slice none 0 0, .slice none 0 0) : FItem) = x := ⟨_, rfl⟩
  have hxl : l[i]? = some x := by rw [← hx, List.getD_eq_getElem?_getD, List.getElem?_eq_getElem hi]; rfl
  have hmem : x ∈ l := List.mem_of_getElem? hxl
  have hxf : (l.map Prod.fst).getD i noFeat = x.1 := by rw [List.getD_eq_getElem?_getD, List.getElem?_map, hxl]; rfl
  rw [hxf]
  have kk := fun j (hj : j < 9) => (key i hi j hj).trans (by rw [hx])
  rcases h.2 with ⟨e, h0⟩ | ⟨g, cap, cur, e, hg, hh, hnc, hcm, hcs, ht⟩
  · exfalso
    omega
  · cases e
    refine ⟨g, 0, x.2.1, x.2.2, rfl, ?_⟩
    have cc : ∀ j, j < 9 → w.cell? ⟨g, 0 + i * 9 + j, none⟩ = (featCells x)[j]? := fun j hj => by
      rw [cell_block hh, Nat.zero_add, ← kk j hj, ← ht]
      have hlen : i * 9 + j < l.length * 9 := by have := Nat.mul_le_mul_right 9 (show i + 1 ≤ l.length from hi); omega
      simp [hlen]
    exact ⟨cc 0 (by omega), cc 1 (by omega), cc 2 (by omega), cc 3 (by omega), cc 4 (by omega), cc 5 (by omega), cc 6 (by omega), cc 7 (by omega), cc 8 (by omega), OwnP.pts (hp x hmem).1 (hla x hmem).1, OwnS.secs (hp x hmem).2 (hla x hmem).2⟩
/-- What get gives at Feature. -/
def GetF (w0 : World) (br : Nat) (xs : List Feat) (t : List Int) (w : World) (e : Ending) (w' : World) : Prop := ∃ ad c items, items.map Prod.fst = xs ∧ e = .returned (.slice ad items.length c) ∧ OwnR w.heap.size w' (.slice ad items.length c) items ∧ Parts w.heap.size w' items ∧ RestAt w0 br w' t ∧ Wr br w w'
set_option maxHeartbeats 2000000 in
theorem shgetF_any (w0 : World) (br bn bp : Nat) (l : List Int) (w : World) (h : RestAt w0 br w l) (hf : w.heap[bn]? = some (.cells #[nextV br] 141 (0, 0))) (hp : w.heap[bp]? = some (.cells #[pointV bn] 142 (0, 0))) (hne : bn ≠ br) (hpe : bp ≠ br) {xs : List Feat} {tt : List Int} (hv : getL rdFeat 300 l = (xs, tt)) :
    Calls Tryz.prog 116 #[nextV br, .int .i64 300, featRV bn bp] w (GetF w0 br xs tt w) := by
  have hbr := h.lt
  obtain ⟨x, hx⟩ : ∃ x, l.getD 0 0 = x := ⟨_, rfl⟩
  obtain ⟨t, ht⟩ : ∃ t, l.drop 1 = t := ⟨_, rfl⟩
  have HR := Lib.hid h
  have HF := Lib.hid hf
  have HP := Lib.hid hp
  have HX := Lib.hid hx
  have HT := Lib.hid ht
  have EQ : Hid ((if x < 0 ∨ 300 < x then ([], t) else getN rdFeat x.toNat t) = (xs, tt)) := Lib.hid (by rw [← hv]; unfold getL; rw [hx, ht])
  clear h hx ht hv hf hp
  go_enter Tryz.func116, Tryz.ntmps116
  go_wp2_with fail
  (with_reducible refine (shFrom1_at w0 br l _ HR.out HX.out HT.out).mono ?_)
  rintro e w1 ⟨rfl, hr1, hw1⟩
  have R1 := Lib.hid hr1
  clear hr1
  have hs1 := hw1.size
  rcases Int.lt_or_le x 0 with hneg | hpos
  · have E := EQ.out
    rw [if_pos (Or.inl hneg)] at E
    cases E
    clear EQ
    go_wp2_with fail
    go_returns
    exact ⟨none, 0, [], rfl, rfl, own_nil _ _ _ _, fun x hx => absurd hx (by simp), R1.out, hw1⟩
  rcases Int.lt_or_le 300 x with hbig | hsmall
  · have E := EQ.out
    rw [if_pos (Or.inr hbig)] at E
    cases E
    clear EQ
    go_wp2_with fail
    go_returns
    exact ⟨none, 0, [], rfl, rfl, own_nil _ _ _ _, fun x hx => absurd hx (by simp), R1.out, hw1⟩
  obtain ⟨n, rfl⟩ : ∃ n : Nat, x = n := ⟨x.toNat, by omega⟩
  have E := EQ.out
  rw [if_neg (by omega), Int.toNat_natCast] at E
  have E := Lib.hid E
  clear EQ
  go_wp2_with fail
  go_loopw [8, 19] (fun v i wr => ∃ (k : Nat) (ad : Option Addr) (c : Nat) (m : List FItem) (u : List Int), k ≤ n ∧ i = .int .i64 k ∧ v = .slice ad m.length c ∧ getN rdFeat k t = (m.map Prod.fst, u) ∧ OwnR w.heap.size wr (.slice ad m.length c) m ∧ Parts w.heap.size wr m ∧ RestAt w0 br wr u ∧ Wr br w wr) (fun _ i _ => n - (intOf i).toNat)
  case atStart => exact ⟨0, none, 0, [], t, by omega, rfl, rfl, rfl, own_nil _ _ _ _, fun x hx => absurd hx (by simp), R1.out, hw1⟩
  case round =>
    clear R1 hw1
    obtain ⟨k, ad, c, m, u, hk, rfl, rfl, hm, how, hpa, hr, hb⟩ := hrel
    have OW := Lib.hid how
    have PA := Lib.hid hpa
    have M := Lib.hid hm
    have R := Lib.hid hr
    have hml : m.length ≤ k := by have := getN_len rdFeat k t; rw [hm] at this; simpa using Nat.le_of_eq this
    clear hm how hpa hr
    have hszk := hb.size
    rcases Nat.lt_or_ge k n with hlt | hge
    rotate_left
    · obtain rfl : k = n := by omega
      have E2 := M.out.symm.trans E.out
      cases E2
      go_wp2_with fail
      go_returns
      exact ⟨ad, c, m, rfl, rfl, OW.out, PA.out, R.out, hb⟩
    obtain ⟨f, hs⟩ : ∃ s, (rdFeat u).1 = s := ⟨_, rfl⟩
    obtain ⟨u', hu'⟩ : ∃ t, (rdFeat u).2 = t := ⟨_, rfl⟩
    have HU := Lib.hid (show rdFeat u = (f, u') by rw [← hs, ← hu'])
    have STEP := Lib.hid (getN_snoc rdFeat k t M.out HU.out)
    have hfr := hb.block_ne HF.out hne
    have hpr := hb.block_ne HP.out hpe
    clear hs hu' M
    go_wp2_with fail
    (with_reducible refine (shFrom3_at w0 br bn bp u _ R.out hfr hpr hne hpe HU.out).mono ?_)
    rintro e w2 ⟨aa, ca, ab, cb, rfl, hop, hos, hr2, hw2⟩
    have R2 := Lib.hid hr2
    have hsb := hb.size
    have hal := (Below.refl w2.heap.size w2).alloc (Nat.le_refl _) (.cells #[.int .i64 f.id, .int .i64 f.kind, .int .i64 f.x, .int .i64 f.y, .int .i64 f.rad, .slice aa f.area.length ca, .int .i64 f.dep, .int .i64 f.sym, .slice ab f.secs.length cb] 32)
    have O2 := Lib.hid (own_keep (own_wr OW.out hw2 hbr) hal)
    have A2 := Lib.hid (parts_snoc (x := (f, Value.slice aa f.area.length ca, Value.slice ab f.secs.length cb)) ((PA.out.wr hw2 hbr).keep hal) (own_mono (own_keep hop hal) hsb) (own_mono (own_keep hos hal) hsb))
    have hb2 := hb.trans hw2
    have hs2 := hb2.size
    clear hr2 R OW PA hfr hpr hop hos hal
    go_wp2_with (at_builtin; refine wpList_app1 rfl _ _ _ _ 9 104 (featV noFeat (.slice none 0 0) (.slice none 0 0)) rfl Tryz.underlying22 (by kernel_rfl) rfl (by decide) w.heap.size _ m.length _ rfl O2.out w2.heap.size (featCells (f, Value.slice aa f.area.length ca, Value.slice ab f.secs.length cb)) rfl (block_new _ _) rfl (by simp [featCells, Value.oneCell']) (by unfold maxLen; omega) (by omega) (by simp; omega) ?_; intro ad3 c3 w3 hown3 hg3 hb3)
    have O3 : Hid (OwnR w.heap.size w3 (.slice ad3 (m.length + 1) c3) (m ++ [(f, Value.slice aa f.area.length ca, Value.slice ab f.secs.length cb)])) := Lib.hid (by unfold OwnR; rw [List.flatMap_append, List.length_append]; simpa using hown3)
    have A3 := Lib.hid (A2.out.grow hg3 O2.out)
    have hb4 : Below w.heap.size w2 w3 := ((Below.refl w.heap.size w2).alloc hs2 _).trans hb3
    have hb5 := hb2.past hb4
    have R3 := Lib.hid (R2.out.past hb4 hbr)
    have LN := Lib.hid (show (m ++ [(f, Value.slice aa f.area.length ca, Value.slice ab f.secs.length cb)]).length = m.length + 1 by simp)
    clear hown3 hb3 hg3
    go_wp2_with fail
    go_roundw
    case rel => exact ⟨k + 1, ad3, c3, m ++ [(f, Value.slice aa f.area.length ca, Value.slice ab f.secs.length cb)], u', by omega, by go_num, by rw [LN.out], by rw [List.map_append]; exact STEP.out, by rw [LN.out]; exact O3.out, A3.out, R3.out, hb5⟩
    case measure => simp [intOf]; omega
end Go.Proofs.YtdmegkkifiahdaaGreat
