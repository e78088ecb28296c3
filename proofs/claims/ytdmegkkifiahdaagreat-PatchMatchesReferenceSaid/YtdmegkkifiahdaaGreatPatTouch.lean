import Derived.Shelf.SlicesG.CompactI
import Derived.Ground.SlgnProg
import Derived.Sort.OwnSortedInts
import Derived.Test.YtdmegkkifiahdaaGreatPKL
import Derived.Test.YtdmegkkifiahdaaGreatPatVal
import Derived.Test.YtdmegkkifiahdaaGreatPB
import Derived.Test.YtdmegkkifiahdaaGreatPatSh4
namespace Go.Proofs
open Go.RowKit Go.Maps Go.Sort Go.Shelf
shelf_lay_g SlLaysN.n43 Slgn 43 at Tryz 102 as Tryz.compactA
namespace YtdmegkkifiahdaaGreat
attribute [local go_sem] bqOp bqAll bqUpon sqOp sqAll sqUpon
attribute [local irreducible] wpQuiet wpBQ wpPlan
set_option linter.unusedVariables false
def intC (i : Int) : List Value := [.int .i64 i]
theorem intC_len (i : Int) : (intC i).length = 1 := rfl
theorem intC_flat : ∀ l : List Int, l.flatMap intC = l.map (Value.int .i64)
 | [] => rfl
 | i :: l => by rw [List.flatMap_cons, intC_flat l]; rfl
abbrev OwnI (base : Nat) (w : World) (v : Value) (l : List Int) : Prop := OwnT intC 1 3 base w v l
theorem OwnI.keep {base : Nat} {w w' : World} {v : Value} {l : List Int} (h : OwnI base w v l) (hb : Below w.heap.size w w') : OwnI base w' v l := own_keep h hb
theorem info_int : (Tryz.prog.info? 3).map (fun i => (i.zero, i.size, i.bytes)) = some (some (.int .i64 0), 1, 8) := by kernel_rfl
theorem ints_takeL {w : World} {ad : Option Addr} {n c k : Nat} {l : List Int} (h : IntsAt w (.slice ad n c) l) (hn : l.length = n) (hk : k ≤ n) : IntsAt w (.slice ad k c) (l.take k) := by
 subst hn
 have hl : (l.take k).length = k := by rw [List.length_take]; omega
 obtain ⟨hr, hc⟩ := h
 obtain ⟨ad', c', e, h1, h2⟩ := hr
 cases e
 refine ⟨?_, fun _ _ _ e => by cases e; exact Nat.le_trans hk (hc _ _ _ rfl)⟩
 rw [hl]
 refine ⟨ad, c, rfl, by omega, fun i hi => ?_⟩
 obtain ⟨g, o, e, hcell⟩ := h2 i (by omega)
 refine ⟨g, o, e, fun j hj => ?_⟩
 rw [hcell j hj]
 simp [List.getD_eq_getElem?_getD, hi]
def sortedL (l : List Int) : List Int := l.mergeSort fun x y => decide (x ≤ y)
theorem sortedL_up (l : List Int) : (sortedL l).Pairwise (· ≤ ·) := by
 have := List.pairwise_mergeSort (le := fun x y : Int => decide (x ≤ y)) (fun a b c h1 h2 => by simp only [decide_eq_true_eq] at *; omega) (fun a b => by simp only [Bool.or_eq_true, decide_eq_true_eq]; omega) l
 exact this.imp (fun h => by simpa using h)
theorem sortInts_any (base : Nat) (l : List Int) (v : Value) (w : World) (h : OwnI base w v l) (hb : base ≤ w.heap.size) (hl : l.length ≤ 1000000) :
  Calls Tryz.prog 101 #[v] w fun e w' => e = .returned (.tuple #[]) ∧ OwnI base w' v (sortedL l) ∧ Below base w w' := by
 rcases h.2 with ⟨rfl, h0⟩ | ⟨g, cap, cur, rfl, hg, hh, hnc, hcm, hcs, ht⟩
 · have hl0 : l = [] := by simpa using h0
   subst hl0
   refine (show Calls Tryz.prog 101 #[.slice none 0 0] w _ from AnyM.slices_Sort_int_none Tryz.sortA none 0 w).mono ?_
   rintro e w' ⟨rfl, rfl⟩
   exact ⟨rfl, by rw [show sortedL [] = [] by simp [sortedL]]; exact h, Below.refl _ _⟩
 · rw [Nat.mul_one, intC_flat] at ht
   refine (show Calls Tryz.prog 101 #[.slice (some ⟨g, 0, none⟩) l.length cap] w _ from AnyM.slices_Sort_int Tryz.sortA g 0 cap l w (holds_of_blockI hh ht) (lt_block hh) (by omega)).mono ?_
   rintro e w' ⟨rfl, n, os, rfl⟩
   refine ⟨rfl, ?_, (Below.refl base w).grown (grownBy_sortedI _) hb (fun k hk => by cases hk; exact hg)⟩
   have hsl : (sortedL l).length = l.length := List.length_mergeSort l
   have h2 := ownsRow_sortedI (os := os) (n := n) (ts := sortedL l) hsl hg hh hnc hcm hcs
   unfold OwnI OwnT
   rw [hsl, intC_flat]
   exact h2
theorem arr_at {ts : List Int} {j : Nat} (hj : j < ts.length) : ts.toArray[j]! = ts[j] := by
 rw [getElem!_pos ts.toArray j (by simpa using hj)]
 simp
theorem sorted_le {ts : List Int} (hs : ts.Pairwise (· ≤ ·)) {i j : Nat} (hij : i ≤ j) (hj : j < ts.length) : ts.toArray[i]! ≤ ts.toArray[j]! := by
 rw [arr_at hj, arr_at (by omega : i < ts.length)]
 rcases Nat.lt_or_ge i j with h | h
 · exact List.pairwise_iff_getElem.1 hs i j (by omega) hj h
 · have : i = j := by omega
   subst this
   exact Int.le_refl _
theorem mem_compact {ts : List Int} (hs : ts.Pairwise (· ≤ ·)) (x : Int) : x ∈ Lib.compact ts ↔ x ∈ ts := by
 unfold Lib.compact Lib.compactUpTo
 rw [List.mem_map]
 constructor
 · rintro ⟨j, hj, rfl⟩
   have hj' : j < ts.length := List.mem_range.1 (List.mem_filter.1 hj).1
   rw [arr_at hj']
   exact List.getElem_mem hj'
 · intro hx
   obtain ⟨j, hj, rfl⟩ := List.getElem_of_mem hx
   have key : ∀ k, k < ts.length → ∃ i, i ∈ (List.range ts.length).filter (Lib.keeps ts.toArray) ∧ ts.toArray[i]! = ts.toArray[k]! := by
    intro k
    induction k with
    | zero => exact fun h => ⟨0, List.mem_filter.2 ⟨List.mem_range.2 h, by simp [Lib.keeps]⟩, rfl⟩
    | succ k ih =>
      intro h
      by_cases e : ts.toArray[k + 1]! = ts.toArray[k]!
      · obtain ⟨i, h1, h2⟩ := ih (by omega)
        exact ⟨i, h1, by rw [h2, e]⟩
      · exact ⟨k + 1, List.mem_filter.2 ⟨List.mem_range.2 h, by simp only [Lib.keeps, decide_eq_true_eq]; exact .inr e⟩, rfl⟩
   obtain ⟨i, h1, h2⟩ := key j hj
   exact ⟨i, h1, by rw [h2, arr_at hj]⟩
theorem compact_up {ts : List Int} (hs : ts.Pairwise (· ≤ ·)) : (Lib.compact ts).Pairwise (· < ·) := by
 unfold Lib.compact Lib.compactUpTo
 rw [List.pairwise_map]
 refine (List.pairwise_lt_range.filter _).imp_of_mem fun {i j} hi hj hij => ?_
 have hjm := List.mem_filter.1 hj
 have hj' : j < ts.length := List.mem_range.1 hjm.1
 have hk := hjm.2
 simp only [Lib.keeps, decide_eq_true_eq] at hk
 have h1 := sorted_le hs (show i ≤ j - 1 by omega) (by omega)
 have h2 := sorted_le hs (show j - 1 ≤ j by omega) hj'
 rcases hk with h | h
 · omega
 · omega
theorem compact_len (ts : List Int) : (Lib.compact ts).length ≤ ts.length := by
 unfold Lib.compact Lib.compactUpTo
 rw [List.length_map]
 exact Nat.le_trans (List.length_filter_le _ _) (by simp)
theorem compactI_any (base : Nat) (l : List Int) (ad : Option Addr) (n c : Nat) (w : World) (h : OwnI base w (.slice ad n c) l) (hn : l.length = n) (hb : base ≤ w.heap.size) (hl : n ≤ 1000000) :
  Calls Tryz.prog 102 #[.slice ad n c] w fun e w' => e = .returned (.slice ad (Lib.compact l).length c) ∧ IntsAt w' (.slice ad (Lib.compact l).length c) (Lib.compact l) ∧ Below base w w' := by
 subst hn
 rcases h.2 with ⟨hv, h0⟩ | ⟨g, cap, cur, hv, hg, hh, hnc, hcm, hcs, ht⟩
 · have hl0 : l = [] := by simpa using h0
   subst hl0
   cases hv
   refine (show Calls Tryz.prog 102 #[.slice none 0 0] w _ from AnyG.slices_Compact_int_empty Tryz.compactA none 0 w).mono ?_
   rintro e w' ⟨rfl, rfl⟩
   exact ⟨rfl, ⟨⟨none, 0, rfl, Nat.zero_le _, fun i hi => absurd hi (Nat.not_lt_zero i)⟩, fun _ _ _ e => by cases e; exact Nat.le_refl _⟩, Below.refl _ _⟩
 · cases hv
   rw [Nat.mul_one, intC_flat] at ht
   refine (show Calls Tryz.prog 102 #[.slice (some ⟨g, 0, none⟩) l.length c] w _ from AnyG.slices_Compact_int Tryz.compactA g 0 c l w (holds_of_blockI hh ht) (by omega) hnc).mono ?_
   rintro e w' ⟨rfl, q, rfl⟩
   have hcl := compact_len l
   have hlen : (Lib.compact l ++ List.replicate (l.length - (Lib.compact l).length) 0).length = l.length := by simp; omega
   have h2 := ownsRow_sortedI (os := #[]) (n := q) (ts := Lib.compact l ++ List.replicate (l.length - (Lib.compact l).length) 0) hlen hg hh hnc hcm hcs
   have hgr : grow (putRow (Value.int .i64) (Sort.ahead w q) g 0 (Lib.compact l ++ List.replicate (l.length - (Lib.compact l).length) 0).toArray) #[] = putRow (Value.int .i64) (Sort.ahead w q) g 0 (Lib.compact l ++ List.replicate (l.length - (Lib.compact l).length) 0).toArray := by
    exact (fun W => by cases W; simp [Sort.grow] : ∀ W : World, Sort.grow W #[] = W) _
   rw [hgr] at h2
   have hg2 := grownBy_sortedI (w := w) (g := g) (n := q) (os := #[]) (Lib.compact l ++ List.replicate (l.length - (Lib.compact l).length) 0).toArray
   rw [hgr] at hg2
   have h3 := ints_own h2 hlen (by omega)
   have h4 := ints_takeL (k := (Lib.compact l).length) h3 hlen hcl
   rw [List.take_left] at h4
   exact ⟨rfl, h4, (Below.refl base w).grown hg2 hb (fun k hk => by cases hk; exact hg)⟩
def TouchP (ops : List Opn) (w : World) (e : Ending) (w' : World) : Prop := ∃ (ad : Option Addr) (n c : Nat) (ids : List Int), ids.length = n ∧ TouchL ops ids ∧ e = .returned (.tuple #[.slice ad n c, .int .i64 0]) ∧ IntsAt w' (.slice ad n c) ids ∧ Below w.heap.size w w'
set_option maxHeartbeats 4000000 in
theorem paTouch_yes (ops : List Opn) (v0 : Value) (w : World) (h : OpsAt w v0 ops) (hlen : ops.length ≤ 100) (ho : ∀ o ∈ ops, OpOk o) : Calls Tryz.prog 26 #[v0] w (TouchP ops w) := by
 obtain ⟨ad, c, rfl, k1, hn1, _⟩ := h.form
 have H1 := Lib.hid k1
 obtain ⟨n, hln⟩ : ∃ n, ops.length = n := ⟨_, rfl⟩
 rw [hln] at H1 hn1 hlen
 have OK2 : Hid (decide (ops.length ≤ 100 ∧ ∀ o ∈ ops, OpOk o) = true) := Lib.hid (decide_eq_true ⟨by omega, ho⟩)
 rw [hln]
 have HL1 := Lib.hid hln
 clear h k1 ho hln
 go_enter Tryz.func26, Tryz.ntmps26
 go_wp2_with fail
 (with_reducible refine (pavalid_any ops _ _ H1.out OK2.out).mono ?_)
 rintro e w1 ⟨rfl, hb1⟩
 go_wp2_with fail
 go_loopw [4, 12] (fun out i wr => ∃ (k : Nat) (ad' : Option Addr) (c' : Nat), k ≤ n ∧ i = .int .i64 k ∧ out = .slice ad' k c' ∧ OwnI w.heap.size wr (.slice ad' k c') ((ops.take k).map (·.id)) ∧ Below w.heap.size w wr) (fun _ i _ => n - cntV i)
 case atStart => exact ⟨0, none, 0, by omega, rfl, rfl, OwnT.nil _ _, hb1⟩
 case round =>
  clear hb1
  obtain ⟨k, ad', c', hk, rfl, rfl, how, hb⟩ := hrel
  have OW := Lib.hid how
  clear how
  rcases Nat.lt_or_ge k n with hlt | hge
  rotate_left
  · obtain rfl : k = n := by omega
    have OW2 : Hid (OwnI w.heap.size wr (.slice ad' k c') (ops.map (·.id))) := Lib.hid (by have h := OW.out; rwa [List.take_of_length_le (by have := HL1.out; omega)] at h)
    have ML : Hid ((ops.map (·.id)).length = k) := Lib.hid (by rw [List.length_map, HL1.out])
    have hsz := hb.size
    go_wp2_with fail
    refine (sortInts_any w.heap.size _ _ _ OW2.out hsz (by rw [ML.out]; omega)).mono ?_
    rintro e w2 ⟨rfl, ho2, hb2⟩
    have hB2 := hb.trans hb2
    have hsz2 := hB2.size
    go_wp2_with fail
    refine (compactI_any w.heap.size _ ad' k c' w2 ho2 (by rw [show (sortedL (ops.map (·.id))).length = (ops.map (·.id)).length from List.length_mergeSort _, ML.out]) hsz2 (by omega)).mono ?_
    rintro e w3 ⟨rfl, hi3, hb3⟩
    have I3 := Lib.hid hi3
    clear hi3 ho2
    go_wp2_with fail
    go_returns
    refine ⟨ad', _, c', _, rfl, ⟨compact_up (sortedL_up _), fun id => ?_⟩, rfl, I3.out, hB2.trans hb3⟩
    rw [mem_compact (sortedL_up _)]
    unfold sortedL
    rw [List.mem_mergeSort, List.mem_map]
  obtain ⟨gg, oo, va, vs, rfl, fc0⟩ := H1.out.row hlt
  obtain ⟨p, hp⟩ : ∃ p, ops.getD k noOpn = p := ⟨_, rfl⟩
  rw [hp] at fc0
  have RG0 := (fc0.later hb).range
  obtain ⟨aa, ca, ab, cb, rfl, rfl⟩ := fc0.parts.form
  have RG : Hid (wr.rangeAt gg (oo + k * 16) [.int .i64 p.kind, .int .i64 p.id, .int .i64 p.feat.id, .int .i64 p.feat.kind, .int .i64 p.feat.x, .int .i64 p.feat.y, .int .i64 p.feat.rad, .slice aa p.feat.area.length ca, .int .i64 p.feat.dep, .int .i64 p.feat.sym, .slice ab p.feat.secs.length cb, .int .i64 p.x, .int .i64 p.y, .int .i64 p.rad, .int .i64 p.dep, .int .i64 p.sym]) := Lib.hid RG0
  have TK : Hid ((ops.take k).map (·.id) ++ [p.id] = (ops.take (k + 1)).map (·.id)) := Lib.hid (by rw [take_snoc noOpn (by have := HL1.out; omega), hp, List.map_append]; rfl)
  have LT : Hid (((ops.take k).map (·.id)).length + 1 = k + 1) := Lib.hid (by rw [List.length_map, List.length_take]; have := HL1.out; omega)
  have hszr := hb.size
  clear fc0 RG0 hp
  go_wp2_with (first
   | (refine wpList_load_mid rfl 34 _ rfl gg (oo + k * 16) rfl [.int .i64 p.kind, .int .i64 p.id, .int .i64 p.feat.id, .int .i64 p.feat.kind, .int .i64 p.feat.x, .int .i64 p.feat.y, .int .i64 p.feat.rad, .slice aa p.feat.area.length ca, .int .i64 p.feat.dep, .int .i64 p.feat.sym, .slice ab p.feat.secs.length cb, .int .i64 p.x, .int .i64 p.y, .int .i64 p.rad, .int .i64 p.dep, .int .i64 p.sym] _ RG.out Tryz.underlying34 rfl (by kernel_rfl) ?_)
   | (refine wpList_appT (f := intC) (k := 1) (e := 3) intC_len (by omega) Tryz.underlying46 info_int rfl rfl _ _ rfl w.heap.size _ ((ops.take k).map (·.id)) [p.id] rfl (OwnI.keep OW.out (two_allocs _ _ _)) _ _ _ rfl rfl (SrcAt.one (block_new_at _ (by simp only [World.size_alloc])) rfl) (fun u hu => by obtain rfl : u = .int .i64 p.id := (by simpa [intC] using hu); rfl) (N := k + 1) LT.out (by unfold maxLen; omega) (by omega) (by simp only [World.size_alloc]; omega) ?_; intro ad2 c2 w5 how5 hgr hbl))
  go_roundw
  case rel => exact ⟨k + 1, ad2, c2, by omega, by go_num, rfl, by rw [← TK.out]; exact how5, (hb.trans ((two_allocs wr _ _).mono hszr)).trans hbl⟩
  case measure => simp [cntV]; omega
end YtdmegkkifiahdaaGreat
end Go.Proofs
