/- of: the operations of an ID, as an iterator. -/
import Derived.Test.YtpidmgkjnomigaaGreatPatHear3
import Derived.Test.YtpidmgkjnomigaaGreatPatTouch
import Derived.Test.YtpidmgkjnomigaaGreatRowIn
namespace Go.Proofs.YtpidmgkjnomigaaGreat
open Go.RowKit Go.Shelf
attribute [local go_sem] bqOp bqAll bqUpon
attribute [local irreducible] wpQuiet wpBQ
attribute [local go_sem] Oper.semAt_some
set_option linter.unusedVariables false
/-- What a round must keep. -/
structure OfK (n₀ Ba Bi : Nat) (w w' : World) : Prop where
  below : Below n₀ w w'
  ops : w'.heap[Ba]? = w.heap[Ba]?
  idb : w'.heap[Bi]? = w.heap[Bi]?
theorem OfK.refl (n₀ Ba Bi : Nat) (w : World) : OfK n₀ Ba Bi w w := ⟨Below.refl _ _, rfl, rfl⟩
theorem OfK.trans {n₀ Ba Bi : Nat} {a b c : World} (h : OfK n₀ Ba Bi a b) (k : OfK n₀ Ba Bi b c) : OfK n₀ Ba Bi a c := ⟨h.below.trans k.below, k.ops.trans h.ops, k.idb.trans h.idb⟩
theorem OfK.of_below {n₀ Ba Bi : Nat} {a b : World} (h : Below a.heap.size a b) (hn : n₀ ≤ a.heap.size) (hb : Ba < a.heap.size) (hi : Bi < a.heap.size) : OfK n₀ Ba Bi a b := ⟨h.mono hn, h.block _ hb, h.block _ hi⟩
theorem ofK_b {n₀ Ba Bi : Nat} {w : World} (hn : n₀ ≤ w.heap.size) (hb : Ba < w.heap.size) (hi : Bi < w.heap.size) (W : World) (l : Nat) (o o' : Obj) (hl : w.heap.size ≤ l) (h : W.heap[l]? = some o) (h1 : o.isCells = false) (h2 : o.isWalk = false) : OfK n₀ Ba Bi W (W.putObj l o') :=
  ⟨belowK_b hn W l o o' hl h h1 h2, World.putObj_heap_other (by omega), World.putObj_heap_other (by omega)⟩
theorem ofK_own {β : Type} {n₀ Ba Bi B : Nat} {w₀ : World} (hn : n₀ ≤ w₀.heap.size) (hB : n₀ ≤ B) (hb : Ba < B) (hb' : Ba < w₀.heap.size) (hi : Bi < B) (hi' : Bi < w₀.heap.size) : OwnFrom B (fun (_ : β) W => OfK n₀ Ba Bi w₀ W) := fun s X Y row hs hg hr =>
  ⟨(ownFrom_below (β := β) hn hB) s X Y row hs.below hg hr, (hg.block Ba (Nat.lt_of_lt_of_le hb' hs.below.size) (fun e => by have := (hr Ba e.symm).1; omega)).trans hs.ops, (hg.block Bi (Nat.lt_of_lt_of_le hi' hs.below.size) (fun e => by have := (hr Bi e.symm).1; omega)).trans hs.idb⟩
def encO (items : List OItem) {n : Nat} (i : Fin n) : Array Value := #[opV (items.getD i.1 noOItem).1 (items.getD i.1 noOItem).2.1 (items.getD i.1 noOItem).2.2]
def ofN (id : Int) (items : List OItem) (n k : Nat) : List (Fin n) := (preN n k).filter fun i => decide ((items.getD i.1 noOItem).1.id = id)
theorem ofN_snoc (id : Int) (items : List OItem) {n k : Nat} (h : k < n) : ofN id items n (k + 1) = ofN id items n k ++ (if (items.getD k noOItem).1.id = id then [⟨k, h⟩] else []) := by
  unfold ofN
  rw [preN_snoc h, List.filter_append]
  congr 1
  by_cases e : (items.getD k noOItem).1.id = id
  · rw [if_pos e, List.filter_cons_of_pos (by simpa using e)]; rfl
  · rw [if_neg e, List.filter_cons_of_neg (by simpa using e)]; rfl
theorem ofN_pre (id : Int) (items : List OItem) (n k : Nat) : ofN id items n k <+: ofN id items n n := by
  unfold ofN
  rw [preN_all]
  exact (preN_pre n k).filter _
theorem ofN_len (id : Int) (items : List OItem) {n k : Nat} (h : k ≤ n) : (ofN id items n k).length ≤ k := by
  unfold ofN
  exact Nat.le_trans (List.length_filter_le _ _) (by rw [preN_len h]; omega)
theorem finRange_get {items : List OItem} {n : Nat} (h : items.length = n) : (List.finRange n).map (fun i => items.getD i.1 noOItem) = items := by
  subst h
  apply List.ext_getElem
  · simp
  · intro i h1 h2
    simp [List.getD_eq_getElem?_getD]
theorem ofN_ops (id : Int) {items : List OItem} {ops : List Opn} {n : Nat} (h : items.length = n) (ho : items.map Prod.fst = ops) : (ofN id items n n).map (fun i => (items.getD i.1 noOItem).1) = ofId id ops := by
  subst ho
  unfold ofN ofId
  rw [preN_all]
  conv => rhs; rw [← finRange_get h]
  rw [List.map_map, List.filter_map]
  rfl
theorem paof_any (ad : Option Addr) (n c : Nat) (id : Int) (w : World) :
    Calls Tryz.prog 48 #[.slice ad n c, .int .i64 id] w fun e w' => e = .returned (.func (.func 78) #[] #[.pointer (some ⟨w.heap.size, 0, none⟩), .pointer (some ⟨w.heap.size + 1, 0, none⟩)]) ∧ w' = (w.alloc (.cells #[.slice ad n c] 23)).alloc (.cells #[.int .i64 id] 3) := by
  go_enter Tryz.func48, Tryz.ntmps48
  go_wp2_with fail
  go_returns
  exact ⟨by simp, rfl⟩
set_option maxRecDepth 20000 in
set_option maxHeartbeats 2000000 in
theorem paof1_stops (n c : Nat) (ad : Option Addr) (id : Int) (items : List OItem) (Ba Bi n₀ m : Nat) (hm : 2 ≤ m) (w0 w : World) (hn : items.length = n) (hn1 : n ≤ 1000) (hr : OReads w0 items) (hs : SrcAt opCells w0 ad items) (hb0 : Below w0.heap.size w0 w) (h0 : w0.heap.size ≤ n₀) (hn0 : n₀ ≤ w.heap.size) (hBa : Ba < w.heap.size) (hBi : Bi < w.heap.size)
    (hblk : w.heap[Ba]? = some (.cells #[.slice ad n c] 23 (0, 0))) (hidb : w.heap[Bi]? = some (.cells #[.int .i64 id] 3 (0, 0))) :
    SeqStopsK Fence.wide m Tryz.prog 78 #[.pointer (some ⟨Ba, 0, none⟩), .pointer (some ⟨Bi, 0, none⟩)] (encO items (n := n)) (OfK n₀ Ba Bi) (fun ys => ys = ofN id items n n) (fun pre => pre <+: ofN id items n n) n w := by
  intro l J Jx W hW hJ hJx hY hJ0
  have hm1 : 1 ≤ m := by omega
  have hm2 : 1 ≤ m - 1 := by omega
  have HJ := Lib.hid (fun s A B (h : J s A) (hb : Below A.heap.size A B) => hJ s A B none h (grown_of_below hb) (fun r e => by cases e))
  have HY := Lib.hid hY
  have HR := Lib.hid hr
  have HS := Lib.hid hs
  have J0 := Lib.hid hJ0
  have HN := Lib.hid hn
  have hsz := hW.size
  have W0 := Lib.hid (hb0.trans (hW.mono hb0.size))
  have BK := Lib.hid (show W.heap[Ba]? = some (.cells #[.slice ad n c] 23 (0, 0)) from (hW.block Ba hBa).trans hblk)
  have BI := Lib.hid (show W.heap[Bi]? = some (.cells #[.int .i64 id] 3 (0, 0)) from (hW.block Bi hBi).trans hidb)
  clear hJ hJx hY hJ0 hW hblk hb0 hr hs hidb hn
  have c0 := cell_block BK.out 0
  refine callsIn_of_wp Tryz.func78 rfl trivial ?_ rfl
  simp only [Tryz.ntmps78, List.append_toArray, List.cons_append, List.nil_append, List.size_toArray, List.length_cons, List.length_nil, Nat.reduceAdd, Nat.reduceSub, Array.replicate_succ, Array.replicate_zero, List.push_toArray]
  gi_wp2
  gi_loopw [8] (fun i wr => ∃ k : Nat, k ≤ n ∧ i = .int .i64 k ∧ J (ofN id items n k) wr ∧ OfK n₀ Ba Bi W wr) (fun i _ => n - (intOf i).toNat)
  case atStart => exact ⟨0, by omega, rfl, J0.out, OfK.refl _ _ _ _⟩
  case round =>
    obtain ⟨k, hk, rfl, hJr, hKr⟩ := hrel
    have JR := Lib.hid hJr
    have KR := Lib.hid hKr
    clear hJr hKr
    obtain ⟨wo, rfl⟩ : ∃ wo : World, wo = wr := ⟨_, rfl⟩
    by_cases hlt : k < n
    rotate_left
    · obtain rfl : k = n := by omega
      gi_wp2
      go_end0
      exact ⟨⟨_, rfl⟩, .inl ⟨_, rfl, JR.out⟩⟩
    have hs2 : W.heap.size ≤ wo.heap.size := KR.out.below.size
    have hlk : k < items.length := by have := HN.out; omega
    have hbw : Below w0.heap.size w0 wo := W0.out.trans (KR.out.below.mono h0)
    have hx : PartsAt w0 (items.getD k noOItem).1.feat (items.getD k noOItem).2.1 (items.getD k noOItem).2.2 := HR.out _ (getD_memD hlk noOItem)
    obtain ⟨x, hxk⟩ : ∃ x, items.getD k noOItem = x := ⟨_, rfl⟩
    have hall : ∀ j, j < 16 → ∃ g o, ad = some ⟨g, o, none⟩ ∧ wo.cell? ⟨g, o + (k * 16 + j), none⟩ = (opCells x)[j]? := fun j hj => by
      have hf := flat_get opCells 16 opCells_len noOItem items k j hlk hj
      rw [hxk] at hf
      obtain ⟨u, hu⟩ : ∃ u, (opCells x)[j]? = some u := ⟨_, List.getElem?_eq_getElem (by rw [opCells_len]; exact hj)⟩
      obtain ⟨g, o, e, hc⟩ := (HS.out.later hbw) (k * 16 + j) u (by rw [hf, hu])
      exact ⟨g, o, e, by rw [hc, hu]⟩
    obtain ⟨g, o, rfl, _⟩ := hall 0 (by omega)
    have hrow : ∀ j, j < 16 → wo.cell? ⟨g, o + k * 16 + j, none⟩ = (opCells x)[j]? := fun j hj => by
      obtain ⟨g', o', e, hc⟩ := hall j hj
      cases e
      rw [Nat.add_assoc]; exact hc
    rw [hxk] at hx
    obtain ⟨p, va, vs⟩ := x
    have HX := Lib.hid (show OpCells wo g (o + k * 16) p va vs from opCells_at (x := (p, va, vs)) (hx.later hbw) hrow)
    have XK := Lib.hid hxk
    obtain ⟨fa, fc, fb, fd, hva, hvs⟩ := hx.form
    dsimp only at hva hvs
    subst hva hvs
    clear hall hrow hx hxk hbw
    have RG0 := HX.out.range
    have RG : Hid (wo.rangeAt g (o + k * 16) [.int .i64 p.kind, .int .i64 p.id, .int .i64 p.feat.id, .int .i64 p.feat.kind, .int .i64 p.feat.x, .int .i64 p.feat.y, .int .i64 p.feat.rad, .slice fa p.feat.area.length fc, .int .i64 p.feat.dep, .int .i64 p.feat.sym, .slice fb p.feat.secs.length fd, .int .i64 p.x, .int .i64 p.y, .int .i64 p.rad, .int .i64 p.dep, .int .i64 p.sym]) := Lib.hid RG0
    clear RG0
    have hba : Ba < wo.heap.size := by omega
    have hbi : Bi < wo.heap.size := by omega
    have hn1' : n₀ ≤ wo.heap.size := by omega
    have i0 := cell_block (KR.out.idb.trans BI.out) 0
    have hbl := (Below.refl wo.heap.size wo).alloc (Nat.le_refl _) (.cells #[.int .i64 p.kind, .int .i64 p.id, .int .i64 p.feat.id, .int .i64 p.feat.kind, .int .i64 p.feat.x, .int .i64 p.feat.y, .int .i64 p.feat.rad, .slice fa p.feat.area.length fc, .int .i64 p.feat.dep, .int .i64 p.feat.sym, .slice fb p.feat.secs.length fd, .int .i64 p.x, .int .i64 p.y, .int .i64 p.rad, .int .i64 p.dep, .int .i64 p.sym] 53)
    have HK1 := Lib.hid (KR.out.trans (OfK.of_below hbl hn1' hba hbi))
    have HJ1 := Lib.hid (HJ.out _ _ _ JR.out hbl)
    clear hbl
    by_cases hpid : p.id = id
    · have SN : Hid (ofN id items n (k + 1) = ofN id items n k ++ [⟨k, hlt⟩]) := Lib.hid (by rw [ofN_snoc id items hlt, XK.out, if_pos hpid])
      have hp2 : (p.id == id) = true := by simpa using hpid
      clear hpid
      have hl := ofN_len id items hk
      obtain ⟨fn, tmps, assign, body, hy, hR⟩ := HY.out (ofN id items n k) ⟨k, hlt⟩ (wo.alloc (.cells #[.int .i64 p.kind, .int .i64 p.id, .int .i64 p.feat.id, .int .i64 p.feat.kind, .int .i64 p.feat.x, .int .i64 p.feat.y, .int .i64 p.feat.rad, .slice fa p.feat.area.length fc, .int .i64 p.feat.dep, .int .i64 p.feat.sym, .slice fb p.feat.secs.length fd, .int .i64 p.x, .int .i64 p.y, .int .i64 p.rad, .int .i64 p.dep, .int .i64 p.sym] 53)) HJ1.out (by omega)
      unfold encO at hy
      dsimp only at hy
      rw [XK.out] at hy
      dsimp only at hy
      gi_wp2_with (first
        | (with_reducible refine wpListIn_load_mid rfl 53 (.tmp 10) rfl g (o + k * 16) rfl _ _ RG.out Tryz.underlying53 rfl (by kernel_rfl) ?_))
      refine hR.mono ?_
      rintro e w2 (⟨rfl, hJ2, hk2⟩ | ⟨rfl, hJ2⟩)
      · have J2 := Lib.hid hJ2
        have K2 := Lib.hid (HK1.out.trans hk2)
        clear hJ2 hk2 hy hR
        gi_wp2
        go_roundw
        case rel => exact ⟨k + 1, by omega, by go_num, by rw [SN.out]; exact J2.out, K2.out⟩
        case measure => simp [intOf]; omega
      · have J2 := Lib.hid hJ2
        clear hJ2 hy hR
        gi_wp2
        refine bodyPost_ret (results_none rfl _ _ _) rfl ⟨⟨_, rfl⟩, .inr ⟨_, ?_, J2.out⟩⟩
        rw [← SN.out]
        exact ofN_pre id items _ _
    · have SN : Hid (ofN id items n (k + 1) = ofN id items n k) := Lib.hid (by rw [ofN_snoc id items hlt, XK.out, if_neg hpid, List.append_nil])
      have hp2 : (p.id == id) = false := by simpa using hpid
      clear hpid
      gi_wp2_with (first
        | (with_reducible refine wpListIn_load_mid rfl 53 (.tmp 10) rfl g (o + k * 16) rfl _ _ RG.out Tryz.underlying53 rfl (by kernel_rfl) ?_))
      refine ⟨fun _ h => (by cases h), ?_⟩
      gi_wp2
      go_roundw
      case rel => exact ⟨k + 1, by omega, by go_num, by rw [SN.out]; exact HJ1.out, HK1.out⟩
      case measure => simp [intOf]; omega
end Go.Proofs.YtpidmgkjnomigaaGreat
