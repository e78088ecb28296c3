import Derived.Shelf.SlIterI.Nil
import Derived.Shelf.SortM.Plain
import Derived.Shelf.SortM.SortNone
import Derived.Ground.GgzProg
import Derived.Ground.SlgmProg
import Derived.Test.YtdmegkkifiahdaaGreatPC
import Derived.Test.YtdmegkkifiahdaaGreatPSh
namespace Go.Proofs
open Go.RowKit Go.Maps Go.Sort Go.Shelf
shelf_lay_g SlLaysZI.n7 Ggz 7 at Tryz 195 as Tryz.keysA
shelf_lay_g SlLaysZI.n6 Ggz 6 at Tryz 93 as Tryz.sortedA
shelf_lay_g SlLaysM.n5 Slgm 5 at Tryz 101 as Tryz.sortA
shelf_lay_g SlLaysZI.n7 Ggz 7 at Tryz 94 as Tryz.keysB
theorem Tryz.sortsA (m : Nat) : AnyZI.SortsIn Tryz.prog Tryz.sortedA_ren Fence.wide m :=
 ⟨fun blk off cap ss W hH hblk hsz => callsIn_wide.2 (AnyM.slices_Sort_int Tryz.sortA blk off cap ss W hH hblk hsz),
  fun p cap W => callsIn_wide.2 (AnyM.slices_Sort_int_none Tryz.sortA p cap W)⟩
namespace YtdmegkkifiahdaaGreat
theorem keysF_any (mb : Option Nat) (W : World) : Calls Tryz.prog 195 #[.map mb] W fun e w' => e = .returned (.func (.func 296) #[] #[.pointer (some ⟨W.heap.size, 0, none⟩)]) ∧ w' = W.alloc (.cells #[.map mb] 103 (0, 0)) :=
 (callsIn_wide (n := 5)).1 (AnyZI.keys_in Tryz.keysA Fence.wide 5 trivial rfl mb W)
set_option maxHeartbeats 1000000 in
theorem sortedF_any {H : Type} (b nn : Nat) (D0 : DataW H) (R : Value → Option (DataW H × List MemPlace)) (w : World) (hown : w.ownsMap Tryz.prog 3 R b nn D0) (hmax : Maps.size D0 ≤ maxLen) (hbytes : Maps.size D0 * 8 ≤ 140737488355328) :
  Calls Tryz.prog 93 #[.func (.func 296) #[] #[.pointer (some ⟨w.heap.size, 0, none⟩)]] (w.alloc (.cells #[.map (some b)] 103 (0, 0))) fun e w' => ∃ (v : Value) (ss : List Int), e = .returned v ∧ ss.Perm (intKeys D0) ∧
   w'.ownsRow (w.alloc (.cells #[.map (some b)] 103 (0, 0))).heap.size 3 1 v ss.length ((ss.mergeSort (fun x y => decide (x ≤ y))).map encZ) ∧ (v = .slice none 0 0 ↔ ss = []) ∧ Below (w.alloc (.cells #[.map (some b)] 103 (0, 0))).heap.size (w.alloc (.cells #[.map (some b)] 103 (0, 0))) w' := by
 have hbl := hown.lt
 have hseq : SeqGives Fence.wide 2 Tryz.prog 296 #[.pointer (some ⟨w.heap.size, 0, none⟩)] encZ (fun ss => ss.Perm (intKeys D0)) (Maps.size D0) (w.alloc (.cells #[.map (some b)] 103 (0, 0))) :=
  AnyZI.keys_gives (ρ := Tryz.keysA_ren) { Tryz.keysA with } Fence.wide _ trivial rfl (by omega) w.heap.size b nn D0 _ (by simp) (by simp) (by
   obtain ⟨es, clock, hb, Ft, hs, hD⟩ := hown
   exact ⟨es, clock, (Below.heap_alloc _ _ b hbl).trans hb, Ft, hs, hD⟩)
 have cS := AnyZI.sorted_in Tryz.sortedA Fence.wide 5 trivial trivial trivial trivial rfl (by omega) (Tryz.sortsA _) (enters_of Tryz.func101 (by kernel_rfl) rfl) 296 #[.pointer (some ⟨w.heap.size, 0, none⟩)] trivial (enters_of Tryz.func296 (by kernel_rfl) rfl) _ _ hmax hbytes _ hseq
 change CallsIn _ _ Tryz.prog 93 _ _ _ at cS
 refine ((callsIn_wide (n := 5)).1 cS).mono ?_
 rintro e w' ⟨v, ss, h1, h2, h3, h4, h5⟩
 exact ⟨v, ss, h1, h2, h3, h4, h5⟩
end YtdmegkkifiahdaaGreat
end Go.Proofs
namespace Go.Proofs.YtdmegkkifiahdaaGreat
open Go.RowKit Go.Maps
attribute [local go_sem] bqOp bqAll bqUpon sqOp sqAll sqUpon
attribute [local irreducible] wpQuiet wpBQ wpPlan
set_option linter.unusedVariables false
theorem ints_own {base n : Nat} {w : World} {v : Value} {l : List Int} (h : w.ownsRow base 3 1 v n (l.map encZ)) (hl : l.length = n) (hn : n ≤ 9223372036854775807) : IntsAt w v l := by
 subst hl
 refine ⟨owns_rows hn h fun i hi j hj => ?_, own_cap h⟩
 obtain rfl : j = 0 := by omega
 rw [Nat.mul_one, Nat.add_zero, List.getElem?_map, List.getElem?_eq_getElem hi, List.getD_eq_getElem?_getD, List.getElem?_eq_getElem hi]
 rfl
theorem OwnFs.mono {base base' : Nat} {w0 w : World} {v : Value} {l : List Feat} (h : OwnFs base w0 w v l) (hb : base' ≤ base) : OwnFs base' w0 w v l := by
 obtain ⟨items, rfl, ho, hr⟩ := h
 refine ⟨items, rfl, ⟨ho.1, ?_⟩, hr⟩
 rcases ho.2 with h | ⟨g, cap, cur, hv, hbg, hrr⟩
 · exact .inl h
 · exact .inr ⟨g, cap, cur, hv, Nat.le_trans hb hbg, hrr⟩
theorem OwnFs.ne {base b : Nat} {w0 w : World} {v : Value} {l m : List Feat} (h : OwnFs base w0 w v l) (hs : ShM w0 w b m) : v.ownBlock ≠ some b := by
 obtain ⟨items, rfl, ho, hr⟩ := h
 obtain ⟨_, D, ⟨es, clock, hb, _⟩, _⟩ := hs
 rcases ho.2 with ⟨rfl, _⟩ | ⟨g, cap, cur, rfl, hbg, hh, hrr⟩
 · simp [Value.ownBlock]
 · intro e
   simp only [Value.ownBlock, Option.some.injEq] at e
   subst e
   rw [hh] at hb
   cases hb
set_option maxHeartbeats 4000000 in
theorem palist_any (l : List Feat) (b : Nat) (w0 w : World) (hs : ShM w0 w b l) (hl : FeatsOk l) : Calls Tryz.prog 79 #[.map (some b)] w fun e w' => ∃ (ad : Option Addr) (n c : Nat), l.length = n ∧ e = .returned (.slice ad n c) ∧ OwnFs w.heap.size w0 w' (.slice ad n c) l ∧ Below w.heap.size w w' := by
 obtain ⟨D, hown, hsz, hperm⟩ := sh_keys hs
 have hup := hs.up
 have SH := Lib.hid hs
 have HO := Lib.hid hl
 have OWN := Lib.hid hown
 have PERM := Lib.hid hperm
 obtain ⟨n, hln⟩ : ∃ n, l.length = n := ⟨_, rfl⟩
 have hn3 : n ≤ 300 := by rw [← hln]; exact hl.1
 have HM : Hid (Maps.size D ≤ maxLen ∧ Maps.size D * 8 ≤ 140737488355328) := Lib.hid (by rw [hsz, hln]; unfold maxLen; omega)
 have HL := Lib.hid hln
 clear hs hl hown hsz hperm hln hup
 go_enter Tryz.func79, Tryz.ntmps79
 go_wp2_with fail
 refine (keysF_any _ _).mono ?_
 rintro e w1 ⟨rfl, rfl⟩
 go_wp2_with fail
 refine (sortedF_any b _ D heldV w OWN.out HM.out.1 HM.out.2).mono ?_
 rintro e w2 ⟨v, ss, rfl, hp, hrow, hnil, hb⟩
 have hss := PERM.out ss hp
 have hlen : ss.length = n := by
  have := congrArg List.length hss
  rw [List.length_mergeSort, List.length_map, HL.out] at this
  exact this
 have hints : IntsAt w2 v (l.map (·.id)) := by
  rw [show (ss.mergeSort (fun x y => decide (x ≤ y))) = l.map (·.id) from hss, hlen] at hrow
  exact ints_own hrow (by rw [List.length_map, HL.out]) (by omega)
 have hB2 : Below w.heap.size w w2 := ((Below.refl _ _).alloc (Nat.le_refl _) _).trans (hb.mono (by simp only [World.size_alloc]; omega))
 have S2 := Lib.hid (SH.out.below hB2)
 obtain ⟨ad, c, rfl, hin, hn9, hcap⟩ := Lists.form hints
 rw [List.length_map, HL.out] at hin ⊢
 have IN := Lib.hid hin
 clear hp hrow hnil hb hss hlen hints hin hn9
 go_wp2_with fail
 have hsz2 := hB2.size
 go_loopw [3, 10] (fun out i wr => ∃ (k : Nat) (ad' : Option Addr) (c' : Nat), k ≤ n ∧ i = .int .i64 k ∧ out = .slice ad' k c' ∧ OwnFs w2.heap.size w0 wr (.slice ad' k c') (l.take k) ∧ Below w2.heap.size w2 wr) (fun _ i _ => n - cntV i)
 case atStart => exact ⟨0, none, 0, by omega, rfl, rfl, OwnFs.nil _ _ _, Below.refl _ _⟩
 case round =>
  obtain ⟨k, ad', c', hk, rfl, rfl, how, hb⟩ := hrel
  have OW := Lib.hid how
  clear how
  rcases Nat.lt_or_ge k n with hlt | hge
  rotate_left
  · obtain rfl : k = n := by omega
    have OW2 : Hid (OwnFs w.heap.size w0 wr (.slice ad' k c') l) := Lib.hid (by have h := OW.out; rw [List.take_of_length_le (by have := HL.out; omega)] at h; exact h.mono hsz2)
    go_wp2_with fail
    go_returns
    exact ⟨ad', k, c', HL.out, rfl, OW2.out, below_step hB2 hb⟩
  obtain ⟨g, o, rfl, hcell⟩ := (IN.out.rows.later hb).row hlt
  have c0 := hcell 0 (by omega)
  rw [Nat.mul_one, Nat.add_zero] at c0
  have hkl : k < l.length := by have := HL.out; omega
  obtain ⟨f, hf⟩ : ∃ f, l.getD k noFeat = f := ⟨_, rfl⟩
  have hmem : f ∈ l := by rw [← hf]; exact getD_memD hkl _
  have eid : (l.map (·.id)).getD k 0 = f.id := by
   rw [← hf, List.getD_eq_getElem?_getD, List.getElem?_map, List.getElem?_eq_getElem hkl, List.getD_eq_getElem?_getD, List.getElem?_eq_getElem hkl]
   rfl
  rw [eid] at c0
  have LOOK : Hid (look l f.id = some f) := Lib.hid (look_mem (idsUp_of HO.out) hmem)
  have TK : Hid (l.take k ++ [f] = l.take (k + 1)) := Lib.hid (by rw [take_snoc noFeat hkl, hf])
  have WF : Hid ((Lit.int .i64 f.id).wf = true) := Lib.hid (by have h := featOk_id (featsOk_mem HO.out f hmem); exact wf_id (by have := h.1; omega) (by have := h.2; omega))
  have LT : Hid ((l.take k).length + 1 = k + 1) := Lib.hid (by rw [List.length_take]; omega)
  have SK := Lib.hid (S2.out.below hb)
  have hszr := hb.size
  clear hcell eid hf hmem hkl
  go_wp2_with (first
   | (refine wpList_shLook rfl _ _ _ rfl Tryz.underlying103 rfl rfl SK.out WF.out ?_; intro ff va vs hp hff; obtain rfl : f = ff := (by rw [LOOK.out] at hff; exact hff.symm); clear hff; have FP := Lib.hid hp; obtain ⟨fa, fc, fb, fd, rfl, rfl⟩ := hp.form; clear hp)
   | (refine wpList_appF rfl _ _ rfl w2.heap.size w0 _ (l.take k) [f] rfl (OW.out.keep ((Below.refl _ _).alloc (Nat.le_refl _) _)) _ _ _ rfl [(f, .slice fa f.area.length fc, .slice fb f.secs.length fd)] rfl rfl (fun x hx => by obtain rfl := List.mem_singleton.1 hx; exact FP.out) (SrcAt.one (block_new _ _) rfl) (N := k + 1) LT.out (by omega) (by simp only [World.size_alloc]; omega) ?_; intro ad2 c2 w5 how5 hgr hbl))
  go_roundw
  case rel => exact ⟨k + 1, ad2, c2, by omega, by go_num, rfl, by rw [← TK.out]; exact how5, (hb.alloc hszr _).trans hbl⟩
  case measure => simp [cntV]; omega
end Go.Proofs.YtdmegkkifiahdaaGreat
