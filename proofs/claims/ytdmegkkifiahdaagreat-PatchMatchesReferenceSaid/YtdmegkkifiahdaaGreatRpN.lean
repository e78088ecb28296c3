import Derived.Test.YtdmegkkifiahdaaGreatRpSd
import Derived.Test.YtdmegkkifiahdaaGreatRpU
import Derived.Test.YtdmegkkifiahdaaGreatPNP
import Derived.Deep.CutRange
namespace Go.Proofs.YtdmegkkifiahdaaGreat
open Go.RowKit
attribute [local go_sem] bqOp bqAll bqUpon sqOp sqAll sqUpon ssAll
attribute [local irreducible] wpQuiet wpBQ wpPlan wsPlan
set_option linter.unusedVariables false
theorem OwnOs.other {base : Nat} {w0 w w' : World} {v : Value} {l : List Opn} {row : Option Nat} (h : OwnOs base w0 w v l) (hg : w.grownBy w' row) (hne : ∀ j, v.ownBlock = some j → row ≠ some j) : OwnOs base w0 w' v l := by
 obtain ⟨items, e, ho, hr⟩ := h
 exact ⟨items, e, own_other ho hg hne, hr⟩
def ApartV (u v : Value) : Prop := ∀ j, u.ownBlock = some j → v.ownBlock ≠ some j
theorem ApartV.sym {u v : Value} (h : ApartV u v) : ApartV v u := fun j hj e => h j e hj
theorem apart_grow {base : Nat} {w0 w : World} {u v v' : Value} {l : List Opn} (h : ApartV u v) (hu : OwnOs base w0 w u l) (hv : v'.ownBlock = v.ownBlock ∨ v'.ownBlock = some w.heap.size) : ApartV u v' := fun j hj e => by
 rcases hv with hv | hv
 · exact h j hj (hv ▸ e)
 · rw [hv] at e
   have := (hu.lt j hj).2
   cases e
   exact absurd this (Nat.lt_irrefl _)
theorem OIt.grown {base : Nat} {w0 w w' : World} {v : Value} {l : List Opn} {row : Option Nat} (h : OIt base w0 w v l) (hg : w.grownBy w' row) (hne : ∀ j, row = some j → j < base) : OIt base w0 w' v l := by
 obtain ⟨ad, c, items, e, h1, h2, h3, h4, h5⟩ := h
 refine ⟨ad, c, items, e, h1, h2, fun j z hj => ?_, h4, h5⟩
 obtain ⟨g, o, ea, hc⟩ := h3 j z hj
 refine ⟨g, o, ea, ?_⟩
 have hg2 : base ≤ g := h5 _ ea
 have hlt : g < w.heap.size := by
  rcases Nat.lt_or_ge g w.heap.size with h | h
  · exact h
  · simp [World.cell?, Array.getElem?_eq_none h] at hc
 have hh := hg.block g hlt (fun e => by have := hne g (by first | exact e | exact e.symm); omega)
 rw [← hc]
 simp only [World.cell?, hh]
theorem wp_appO_at {o : Oper} {a : Act} {K : Act → World → Prop} {Q : Exit → Act → World → Prop} {w : World} (s x : Operand)
  (ho : o.op = .call { callee := .builtin .append, args := #[s, x], argTypes := #[23, 23] }) (base : Nat) (w0 : World) (v : Value) (l m : List Opn) (hs : a.eval s = v) (hown : OwnOs base w0 w v l)
  (ad : Option Addr) (n c : Nat) (hx : a.eval x = .slice ad n c) (items : List OItem) (hm : items.map Prod.fst = m) (hn : m.length = n) (hr : OReads w0 items) (hX : SrcAt opCells w ad items) {N : Nat} (hN : l.length + n = N) (hsz : N ≤ 800000000000) (hbase : base ≤ w.heap.size)
  (h : ∀ ad' c' w', OwnOs base w0 w' (.slice ad' N c') (l ++ m) → w.grownBy w' v.ownBlock → Below base w w' → ((Value.slice ad' N c').ownBlock = v.ownBlock ∨ (Value.slice ad' N c').ownBlock = some w.heap.size) → K (a.put o.dst (.slice ad' N c')) w') : o.wp Tryz.prog a w K Q := by
 obtain ⟨is, rfl, how, hro⟩ := hown
 subst hm
 rw [List.length_map] at hn hN
 subst hN
 obtain ⟨ad', c', w', hrn, h2, h3, h4, h5⟩ := run_appT_at opCells_len (by omega) Tryz.underlying23 info_op rfl base w o.type v is items how ad n c hn hX (oitems_one hr) (by unfold maxLen; omega) (by omega) hbase
 unfold Oper.wp execOp
 simp only [ho, resolve, invoke, builtin, Sem.run_bind, Sem.run_pure, Result.andThen_ok, List.map_toArray, List.map_cons, List.map_nil, hs, hx, hrn]
 exact h ad' c' w' ⟨is ++ items, by rw [List.map_append], h2, hro.append hr⟩ h3 h4 h5
theorem KeepB.alloc {W w : World} {B : Nat} {bs : List Nat} (h : KeepB W B bs w) (hB : B ≤ w.heap.size) (hlt : ∀ b ∈ bs, b < w.heap.size) (o : Obj) : KeepB W B bs (w.alloc o) :=
 ⟨h.1.alloc hB o, fun b hb => (((Below.refl w.heap.size w).alloc (Nat.le_refl _) o).block b (hlt b hb)).trans (h.2 b hb)⟩
theorem KeepB.grown {W w w' : World} {B : Nat} {bs : List Nat} {row : Option Nat} (h : KeepB W B bs w) (hg : w.grownBy w' row) (hb : Below B w w') (hlt : ∀ b ∈ bs, b < w.heap.size) (hne : ∀ b ∈ bs, row ≠ some b) : KeepB W B bs w' :=
 ⟨h.1.trans hb, fun b hb => (hg.block b (hlt b hb) (fun e => hne b hb (by first | exact e | exact e.symm))).trans (h.2 b hb)⟩
theorem dels_rel {r : RSay} {t : SaidS} (h : RelS r t) (x : Int) : delsS x t = if (r.before && r.deleted) = true then [delO x] else [] := by
 unfold delsS
 rw [h.gone]
 cases t.before <;> cases t.deleted <;> rfl
theorem others_rel {r : RSay} {t : SaidS} (h : RelS r t) (x : Int) : othersS x t = if r.there = true then (if r.known = true then [⟨1, x, r.feat, 0, 0, 0, 0, 0⟩] else r.fields) else [] := by
 unfold othersS
 rw [h.there, h.known, h.feat, h.fields]
def delsL (ids : List Int) (ops : List Opn) (k : Nat) : List Opn := (ids.take k).flatMap fun id => delsS id (sayD id ops)
def othersL (ids : List Int) (ops : List Opn) (k : Nat) : List Opn := (ids.take k).flatMap fun id => othersS id (sayD id ops)
theorem delsL_len (ids : List Int) (ops : List Opn) (k : Nat) : (delsL ids ops k).length ≤ k := by
 have h : ∀ l : List Int, (l.flatMap fun id => delsS id (sayD id ops)).length ≤ l.length := fun l => by
  induction l with
  | nil => simp
  | cons x l ih =>
    rw [List.flatMap_cons, List.length_append, List.length_cons]
    have : (delsS x (sayD x ops)).length ≤ 1 := by
     unfold delsS
     split <;> simp
    omega
 have := h (ids.take k)
 rw [List.length_take] at this
 unfold delsL
 omega
theorem othersL_len (ids : List Int) (ops : List Opn) (k : Nat) : (othersL ids ops k).length ≤ 3 * k := by
 have h : ∀ l : List Int, (l.flatMap fun id => othersS id (sayD id ops)).length ≤ 3 * l.length := fun l => by
  induction l with
  | nil => simp
  | cons x l ih =>
    rw [List.flatMap_cons, List.length_append, List.length_cons]
    have : (othersS x (sayD x ops)).length ≤ 3 := by
     unfold othersS
     split
     · split
       · simp
       · exact fieldsS_len _
     · simp
    omega
 have := h (ids.take k)
 rw [List.length_take] at this
 unfold othersL
 omega
theorem take_snocI {ids : List Int} {k : Nat} {x : Int} (hk : k < ids.length) (hx : ids.getD k 0 = x) : ids.take (k + 1) = ids.take k ++ [x] := by rw [take_snoc 0 hk, hx]
theorem delsL_succ {ids : List Int} {ops : List Opn} {k : Nat} {x : Int} {t : SaidS} (hk : k < ids.length) (hx : ids.getD k 0 = x) (ht : saysS (ofId x ops) said0 = some t) : delsL ids ops (k + 1) = delsL ids ops k ++ delsS x t := by
 unfold delsL
 rw [take_snocI hk hx, List.flatMap_append, List.flatMap_cons, List.flatMap_nil, List.append_nil]
 unfold sayD
 rw [ht]
 rfl
theorem othersL_succ {ids : List Int} {ops : List Opn} {k : Nat} {x : Int} {t : SaidS} (hk : k < ids.length) (hx : ids.getD k 0 = x) (ht : saysS (ofId x ops) said0 = some t) : othersL ids ops (k + 1) = othersL ids ops k ++ othersS x t := by
 unfold othersL
 rw [take_snocI hk hx, List.flatMap_append, List.flatMap_cons, List.flatMap_nil, List.append_nil]
 unfold sayD
 rw [ht]
 rfl
theorem touch_small {ops : List Opn} {ids : List Int} (h : TouchL ops ids) (ho : OpsOk ops) : ids.length ≤ 100000 := by
 have key : ∀ (l : List Int) (a : Int), 0 ≤ a → l.Pairwise (· < ·) → (∀ x ∈ l, a < x ∧ x ≤ 100000) → (l.length : Int) ≤ 100000 - a ∨ l = [] := fun l => by
  induction l with
  | nil => exact fun a _ _ _ => .inr rfl
  | cons x l ih =>
    intro a ha hp hm
    obtain ⟨h1, h2⟩ := List.pairwise_cons.1 hp
    have hx := hm x (by simp)
    rcases ih x (by omega) h2 (fun y hy => ⟨h1 y hy, (hm y (by simp [hy])).2⟩) with h3 | h3
    · left
      rw [List.length_cons]
      omega
    · subst h3
      left
      simp
      omega
 rcases key ids 0 (Int.le_refl _) h.1 (fun x hx => by
  obtain ⟨p, hp, e⟩ := (h.2 x).1 hx
  have := (ho.2 p hp).1
  rw [e] at this
  exact ⟨by have := this.1; omega, this.2⟩) with h3 | h3
 · omega
 · subst h3
   simp
set_option maxHeartbeats 1000000 in
theorem q17Normal_no (ops : List Opn) (v0 : Value) (w : World) (h : OpsAt w v0 ops) (ho : decide (OpsOk ops) = false) : Calls Tryz.prog 23 #[v0] w fun e w' => e = .returned (.tuple #[.slice none 0 0, .int .i64 1]) ∧ Below w.heap.size w w' := by
 obtain ⟨ad, c, rfl, k1, _, _⟩ := h.form
 have H1 := Lib.hid k1
 have HN := Lib.hid ho
 clear h k1 ho
 go_enter Tryz.func23, Tryz.ntmps23
 go_wp2_with fail
 (with_reducible refine (q17Touch_no ops _ _ H1.out (of_decide_eq_false HN.out)).mono ?_)
 rintro e w1 ⟨rfl, hb1⟩
 go_wp2_with fail
 go_returns
 exact ⟨rfl, hb1⟩
set_option maxHeartbeats 16000000 in
set_option maxRecDepth 20000 in
theorem q17Normal_yes (ops : List Opn) (v0 : Value) (w : World) (h : OpsAt w v0 ops) (ho : OpsOk ops) : Calls Tryz.prog 23 #[v0] w (NormP ops w) := by
 obtain ⟨ad, c, rfl, k1, hn1, _⟩ := h.form
 have H1 := Lib.hid k1
 have HO := Lib.hid ho
 clear h k1 ho
 generalize hln : ops.length = n at H1 hn1 ⊢
 have HN := Lib.hid hln
 clear hln
 go_enter Tryz.func23, Tryz.ntmps23
 go_wp2_with fail
 (with_reducible refine (q17Touch_yes ops _ _ H1.out HO.out).mono ?_)
 rintro e w1 ⟨adI, m, cI, ids, hm, ht, rfl, hI, hB1⟩
 have TL := Lib.hid ht
 have HI := Lib.hid hI
 have HM := Lib.hid hm
 have hms : m ≤ 100000 := by rw [← hm]; exact touch_small ht HO.out
 clear ht hI hm
 go_wp2_with fail
 go_loopw [6, 7, 8] (fun a b i wr => ∃ (k : Nat) (ad6 : Option Addr) (c6 : Nat) (L6 : List Opn) (ad7 : Option Addr) (c7 : Nat) (L7 : List Opn), k ≤ m ∧ a = .slice ad6 L6.length c6 ∧ b = .slice ad7 L7.length c7 ∧ i = .int .i64 k ∧ Hid (delsL ids ops k = L6) ∧ Hid (othersL ids ops k = L7) ∧ Hid (∀ id ∈ ids.take k, (saysS (ofId id ops) said0).isSome = true) ∧ OwnOs w1.heap.size w wr (.slice ad6 L6.length c6) L6 ∧ OwnOs w1.heap.size w wr (.slice ad7 L7.length c7) L7 ∧ Hid (ApartV (.slice ad6 L6.length c6) (.slice ad7 L7.length c7)) ∧ Below w1.heap.size w1 wr) (fun _ _ i _ => m - cntV i)
 case atStart => exact ⟨0, none, 0, [], none, 0, [], Nat.zero_le _, rfl, rfl, rfl, Lib.hid rfl, Lib.hid rfl, Lib.hid (fun id h => absurd h (by simp)), OwnOs.nil _ _ _, OwnOs.nil _ _ _, Lib.hid (fun j hj => by simp [Value.ownBlock] at hj), Below.refl _ _⟩
 case round =>
  obtain ⟨k, ad6, c6, L6, ad7, c7, L7, hk, rfl, rfl, rfl, E6, E7, SA, how6, how7, AP, hb⟩ := hrel
  have O6 := Lib.hid how6
  have O7 := Lib.hid how7
  have hB := below_step hB1 hb
  have hs := hb.size
  have ML6 : Hid (L6.length ≤ 100000) := Lib.hid (by
   have := delsL_len ids ops k
   rw [← E6.out]
   omega)
  have ML7 : Hid (L7.length ≤ 300000) := Lib.hid (by
   have := othersL_len ids ops k
   rw [← E7.out]
   omega)
  clear how6 how7
  rcases Nat.lt_or_ge k m with hlt | hge
  rotate_left
  · have hkm : k = m := by omega
    have ALL : Hid (SaysAll ids ops) := Lib.hid (fun id h => SA.out id (by rw [List.take_of_length_le (by rw [HM.out]; omega)]; exact h))
    have NL : Hid (normL ids ops = L6 ++ L7) := Lib.hid (by
     rw [← E6.out, ← E7.out]
     unfold delsL othersL normL
     rw [List.take_of_length_le (by rw [HM.out]; omega)])
    obtain ⟨its, e1, e2, e3⟩ := O7.out
    have IT := Lib.hid e1
    have SR := Lib.hid (SrcAt.own e2)
    have RD := Lib.hid e3
    subst hkm
    clear e1 e2 e3
    go_wp2_with (first | (refine wpList_appO rfl _ _ rfl w1.heap.size w _ L6 L7 rfl O6.out _ _ _ rfl its IT.out rfl RD.out SR.out (N := L6.length + L7.length) rfl (by have := ML6.out; have := ML7.out; omega) hs ?_; intro ad9 c9 w9 how9 hgr hb9))
    have hB9 := hB.trans (hb9.mono hB1.size)
    have N9 : Hid (OpsAt w9 (.slice ad9 (L6.length + L7.length) c9) (L6 ++ L7)) := Lib.hid (OwnOs.ops how9 hB9 (by rw [List.length_append]; have := ML6.out; have := ML7.out; omega))
    clear how9 hgr hb9
    go_wp2_with fail
    go_returns
    refine ⟨ids, TL.out, hB9, .inl ⟨ALL.out, ad9, _, c9, ?_, rfl, ?_⟩⟩
    · rw [NL.out, List.length_append]
    · rw [NL.out]
      exact N9.out
  have hki : k < ids.length := by rw [HM.out]; exact hlt
  have HKI := Lib.hid hki
  have hrows : Rows 1 w1 (.slice adI m cI) m (fun i _ => ids.getD i 0) := by
   have h := Lists.rows HI.out
   rw [HM.out] at h
   exact h
  obtain ⟨g, oo, rfl, hcell⟩ := hrows.row hlt
  clear hrows
  have c0 := hcell 0 (by omega)
  rw [Nat.mul_one, Nat.add_zero] at c0
  obtain ⟨x, hx⟩ : ∃ x, ids.getD k 0 = x := ⟨_, rfl⟩
  rw [hx] at c0
  have HX := Lib.hid hx
  have C1 := Lib.hid c0
  replace c0 := cell_later hb c0
  clear hcell hx hki
  go_wp2_with fail
  (with_reducible refine (q17Said_any ops x _ w wr H1.out hB HO.out).mono ?_)
  rintro e w2 ⟨hb2, r, va, vs, vf, hd⟩
  have hB2 := below_step hB hb2
  have hR2 := below_step hb hb2
  have hw2 := hb2
  rcases hd with ⟨t, hsay, hrel, rfl, hpp, hof⟩ | ⟨hno, rfl⟩
  rotate_left
  · have NO : Hid (¬ SaysAll ids ops) := Lib.hid (fun h => by
     have := h x (by rw [← HX.out]; exact getD_memD HKI.out 0)
     rw [hno] at this
     cases this)
    clear hno
    go_wp2_with fail
    go_returns
    exact ⟨ids, TL.out, hB2.alloc hB2.size _, .inr ⟨NO.out, rfl⟩⟩
  have SY := Lib.hid hsay
  have RL := Lib.hid hrel
  have PP := Lib.hid hpp
  have OF := Lib.hid hof
  obtain ⟨fa, fca, fb, fcb, rfl, rfl⟩ := hpp.form
  obtain ⟨fo, fco, rfl⟩ := OF.out.form
  have O6a := Lib.hid (O6.out.keep hb2)
  have O7a := Lib.hid (O7.out.keep hb2)
  clear hsay hrel hpp hof hb2
  go_upto_region 12 with fail
  refine wp_named fun W3 hW3 => ?_
  obtain ⟨p9, hb3⟩ := box1 hW3
  clear hW3
  have hB3 := below_step hB2 hb3
  have hR3 := below_step hR2 hb3
  have O6b := Lib.hid (O6a.out.keep hb3)
  have O7b := Lib.hid (O7a.out.keep hb3)
  have OFb := Lib.hid (OF.out.later hb3)
  have DEL : Hid (delsL ids ops (k + 1) = L6 ++ if (r.before && r.deleted) = true then [delO x] else []) := Lib.hid (by rw [delsL_succ HKI.out HX.out SY.out, E6.out, dels_rel RL.out])
  have OTH : Hid (othersL ids ops (k + 1) = L7 ++ if r.there = true then (if r.known = true then [⟨1, x, r.feat, 0, 0, 0, 0, 0⟩] else r.fields) else []) := Lib.hid (by rw [othersL_succ HKI.out HX.out SY.out, E7.out, others_rel RL.out])
  have SA2 : Hid (∀ id ∈ ids.take (k + 1), (saysS (ofId id ops) said0).isSome = true) := Lib.hid (fun id h => by
   rw [take_snocI HKI.out HX.out, List.mem_append] at h
   rcases h with h | h
   · exact SA.out id h
   · rw [List.mem_singleton.1 h, SY.out]
     rfl)
  have LT6 : Hid (∀ j, (Value.slice ad6 L6.length c6).ownBlock = some j → j < wr.heap.size) := Lib.hid (fun j hj => (O6.out.lt j hj).2)
  have LT7 : Hid (∀ j, (Value.slice ad7 L7.length c7).ownBlock = some j → j < wr.heap.size) := Lib.hid (fun j hj => (O7.out.lt j hj).2)
  have FL3 : Hid (r.fields.length ≤ 3) := Lib.hid (by rw [RL.out.fields]; exact fieldsS_len t)
  have hs2 := hw2.size
  generalize hrb : r.before = rb at p9 DEL
  generalize hrd : r.deleted = rd at p9 DEL
  generalize hrt : r.there = rt at p9 OTH
  generalize hrk : r.known = rk at p9 OTH
  have B9 := Lib.hid p9
  clear p9 hrb hrd hrt hrk O6a O7a OF RL SY O6 O7 c0
  go_cut [41] from 36 to 41 (fun s41 wx => s41 = .bool (rb && rd) ∧ wx = W3)
  case first =>
   have c9 := cell_block B9.out
   cases rb <;> cases rd
   all_goals (go_wp2_with fail; go_meet; exact ⟨rfl, rfl⟩)
  case rest =>
   obtain ⟨rfl, rfl⟩ := hcut
   generalize hbd : (rb && rd) = bd at DEL ⊢
   clear hbd
   go_upto_if 41 with fail
   go_cut [6] from 42 to 49 (fun s6 wx => ∃ (ad6' : Option Addr) (c6' : Nat) (M6 : List Opn), s6 = .slice ad6' M6.length c6' ∧ Hid (delsL ids ops (k + 1) = M6) ∧ OwnOs w1.heap.size w wx (.slice ad6' M6.length c6') M6 ∧ OwnOs w1.heap.size w wx (.slice ad7 L7.length c7) L7 ∧ Hid (ApartV (.slice ad6' M6.length c6') (.slice ad7 L7.length c7)) ∧ OIt wr.heap.size w wx (.slice fo r.fields.length fco) r.fields ∧ wx.heap[w2.heap.size]? = some (.cells #[.bool rb, .bool rd, .bool rt, .bool rk, .int .i64 r.feat.id, .int .i64 r.feat.kind, .int .i64 r.feat.x, .int .i64 r.feat.y, .int .i64 r.feat.rad, .slice fa r.feat.area.length fca, .int .i64 r.feat.dep, .int .i64 r.feat.sym, .slice fb r.feat.secs.length fcb, .slice fo r.fields.length fco] 126 (0, 0)) ∧ Below w1.heap.size w1 wx)
   case first =>
    have cx := cell_later hR3 C1.out
    cases bd
    · go_wp2_with fail
      go_meet
      exact ⟨ad6, c6, L6, rfl, Lib.hid (by rw [DEL.out]; simp), O6b.out, O7b.out, AP, OFb.out, B9.out, hR3⟩
    · have hs3 := hR3.size
      go_wp2_with (first | (refine wpList_appO_at rfl _ _ rfl w1.heap.size w _ L6 [delO x] rfl (O6b.out.keep ((Below.refl _ _).alloc (Nat.le_refl _) _)) _ _ _ rfl [(delO x, .slice none 0 0, .slice none 0 0)] rfl rfl (fun z hz => by obtain rfl := List.mem_singleton.1 hz; exact PartsAt.zero _) (SrcAt.one (block_new _ _) rfl) (N := L6.length + 1) rfl (by have := ML6.out; omega) (by simp only [World.size_alloc]; omega) ?_; intro ad6' c6' w5 how5 hgr hbl hat))
      have O7c := O7b.out.keep ((Below.refl wc.heap.size wc).alloc (Nat.le_refl _) (.cells (opCells (delO x, .slice none 0 0, .slice none 0 0)).toArray 34))
      have B9c : (wc.alloc (.cells (opCells (delO x, .slice none 0 0, .slice none 0 0)).toArray 34)).heap[w2.heap.size]? = _ := block_alloc B9.out
      have OFc := OFb.out.later ((Below.refl wc.heap.size wc).alloc (Nat.le_refl _) (.cells (opCells (delO x, .slice none 0 0, .slice none 0 0)).toArray 34))
      go_meet
      exact ⟨ad6', c6', L6 ++ [delO x], by rw [List.length_append]; rfl, Lib.hid (by rw [DEL.out]; simp), by rw [List.length_append]; exact how5, O7c.other hgr (fun j hj e => AP.out j e hj), Lib.hid (by rw [List.length_append]; exact (apart_grow AP.out.sym O7c hat).sym), OFc.grown hgr (fun j hj => LT6.out j hj), (hgr.block _ (lt_block B9c) (fun e => by have := LT6.out w2.heap.size (by first | exact e | exact e.symm); have := hw2.size; omega)).trans B9c, (hR3.alloc hs3 _).trans hbl⟩
   case rest =>
    clear DEL B9 O6b O7b OFb AP ML6 LT6
    obtain ⟨ad8, c8, M6, rfl, D6, o6, o7, ap, of8, b9, hR⟩ := hcut
    have O6 := Lib.hid o6
    have O7 := Lib.hid o7
    have OF := Lib.hid of8
    have B9 := Lib.hid b9
    have cx := cell_later hR C1.out
    have c9 := cell_block B9.out
    have hs8 := hR.size
    clear o6 o7 of8 b9
    cases rt
    · go_wp2_with fail
      go_roundw
      case rel => exact ⟨k + 1, ad8, c8, M6, ad7, c7, L7, by omega, rfl, rfl, by go_num, D6, Lib.hid (by rw [OTH.out]; simp), SA2, O6.out, O7.out, ap, hR⟩
      case measure => simp [cntV]; omega
    cases rk
    · obtain ⟨adf, cf, its, e0, e1, e2, e3, _⟩ := id OF.out
      cases e0
      go_wp2_with (first | (refine wpList_appO_at rfl _ _ rfl w1.heap.size w _ L7 r.fields rfl O7.out _ _ _ rfl its e1 rfl e2 e3 (N := L7.length + r.fields.length) rfl (by have := ML7.out; have := FL3.out; omega) hs8 ?_; intro ad7' c7' w5 how5 hgr hbl hat))
      go_roundw
      case rel => exact ⟨k + 1, ad8, c8, M6, ad7', c7', L7 ++ r.fields, by omega, rfl, by rw [List.length_append], by go_num, D6, Lib.hid (by rw [OTH.out]; simp), SA2, O6.out.other hgr (fun j hj e => ap.out j hj e), by rw [List.length_append]; exact how5, Lib.hid (by rw [List.length_append]; exact apart_grow ap.out O6.out hat), hR.trans hbl⟩
      case measure => simp [cntV]; omega
    · have hlt9 := lt_block B9.out
      go_wp2_with fail
      clear cx c9
      refine wp_region_planS (KeepB wc w1.heap.size [w2.heap.size]) (.take 0 (.take 0 (.take 0 (.take 0 (.take 0 (.take 0 (.take 0 (.take 0 (.only 0 (.only 0 (.take 0 .done))))))))))) (by kernel_rfl) (by kernel_rfl) KeepB.refl (fun hP => ?_)
      have hdr : Below wc.heap.size wc wc.drew := (Below.refl _ _).drew
      generalize hVe : wc.drew = V at hP hdr ⊢
      clear hVe
      have hVs := hdr.size
      iterate 6 (refine wsPlan_take rfl (fun K hK => ?_); replace hK := Lib.hid hK; go_simp; first | (refine hK.out _ ?_; clear hK K) | (apply Exists.intro; refine ⟨fun w' hw => ?_, hK.out _ ?_⟩; (first | with_reducible exact rfl | (have q5 := cell_block (hw.at (by simp) B9.out); have q8 := cell_later (hR.trans hw.1) C1.out; go_simp; exact rfl)); clear hK K))
      refine ws_loadMidT rfl rfl _ _ rfl w2.heap.size 4 rfl [.int .i64 r.feat.id, .int .i64 r.feat.kind, .int .i64 r.feat.x, .int .i64 r.feat.y, .int .i64 r.feat.rad, .slice fa r.feat.area.length fca, .int .i64 r.feat.dep, .int .i64 r.feat.sym, .slice fb r.feat.secs.length fcb] _ (fun w' hw j v hv => by rw [cell_block (hw.at (by simp) B9.out)]; match j, hv with | 0, hv => exact hv | 1, hv => exact hv | 2, hv => exact hv | 3, hv => exact hv | 4, hv => exact hv | 5, hv => exact hv | 6, hv => exact hv | 7, hv => exact hv | 8, hv => exact hv | j + 9, hv => simp at hv) Tryz.underlying32 rfl (by kernel_rfl) ?_
      (refine wsPlan_take rfl (fun K hK => ?_); replace hK := Lib.hid hK; go_simp; first | (refine hK.out _ ?_; clear hK K) | (apply Exists.intro; refine ⟨fun w' hw => ?_, hK.out _ ?_⟩; (first | with_reducible exact rfl | (have q5 := cell_block (hw.at (by simp) B9.out); have q8 := cell_later (hR.trans hw.1) C1.out; go_simp; exact rfl)); clear hK K))
      (refine wsPlan_only rfl (fun K hK => ?_); replace hK := Lib.hid hK; go_simp; refine hK.out _ _ (hP.alloc (by omega) (fun b hb => by rw [List.mem_singleton.1 hb]; omega) _) (fun hP => ?_); clear hK K)
      (refine wsPlan_only rfl (fun K hK => ?_); rw [if_pos (wanted_plain rfl)]; refine wp_appO_at _ _ rfl w1.heap.size w _ L7 [(⟨1, x, r.feat, 0, 0, 0, 0, 0⟩ : Opn)] (by rfl) ((O7.out.keep hdr).keep ((Below.refl V.heap.size V).alloc (Nat.le_refl _) _)) _ _ _ (by rfl) [((⟨1, x, r.feat, 0, 0, 0, 0, 0⟩ : Opn), .slice fa r.feat.area.length fca, .slice fb r.feat.secs.length fcb)] rfl rfl (fun z hz => by obtain rfl := List.mem_singleton.1 hz; exact PP.out) (SrcAt.one (block_new _ _) rfl) (N := L7.length + 1) rfl (by have := ML7.out; omega) (by simp only [World.size_alloc]; omega) ?_; intro ad7' c7' w5 how5 hgr hbl hat; refine hK _ _ (hP.grown hgr hbl (fun b hb => by rw [List.mem_singleton.1 hb]; simp only [World.size_alloc]; omega) (fun b hb e => by rw [List.mem_singleton.1 hb] at e; have := LT7.out w2.heap.size (by first | exact e | exact e.symm); have := hw2.size; omega)) (fun hP => ?_); clear hK K)
      (refine wsPlan_take rfl (fun K hK => ?_); replace hK := Lib.hid hK; go_simp; first | (refine hK.out _ ?_; clear hK K) | (apply Exists.intro; refine ⟨fun w' hw => ?_, hK.out _ ?_⟩; (first | with_reducible exact rfl | (have q5 := cell_block (hw.at (by simp) B9.out); have q8 := cell_later (hR.trans hw.1) C1.out; go_simp; exact rfl)); clear hK K))
      refine wsPlan_done ?_
      have O6c := (O6.out.keep hdr).keep ((Below.refl V.heap.size V).alloc (Nat.le_refl _) (.cells (opCells ((⟨1, x, r.feat, 0, 0, 0, 0, 0⟩ : Opn), .slice fa r.feat.area.length fca, .slice fb r.feat.secs.length fcb)).toArray 34))
      have c95 := cell_block (hP.at (by simp) B9.out)
      go_wp2_with fail
      go_roundw
      case rel => exact ⟨k + 1, ad8, c8, M6, ad7', c7', L7 ++ [(⟨1, x, r.feat, 0, 0, 0, 0, 0⟩ : Opn)], by omega, rfl, by rw [List.length_append]; rfl, by go_num, D6, Lib.hid (by rw [OTH.out]; simp), SA2, O6c.other hgr (fun j hj e => ap.out j hj e), by rw [List.length_append]; exact how5, Lib.hid (by rw [List.length_append]; exact apart_grow ap.out O6c hat), (hR.trans hP.1)⟩
      case measure => simp [cntV]; omega
end Go.Proofs.YtdmegkkifiahdaaGreat
