/- The walk of transport.Ops. -/
import Derived.Test.YtdmegkkifiahdaaGreatTrW
namespace Go.Proofs.YtdmegkkifiahdaaGreat
open Go.RowKit Go.Shelf
attribute [local go_sem] bqOp bqAll bqUpon sqOp sqAll sqUpon ssAll ssOp
attribute [local irreducible] wpQuiet wpBQ wpPlan wsPlan
set_option linter.unusedVariables false
theorem apply_zero {l x : List Feat} {ops : List Opn} {i : Int} (h : applyO l ops = (x, i, 0)) : PatchOk l ops ∧ ∃ y bs, runO l ops = .ok (y, bs) := by
  unfold applyO at h
  by_cases hp : PatchOk l ops
  · rw [if_pos hp] at h
    cases hr : runO l ops with
    | error z =>
      obtain ⟨j, e⟩ := z
      rw [hr] at h
      have := run_err hr
      simp only [Prod.mk.injEq] at h
      omega
    | ok z => exact ⟨hp, _, _, rfl⟩
  · rw [if_neg hp] at h
    cases h
theorem one_bad {m : Dat} {A B : List Mk} {f g : Feat} {k : Int} (h : oneR m A B f = (g, k)) (hk : k ≠ 0) : oneD m A B f = .error k := by
  rcases oneR_case h with ⟨h0, _⟩ | ⟨_, h1⟩
  · exact absurd h0 hk
  · exact h1
theorem opsR_no {m : Dat} {a b : Bk} {l : List Feat} {ops : List Opn} (h : ¬ BooksOk m a b) : opsR m a b l ops = ([], 1) := if_neg h
theorem opsR_bad {m : Dat} {a b : Bk} {l x : List Feat} {ops : List Opn} {i k : Int} (h : BooksOk m a b) (ha : applyO l ops = (x, i, k)) (hk : k ≠ 0) : opsR m a b l ops = ([], k) := by
  unfold opsR
  rw [if_pos h, ha, if_pos hk]
theorem opsR_ok {m : Dat} {a b : Bk} {l x : List Feat} {ops r : List Opn} {i : Int} (h : BooksOk m a b) (ha : applyO l ops = (x, i, 0)) (hr : opsD m a.marks b.marks l ops = .ok r) : opsR m a b l ops = (r, 0) := by
  unfold opsR
  rw [if_pos h, ha, if_neg (fun q => q rfl), hr]
theorem opsR_err {m : Dat} {a b : Bk} {l x : List Feat} {ops : List Opn} {i k : Int} (h : BooksOk m a b) (ha : applyO l ops = (x, i, 0)) (hr : opsD m a.marks b.marks l ops = .error k) : opsR m a b l ops = ([], k) := by
  unfold opsR
  rw [if_pos h, ha, if_neg (fun q => q rfl), hr]
theorem feat_store {w : World} {g : Nat} {y0 y1 y2 y3 y4 y5 y6 y7 y8 : Value} {T : TypeId} {m : Nat × Nat} (hb : w.heap[g]? = some (.cells #[y0, y1, y2, y3, y4, y5, y6, y7, y8] T m)) (x0 x1 x2 x3 x4 x5 x6 x7 x8 : Value) :
    (((((((((w.setCell ⟨g, 0, none⟩ x0).setCell ⟨g, 1, none⟩ x1).setCell ⟨g, 2, none⟩ x2).setCell ⟨g, 3, none⟩ x3).setCell ⟨g, 4, none⟩ x4).setCell ⟨g, 5, none⟩ x5).setCell ⟨g, 6, none⟩ x6).setCell ⟨g, 7, none⟩ x7).setCell ⟨g, 8, none⟩ x8).heap[g]? = some (.cells #[x0, x1, x2, x3, x4, x5, x6, x7, x8] T m) := by simpa using (block_set (i := 8) (block_set (i := 7) (block_set (i := 6) (block_set (i := 5) (block_set (i := 4) (block_set (i := 3) (block_set (i := 2) (block_set (i := 1) (block_set (i := 0) hb x0) x1) x2) x3) x4) x5) x6) x7) x8)
theorem KeepPS.nine {lo g : Nat} {w : World} {cs : Array Value} {T : TypeId} {mm : Nat × Nat} (hg : lo ≤ g) (hb : w.heap[g]? = some (.cells cs T mm)) (h1 : T ≠ 28) (h2 : T ≠ 151) (v0 v1 v2 v3 v4 v5 v6 v7 v8 : Value) :
    KeepPS lo w (((((((((w.setCell ⟨g, 0, none⟩ v0).setCell ⟨g, 1, none⟩ v1).setCell ⟨g, 2, none⟩ v2).setCell ⟨g, 3, none⟩ v3).setCell ⟨g, 4, none⟩ v4).setCell ⟨g, 5, none⟩ v5).setCell ⟨g, 6, none⟩ v6).setCell ⟨g, 7, none⟩ v7).setCell ⟨g, 8, none⟩ v8) := fun j o hj hp => by
  have hne : j ≠ g := fun e => by
    subst e
    rw [hb] at hj
    cases hj
    rcases hp with hp | ⟨cs', T', mm', e, ht⟩
    · omega
    · cases e
      rcases ht with ht | ht
      · exact h1 ht
      · exact h2 ht
  exact setR (setR (setR (setR (setR (setR (setR (setR (setR hj hne) hne) hne) hne) hne) hne) hne) hne) hne

theorem opSetF {w : World} {b : Nat} {y0 y1 y2 y3 y4 y5 y6 y7 y8 y9 y10 y11 y12 y13 y14 y15 : Value} {T : TypeId} {m : Nat × Nat} (hb : w.heap[b]? = some (.cells #[y0, y1, y2, y3, y4, y5, y6, y7, y8, y9, y10, y11, y12, y13, y14, y15] T m)) (x2 x3 x4 x5 x6 x7 x8 x9 x10 : Value) :
    (((((((((w.setCell ⟨b, 2, none⟩ x2).setCell ⟨b, 3, none⟩ x3).setCell ⟨b, 4, none⟩ x4).setCell ⟨b, 5, none⟩ x5).setCell ⟨b, 6, none⟩ x6).setCell ⟨b, 7, none⟩ x7).setCell ⟨b, 8, none⟩ x8).setCell ⟨b, 9, none⟩ x9).setCell ⟨b, 10, none⟩ x10).heap[b]? = some (.cells #[y0, y1, x2, x3, x4, x5, x6, x7, x8, x9, x10, y11, y12, y13, y14, y15] T m) ∧ (∀ j o, j ≠ b → w.heap[j]? = some o → (((((((((w.setCell ⟨b, 2, none⟩ x2).setCell ⟨b, 3, none⟩ x3).setCell ⟨b, 4, none⟩ x4).setCell ⟨b, 5, none⟩ x5).setCell ⟨b, 6, none⟩ x6).setCell ⟨b, 7, none⟩ x7).setCell ⟨b, 8, none⟩ x8).setCell ⟨b, 9, none⟩ x9).setCell ⟨b, 10, none⟩ x10).heap[j]? = some o) ∧ ∀ (n : Nat) (a : World), Below n a w → n ≤ b → Below n a (((((((((w.setCell ⟨b, 2, none⟩ x2).setCell ⟨b, 3, none⟩ x3).setCell ⟨b, 4, none⟩ x4).setCell ⟨b, 5, none⟩ x5).setCell ⟨b, 6, none⟩ x6).setCell ⟨b, 7, none⟩ x7).setCell ⟨b, 8, none⟩ x8).setCell ⟨b, 9, none⟩ x9).setCell ⟨b, 10, none⟩ x10) :=
  ⟨by simpa using (block_set (i := 10) (block_set (i := 9) (block_set (i := 8) (block_set (i := 7) (block_set (i := 6) (block_set (i := 5) (block_set (i := 4) (block_set (i := 3) (block_set (i := 2) hb x2) x3) x4) x5) x6) x7) x8) x9) x10), fun j o hj ho => (setR (setR (setR (setR (setR (setR (setR (setR (setR ho hj) hj) hj) hj) hj) hj) hj) hj) hj), fun n a h hn => (setQ (setQ (setQ (setQ (setQ (setQ (setQ (setQ (setQ h hn _) hn _) hn _) hn _) hn _) hn _) hn _) hn _) hn _)⟩
theorem opSetM {w : World} {b : Nat} {y0 y1 y2 y3 y4 y5 y6 y7 y8 y9 y10 y11 y12 y13 y14 y15 : Value} {T : TypeId} {m : Nat × Nat} (hb : w.heap[b]? = some (.cells #[y0, y1, y2, y3, y4, y5, y6, y7, y8, y9, y10, y11, y12, y13, y14, y15] T m)) (x11 x12 x13 : Value) :
    (((w.setCell ⟨b, 11, none⟩ x11).setCell ⟨b, 12, none⟩ x12).setCell ⟨b, 13, none⟩ x13).heap[b]? = some (.cells #[y0, y1, y2, y3, y4, y5, y6, y7, y8, y9, y10, x11, x12, x13, y14, y15] T m) ∧ (∀ j o, j ≠ b → w.heap[j]? = some o → (((w.setCell ⟨b, 11, none⟩ x11).setCell ⟨b, 12, none⟩ x12).setCell ⟨b, 13, none⟩ x13).heap[j]? = some o) ∧ ∀ (n : Nat) (a : World), Below n a w → n ≤ b → Below n a (((w.setCell ⟨b, 11, none⟩ x11).setCell ⟨b, 12, none⟩ x12).setCell ⟨b, 13, none⟩ x13) :=
  ⟨by simpa using (block_set (i := 13) (block_set (i := 12) (block_set (i := 11) hb x11) x12) x13), fun j o hj ho => (setR (setR (setR ho hj) hj) hj), fun n a h hn => (setQ (setQ (setQ h hn _) hn _) hn _)⟩
theorem opSetS {w : World} {b : Nat} {y0 y1 y2 y3 y4 y5 y6 y7 y8 y9 y10 y11 y12 y13 y14 y15 : Value} {T : TypeId} {m : Nat × Nat} (hb : w.heap[b]? = some (.cells #[y0, y1, y2, y3, y4, y5, y6, y7, y8, y9, y10, y11, y12, y13, y14, y15] T m)) (x15 : Value) :
    (w.setCell ⟨b, 15, none⟩ x15).heap[b]? = some (.cells #[y0, y1, y2, y3, y4, y5, y6, y7, y8, y9, y10, y11, y12, y13, y14, x15] T m) ∧ (∀ j o, j ≠ b → w.heap[j]? = some o → (w.setCell ⟨b, 15, none⟩ x15).heap[j]? = some o) ∧ ∀ (n : Nat) (a : World), Below n a w → n ≤ b → Below n a (w.setCell ⟨b, 15, none⟩ x15) :=
  ⟨by simpa using (block_set (i := 15) hb x15), fun j o hj ho => (setR ho hj), fun n a h hn => (setQ h hn _)⟩
theorem keepPS_ho {lo b : Nat} {w wn : World} {cs : Array Value} {T : TypeId} {m : Nat × Nat} (hlo : lo ≤ b) (hb : w.heap[b]? = some (.cells cs T m)) (h1 : T ≠ 28) (h2 : T ≠ 151) (ho : ∀ j o, j ≠ b → w.heap[j]? = some o → wn.heap[j]? = some o) : KeepPS lo w wn := fun j o hj hp => ho j o (fun e => by
  subst e
  rw [hb] at hj
  cases hj
  rcases hp with hp | ⟨cs', T', mm', e, ht⟩
  · omega
  · cases e
    rcases ht with ht | ht
    · exact h1 ht
    · exact h2 ht) hj
theorem keepF_ho {lo b : Nat} {w wn : World} {cs : Array Value} {T : TypeId} {m : Nat × Nat} (hlo : lo ≤ b) (hb : w.heap[b]? = some (.cells cs T m)) (h1 : T ≠ 32) (ho : ∀ j o, j ≠ b → w.heap[j]? = some o → wn.heap[j]? = some o) : KeepF lo w wn := fun j o hj hp => ho j o (fun e => by
  subst e
  rw [hb] at hj
  cases hj
  rcases hp with hp | ⟨cs', mm', e⟩
  · omega
  · cases e
    exact h1 rfl) hj
set_option maxRecDepth 100000 in
set_option maxHeartbeats 8000000 in
theorem trOps_any (m : Dat) (a b : Bk) {va vb : Value} (l : List Feat) (ops : List Opn) (v0 v1 : Value) (w : World) (ha : MksAt w va a.marks) (hb : MksAt w vb b.marks) (h : FeatsAt w v0 l) (h1 : OpsAt w v1 ops) {r0 : List Opn} {k0 : Int} (hr : opsR m a b l ops = (r0, k0)) :
    Calls Tryz.prog 62 #[.agg #[.int .i64 m.a, .int .i64 m.b, .int .i64 m.c, .int .i64 m.d, .int .i64 m.e, .int .i64 m.f, .int .i64 m.r], .agg #[.int .i64 a.office, va], .agg #[.int .i64 b.office, vb], v0, v1] w (OpsGive r0 k0 w) := by
  obtain ⟨ad, c, rfl, e1, _⟩ := h.form
  obtain ⟨ao, co, rfl, e2, hno, hnc⟩ := h1.form
  have H := Lib.hid e1
  have HR := Lib.hid hr
  obtain ⟨aa1, ca1, rfl, ha1, _⟩ := Rows.form ha
  obtain ⟨ab1, cb1, rfl, hb1, _⟩ := Rows.form hb
  have HA := Lib.hid (show MksAt w (.slice aa1 a.marks.length ca1) a.marks from ha1)
  have HB := Lib.hid (show MksAt w (.slice ab1 b.marks.length cb1) b.marks from hb1)
  obtain ⟨n, hln⟩ : ∃ n, ops.length = n := ⟨_, rfl⟩
  have HO := Lib.hid e2
  rw [hln] at HO hno hnc
  rw [hln]
  have HN := Lib.hid hln
  obtain ⟨u1, hu1⟩ : ∃ v, decide (BooksOk m a b) = v := ⟨_, rfl⟩
  have U1 := Lib.hid hu1
  obtain ⟨ax, ai, ak, hap⟩ : ∃ x i k, applyO l ops = (x, i, k) := ⟨_, _, _, rfl⟩
  have AP := Lib.hid hap
  clear h h1 e1 e2 hr hln ha hb ha1 hb1 hu1 hap
  go_enter Tryz.func62, Tryz.ntmps62
  go_wp2_with fail
  refine calls_named fun W hW => ?_
  obtain ⟨p0, p1, p2, hB⟩ := box3 hW
  clear hW
  simp only [Nat.add_assoc, Nat.reduceAdd] at p0 p1 p2 ⊢
  have P0 := Lib.hid p0
  have P1 := Lib.hid p1
  have P2 := Lib.hid p2
  have HBW := Lib.hid hB
  clear p0 p1 p2 hB
  (with_reducible refine (trbooks_raw m a b _ (HA.out.later HBW.out) (HB.out.later HBW.out) U1.out).mono ?_)
  rintro e w1 ⟨rfl, hb1⟩
  have hB1 := below_step HBW.out hb1
  cases u1
  · go_wp2_with fail
    go_ret2
    exact ops_give (r' := []) (k' := 1) ((opsR_no (of_decide_eq_false U1.out)).symm.trans HR.out) rfl (ops_nil _) hB1
  have BOK := Lib.hid (of_decide_eq_true U1.out)
  go_wp2_with fail
  (with_reducible refine (paApply_own l ops _ _ w _ (H.out.two hB1) HO.out hB1 AP.out).mono ?_)
  rintro e w2 ⟨ad2, n2, c2, hn2, rfl, how2, hb2⟩
  have hB2 := below_step hB1 hb2
  clear how2 hn2
  by_cases hk : ak = 0
  rotate_left
  · have d1 : (ak != 0) = true := by simpa using hk
    have EQ := Lib.hid ((opsR_bad BOK.out AP.out hk).symm.trans HR.out)
    clear hk
    go_wp2_with fail
    go_ret2
    exact ops_give (r' := []) EQ.out rfl (ops_nil _) hB2
  subst hk
  have POK := Lib.hid (apply_zero AP.out).1
  obtain ⟨ry, rbs, hrun⟩ := (apply_zero AP.out).2
  have RUN := Lib.hid hrun
  clear hrun
  have c0 := cell_block (block_later (below_step hb1 hb2) P0.out)
  go_wp2_with fail
  (with_reducible refine (trcarry_any m _ (books_dat BOK.out)).mono ?_)
  rintro e w3 ⟨rfl, hb3⟩
  have hB3 := below_step hB2 hb3
  clear c0
  have X3 := Lib.hid (below_step (below_step hb1 hb2) hb3)
  go_wp2_with fail
  refine wp_named fun W4 hW4 => ?_
  obtain ⟨p4, hb4⟩ := box1 hW4
  clear hW4
  have HB4 := Lib.hid (below_step hB3 hb4)
  have X4 := Lib.hid (below_step X3.out hb4)
  have P4 := Lib.hid p4
  have l4 := lt_block p4
  have hs34 : w.heap.size + 3 ≤ w3.heap.size := by have := lt_block P2.out; have := X3.out.size; omega
  have hsw4 : w.heap.size ≤ W4.heap.size := HB4.out.size
  clear p4 hb4 hb1 hb2 hb3 hB1 hB2 hB3
  go_loopw [16, 17, 43] (fun s t i wr => ∃ (k : Nat) (x : List Feat) (sa_ : Option Addr) (cs : Nat) (ad' : Option Addr) (c' : Nat) (r' : List Opn), k ≤ n ∧ i = .int .i64 k ∧ s = .slice sa_ x.length cs ∧ t = .slice ad' k c' ∧ RestO m a.marks b.marks l ops k x r' ∧ StateAt w wr (.slice sa_ x.length cs) x ∧ OwnOp w.heap.size W4.heap.size wr (.slice ad' k c') r' ∧ Below W4.heap.size W4 wr) (fun _ _ i _ => n - (Go.RowKit.intOf i).toNat)
  case atStart => exact ⟨0, l, ad, c, none, 0, [], by omega, rfl, rfl, rfl, RestO.first RUN.out POK.out.1, StateAt.first H.out, OwnOp.nil _ _ _, Below.refl _ _⟩
  case round =>
    obtain ⟨k, x, sa_, cs, ad', c', r', hk, rfl, rfl, rfl, hrst, hst, how, hbr⟩ := hrel
    have RST := Lib.hid hrst
    have ST := Lib.hid hst
    have OW := Lib.hid how
    have BR := Lib.hid hbr
    have BWR := Lib.hid (HB4.out.trans (hbr.mono HB4.out.size))
    have hsr := hbr.size
    have LEN : Hid (r'.length = k) := Lib.hid hrst.len
    have LX := Lib.hid hrst.fine.1
    clear hrst hst how hbr
    rcases Nat.lt_or_ge k n with hlt | hge
    rotate_left
    · obtain rfl : k = n := by omega
      have HE := Lib.hid ((opsR_ok BOK.out AP.out (RestO.done (by rw [HN.out]; exact RST.out))).symm.trans HR.out)
      have FE : Hid (OpsAt wr (.slice ad' r'.length c') r') := Lib.hid (by rw [LEN.out]; exact OW.out.ops (by rw [LEN.out]; omega))
      go_wp2_with fail
      go_ret2
      exact ops_give HE.out LEN.out FE.out BWR.out
    have hck : ¬ co = k := by omega
    have hk3 : k ≤ 100 := by have h3 := POK.out.2.1; have := HN.out; omega
    obtain ⟨gg, oo, va, vs, hao, fc⟩ := HO.out.row hlt
    have HAO := Lib.hid hao
    obtain ⟨p, hp⟩ : ∃ p, ops.getD k noOpn = p := ⟨_, rfl⟩
    rw [hp] at fc
    have HF : Hid (OpForm p) := Lib.hid (by rw [← hp]; exact opForm (POK.out.2.2 _ (getD_memD (by have := HN.out; omega) _)))
    obtain ⟨x', bk, hdo, hfx, happ, herr, hok⟩ := RST.out.step (by have := HN.out; omega) (by rw [hp]; exact HF.out)
    rw [hp] at hdo herr hok
    have DO := Lib.hid hdo
    have FX := Lib.hid hfx
    have APP := Lib.hid happ
    have ERR := Lib.hid herr
    have OKK := Lib.hid hok
    have PA := Lib.hid fc.parts
    have RG0 := (fc.later BWR.out).range
    obtain ⟨ea, ca, eb, cb, rfl, rfl⟩ := PA.out.form
    obtain ⟨na, hna⟩ : ∃ n, p.feat.area.length = n := ⟨_, rfl⟩
    obtain ⟨nb, hnb⟩ : ∃ n, p.feat.secs.length = n := ⟨_, rfl⟩
    rw [hna, hnb] at PA RG0
    obtain ⟨nx, hnx⟩ : ∃ n, x.length = n := ⟨_, rfl⟩
    rw [hnx] at ST
    rw [hnx]
    have RG : Hid (wr.rangeAt gg (oo + k * 16) [.int .i64 p.kind, .int .i64 p.id, .int .i64 p.feat.id, .int .i64 p.feat.kind, .int .i64 p.feat.x, .int .i64 p.feat.y, .int .i64 p.feat.rad, .slice ea na ca, .int .i64 p.feat.dep, .int .i64 p.feat.sym, .slice eb nb cb, .int .i64 p.x, .int .i64 p.y, .int .i64 p.rad, .int .i64 p.dep, .int .i64 p.sym]) := Lib.hid RG0
    clear fc hp hdo hfx happ herr hok hna hnb hnx RG0 hao
    obtain rfl := HAO.out
    clear HAO
    go_wp2_with (first | (refine wpList_load_mid rfl 34 _ rfl gg (oo + k * 16) rfl [.int .i64 p.kind, .int .i64 p.id, .int .i64 p.feat.id, .int .i64 p.feat.kind, .int .i64 p.feat.x, .int .i64 p.feat.y, .int .i64 p.feat.rad, .slice ea na ca, .int .i64 p.feat.dep, .int .i64 p.feat.sym, .slice eb nb cb, .int .i64 p.x, .int .i64 p.y, .int .i64 p.rad, .int .i64 p.dep, .int .i64 p.sym] _ RG.out Tryz.underlying34 rfl (by kernel_rfl) ?_))
    refine calls_named fun W5 hW5 => ?_
    obtain ⟨p5, hb5⟩ := box1 hW5
    clear hW5
    have P5 := Lib.hid p5
    have B5 := Lib.hid (below_step BWR.out hb5)
    have Y5 := Lib.hid hb5
    clear p5
    have OPP : Hid (OpsAt w (.slice (some ⟨gg, oo + k * 16, none⟩) 1 (co - k)) ((ops.drop k).take 1)) := Lib.hid (by have h := ops_part HO.out HN.out hlt; rwa [Option.map_some, opAddr] at h)
    (with_reducible refine (paApply_own x ((ops.drop k).take 1) _ _ w _ (ST.out.two B5.out (KeepF.of_below hb5)) OPP.out B5.out APP.out).mono ?_)
    rintro e w6 ⟨as6, n6, cs6, hn6, rfl, how6, hb6⟩
    have LN6 := Lib.hid hn6
    have ST6 : Hid (StateAt w w6 (.slice as6 n6 cs6) x') := Lib.hid (StateAt.own how6 (by have := FX.out.1; omega))
    have Y6 := Lib.hid (below_step Y5.out hb6)
    have B6 := Lib.hid (below_step BWR.out Y6.out)
    have P6 := Lib.hid (block_later hb6 P5.out)
    have hn6b : n6 ≤ 300 := by have := FX.out.1; have := LN6.out; omega
    have hs5 := Y5.out.size
    have hs6 := Y6.out.size
    clear how6 hb6 hb5 hn6
    by_cases hcar : p.kind = 1 ∨ p.kind = 3 ∨ p.kind = 5
    rotate_left
    · have n1 : (p.kind == 1) = false := by simpa using fun h => hcar (.inl h)
      have n3 : (p.kind == 3) = false := by simpa using fun h => hcar (.inr (.inl h))
      have n5 : (p.kind == 5) = false := by simpa using fun h => hcar (.inr (.inr h))
      have NC := Lib.hid hcar
      clear hcar
      have cp := cell_block P6.out
      have OD : opD m a.marks b.marks x' p = .ok (p) := (opD_not NC.out)
      have OKN := Lib.hid (OKK.out _ OD)
      clear OD
      obtain ⟨items, hi1, hi2, hi3⟩ := OW.out
      have HI1 := Lib.hid hi1
      have HI2 := Lib.hid hi2
      have HI3 := Lib.hid hi3
      have LI : Hid (items.length = k) := Lib.hid (by rw [← LEN.out, ← hi1, List.length_map])
      have XB := Lib.hid (Y6.out)
      have XF : Hid (KeepF w.heap.size w6 w6) := Lib.hid (KeepF.refl _ _)
      have PS : Hid (PartsSep w.heap.size w6 (p).feat (.slice ea na ca) (.slice eb nb cb)) := Lib.hid (PartsSep.low PA.out B6.out)
      have hsX := XB.out.size
      clear hi1 hi2 hi3
      go_wp2_with (first
        | ((with_reducible refine wpList_load_row rfl 34 (.tmp 19) rfl wr.heap.size rfl _ _ _ _ P6.out Tryz.underlying34 rfl (by kernel_rfl) ?_))
        | (at_builtin; (generalize hwn : World.alloc _ _ = wA; obtain ⟨pA, hbA⟩ := box1 hwn.symm; clear hwn; have hbX := below_step XB.out hbA; have hsA := hbX.size; have SEPA := Lib.hid (PS.out.later (KeepPS.of_below hbA)); refine wpList_appT opCells_len (by omega) Tryz.underlying23 info_op rfl rfl _ _ rfl W4.heap.size _ items [((p), (.slice ea na ca), (.slice eb nb cb))] rfl (own_keep HI2.out hbX) _ 1 1 rfl rfl (SrcAt.one pA rfl) (by intro u hu; simp only [List.flatMap_cons, List.flatMap_nil, List.append_nil] at hu; exact opCells_one SEPA.out.parts u hu) (by rw [LI.out]) (by unfold maxLen; omega) (by omega) (by omega) ?_; intro ad3 c3 w9 hown3 hg3 hb3)))
      have HX := Lib.hid hbX
      have HO3 := Lib.hid hown3
      have HB3 := Lib.hid hb3
      have HG3 : Hid (KeepPS w.heap.size wA w9) := Lib.hid (KeepPS.grown (own_keep HI2.out hbX) hg3 (by omega) (by decide) (by decide))
      have HF3 : Hid (KeepF w.heap.size wA w9) := Lib.hid (KeepF.grown (own_keep HI2.out hbX) hg3 (by omega) (by decide))
      have HAF : Hid (KeepF w.heap.size w6 wA) := Lib.hid (KeepF.of_below hbA)
      clear hown3 hg3 hb3 hbX pA hbA
      go_wp2_with fail
      go_roundw
      case rel => exact ⟨k + 1, x', _, cs6, ad3, c3, r' ++ [p], by omega, by go_num, by rw [LN6.out], rfl, OKN.out, by rw [LN6.out]; exact ((ST6.out.later XF.out).later HAF.out).later HF3.out, ⟨items ++ [((p), (.slice ea na ca), (.slice eb nb cb))], by rw [List.map_append, HI1.out]; rfl, HO3.out, fun z hz => by
        rcases List.mem_append.1 hz with hz | hz
        · exact ((HI3.out z hz).later (KeepPS.of_below HX.out)).later HG3.out
        · obtain rfl : z = ((p), (.slice ea na ca), (.slice eb nb cb)) := by simpa using hz
          exact SEPA.out.later HG3.out⟩, BR.out.trans ((HX.out.mono hsr).trans HB3.out)⟩
      case measure => simp [Go.RowKit.intOf]; omega
    obtain ⟨f, hlook⟩ := do_look RST.out.fine HF.out DO.out (by omega)
    obtain ⟨q, hq, hqf, hfid, hqn⟩ := look_index (idsUp_of FX.out) hlook
    have LOOK := Lib.hid hlook
    have CAR := Lib.hid hcar
    have QF := Lib.hid hqf
    have FID := Lib.hid hfid
    have QN := Lib.hid hqn
    have hq6 : q < n6 := by have := LN6.out; omega
    have FOK : Hid (FeatOk f) := Lib.hid (by rw [← hqf]; exact (FX.out.2 q hq).1)
    obtain ⟨g, o, fa, fs, has6, fcc, fpp⟩ := (ST6.out.two B6.out (KeepF.refl _ _)).row hq6
    rw [hqf] at fcc fpp
    obtain rfl := has6
    have PF := Lib.hid fpp
    obtain ⟨fa1, fc1, fa2, fc2, rfl, rfl⟩ := PF.out.form
    obtain ⟨fn1, hfn1⟩ : ∃ n, f.area.length = n := ⟨_, rfl⟩
    obtain ⟨fn2, hfn2⟩ : ∃ n, f.secs.length = n := ⟨_, rfl⟩
    rw [hfn1, hfn2] at PF fcc
    have FC := Lib.hid fcc
    have NE : Hid (p.kind ≠ 2) := Lib.hid (by omega)
    have kk : (if p.kind = 1 then true else if p.kind = 3 then true else (p.kind == 5)) = true := by
      rcases hcar with h | h | h <;> simp [h]
    have cp := cell_block P6.out
    clear hlook hqf hfid hqn fcc fpp hfn1 hfn2
    rcases hcar with h1 | h3 | h5
    · skip
      have KK := Lib.hid h1
      have n1 : (p.kind == 1) = true := by simpa using h1
      clear h1
      clear kk
      go_wp2_with fail
      (with_reducible refine (ifFeat_at x' _ _ _ p.id _ (ST6.out.two B6.out (KeepF.refl _ _)).at P6.out rfl hq (by rw [QF.out]; exact FID.out) QN.out).mono ?_)
      rintro e w7 ⟨rfl, hb7⟩
      have Z7 := Lib.hid hb7
      have Y7 := Lib.hid (below_step Y6.out hb7)
      have B7 := Lib.hid (below_step BWR.out Y7.out)
      have P7 := Lib.hid (block_later hb7 P6.out)
      have FC7 := Lib.hid (FC.out.later hb7)
      have hs7 := hb7.size
      clear hb7 cp
      go_wp2_with fail
      obtain ⟨W7, rfl⟩ : ∃ W : World, W = w7 := ⟨_, rfl⟩
      have q0 := block_later (below_step X4.out (below_step BR.out Y7.out)) P0.out
      have q1 := block_later (below_step X4.out (below_step BR.out Y7.out)) P1.out
      have q2 := block_later (below_step X4.out (below_step BR.out Y7.out)) P2.out
      have q4 := block_later (below_step BR.out Y7.out) P4.out
      have F1 : ∀ w', Below W7.heap.size W7 w' → ∀ i, w'.cell? ⟨w.heap.size + 1, i, none⟩ = #[.int .i64 a.office, .slice aa1 a.marks.length ca1][i]? := fun w' hw i => cell_block (block_later hw q1) i
      have F2 : ∀ w', Below W7.heap.size W7 w' → ∀ i, w'.cell? ⟨w.heap.size + 2, i, none⟩ = #[.int .i64 b.office, .slice ab1 b.marks.length cb1][i]? := fun w' hw i => cell_block (block_later hw q2) i
      have F3 : ∀ w', Below W7.heap.size W7 w' → ∀ i, w'.cell? ⟨w3.heap.size, i, none⟩ = #[.int .i64 m.a, .int .i64 m.b, .int .i64 m.c, .int .i64 m.d, .int .i64 m.e, .int .i64 m.f, .int .i64 m.r, .int .i64 (stretchD m), .int .i64 (shrinkD m), .int .i64 (slackD m)][i]? := fun w' hw i => cell_block (block_later hw q4) i
      have F4 : ∀ w', Below W7.heap.size W7 w' → w'.cell? ⟨g, o + q * 9, none⟩ = some (.int .i64 f.id) ∧ w'.cell? ⟨g, o + q * 9 + 1, none⟩ = some (.int .i64 f.kind) ∧ w'.cell? ⟨g, o + q * 9 + 2, none⟩ = some (.int .i64 f.x) ∧ w'.cell? ⟨g, o + q * 9 + 3, none⟩ = some (.int .i64 f.y) ∧ w'.cell? ⟨g, o + q * 9 + 4, none⟩ = some (.int .i64 f.rad) ∧ w'.cell? ⟨g, o + q * 9 + 5, none⟩ = some (.slice fa1 fn1 fc1) ∧ w'.cell? ⟨g, o + q * 9 + 6, none⟩ = some (.int .i64 f.dep) ∧ w'.cell? ⟨g, o + q * 9 + 7, none⟩ = some (.int .i64 f.sym) ∧ w'.cell? ⟨g, o + q * 9 + 8, none⟩ = some (.slice fa2 fn2 fc2) := fun w' hw => by
        have h := FC7.out.later hw
        exact ⟨h.c0, h.c1, h.c2, h.c3, h.c4, h.c5, h.c6, h.c7, h.c8⟩
      clear q0 q1 q2 q4
      obtain ⟨y, e, hx⟩ : ∃ (x : Feat) (e : Int), oneR m a.marks b.marks f = (x, e) := ⟨_, _, rfl⟩
      have ONE := Lib.hid hx
      clear hx
      go_cut [21, 22] from 75 to 85 (fun s21 s22 wx => ∃ (g21 : Nat) (aR : Option Addr) (nR cR : Nat) (bR : Option Addr) (mR dR : Nat), s21 = .pointer (some ⟨g21, 0, none⟩) ∧ s22 = .int .i64 e ∧ Below W7.heap.size W7 wx ∧ W7.heap.size ≤ g21 ∧ wx.heap[g21]? = some (.cells #[.int .i64 y.id, .int .i64 y.kind, .int .i64 y.x, .int .i64 y.y, .int .i64 y.rad, .slice aR nR cR, .int .i64 y.dep, .int .i64 y.sym, .slice bR mR dR] 32 (0, 0)) ∧ PartsSep w.heap.size wx y (.slice aR nR cR) (.slice bR mR dR))
      case first =>
        refine wp_region_planS (Below W7.heap.size W7) (.take 0 (.take 0 (.take 0 (.take 0 (.take 0 (.take 0 (.take 0 (.two 0 (.take 0 (.take 0 (.take 0 (.only 0 (.only 0 (.take 0 .done)))))) 4 (.only 0 (.take 0 (.take 0 (.take 0 (.only 0 (.take 0 .done)))))))))))))) (by kernel_rfl) (by kernel_rfl) (Below.refl _ _).drew (fun hP => ?_)
        generalize hdr : W7.drew = v1 at hP ⊢
        clear hdr
        (refine wsPlan_take rfl (fun K hK => ?_); replace hK := Lib.hid hK; go_simp; first | (refine hK.out _ ?_; clear hK K) | (apply Exists.intro; refine ⟨fun w' hw => ?_, hK.out _ ?_⟩; (first | with_reducible exact rfl | (have f1 := F1 w' hw; have f2 := F2 w' hw; have f3 := F3 w' hw; obtain ⟨r0, r1, r2, r3, r4, r5, r6, r7, r8⟩ := F4 w' hw; go_simp; exact rfl)); clear hK K))
        (refine wsPlan_take rfl (fun K hK => ?_); replace hK := Lib.hid hK; go_simp; first | (refine hK.out _ ?_; clear hK K) | (apply Exists.intro; refine ⟨fun w' hw => ?_, hK.out _ ?_⟩; (first | with_reducible exact rfl | (have f1 := F1 w' hw; have f2 := F2 w' hw; have f3 := F3 w' hw; obtain ⟨r0, r1, r2, r3, r4, r5, r6, r7, r8⟩ := F4 w' hw; go_simp; exact rfl)); clear hK K))
        (refine wsPlan_take rfl (fun K hK => ?_); replace hK := Lib.hid hK; go_simp; first | (refine hK.out _ ?_; clear hK K) | (apply Exists.intro; refine ⟨fun w' hw => ?_, hK.out _ ?_⟩; (first | with_reducible exact rfl | (have f1 := F1 w' hw; have f2 := F2 w' hw; have f3 := F3 w' hw; obtain ⟨r0, r1, r2, r3, r4, r5, r6, r7, r8⟩ := F4 w' hw; go_simp; exact rfl)); clear hK K))
        (refine wsPlan_take rfl (fun K hK => ?_); replace hK := Lib.hid hK; go_simp; first | (refine hK.out _ ?_; clear hK K) | (apply Exists.intro; refine ⟨fun w' hw => ?_, hK.out _ ?_⟩; (first | with_reducible exact rfl | (have f1 := F1 w' hw; have f2 := F2 w' hw; have f3 := F3 w' hw; obtain ⟨r0, r1, r2, r3, r4, r5, r6, r7, r8⟩ := F4 w' hw; go_simp; exact rfl)); clear hK K))
        (refine wsPlan_take rfl (fun K hK => ?_); replace hK := Lib.hid hK; go_simp; first | (refine hK.out _ ?_; clear hK K) | (apply Exists.intro; refine ⟨fun w' hw => ?_, hK.out _ ?_⟩; (first | with_reducible exact rfl | (have f1 := F1 w' hw; have f2 := F2 w' hw; have f3 := F3 w' hw; obtain ⟨r0, r1, r2, r3, r4, r5, r6, r7, r8⟩ := F4 w' hw; go_simp; exact rfl)); clear hK K))
        (refine wsPlan_take rfl (fun K hK => ?_); replace hK := Lib.hid hK; go_simp; first | (refine hK.out _ ?_; clear hK K) | (apply Exists.intro; refine ⟨fun w' hw => ?_, hK.out _ ?_⟩; (first | with_reducible exact rfl | (have f1 := F1 w' hw; have f2 := F2 w' hw; have f3 := F3 w' hw; obtain ⟨r0, r1, r2, r3, r4, r5, r6, r7, r8⟩ := F4 w' hw; go_simp; exact rfl)); clear hK K))
        (refine wsPlan_take rfl (fun K hK => ?_); replace hK := Lib.hid hK; go_simp; first | (refine hK.out _ ?_; clear hK K) | (apply Exists.intro; refine ⟨fun w' hw => ?_, hK.out _ ?_⟩; (first | with_reducible exact rfl | (have f1 := F1 w' hw; have f2 := F2 w' hw; have f3 := F3 w' hw; obtain ⟨r0, r1, r2, r3, r4, r5, r6, r7, r8⟩ := F4 w' hw; go_simp; exact rfl)); clear hK K))
        refine wsPlan_two ?_ ?_
        · skip
          (refine wsPlan_only rfl (fun K hK => ?_); replace hK := Lib.hid hK; go_simp; go_at_call 141; (with_reducible refine (trone_raw m a b f (below_step B7.out hP) BOK.out (HA.out.later (below_step B7.out hP)) (HB.out.later (below_step B7.out hP)) FOK.out PF.out ONE.out).mono ?_); rintro z v2 ⟨aR, nR, cR, bR, mR, dR, rfl, hsep, hb2⟩; have hP1 := below_step hP hb2; refine hK.out _ _ hP1 (fun hP => ?_); clear hK K hP1)
          dsimp only [featV]
          (refine wsPlan_take rfl (fun K hK => ?_); replace hK := Lib.hid hK; go_simp; first | (refine hK.out _ ?_; clear hK K) | (apply Exists.intro; refine ⟨fun w' hw => ?_, hK.out _ ?_⟩; (first | with_reducible exact rfl | (have f1 := F1 w' hw; have f2 := F2 w' hw; have f3 := F3 w' hw; obtain ⟨r0, r1, r2, r3, r4, r5, r6, r7, r8⟩ := F4 w' hw; go_simp; exact rfl)); clear hK K))
          (refine wsPlan_take rfl (fun K hK => ?_); replace hK := Lib.hid hK; go_simp; first | (refine hK.out _ ?_; clear hK K) | (apply Exists.intro; refine ⟨fun w' hw => ?_, hK.out _ ?_⟩; (first | with_reducible exact rfl | (have f1 := F1 w' hw; have f2 := F2 w' hw; have f3 := F3 w' hw; obtain ⟨r0, r1, r2, r3, r4, r5, r6, r7, r8⟩ := F4 w' hw; go_simp; exact rfl)); clear hK K))
          (refine wsPlan_take rfl (fun K hK => ?_); replace hK := Lib.hid hK; go_simp; first | (refine hK.out _ ?_; clear hK K) | (apply Exists.intro; refine ⟨fun w' hw => ?_, hK.out _ ?_⟩; (first | with_reducible exact rfl | (have f1 := F1 w' hw; have f2 := F2 w' hw; have f3 := F3 w' hw; obtain ⟨r0, r1, r2, r3, r4, r5, r6, r7, r8⟩ := F4 w' hw; go_simp; exact rfl)); clear hK K))
          have hxx : W7.heap.size ≤ v2.heap.size := hP.size
          (refine wsPlan_only rfl (fun K hK => ?_); replace hK := Lib.hid hK; go_simp; refine hK.out _ _ (hP.alloc hP.size _) (fun hP => ?_); clear hK K)
          generalize hw3 : World.alloc v2 (Obj.cells #[.int .i64 0, .int .i64 0, .int .i64 0, .int .i64 0, .int .i64 0, .slice none 0 0, .int .i64 0, .int .i64 0, .slice none 0 0] 32) = v3 at hP ⊢
          obtain ⟨qx_3, hb3⟩ := box1 hw3.symm
          clear hw3
          have hzx := hb3.size
          have hyx := hP.size
          have f9 := free_block qx_3
          have c9 := cell_block qx_3
          (refine wsPlan_only rfl (fun K hK => ?_); replace hK := Lib.hid hK; go_simp; refine hK.out _ _ (by with_reducible exact (setQ (setQ (setQ (setQ (setQ (setQ (setQ (setQ (setQ hP hxx _) hxx _) hxx _) hxx _) hxx _) hxx _) hxx _) hxx _) hxx _)) (fun hP => ?_); clear hK K f9 c9)
          have qx_4 := feat_store qx_3 (.int .i64 y.id) (.int .i64 y.kind) (.int .i64 y.x) (.int .i64 y.y) (.int .i64 y.rad) (.slice aR nR cR) (.int .i64 y.dep) (.int .i64 y.sym) (.slice bR mR dR)
          have ks4 := KeepPS.nine (lo := w.heap.size) (by omega) qx_3 (by decide) (by decide) (.int .i64 y.id) (.int .i64 y.kind) (.int .i64 y.x) (.int .i64 y.y) (.int .i64 y.rad) (.slice aR nR cR) (.int .i64 y.dep) (.int .i64 y.sym) (.slice bR mR dR)
          generalize hw4 : (World.setCell (World.setCell (World.setCell (World.setCell (World.setCell (World.setCell (World.setCell (World.setCell (World.setCell v3 ⟨v2.heap.size, 0, none⟩ (.int .i64 y.id)) ⟨v2.heap.size, 1, none⟩ (.int .i64 y.kind)) ⟨v2.heap.size, 2, none⟩ (.int .i64 y.x)) ⟨v2.heap.size, 3, none⟩ (.int .i64 y.y)) ⟨v2.heap.size, 4, none⟩ (.int .i64 y.rad)) ⟨v2.heap.size, 5, none⟩ (.slice aR nR cR)) ⟨v2.heap.size, 6, none⟩ (.int .i64 y.dep)) ⟨v2.heap.size, 7, none⟩ (.int .i64 y.sym)) ⟨v2.heap.size, 8, none⟩ (.slice bR mR dR)) = v4 at hP qx_4 ks4  ⊢
          clear hw4
          (refine wsPlan_take rfl (fun K hK => ?_); replace hK := Lib.hid hK; go_simp; first | (refine hK.out _ ?_; clear hK K) | (apply Exists.intro; refine ⟨fun w' hw => ?_, hK.out _ ?_⟩; (first | with_reducible exact rfl | (have f1 := F1 w' hw; have f2 := F2 w' hw; have f3 := F3 w' hw; obtain ⟨r0, r1, r2, r3, r4, r5, r6, r7, r8⟩ := F4 w' hw; go_simp; exact rfl)); clear hK K))
          refine wsPlan_done ?_
          clear F1 F2 F3 F4
          have HA9 := Lib.hid qx_4
          have HP9 := Lib.hid hP
          have SP9 := Lib.hid ((hsep.later (KeepPS.of_below hb3)).later ks4)
          go_wp2_with fail
          go_meet
          exact ⟨_, aR, nR, cR, bR, mR, dR, rfl, rfl, HP9.out, hxx, HA9.out, SP9.out⟩
        · skip
          have hxx : W7.heap.size ≤ v1.heap.size := hP.size
          (refine wsPlan_only rfl (fun K hK => ?_); replace hK := Lib.hid hK; go_simp; refine hK.out _ _ (hP.alloc hP.size _) (fun hP => ?_); clear hK K)
          generalize hw5 : World.alloc v1 (Obj.cells #[.int .i64 0, .int .i64 0, .int .i64 0, .int .i64 0, .int .i64 0, .slice none 0 0, .int .i64 0, .int .i64 0, .slice none 0 0] 32) = v5 at hP ⊢
          obtain ⟨qx_5, hb5⟩ := box1 hw5.symm
          clear hw5
          have hzx := hb5.size
          have hyx := hP.size
          (refine wsPlan_only rfl (fun K hK => ?_); replace hK := Lib.hid hK; go_simp; go_at_call 141; (with_reducible refine (trone_raw m a b f (below_step B7.out hP) BOK.out (HA.out.later (below_step B7.out hP)) (HB.out.later (below_step B7.out hP)) FOK.out PF.out ONE.out).mono ?_); rintro z v6 ⟨aR, nR, cR, bR, mR, dR, rfl, hsep, hb6⟩; have hP1 := below_step hP hb6; refine hK.out _ _ hP1 (fun hP => ?_); clear hK K hP1)
          have qx_6 := block_later hb6 qx_5
          dsimp only [featV]
          (refine wsPlan_take rfl (fun K hK => ?_); replace hK := Lib.hid hK; go_simp; first | (refine hK.out _ ?_; clear hK K) | (apply Exists.intro; refine ⟨fun w' hw => ?_, hK.out _ ?_⟩; (first | with_reducible exact rfl | (have f1 := F1 w' hw; have f2 := F2 w' hw; have f3 := F3 w' hw; obtain ⟨r0, r1, r2, r3, r4, r5, r6, r7, r8⟩ := F4 w' hw; go_simp; exact rfl)); clear hK K))
          (refine wsPlan_take rfl (fun K hK => ?_); replace hK := Lib.hid hK; go_simp; first | (refine hK.out _ ?_; clear hK K) | (apply Exists.intro; refine ⟨fun w' hw => ?_, hK.out _ ?_⟩; (first | with_reducible exact rfl | (have f1 := F1 w' hw; have f2 := F2 w' hw; have f3 := F3 w' hw; obtain ⟨r0, r1, r2, r3, r4, r5, r6, r7, r8⟩ := F4 w' hw; go_simp; exact rfl)); clear hK K))
          (refine wsPlan_take rfl (fun K hK => ?_); replace hK := Lib.hid hK; go_simp; first | (refine hK.out _ ?_; clear hK K) | (apply Exists.intro; refine ⟨fun w' hw => ?_, hK.out _ ?_⟩; (first | with_reducible exact rfl | (have f1 := F1 w' hw; have f2 := F2 w' hw; have f3 := F3 w' hw; obtain ⟨r0, r1, r2, r3, r4, r5, r6, r7, r8⟩ := F4 w' hw; go_simp; exact rfl)); clear hK K))
          have f9 := free_block qx_6
          have c9 := cell_block qx_6
          (refine wsPlan_only rfl (fun K hK => ?_); replace hK := Lib.hid hK; go_simp; refine hK.out _ _ (by with_reducible exact (setQ (setQ (setQ (setQ (setQ (setQ (setQ (setQ (setQ hP hxx _) hxx _) hxx _) hxx _) hxx _) hxx _) hxx _) hxx _) hxx _)) (fun hP => ?_); clear hK K f9 c9)
          have qx_7 := feat_store qx_6 (.int .i64 y.id) (.int .i64 y.kind) (.int .i64 y.x) (.int .i64 y.y) (.int .i64 y.rad) (.slice aR nR cR) (.int .i64 y.dep) (.int .i64 y.sym) (.slice bR mR dR)
          have ks7 := KeepPS.nine (lo := w.heap.size) (by omega) qx_6 (by decide) (by decide) (.int .i64 y.id) (.int .i64 y.kind) (.int .i64 y.x) (.int .i64 y.y) (.int .i64 y.rad) (.slice aR nR cR) (.int .i64 y.dep) (.int .i64 y.sym) (.slice bR mR dR)
          generalize hw7 : (World.setCell (World.setCell (World.setCell (World.setCell (World.setCell (World.setCell (World.setCell (World.setCell (World.setCell v6 ⟨v1.heap.size, 0, none⟩ (.int .i64 y.id)) ⟨v1.heap.size, 1, none⟩ (.int .i64 y.kind)) ⟨v1.heap.size, 2, none⟩ (.int .i64 y.x)) ⟨v1.heap.size, 3, none⟩ (.int .i64 y.y)) ⟨v1.heap.size, 4, none⟩ (.int .i64 y.rad)) ⟨v1.heap.size, 5, none⟩ (.slice aR nR cR)) ⟨v1.heap.size, 6, none⟩ (.int .i64 y.dep)) ⟨v1.heap.size, 7, none⟩ (.int .i64 y.sym)) ⟨v1.heap.size, 8, none⟩ (.slice bR mR dR)) = v7 at hP qx_7 ks7  ⊢
          clear hw7
          (refine wsPlan_take rfl (fun K hK => ?_); replace hK := Lib.hid hK; go_simp; first | (refine hK.out _ ?_; clear hK K) | (apply Exists.intro; refine ⟨fun w' hw => ?_, hK.out _ ?_⟩; (first | with_reducible exact rfl | (have f1 := F1 w' hw; have f2 := F2 w' hw; have f3 := F3 w' hw; obtain ⟨r0, r1, r2, r3, r4, r5, r6, r7, r8⟩ := F4 w' hw; go_simp; exact rfl)); clear hK K))
          refine wsPlan_done ?_
          clear F1 F2 F3 F4
          have HA9 := Lib.hid qx_7
          have HP9 := Lib.hid hP
          have SP9 := Lib.hid (hsep.later ks7)
          go_wp2_with fail
          go_meet
          exact ⟨_, aR, nR, cR, bR, mR, dR, rfl, rfl, HP9.out, hxx, HA9.out, SP9.out⟩
      case rest =>
        obtain ⟨g21, aR, nR, cR, bR, mR, dR, rfl, rfl, hb8, hg21, hp21, hsep⟩ := hcut
        obtain ⟨W8, rfl⟩ : ∃ x, x = wc := ⟨_, rfl⟩
        by_cases he : e = 0
        rotate_left
        · have d1 : (e != 0) = true := by simpa using he
          have HE := Lib.hid ((opsR_err BOK.out AP.out (ERR.out _ ((opD_car CAR.out LOOK.out).trans (by rw [one_bad ONE.out he])))).symm.trans HR.out)
          clear he
          go_wp2_with fail
          go_ret2
          exact ops_give (r' := []) HE.out rfl (ops_nil _) (below_step B7.out hb8)
        subst he
        have HOD := Lib.hid (oneR_zero ONE.out)
        have SEP := Lib.hid hsep
        have HB8 := Lib.hid hb8
        have Y8 := Lib.hid (below_step Y7.out hb8)
        have P8 := Lib.hid (block_later hb8 P7.out)
        have Q8 := Lib.hid hp21
        have c8 := cell_block P8.out
        have c9 := cell_block Q8.out
        have f8 := free_block P8.out
        have hlw : w.heap.size ≤ wr.heap.size := by omega
        clear hsep hb8 hp21
        have SET0 := opSetF P8.out (.int .i64 y.id) (.int .i64 y.kind) (.int .i64 y.x) (.int .i64 y.y) (.int .i64 y.rad) (.slice aR nR cR) (.int .i64 y.dep) (.int .i64 y.sym) (.slice bR mR dR)
        obtain ⟨Wst, hWst⟩ : ∃ W, W = (((((((((W8.setCell ⟨wr.heap.size, 2, none⟩ (.int .i64 y.id)).setCell ⟨wr.heap.size, 3, none⟩ (.int .i64 y.kind)).setCell ⟨wr.heap.size, 4, none⟩ (.int .i64 y.x)).setCell ⟨wr.heap.size, 5, none⟩ (.int .i64 y.y)).setCell ⟨wr.heap.size, 6, none⟩ (.int .i64 y.rad)).setCell ⟨wr.heap.size, 7, none⟩ (.slice aR nR cR)).setCell ⟨wr.heap.size, 8, none⟩ (.int .i64 y.dep)).setCell ⟨wr.heap.size, 9, none⟩ (.int .i64 y.sym)).setCell ⟨wr.heap.size, 10, none⟩ (.slice bR mR dR)) := ⟨_, rfl⟩
        rw [← hWst] at SET0
        have SET := Lib.hid SET0
        have HWS := Lib.hid hWst
        clear SET0 hWst
        have OD : opD m a.marks b.marks x' p = .ok ({ p with feat := y }) := by
          rw [opD_car CAR.out LOOK.out, HOD.out]
          exact congrArg Except.ok (if_pos KK.out)
        have OKN := Lib.hid (OKK.out _ OD)
        clear OD
        obtain ⟨items, hi1, hi2, hi3⟩ := OW.out
        have HI1 := Lib.hid hi1
        have HI2 := Lib.hid hi2
        have HI3 := Lib.hid hi3
        have LI : Hid (items.length = k) := Lib.hid (by rw [← LEN.out, ← hi1, List.length_map])
        have XB := Lib.hid (SET.out.2.2 _ _ (Y8.out) (Nat.le_refl _))
        have XF : Hid (KeepF w.heap.size w6 Wst) := Lib.hid ((KeepF.of_below (below_step (below_step Z7.out HB8.out) (Below.refl _ _))).trans (keepF_ho hlw P8.out (by decide) SET.out.2.1))
        have PS : Hid (PartsSep w.heap.size Wst ({ p with feat := y }).feat (.slice aR nR cR) (.slice bR mR dR)) := Lib.hid ((SEP.out.later (KeepPS.of_below (Below.refl _ _))).later (keepPS_ho hlw P8.out (by decide) (by decide) SET.out.2.1))
        have hsX := XB.out.size
        clear hi1 hi2 hi3
        go_wp2_with (first
          | (rw [← HWS.out]; (refine wpList_load_row rfl 34 (.tmp 19) rfl wr.heap.size rfl _ _ _ _ SET.out.1 Tryz.underlying34 rfl (by kernel_rfl) ?_))
          | (at_builtin; (generalize hwn : World.alloc _ _ = wA; obtain ⟨pA, hbA⟩ := box1 hwn.symm; clear hwn; have hbX := below_step XB.out hbA; have hsA := hbX.size; have SEPA := Lib.hid (PS.out.later (KeepPS.of_below hbA)); refine wpList_appT opCells_len (by omega) Tryz.underlying23 info_op rfl rfl _ _ rfl W4.heap.size _ items [(({ p with feat := y }), (.slice aR nR cR), (.slice bR mR dR))] rfl (own_keep HI2.out hbX) _ 1 1 rfl rfl (SrcAt.one pA rfl) (by intro u hu; simp only [List.flatMap_cons, List.flatMap_nil, List.append_nil] at hu; exact opCells_one SEPA.out.parts u hu) (by rw [LI.out]) (by unfold maxLen; omega) (by omega) (by omega) ?_; intro ad3 c3 w9 hown3 hg3 hb3)))
        have HX := Lib.hid hbX
        have HO3 := Lib.hid hown3
        have HB3 := Lib.hid hb3
        have HG3 : Hid (KeepPS w.heap.size wA w9) := Lib.hid (KeepPS.grown (own_keep HI2.out hbX) hg3 (by omega) (by decide) (by decide))
        have HF3 : Hid (KeepF w.heap.size wA w9) := Lib.hid (KeepF.grown (own_keep HI2.out hbX) hg3 (by omega) (by decide))
        have HAF : Hid (KeepF w.heap.size Wst wA) := Lib.hid (KeepF.of_below hbA)
        clear hown3 hg3 hb3 hbX pA hbA
        go_wp2_with fail
        go_roundw
        case rel => exact ⟨k + 1, x', _, cs6, ad3, c3, r' ++ [{ p with feat := y }], by omega, by go_num, by rw [LN6.out], rfl, OKN.out, by rw [LN6.out]; exact ((ST6.out.later XF.out).later HAF.out).later HF3.out, ⟨items ++ [(({ p with feat := y }), (.slice aR nR cR), (.slice bR mR dR))], by rw [List.map_append, HI1.out]; rfl, HO3.out, fun z hz => by
          rcases List.mem_append.1 hz with hz | hz
          · exact ((HI3.out z hz).later (KeepPS.of_below HX.out)).later HG3.out
          · obtain rfl : z = (({ p with feat := y }), (.slice aR nR cR), (.slice bR mR dR)) := by simpa using hz
            exact SEPA.out.later HG3.out⟩, BR.out.trans ((HX.out.mono hsr).trans HB3.out)⟩
        case measure => simp [Go.RowKit.intOf]; omega
    · skip
      have KK := Lib.hid h3
      have n1 : (p.kind == 1) = false := by rw [h3]; rfl
      have n3 : (p.kind == 3) = true := by simpa using h3
      clear h3
      clear kk
      go_wp2_with fail
      (with_reducible refine (ifFeat_at x' _ _ _ p.id _ (ST6.out.two B6.out (KeepF.refl _ _)).at P6.out rfl hq (by rw [QF.out]; exact FID.out) QN.out).mono ?_)
      rintro e w7 ⟨rfl, hb7⟩
      have Z7 := Lib.hid hb7
      have Y7 := Lib.hid (below_step Y6.out hb7)
      have B7 := Lib.hid (below_step BWR.out Y7.out)
      have P7 := Lib.hid (block_later hb7 P6.out)
      have FC7 := Lib.hid (FC.out.later hb7)
      have hs7 := hb7.size
      clear hb7 cp
      go_wp2_with fail
      obtain ⟨W7, rfl⟩ : ∃ W : World, W = w7 := ⟨_, rfl⟩
      have q0 := block_later (below_step X4.out (below_step BR.out Y7.out)) P0.out
      have q1 := block_later (below_step X4.out (below_step BR.out Y7.out)) P1.out
      have q2 := block_later (below_step X4.out (below_step BR.out Y7.out)) P2.out
      have q4 := block_later (below_step BR.out Y7.out) P4.out
      have F1 : ∀ w', Below W7.heap.size W7 w' → ∀ i, w'.cell? ⟨w.heap.size + 1, i, none⟩ = #[.int .i64 a.office, .slice aa1 a.marks.length ca1][i]? := fun w' hw i => cell_block (block_later hw q1) i
      have F2 : ∀ w', Below W7.heap.size W7 w' → ∀ i, w'.cell? ⟨w.heap.size + 2, i, none⟩ = #[.int .i64 b.office, .slice ab1 b.marks.length cb1][i]? := fun w' hw i => cell_block (block_later hw q2) i
      have F3 : ∀ w', Below W7.heap.size W7 w' → ∀ i, w'.cell? ⟨w3.heap.size, i, none⟩ = #[.int .i64 m.a, .int .i64 m.b, .int .i64 m.c, .int .i64 m.d, .int .i64 m.e, .int .i64 m.f, .int .i64 m.r, .int .i64 (stretchD m), .int .i64 (shrinkD m), .int .i64 (slackD m)][i]? := fun w' hw i => cell_block (block_later hw q4) i
      have F4 : ∀ w', Below W7.heap.size W7 w' → w'.cell? ⟨g, o + q * 9, none⟩ = some (.int .i64 f.id) ∧ w'.cell? ⟨g, o + q * 9 + 1, none⟩ = some (.int .i64 f.kind) ∧ w'.cell? ⟨g, o + q * 9 + 2, none⟩ = some (.int .i64 f.x) ∧ w'.cell? ⟨g, o + q * 9 + 3, none⟩ = some (.int .i64 f.y) ∧ w'.cell? ⟨g, o + q * 9 + 4, none⟩ = some (.int .i64 f.rad) ∧ w'.cell? ⟨g, o + q * 9 + 5, none⟩ = some (.slice fa1 fn1 fc1) ∧ w'.cell? ⟨g, o + q * 9 + 6, none⟩ = some (.int .i64 f.dep) ∧ w'.cell? ⟨g, o + q * 9 + 7, none⟩ = some (.int .i64 f.sym) ∧ w'.cell? ⟨g, o + q * 9 + 8, none⟩ = some (.slice fa2 fn2 fc2) := fun w' hw => by
        have h := FC7.out.later hw
        exact ⟨h.c0, h.c1, h.c2, h.c3, h.c4, h.c5, h.c6, h.c7, h.c8⟩
      clear q0 q1 q2 q4
      obtain ⟨y, e, hx⟩ : ∃ (x : Feat) (e : Int), oneR m a.marks b.marks f = (x, e) := ⟨_, _, rfl⟩
      have ONE := Lib.hid hx
      clear hx
      go_cut [21, 22] from 75 to 85 (fun s21 s22 wx => ∃ (g21 : Nat) (aR : Option Addr) (nR cR : Nat) (bR : Option Addr) (mR dR : Nat), s21 = .pointer (some ⟨g21, 0, none⟩) ∧ s22 = .int .i64 e ∧ Below W7.heap.size W7 wx ∧ W7.heap.size ≤ g21 ∧ wx.heap[g21]? = some (.cells #[.int .i64 y.id, .int .i64 y.kind, .int .i64 y.x, .int .i64 y.y, .int .i64 y.rad, .slice aR nR cR, .int .i64 y.dep, .int .i64 y.sym, .slice bR mR dR] 32 (0, 0)) ∧ PartsSep w.heap.size wx y (.slice aR nR cR) (.slice bR mR dR))
      case first =>
        refine wp_region_planS (Below W7.heap.size W7) (.take 0 (.take 0 (.take 0 (.take 0 (.take 0 (.take 0 (.take 0 (.two 0 (.take 0 (.take 0 (.take 0 (.only 0 (.only 0 (.take 0 .done)))))) 4 (.only 0 (.take 0 (.take 0 (.take 0 (.only 0 (.take 0 .done)))))))))))))) (by kernel_rfl) (by kernel_rfl) (Below.refl _ _).drew (fun hP => ?_)
        generalize hdr : W7.drew = v8 at hP ⊢
        clear hdr
        (refine wsPlan_take rfl (fun K hK => ?_); replace hK := Lib.hid hK; go_simp; first | (refine hK.out _ ?_; clear hK K) | (apply Exists.intro; refine ⟨fun w' hw => ?_, hK.out _ ?_⟩; (first | with_reducible exact rfl | (have f1 := F1 w' hw; have f2 := F2 w' hw; have f3 := F3 w' hw; obtain ⟨r0, r1, r2, r3, r4, r5, r6, r7, r8⟩ := F4 w' hw; go_simp; exact rfl)); clear hK K))
        (refine wsPlan_take rfl (fun K hK => ?_); replace hK := Lib.hid hK; go_simp; first | (refine hK.out _ ?_; clear hK K) | (apply Exists.intro; refine ⟨fun w' hw => ?_, hK.out _ ?_⟩; (first | with_reducible exact rfl | (have f1 := F1 w' hw; have f2 := F2 w' hw; have f3 := F3 w' hw; obtain ⟨r0, r1, r2, r3, r4, r5, r6, r7, r8⟩ := F4 w' hw; go_simp; exact rfl)); clear hK K))
        (refine wsPlan_take rfl (fun K hK => ?_); replace hK := Lib.hid hK; go_simp; first | (refine hK.out _ ?_; clear hK K) | (apply Exists.intro; refine ⟨fun w' hw => ?_, hK.out _ ?_⟩; (first | with_reducible exact rfl | (have f1 := F1 w' hw; have f2 := F2 w' hw; have f3 := F3 w' hw; obtain ⟨r0, r1, r2, r3, r4, r5, r6, r7, r8⟩ := F4 w' hw; go_simp; exact rfl)); clear hK K))
        (refine wsPlan_take rfl (fun K hK => ?_); replace hK := Lib.hid hK; go_simp; first | (refine hK.out _ ?_; clear hK K) | (apply Exists.intro; refine ⟨fun w' hw => ?_, hK.out _ ?_⟩; (first | with_reducible exact rfl | (have f1 := F1 w' hw; have f2 := F2 w' hw; have f3 := F3 w' hw; obtain ⟨r0, r1, r2, r3, r4, r5, r6, r7, r8⟩ := F4 w' hw; go_simp; exact rfl)); clear hK K))
        (refine wsPlan_take rfl (fun K hK => ?_); replace hK := Lib.hid hK; go_simp; first | (refine hK.out _ ?_; clear hK K) | (apply Exists.intro; refine ⟨fun w' hw => ?_, hK.out _ ?_⟩; (first | with_reducible exact rfl | (have f1 := F1 w' hw; have f2 := F2 w' hw; have f3 := F3 w' hw; obtain ⟨r0, r1, r2, r3, r4, r5, r6, r7, r8⟩ := F4 w' hw; go_simp; exact rfl)); clear hK K))
        (refine wsPlan_take rfl (fun K hK => ?_); replace hK := Lib.hid hK; go_simp; first | (refine hK.out _ ?_; clear hK K) | (apply Exists.intro; refine ⟨fun w' hw => ?_, hK.out _ ?_⟩; (first | with_reducible exact rfl | (have f1 := F1 w' hw; have f2 := F2 w' hw; have f3 := F3 w' hw; obtain ⟨r0, r1, r2, r3, r4, r5, r6, r7, r8⟩ := F4 w' hw; go_simp; exact rfl)); clear hK K))
        (refine wsPlan_take rfl (fun K hK => ?_); replace hK := Lib.hid hK; go_simp; first | (refine hK.out _ ?_; clear hK K) | (apply Exists.intro; refine ⟨fun w' hw => ?_, hK.out _ ?_⟩; (first | with_reducible exact rfl | (have f1 := F1 w' hw; have f2 := F2 w' hw; have f3 := F3 w' hw; obtain ⟨r0, r1, r2, r3, r4, r5, r6, r7, r8⟩ := F4 w' hw; go_simp; exact rfl)); clear hK K))
        refine wsPlan_two ?_ ?_
        · skip
          (refine wsPlan_only rfl (fun K hK => ?_); replace hK := Lib.hid hK; go_simp; go_at_call 141; (with_reducible refine (trone_raw m a b f (below_step B7.out hP) BOK.out (HA.out.later (below_step B7.out hP)) (HB.out.later (below_step B7.out hP)) FOK.out PF.out ONE.out).mono ?_); rintro z v9 ⟨aR, nR, cR, bR, mR, dR, rfl, hsep, hb9⟩; have hP1 := below_step hP hb9; refine hK.out _ _ hP1 (fun hP => ?_); clear hK K hP1)
          dsimp only [featV]
          (refine wsPlan_take rfl (fun K hK => ?_); replace hK := Lib.hid hK; go_simp; first | (refine hK.out _ ?_; clear hK K) | (apply Exists.intro; refine ⟨fun w' hw => ?_, hK.out _ ?_⟩; (first | with_reducible exact rfl | (have f1 := F1 w' hw; have f2 := F2 w' hw; have f3 := F3 w' hw; obtain ⟨r0, r1, r2, r3, r4, r5, r6, r7, r8⟩ := F4 w' hw; go_simp; exact rfl)); clear hK K))
          (refine wsPlan_take rfl (fun K hK => ?_); replace hK := Lib.hid hK; go_simp; first | (refine hK.out _ ?_; clear hK K) | (apply Exists.intro; refine ⟨fun w' hw => ?_, hK.out _ ?_⟩; (first | with_reducible exact rfl | (have f1 := F1 w' hw; have f2 := F2 w' hw; have f3 := F3 w' hw; obtain ⟨r0, r1, r2, r3, r4, r5, r6, r7, r8⟩ := F4 w' hw; go_simp; exact rfl)); clear hK K))
          (refine wsPlan_take rfl (fun K hK => ?_); replace hK := Lib.hid hK; go_simp; first | (refine hK.out _ ?_; clear hK K) | (apply Exists.intro; refine ⟨fun w' hw => ?_, hK.out _ ?_⟩; (first | with_reducible exact rfl | (have f1 := F1 w' hw; have f2 := F2 w' hw; have f3 := F3 w' hw; obtain ⟨r0, r1, r2, r3, r4, r5, r6, r7, r8⟩ := F4 w' hw; go_simp; exact rfl)); clear hK K))
          have hxx : W7.heap.size ≤ v9.heap.size := hP.size
          (refine wsPlan_only rfl (fun K hK => ?_); replace hK := Lib.hid hK; go_simp; refine hK.out _ _ (hP.alloc hP.size _) (fun hP => ?_); clear hK K)
          generalize hw10 : World.alloc v9 (Obj.cells #[.int .i64 0, .int .i64 0, .int .i64 0, .int .i64 0, .int .i64 0, .slice none 0 0, .int .i64 0, .int .i64 0, .slice none 0 0] 32) = v10 at hP ⊢
          obtain ⟨qx_10, hb10⟩ := box1 hw10.symm
          clear hw10
          have hzx := hb10.size
          have hyx := hP.size
          have f9 := free_block qx_10
          have c9 := cell_block qx_10
          (refine wsPlan_only rfl (fun K hK => ?_); replace hK := Lib.hid hK; go_simp; refine hK.out _ _ (by with_reducible exact (setQ (setQ (setQ (setQ (setQ (setQ (setQ (setQ (setQ hP hxx _) hxx _) hxx _) hxx _) hxx _) hxx _) hxx _) hxx _) hxx _)) (fun hP => ?_); clear hK K f9 c9)
          have qx_11 := feat_store qx_10 (.int .i64 y.id) (.int .i64 y.kind) (.int .i64 y.x) (.int .i64 y.y) (.int .i64 y.rad) (.slice aR nR cR) (.int .i64 y.dep) (.int .i64 y.sym) (.slice bR mR dR)
          have ks11 := KeepPS.nine (lo := w.heap.size) (by omega) qx_10 (by decide) (by decide) (.int .i64 y.id) (.int .i64 y.kind) (.int .i64 y.x) (.int .i64 y.y) (.int .i64 y.rad) (.slice aR nR cR) (.int .i64 y.dep) (.int .i64 y.sym) (.slice bR mR dR)
          generalize hw11 : (World.setCell (World.setCell (World.setCell (World.setCell (World.setCell (World.setCell (World.setCell (World.setCell (World.setCell v10 ⟨v9.heap.size, 0, none⟩ (.int .i64 y.id)) ⟨v9.heap.size, 1, none⟩ (.int .i64 y.kind)) ⟨v9.heap.size, 2, none⟩ (.int .i64 y.x)) ⟨v9.heap.size, 3, none⟩ (.int .i64 y.y)) ⟨v9.heap.size, 4, none⟩ (.int .i64 y.rad)) ⟨v9.heap.size, 5, none⟩ (.slice aR nR cR)) ⟨v9.heap.size, 6, none⟩ (.int .i64 y.dep)) ⟨v9.heap.size, 7, none⟩ (.int .i64 y.sym)) ⟨v9.heap.size, 8, none⟩ (.slice bR mR dR)) = v11 at hP qx_11 ks11  ⊢
          clear hw11
          (refine wsPlan_take rfl (fun K hK => ?_); replace hK := Lib.hid hK; go_simp; first | (refine hK.out _ ?_; clear hK K) | (apply Exists.intro; refine ⟨fun w' hw => ?_, hK.out _ ?_⟩; (first | with_reducible exact rfl | (have f1 := F1 w' hw; have f2 := F2 w' hw; have f3 := F3 w' hw; obtain ⟨r0, r1, r2, r3, r4, r5, r6, r7, r8⟩ := F4 w' hw; go_simp; exact rfl)); clear hK K))
          refine wsPlan_done ?_
          clear F1 F2 F3 F4
          have HA9 := Lib.hid qx_11
          have HP9 := Lib.hid hP
          have SP9 := Lib.hid ((hsep.later (KeepPS.of_below hb10)).later ks11)
          go_wp2_with fail
          go_meet
          exact ⟨_, aR, nR, cR, bR, mR, dR, rfl, rfl, HP9.out, hxx, HA9.out, SP9.out⟩
        · skip
          have hxx : W7.heap.size ≤ v8.heap.size := hP.size
          (refine wsPlan_only rfl (fun K hK => ?_); replace hK := Lib.hid hK; go_simp; refine hK.out _ _ (hP.alloc hP.size _) (fun hP => ?_); clear hK K)
          generalize hw12 : World.alloc v8 (Obj.cells #[.int .i64 0, .int .i64 0, .int .i64 0, .int .i64 0, .int .i64 0, .slice none 0 0, .int .i64 0, .int .i64 0, .slice none 0 0] 32) = v12 at hP ⊢
          obtain ⟨qx_12, hb12⟩ := box1 hw12.symm
          clear hw12
          have hzx := hb12.size
          have hyx := hP.size
          (refine wsPlan_only rfl (fun K hK => ?_); replace hK := Lib.hid hK; go_simp; go_at_call 141; (with_reducible refine (trone_raw m a b f (below_step B7.out hP) BOK.out (HA.out.later (below_step B7.out hP)) (HB.out.later (below_step B7.out hP)) FOK.out PF.out ONE.out).mono ?_); rintro z v13 ⟨aR, nR, cR, bR, mR, dR, rfl, hsep, hb13⟩; have hP1 := below_step hP hb13; refine hK.out _ _ hP1 (fun hP => ?_); clear hK K hP1)
          have qx_13 := block_later hb13 qx_12
          dsimp only [featV]
          (refine wsPlan_take rfl (fun K hK => ?_); replace hK := Lib.hid hK; go_simp; first | (refine hK.out _ ?_; clear hK K) | (apply Exists.intro; refine ⟨fun w' hw => ?_, hK.out _ ?_⟩; (first | with_reducible exact rfl | (have f1 := F1 w' hw; have f2 := F2 w' hw; have f3 := F3 w' hw; obtain ⟨r0, r1, r2, r3, r4, r5, r6, r7, r8⟩ := F4 w' hw; go_simp; exact rfl)); clear hK K))
          (refine wsPlan_take rfl (fun K hK => ?_); replace hK := Lib.hid hK; go_simp; first | (refine hK.out _ ?_; clear hK K) | (apply Exists.intro; refine ⟨fun w' hw => ?_, hK.out _ ?_⟩; (first | with_reducible exact rfl | (have f1 := F1 w' hw; have f2 := F2 w' hw; have f3 := F3 w' hw; obtain ⟨r0, r1, r2, r3, r4, r5, r6, r7, r8⟩ := F4 w' hw; go_simp; exact rfl)); clear hK K))
          (refine wsPlan_take rfl (fun K hK => ?_); replace hK := Lib.hid hK; go_simp; first | (refine hK.out _ ?_; clear hK K) | (apply Exists.intro; refine ⟨fun w' hw => ?_, hK.out _ ?_⟩; (first | with_reducible exact rfl | (have f1 := F1 w' hw; have f2 := F2 w' hw; have f3 := F3 w' hw; obtain ⟨r0, r1, r2, r3, r4, r5, r6, r7, r8⟩ := F4 w' hw; go_simp; exact rfl)); clear hK K))
          have f9 := free_block qx_13
          have c9 := cell_block qx_13
          (refine wsPlan_only rfl (fun K hK => ?_); replace hK := Lib.hid hK; go_simp; refine hK.out _ _ (by with_reducible exact (setQ (setQ (setQ (setQ (setQ (setQ (setQ (setQ (setQ hP hxx _) hxx _) hxx _) hxx _) hxx _) hxx _) hxx _) hxx _) hxx _)) (fun hP => ?_); clear hK K f9 c9)
          have qx_14 := feat_store qx_13 (.int .i64 y.id) (.int .i64 y.kind) (.int .i64 y.x) (.int .i64 y.y) (.int .i64 y.rad) (.slice aR nR cR) (.int .i64 y.dep) (.int .i64 y.sym) (.slice bR mR dR)
          have ks14 := KeepPS.nine (lo := w.heap.size) (by omega) qx_13 (by decide) (by decide) (.int .i64 y.id) (.int .i64 y.kind) (.int .i64 y.x) (.int .i64 y.y) (.int .i64 y.rad) (.slice aR nR cR) (.int .i64 y.dep) (.int .i64 y.sym) (.slice bR mR dR)
          generalize hw14 : (World.setCell (World.setCell (World.setCell (World.setCell (World.setCell (World.setCell (World.setCell (World.setCell (World.setCell v13 ⟨v8.heap.size, 0, none⟩ (.int .i64 y.id)) ⟨v8.heap.size, 1, none⟩ (.int .i64 y.kind)) ⟨v8.heap.size, 2, none⟩ (.int .i64 y.x)) ⟨v8.heap.size, 3, none⟩ (.int .i64 y.y)) ⟨v8.heap.size, 4, none⟩ (.int .i64 y.rad)) ⟨v8.heap.size, 5, none⟩ (.slice aR nR cR)) ⟨v8.heap.size, 6, none⟩ (.int .i64 y.dep)) ⟨v8.heap.size, 7, none⟩ (.int .i64 y.sym)) ⟨v8.heap.size, 8, none⟩ (.slice bR mR dR)) = v14 at hP qx_14 ks14  ⊢
          clear hw14
          (refine wsPlan_take rfl (fun K hK => ?_); replace hK := Lib.hid hK; go_simp; first | (refine hK.out _ ?_; clear hK K) | (apply Exists.intro; refine ⟨fun w' hw => ?_, hK.out _ ?_⟩; (first | with_reducible exact rfl | (have f1 := F1 w' hw; have f2 := F2 w' hw; have f3 := F3 w' hw; obtain ⟨r0, r1, r2, r3, r4, r5, r6, r7, r8⟩ := F4 w' hw; go_simp; exact rfl)); clear hK K))
          refine wsPlan_done ?_
          clear F1 F2 F3 F4
          have HA9 := Lib.hid qx_14
          have HP9 := Lib.hid hP
          have SP9 := Lib.hid (hsep.later ks14)
          go_wp2_with fail
          go_meet
          exact ⟨_, aR, nR, cR, bR, mR, dR, rfl, rfl, HP9.out, hxx, HA9.out, SP9.out⟩
      case rest =>
        obtain ⟨g21, aR, nR, cR, bR, mR, dR, rfl, rfl, hb8, hg21, hp21, hsep⟩ := hcut
        obtain ⟨W8, rfl⟩ : ∃ x, x = wc := ⟨_, rfl⟩
        by_cases he : e = 0
        rotate_left
        · have d1 : (e != 0) = true := by simpa using he
          have HE := Lib.hid ((opsR_err BOK.out AP.out (ERR.out _ ((opD_car CAR.out LOOK.out).trans (by rw [one_bad ONE.out he])))).symm.trans HR.out)
          clear he
          go_wp2_with fail
          go_ret2
          exact ops_give (r' := []) HE.out rfl (ops_nil _) (below_step B7.out hb8)
        subst he
        have HOD := Lib.hid (oneR_zero ONE.out)
        have SEP := Lib.hid hsep
        have HB8 := Lib.hid hb8
        have Y8 := Lib.hid (below_step Y7.out hb8)
        have P8 := Lib.hid (block_later hb8 P7.out)
        have Q8 := Lib.hid hp21
        have c8 := cell_block P8.out
        have c9 := cell_block Q8.out
        have f8 := free_block P8.out
        have hlw : w.heap.size ≤ wr.heap.size := by omega
        clear hsep hb8 hp21
        go_wp2_with fail
        have G1 : ∀ w', KeepB W8 wr.heap.size [g21] w' → ∀ i, w'.cell? ⟨g21, i, none⟩ = #[.int .i64 y.id, .int .i64 y.kind, .int .i64 y.x, .int .i64 y.y, .int .i64 y.rad, .slice aR nR cR, .int .i64 y.dep, .int .i64 y.sym, .slice bR mR dR][i]? := fun w' hw i => cell_block (hw.at (by simp) Q8.out) i
        refine wp_region_planS (KeepB W8 wr.heap.size [g21]) (.take 0 (.take 0 (.take 0 (.take 0 (.take 0 (.only 0 (.take 0 (.only 0 .done)))))))) (by kernel_rfl) (by kernel_rfl) KeepB.refl (fun hP => ?_)
        generalize hdr : W8.drew = v99 at hP ⊢
        have D99 : v99.heap = W8.heap := by rw [← hdr]; rfl
        have B99 : Below W8.heap.size W8 v99 := by rw [← hdr]; exact (Below.refl _ _).drew
        clear hdr
        have P99 : Hid (v99.heap[wr.heap.size]? = _) := Lib.hid ((congrArg (fun h => h[wr.heap.size]?) D99).trans P8.out)
        have hl6 := lt_block P6.out
        have hgne : wr.heap.size ≠ g21 := by omega
        have f99 := free_block P99.out
        have c99 := cell_block P99.out
        (refine wsPlan_take rfl (fun K hK => ?_); replace hK := Lib.hid hK; go_simp; first | (refine hK.out _ ?_; clear hK K) | (apply Exists.intro; refine ⟨fun w' hw => ?_, hK.out _ ?_⟩; (first | with_reducible exact rfl | (have g1 := G1 w' hw; go_simp; exact rfl)); clear hK K))
        (refine wsPlan_take rfl (fun K hK => ?_); replace hK := Lib.hid hK; go_simp; first | (refine hK.out _ ?_; clear hK K) | (apply Exists.intro; refine ⟨fun w' hw => ?_, hK.out _ ?_⟩; (first | with_reducible exact rfl | (have g1 := G1 w' hw; go_simp; exact rfl)); clear hK K))
        (refine wsPlan_take rfl (fun K hK => ?_); replace hK := Lib.hid hK; go_simp; first | (refine hK.out _ ?_; clear hK K) | (apply Exists.intro; refine ⟨fun w' hw => ?_, hK.out _ ?_⟩; (first | with_reducible exact rfl | (have g1 := G1 w' hw; go_simp; exact rfl)); clear hK K))
        (refine wsPlan_take rfl (fun K hK => ?_); replace hK := Lib.hid hK; go_simp; first | (refine hK.out _ ?_; clear hK K) | (apply Exists.intro; refine ⟨fun w' hw => ?_, hK.out _ ?_⟩; (first | with_reducible exact rfl | (have g1 := G1 w' hw; go_simp; exact rfl)); clear hK K))
        (refine wsPlan_take rfl (fun K hK => ?_); replace hK := Lib.hid hK; go_simp; first | (refine hK.out _ ?_; clear hK K) | (apply Exists.intro; refine ⟨fun w' hw => ?_, hK.out _ ?_⟩; (first | with_reducible exact rfl | (have g1 := G1 w' hw; go_simp; exact rfl)); clear hK K))
        (refine wsPlan_only rfl (fun K hK => ?_); replace hK := Lib.hid hK; go_simp; refine hK.out _ _ (by exact ((hP.setCell (by omega) (by simp <;> omega) _).setCell (by omega) (by simp <;> omega) _)) (fun hP => ?_); clear hK K)
        (refine wsPlan_take rfl (fun K hK => ?_); replace hK := Lib.hid hK; go_simp; first | (refine hK.out _ ?_; clear hK K) | (apply Exists.intro; refine ⟨fun w' hw => ?_, hK.out _ ?_⟩; (first | with_reducible exact rfl | (have g1 := G1 w' hw; go_simp; exact rfl)); clear hK K))
        have cA := cell_block (block_set (i := 12) (block_set (i := 11) P99.out (.int .i64 y.x)) (.int .i64 y.y))
        have fA := free_block (block_set (i := 12) (block_set (i := 11) P99.out (.int .i64 y.x)) (.int .i64 y.y))
        (refine wsPlan_only rfl (fun K hK => ?_); replace hK := Lib.hid hK; go_simp; refine hK.out _ _ (by exact (hP.setCell (by omega) (by simp <;> omega) _)) (fun hP => ?_); clear hK K)
        refine wsPlan_done ?_
        have SET0 := opSetM P99.out (.int .i64 y.x) (.int .i64 y.y) (.int .i64 y.rad)
        obtain ⟨Wst, hWst⟩ : ∃ W, W = (((v99.setCell ⟨wr.heap.size, 11, none⟩ (.int .i64 y.x)).setCell ⟨wr.heap.size, 12, none⟩ (.int .i64 y.y)).setCell ⟨wr.heap.size, 13, none⟩ (.int .i64 y.rad)) := ⟨_, rfl⟩
        rw [← hWst] at SET0
        have SET := Lib.hid SET0
        have HWS := Lib.hid hWst
        clear SET0 hWst
        have OD : opD m a.marks b.marks x' p = .ok ({ p with x := y.x, y := y.y, rad := y.rad }) := by
          rw [opD_car CAR.out LOOK.out, HOD.out]
          exact congrArg Except.ok ((if_neg (by rw [KK.out]; decide)).trans (if_pos KK.out))
        have OKN := Lib.hid (OKK.out _ OD)
        clear OD
        obtain ⟨items, hi1, hi2, hi3⟩ := OW.out
        have HI1 := Lib.hid hi1
        have HI2 := Lib.hid hi2
        have HI3 := Lib.hid hi3
        have LI : Hid (items.length = k) := Lib.hid (by rw [← LEN.out, ← hi1, List.length_map])
        have XB := Lib.hid (SET.out.2.2 _ _ (below_step Y8.out B99) (Nat.le_refl _))
        have XF : Hid (KeepF w.heap.size w6 Wst) := Lib.hid ((KeepF.of_below (below_step (below_step Z7.out HB8.out) B99)).trans (keepF_ho hlw P99.out (by decide) SET.out.2.1))
        have PS : Hid (PartsSep w.heap.size Wst ({ p with x := y.x, y := y.y, rad := y.rad }).feat (.slice ea na ca) (.slice eb nb cb)) := Lib.hid (((PartsSep.low PA.out (below_step BWR.out (below_step Y8.out B99)))).later (keepPS_ho hlw P99.out (by decide) (by decide) SET.out.2.1))
        have hsX := XB.out.size
        clear hi1 hi2 hi3
        go_wp2_with (first
          | (rw [← HWS.out]; (refine wpList_load_row rfl 34 (.tmp 19) rfl wr.heap.size rfl _ _ _ _ SET.out.1 Tryz.underlying34 rfl (by kernel_rfl) ?_))
          | (at_builtin; (generalize hwn : World.alloc _ _ = wA; obtain ⟨pA, hbA⟩ := box1 hwn.symm; clear hwn; have hbX := below_step XB.out hbA; have hsA := hbX.size; have SEPA := Lib.hid (PS.out.later (KeepPS.of_below hbA)); refine wpList_appT opCells_len (by omega) Tryz.underlying23 info_op rfl rfl _ _ rfl W4.heap.size _ items [(({ p with x := y.x, y := y.y, rad := y.rad }), (.slice ea na ca), (.slice eb nb cb))] rfl (own_keep HI2.out hbX) _ 1 1 rfl rfl (SrcAt.one pA rfl) (by intro u hu; simp only [List.flatMap_cons, List.flatMap_nil, List.append_nil] at hu; exact opCells_one SEPA.out.parts u hu) (by rw [LI.out]) (by unfold maxLen; omega) (by omega) (by omega) ?_; intro ad3 c3 w9 hown3 hg3 hb3)))
        have HX := Lib.hid hbX
        have HO3 := Lib.hid hown3
        have HB3 := Lib.hid hb3
        have HG3 : Hid (KeepPS w.heap.size wA w9) := Lib.hid (KeepPS.grown (own_keep HI2.out hbX) hg3 (by omega) (by decide) (by decide))
        have HF3 : Hid (KeepF w.heap.size wA w9) := Lib.hid (KeepF.grown (own_keep HI2.out hbX) hg3 (by omega) (by decide))
        have HAF : Hid (KeepF w.heap.size Wst wA) := Lib.hid (KeepF.of_below hbA)
        clear hown3 hg3 hb3 hbX pA hbA
        go_wp2_with fail
        go_roundw
        case rel => exact ⟨k + 1, x', _, cs6, ad3, c3, r' ++ [{ p with x := y.x, y := y.y, rad := y.rad }], by omega, by go_num, by rw [LN6.out], rfl, OKN.out, by rw [LN6.out]; exact ((ST6.out.later XF.out).later HAF.out).later HF3.out, ⟨items ++ [(({ p with x := y.x, y := y.y, rad := y.rad }), (.slice ea na ca), (.slice eb nb cb))], by rw [List.map_append, HI1.out]; rfl, HO3.out, fun z hz => by
          rcases List.mem_append.1 hz with hz | hz
          · exact ((HI3.out z hz).later (KeepPS.of_below HX.out)).later HG3.out
          · obtain rfl : z = (({ p with x := y.x, y := y.y, rad := y.rad }), (.slice ea na ca), (.slice eb nb cb)) := by simpa using hz
            exact SEPA.out.later HG3.out⟩, BR.out.trans ((HX.out.mono hsr).trans HB3.out)⟩
        case measure => simp [Go.RowKit.intOf]; omega
    · skip
      have KK := Lib.hid h5
      have n1 : (p.kind == 1) = false := by rw [h5]; rfl
      have n3 : (p.kind == 3) = false := by rw [h5]; rfl
      have n5 : (p.kind == 5) = true := by simpa using h5
      clear h5
      clear kk
      go_wp2_with fail
      (with_reducible refine (ifFeat_at x' _ _ _ p.id _ (ST6.out.two B6.out (KeepF.refl _ _)).at P6.out rfl hq (by rw [QF.out]; exact FID.out) QN.out).mono ?_)
      rintro e w7 ⟨rfl, hb7⟩
      have Z7 := Lib.hid hb7
      have Y7 := Lib.hid (below_step Y6.out hb7)
      have B7 := Lib.hid (below_step BWR.out Y7.out)
      have P7 := Lib.hid (block_later hb7 P6.out)
      have FC7 := Lib.hid (FC.out.later hb7)
      have hs7 := hb7.size
      clear hb7 cp
      go_wp2_with fail
      obtain ⟨W7, rfl⟩ : ∃ W : World, W = w7 := ⟨_, rfl⟩
      have q0 := block_later (below_step X4.out (below_step BR.out Y7.out)) P0.out
      have q1 := block_later (below_step X4.out (below_step BR.out Y7.out)) P1.out
      have q2 := block_later (below_step X4.out (below_step BR.out Y7.out)) P2.out
      have q4 := block_later (below_step BR.out Y7.out) P4.out
      have F1 : ∀ w', Below W7.heap.size W7 w' → ∀ i, w'.cell? ⟨w.heap.size + 1, i, none⟩ = #[.int .i64 a.office, .slice aa1 a.marks.length ca1][i]? := fun w' hw i => cell_block (block_later hw q1) i
      have F2 : ∀ w', Below W7.heap.size W7 w' → ∀ i, w'.cell? ⟨w.heap.size + 2, i, none⟩ = #[.int .i64 b.office, .slice ab1 b.marks.length cb1][i]? := fun w' hw i => cell_block (block_later hw q2) i
      have F3 : ∀ w', Below W7.heap.size W7 w' → ∀ i, w'.cell? ⟨w3.heap.size, i, none⟩ = #[.int .i64 m.a, .int .i64 m.b, .int .i64 m.c, .int .i64 m.d, .int .i64 m.e, .int .i64 m.f, .int .i64 m.r, .int .i64 (stretchD m), .int .i64 (shrinkD m), .int .i64 (slackD m)][i]? := fun w' hw i => cell_block (block_later hw q4) i
      have F4 : ∀ w', Below W7.heap.size W7 w' → w'.cell? ⟨g, o + q * 9, none⟩ = some (.int .i64 f.id) ∧ w'.cell? ⟨g, o + q * 9 + 1, none⟩ = some (.int .i64 f.kind) ∧ w'.cell? ⟨g, o + q * 9 + 2, none⟩ = some (.int .i64 f.x) ∧ w'.cell? ⟨g, o + q * 9 + 3, none⟩ = some (.int .i64 f.y) ∧ w'.cell? ⟨g, o + q * 9 + 4, none⟩ = some (.int .i64 f.rad) ∧ w'.cell? ⟨g, o + q * 9 + 5, none⟩ = some (.slice fa1 fn1 fc1) ∧ w'.cell? ⟨g, o + q * 9 + 6, none⟩ = some (.int .i64 f.dep) ∧ w'.cell? ⟨g, o + q * 9 + 7, none⟩ = some (.int .i64 f.sym) ∧ w'.cell? ⟨g, o + q * 9 + 8, none⟩ = some (.slice fa2 fn2 fc2) := fun w' hw => by
        have h := FC7.out.later hw
        exact ⟨h.c0, h.c1, h.c2, h.c3, h.c4, h.c5, h.c6, h.c7, h.c8⟩
      clear q0 q1 q2 q4
      obtain ⟨y, e, hx⟩ : ∃ (x : Feat) (e : Int), oneR m a.marks b.marks f = (x, e) := ⟨_, _, rfl⟩
      have ONE := Lib.hid hx
      clear hx
      go_cut [21, 22] from 75 to 85 (fun s21 s22 wx => ∃ (g21 : Nat) (aR : Option Addr) (nR cR : Nat) (bR : Option Addr) (mR dR : Nat), s21 = .pointer (some ⟨g21, 0, none⟩) ∧ s22 = .int .i64 e ∧ Below W7.heap.size W7 wx ∧ W7.heap.size ≤ g21 ∧ wx.heap[g21]? = some (.cells #[.int .i64 y.id, .int .i64 y.kind, .int .i64 y.x, .int .i64 y.y, .int .i64 y.rad, .slice aR nR cR, .int .i64 y.dep, .int .i64 y.sym, .slice bR mR dR] 32 (0, 0)) ∧ PartsSep w.heap.size wx y (.slice aR nR cR) (.slice bR mR dR))
      case first =>
        refine wp_region_planS (Below W7.heap.size W7) (.take 0 (.take 0 (.take 0 (.take 0 (.take 0 (.take 0 (.take 0 (.two 0 (.take 0 (.take 0 (.take 0 (.only 0 (.only 0 (.take 0 .done)))))) 4 (.only 0 (.take 0 (.take 0 (.take 0 (.only 0 (.take 0 .done)))))))))))))) (by kernel_rfl) (by kernel_rfl) (Below.refl _ _).drew (fun hP => ?_)
        generalize hdr : W7.drew = v15 at hP ⊢
        clear hdr
        (refine wsPlan_take rfl (fun K hK => ?_); replace hK := Lib.hid hK; go_simp; first | (refine hK.out _ ?_; clear hK K) | (apply Exists.intro; refine ⟨fun w' hw => ?_, hK.out _ ?_⟩; (first | with_reducible exact rfl | (have f1 := F1 w' hw; have f2 := F2 w' hw; have f3 := F3 w' hw; obtain ⟨r0, r1, r2, r3, r4, r5, r6, r7, r8⟩ := F4 w' hw; go_simp; exact rfl)); clear hK K))
        (refine wsPlan_take rfl (fun K hK => ?_); replace hK := Lib.hid hK; go_simp; first | (refine hK.out _ ?_; clear hK K) | (apply Exists.intro; refine ⟨fun w' hw => ?_, hK.out _ ?_⟩; (first | with_reducible exact rfl | (have f1 := F1 w' hw; have f2 := F2 w' hw; have f3 := F3 w' hw; obtain ⟨r0, r1, r2, r3, r4, r5, r6, r7, r8⟩ := F4 w' hw; go_simp; exact rfl)); clear hK K))
        (refine wsPlan_take rfl (fun K hK => ?_); replace hK := Lib.hid hK; go_simp; first | (refine hK.out _ ?_; clear hK K) | (apply Exists.intro; refine ⟨fun w' hw => ?_, hK.out _ ?_⟩; (first | with_reducible exact rfl | (have f1 := F1 w' hw; have f2 := F2 w' hw; have f3 := F3 w' hw; obtain ⟨r0, r1, r2, r3, r4, r5, r6, r7, r8⟩ := F4 w' hw; go_simp; exact rfl)); clear hK K))
        (refine wsPlan_take rfl (fun K hK => ?_); replace hK := Lib.hid hK; go_simp; first | (refine hK.out _ ?_; clear hK K) | (apply Exists.intro; refine ⟨fun w' hw => ?_, hK.out _ ?_⟩; (first | with_reducible exact rfl | (have f1 := F1 w' hw; have f2 := F2 w' hw; have f3 := F3 w' hw; obtain ⟨r0, r1, r2, r3, r4, r5, r6, r7, r8⟩ := F4 w' hw; go_simp; exact rfl)); clear hK K))
        (refine wsPlan_take rfl (fun K hK => ?_); replace hK := Lib.hid hK; go_simp; first | (refine hK.out _ ?_; clear hK K) | (apply Exists.intro; refine ⟨fun w' hw => ?_, hK.out _ ?_⟩; (first | with_reducible exact rfl | (have f1 := F1 w' hw; have f2 := F2 w' hw; have f3 := F3 w' hw; obtain ⟨r0, r1, r2, r3, r4, r5, r6, r7, r8⟩ := F4 w' hw; go_simp; exact rfl)); clear hK K))
        (refine wsPlan_take rfl (fun K hK => ?_); replace hK := Lib.hid hK; go_simp; first | (refine hK.out _ ?_; clear hK K) | (apply Exists.intro; refine ⟨fun w' hw => ?_, hK.out _ ?_⟩; (first | with_reducible exact rfl | (have f1 := F1 w' hw; have f2 := F2 w' hw; have f3 := F3 w' hw; obtain ⟨r0, r1, r2, r3, r4, r5, r6, r7, r8⟩ := F4 w' hw; go_simp; exact rfl)); clear hK K))
        (refine wsPlan_take rfl (fun K hK => ?_); replace hK := Lib.hid hK; go_simp; first | (refine hK.out _ ?_; clear hK K) | (apply Exists.intro; refine ⟨fun w' hw => ?_, hK.out _ ?_⟩; (first | with_reducible exact rfl | (have f1 := F1 w' hw; have f2 := F2 w' hw; have f3 := F3 w' hw; obtain ⟨r0, r1, r2, r3, r4, r5, r6, r7, r8⟩ := F4 w' hw; go_simp; exact rfl)); clear hK K))
        refine wsPlan_two ?_ ?_
        · skip
          (refine wsPlan_only rfl (fun K hK => ?_); replace hK := Lib.hid hK; go_simp; go_at_call 141; (with_reducible refine (trone_raw m a b f (below_step B7.out hP) BOK.out (HA.out.later (below_step B7.out hP)) (HB.out.later (below_step B7.out hP)) FOK.out PF.out ONE.out).mono ?_); rintro z v16 ⟨aR, nR, cR, bR, mR, dR, rfl, hsep, hb16⟩; have hP1 := below_step hP hb16; refine hK.out _ _ hP1 (fun hP => ?_); clear hK K hP1)
          dsimp only [featV]
          (refine wsPlan_take rfl (fun K hK => ?_); replace hK := Lib.hid hK; go_simp; first | (refine hK.out _ ?_; clear hK K) | (apply Exists.intro; refine ⟨fun w' hw => ?_, hK.out _ ?_⟩; (first | with_reducible exact rfl | (have f1 := F1 w' hw; have f2 := F2 w' hw; have f3 := F3 w' hw; obtain ⟨r0, r1, r2, r3, r4, r5, r6, r7, r8⟩ := F4 w' hw; go_simp; exact rfl)); clear hK K))
          (refine wsPlan_take rfl (fun K hK => ?_); replace hK := Lib.hid hK; go_simp; first | (refine hK.out _ ?_; clear hK K) | (apply Exists.intro; refine ⟨fun w' hw => ?_, hK.out _ ?_⟩; (first | with_reducible exact rfl | (have f1 := F1 w' hw; have f2 := F2 w' hw; have f3 := F3 w' hw; obtain ⟨r0, r1, r2, r3, r4, r5, r6, r7, r8⟩ := F4 w' hw; go_simp; exact rfl)); clear hK K))
          (refine wsPlan_take rfl (fun K hK => ?_); replace hK := Lib.hid hK; go_simp; first | (refine hK.out _ ?_; clear hK K) | (apply Exists.intro; refine ⟨fun w' hw => ?_, hK.out _ ?_⟩; (first | with_reducible exact rfl | (have f1 := F1 w' hw; have f2 := F2 w' hw; have f3 := F3 w' hw; obtain ⟨r0, r1, r2, r3, r4, r5, r6, r7, r8⟩ := F4 w' hw; go_simp; exact rfl)); clear hK K))
          have hxx : W7.heap.size ≤ v16.heap.size := hP.size
          (refine wsPlan_only rfl (fun K hK => ?_); replace hK := Lib.hid hK; go_simp; refine hK.out _ _ (hP.alloc hP.size _) (fun hP => ?_); clear hK K)
          generalize hw17 : World.alloc v16 (Obj.cells #[.int .i64 0, .int .i64 0, .int .i64 0, .int .i64 0, .int .i64 0, .slice none 0 0, .int .i64 0, .int .i64 0, .slice none 0 0] 32) = v17 at hP ⊢
          obtain ⟨qx_17, hb17⟩ := box1 hw17.symm
          clear hw17
          have hzx := hb17.size
          have hyx := hP.size
          have f9 := free_block qx_17
          have c9 := cell_block qx_17
          (refine wsPlan_only rfl (fun K hK => ?_); replace hK := Lib.hid hK; go_simp; refine hK.out _ _ (by with_reducible exact (setQ (setQ (setQ (setQ (setQ (setQ (setQ (setQ (setQ hP hxx _) hxx _) hxx _) hxx _) hxx _) hxx _) hxx _) hxx _) hxx _)) (fun hP => ?_); clear hK K f9 c9)
          have qx_18 := feat_store qx_17 (.int .i64 y.id) (.int .i64 y.kind) (.int .i64 y.x) (.int .i64 y.y) (.int .i64 y.rad) (.slice aR nR cR) (.int .i64 y.dep) (.int .i64 y.sym) (.slice bR mR dR)
          have ks18 := KeepPS.nine (lo := w.heap.size) (by omega) qx_17 (by decide) (by decide) (.int .i64 y.id) (.int .i64 y.kind) (.int .i64 y.x) (.int .i64 y.y) (.int .i64 y.rad) (.slice aR nR cR) (.int .i64 y.dep) (.int .i64 y.sym) (.slice bR mR dR)
          generalize hw18 : (World.setCell (World.setCell (World.setCell (World.setCell (World.setCell (World.setCell (World.setCell (World.setCell (World.setCell v17 ⟨v16.heap.size, 0, none⟩ (.int .i64 y.id)) ⟨v16.heap.size, 1, none⟩ (.int .i64 y.kind)) ⟨v16.heap.size, 2, none⟩ (.int .i64 y.x)) ⟨v16.heap.size, 3, none⟩ (.int .i64 y.y)) ⟨v16.heap.size, 4, none⟩ (.int .i64 y.rad)) ⟨v16.heap.size, 5, none⟩ (.slice aR nR cR)) ⟨v16.heap.size, 6, none⟩ (.int .i64 y.dep)) ⟨v16.heap.size, 7, none⟩ (.int .i64 y.sym)) ⟨v16.heap.size, 8, none⟩ (.slice bR mR dR)) = v18 at hP qx_18 ks18  ⊢
          clear hw18
          (refine wsPlan_take rfl (fun K hK => ?_); replace hK := Lib.hid hK; go_simp; first | (refine hK.out _ ?_; clear hK K) | (apply Exists.intro; refine ⟨fun w' hw => ?_, hK.out _ ?_⟩; (first | with_reducible exact rfl | (have f1 := F1 w' hw; have f2 := F2 w' hw; have f3 := F3 w' hw; obtain ⟨r0, r1, r2, r3, r4, r5, r6, r7, r8⟩ := F4 w' hw; go_simp; exact rfl)); clear hK K))
          refine wsPlan_done ?_
          clear F1 F2 F3 F4
          have HA9 := Lib.hid qx_18
          have HP9 := Lib.hid hP
          have SP9 := Lib.hid ((hsep.later (KeepPS.of_below hb17)).later ks18)
          go_wp2_with fail
          go_meet
          exact ⟨_, aR, nR, cR, bR, mR, dR, rfl, rfl, HP9.out, hxx, HA9.out, SP9.out⟩
        · skip
          have hxx : W7.heap.size ≤ v15.heap.size := hP.size
          (refine wsPlan_only rfl (fun K hK => ?_); replace hK := Lib.hid hK; go_simp; refine hK.out _ _ (hP.alloc hP.size _) (fun hP => ?_); clear hK K)
          generalize hw19 : World.alloc v15 (Obj.cells #[.int .i64 0, .int .i64 0, .int .i64 0, .int .i64 0, .int .i64 0, .slice none 0 0, .int .i64 0, .int .i64 0, .slice none 0 0] 32) = v19 at hP ⊢
          obtain ⟨qx_19, hb19⟩ := box1 hw19.symm
          clear hw19
          have hzx := hb19.size
          have hyx := hP.size
          (refine wsPlan_only rfl (fun K hK => ?_); replace hK := Lib.hid hK; go_simp; go_at_call 141; (with_reducible refine (trone_raw m a b f (below_step B7.out hP) BOK.out (HA.out.later (below_step B7.out hP)) (HB.out.later (below_step B7.out hP)) FOK.out PF.out ONE.out).mono ?_); rintro z v20 ⟨aR, nR, cR, bR, mR, dR, rfl, hsep, hb20⟩; have hP1 := below_step hP hb20; refine hK.out _ _ hP1 (fun hP => ?_); clear hK K hP1)
          have qx_20 := block_later hb20 qx_19
          dsimp only [featV]
          (refine wsPlan_take rfl (fun K hK => ?_); replace hK := Lib.hid hK; go_simp; first | (refine hK.out _ ?_; clear hK K) | (apply Exists.intro; refine ⟨fun w' hw => ?_, hK.out _ ?_⟩; (first | with_reducible exact rfl | (have f1 := F1 w' hw; have f2 := F2 w' hw; have f3 := F3 w' hw; obtain ⟨r0, r1, r2, r3, r4, r5, r6, r7, r8⟩ := F4 w' hw; go_simp; exact rfl)); clear hK K))
          (refine wsPlan_take rfl (fun K hK => ?_); replace hK := Lib.hid hK; go_simp; first | (refine hK.out _ ?_; clear hK K) | (apply Exists.intro; refine ⟨fun w' hw => ?_, hK.out _ ?_⟩; (first | with_reducible exact rfl | (have f1 := F1 w' hw; have f2 := F2 w' hw; have f3 := F3 w' hw; obtain ⟨r0, r1, r2, r3, r4, r5, r6, r7, r8⟩ := F4 w' hw; go_simp; exact rfl)); clear hK K))
          (refine wsPlan_take rfl (fun K hK => ?_); replace hK := Lib.hid hK; go_simp; first | (refine hK.out _ ?_; clear hK K) | (apply Exists.intro; refine ⟨fun w' hw => ?_, hK.out _ ?_⟩; (first | with_reducible exact rfl | (have f1 := F1 w' hw; have f2 := F2 w' hw; have f3 := F3 w' hw; obtain ⟨r0, r1, r2, r3, r4, r5, r6, r7, r8⟩ := F4 w' hw; go_simp; exact rfl)); clear hK K))
          have f9 := free_block qx_20
          have c9 := cell_block qx_20
          (refine wsPlan_only rfl (fun K hK => ?_); replace hK := Lib.hid hK; go_simp; refine hK.out _ _ (by with_reducible exact (setQ (setQ (setQ (setQ (setQ (setQ (setQ (setQ (setQ hP hxx _) hxx _) hxx _) hxx _) hxx _) hxx _) hxx _) hxx _) hxx _)) (fun hP => ?_); clear hK K f9 c9)
          have qx_21 := feat_store qx_20 (.int .i64 y.id) (.int .i64 y.kind) (.int .i64 y.x) (.int .i64 y.y) (.int .i64 y.rad) (.slice aR nR cR) (.int .i64 y.dep) (.int .i64 y.sym) (.slice bR mR dR)
          have ks21 := KeepPS.nine (lo := w.heap.size) (by omega) qx_20 (by decide) (by decide) (.int .i64 y.id) (.int .i64 y.kind) (.int .i64 y.x) (.int .i64 y.y) (.int .i64 y.rad) (.slice aR nR cR) (.int .i64 y.dep) (.int .i64 y.sym) (.slice bR mR dR)
          generalize hw21 : (World.setCell (World.setCell (World.setCell (World.setCell (World.setCell (World.setCell (World.setCell (World.setCell (World.setCell v20 ⟨v15.heap.size, 0, none⟩ (.int .i64 y.id)) ⟨v15.heap.size, 1, none⟩ (.int .i64 y.kind)) ⟨v15.heap.size, 2, none⟩ (.int .i64 y.x)) ⟨v15.heap.size, 3, none⟩ (.int .i64 y.y)) ⟨v15.heap.size, 4, none⟩ (.int .i64 y.rad)) ⟨v15.heap.size, 5, none⟩ (.slice aR nR cR)) ⟨v15.heap.size, 6, none⟩ (.int .i64 y.dep)) ⟨v15.heap.size, 7, none⟩ (.int .i64 y.sym)) ⟨v15.heap.size, 8, none⟩ (.slice bR mR dR)) = v21 at hP qx_21 ks21  ⊢
          clear hw21
          (refine wsPlan_take rfl (fun K hK => ?_); replace hK := Lib.hid hK; go_simp; first | (refine hK.out _ ?_; clear hK K) | (apply Exists.intro; refine ⟨fun w' hw => ?_, hK.out _ ?_⟩; (first | with_reducible exact rfl | (have f1 := F1 w' hw; have f2 := F2 w' hw; have f3 := F3 w' hw; obtain ⟨r0, r1, r2, r3, r4, r5, r6, r7, r8⟩ := F4 w' hw; go_simp; exact rfl)); clear hK K))
          refine wsPlan_done ?_
          clear F1 F2 F3 F4
          have HA9 := Lib.hid qx_21
          have HP9 := Lib.hid hP
          have SP9 := Lib.hid (hsep.later ks21)
          go_wp2_with fail
          go_meet
          exact ⟨_, aR, nR, cR, bR, mR, dR, rfl, rfl, HP9.out, hxx, HA9.out, SP9.out⟩
      case rest =>
        obtain ⟨g21, aR, nR, cR, bR, mR, dR, rfl, rfl, hb8, hg21, hp21, hsep⟩ := hcut
        obtain ⟨W8, rfl⟩ : ∃ x, x = wc := ⟨_, rfl⟩
        by_cases he : e = 0
        rotate_left
        · have d1 : (e != 0) = true := by simpa using he
          have HE := Lib.hid ((opsR_err BOK.out AP.out (ERR.out _ ((opD_car CAR.out LOOK.out).trans (by rw [one_bad ONE.out he])))).symm.trans HR.out)
          clear he
          go_wp2_with fail
          go_ret2
          exact ops_give (r' := []) HE.out rfl (ops_nil _) (below_step B7.out hb8)
        subst he
        have HOD := Lib.hid (oneR_zero ONE.out)
        have SEP := Lib.hid hsep
        have HB8 := Lib.hid hb8
        have Y8 := Lib.hid (below_step Y7.out hb8)
        have P8 := Lib.hid (block_later hb8 P7.out)
        have Q8 := Lib.hid hp21
        have c8 := cell_block P8.out
        have c9 := cell_block Q8.out
        have f8 := free_block P8.out
        have hlw : w.heap.size ≤ wr.heap.size := by omega
        clear hsep hb8 hp21
        have SET0 := opSetS P8.out (.int .i64 y.sym)
        obtain ⟨Wst, hWst⟩ : ∃ W, W = (W8.setCell ⟨wr.heap.size, 15, none⟩ (.int .i64 y.sym)) := ⟨_, rfl⟩
        rw [← hWst] at SET0
        have SET := Lib.hid SET0
        have HWS := Lib.hid hWst
        clear SET0 hWst
        have OD : opD m a.marks b.marks x' p = .ok ({ p with sym := y.sym }) := by
          rw [opD_car CAR.out LOOK.out, HOD.out]
          exact congrArg Except.ok ((if_neg (by rw [KK.out]; decide)).trans (if_neg (by rw [KK.out]; decide)))
        have OKN := Lib.hid (OKK.out _ OD)
        clear OD
        obtain ⟨items, hi1, hi2, hi3⟩ := OW.out
        have HI1 := Lib.hid hi1
        have HI2 := Lib.hid hi2
        have HI3 := Lib.hid hi3
        have LI : Hid (items.length = k) := Lib.hid (by rw [← LEN.out, ← hi1, List.length_map])
        have XB := Lib.hid (SET.out.2.2 _ _ (Y8.out) (Nat.le_refl _))
        have XF : Hid (KeepF w.heap.size w6 Wst) := Lib.hid ((KeepF.of_below (below_step (below_step Z7.out HB8.out) (Below.refl _ _))).trans (keepF_ho hlw P8.out (by decide) SET.out.2.1))
        have PS : Hid (PartsSep w.heap.size Wst ({ p with sym := y.sym }).feat (.slice ea na ca) (.slice eb nb cb)) := Lib.hid (((PartsSep.low PA.out (below_step BWR.out (Y8.out)))).later (keepPS_ho hlw P8.out (by decide) (by decide) SET.out.2.1))
        have hsX := XB.out.size
        clear hi1 hi2 hi3
        go_wp2_with (first
          | (rw [← HWS.out]; (refine wpList_load_row rfl 34 (.tmp 19) rfl wr.heap.size rfl _ _ _ _ SET.out.1 Tryz.underlying34 rfl (by kernel_rfl) ?_))
          | (at_builtin; (generalize hwn : World.alloc _ _ = wA; obtain ⟨pA, hbA⟩ := box1 hwn.symm; clear hwn; have hbX := below_step XB.out hbA; have hsA := hbX.size; have SEPA := Lib.hid (PS.out.later (KeepPS.of_below hbA)); refine wpList_appT opCells_len (by omega) Tryz.underlying23 info_op rfl rfl _ _ rfl W4.heap.size _ items [(({ p with sym := y.sym }), (.slice ea na ca), (.slice eb nb cb))] rfl (own_keep HI2.out hbX) _ 1 1 rfl rfl (SrcAt.one pA rfl) (by intro u hu; simp only [List.flatMap_cons, List.flatMap_nil, List.append_nil] at hu; exact opCells_one SEPA.out.parts u hu) (by rw [LI.out]) (by unfold maxLen; omega) (by omega) (by omega) ?_; intro ad3 c3 w9 hown3 hg3 hb3)))
        have HX := Lib.hid hbX
        have HO3 := Lib.hid hown3
        have HB3 := Lib.hid hb3
        have HG3 : Hid (KeepPS w.heap.size wA w9) := Lib.hid (KeepPS.grown (own_keep HI2.out hbX) hg3 (by omega) (by decide) (by decide))
        have HF3 : Hid (KeepF w.heap.size wA w9) := Lib.hid (KeepF.grown (own_keep HI2.out hbX) hg3 (by omega) (by decide))
        have HAF : Hid (KeepF w.heap.size Wst wA) := Lib.hid (KeepF.of_below hbA)
        clear hown3 hg3 hb3 hbX pA hbA
        go_wp2_with fail
        go_roundw
        case rel => exact ⟨k + 1, x', _, cs6, ad3, c3, r' ++ [{ p with sym := y.sym }], by omega, by go_num, by rw [LN6.out], rfl, OKN.out, by rw [LN6.out]; exact ((ST6.out.later XF.out).later HAF.out).later HF3.out, ⟨items ++ [(({ p with sym := y.sym }), (.slice ea na ca), (.slice eb nb cb))], by rw [List.map_append, HI1.out]; rfl, HO3.out, fun z hz => by
          rcases List.mem_append.1 hz with hz | hz
          · exact ((HI3.out z hz).later (KeepPS.of_below HX.out)).later HG3.out
          · obtain rfl : z = (({ p with sym := y.sym }), (.slice ea na ca), (.slice eb nb cb)) := by simpa using hz
            exact SEPA.out.later HG3.out⟩, BR.out.trans ((HX.out.mono hsr).trans HB3.out)⟩
        case measure => simp [Go.RowKit.intOf]; omega
end Go.Proofs.YtdmegkkifiahdaaGreat
