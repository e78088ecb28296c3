import Derived.Test.YtdmegkkifiahdaaGreatPSh
import Derived.Test.YtdmegkkifiahdaaGreatPatVal
import Derived.Test.YtdmegkkifiahdaaGreatPB
namespace Go.Proofs.YtdmegkkifiahdaaGreat
open Go.RowKit
attribute [local go_sem] bqOp bqAll bqUpon sqOp sqAll sqUpon
attribute [local irreducible] wpQuiet wpBQ wpPlan
set_option linter.unusedVariables false
set_option maxHeartbeats 2000000 in
theorem padeeds_any (b : Nat) (w : World) : Calls Tryz.prog 194 #[.map (some b)] w fun e w' => e = .returned (.map (some w.heap.size)) ∧ DeedM w' w.heap.size b 5 ∧ Below w.heap.size w w' := by
 have hmm := @run_makeMap Tryz.prog
 go_enter Tryz.func194, Tryz.ntmps194
 go_wp2_with (first
  | (refine wpList_deedStore rfl _ _ _ _ rfl Tryz.underlying248 (n := 0) (k := 1) (u := .func (.func 293) #[.map (some b)] #[]) rfl rfl rfl (DeedM.made w b) (by omega) (by omega) (by simp [deedV]) ?_; intro w1 d1 t1)
  | (refine wpList_deedStore rfl _ _ _ _ rfl Tryz.underlying248 (n := 1) (k := 2) (u := .func (.func 294) #[.map (some b)] #[]) rfl rfl rfl d1 (by omega) (by omega) (by simp [deedV]) ?_; intro w2 d2 t2)
  | (refine wpList_deedStore rfl _ _ _ _ rfl Tryz.underlying248 (n := 2) (k := 3) (u := .func (.func 295) #[.map (some b)] #[]) rfl rfl rfl d2 (by omega) (by omega) (by simp [deedV]) ?_; intro w3 d3 t3)
  | (refine wpList_deedStore rfl _ _ _ _ rfl Tryz.underlying248 (n := 3) (k := 4) (u := .func (.func 295) #[.map (some b)] #[]) rfl rfl rfl d3 (by omega) (by omega) (by simp [deedV]) ?_; intro w4 d4 t4)
  | (refine wpList_deedStore rfl _ _ _ _ rfl Tryz.underlying248 (n := 4) (k := 5) (u := .func (.func 295) #[.map (some b)] #[]) rfl rfl rfl d4 (by omega) (by omega) (by simp [deedV]) ?_; intro w5 d5 t5))
 go_returns
 have B0 : Below w.heap.size w (w.alloc (.map #[] 0)) := (Below.refl _ _).alloc (Nat.le_refl _) _
 have s0 := B0.size
 have B1 := B0.trans (turned_below t1 (Nat.le_refl _) s0)
 have B2 := B1.trans (turned_below t2 (Nat.le_refl _) B1.size)
 have B3 := B2.trans (turned_below t3 (Nat.le_refl _) B2.size)
 have B4 := B3.trans (turned_below t4 (Nat.le_refl _) B3.size)
 exact ⟨rfl, d5, B4.trans (turned_below t5 (Nat.le_refl _) B4.size)⟩
theorem run_one (l : List Feat) (p : Opn) : runO l [p] = match doO l p with
  | .error e => .error (0, e)
  | .ok (l', b) => .ok (l', [b]) := by
 unfold runO
 cases doO l p with
 | error e => rfl
 | ok r => rfl
theorem run_snoc {l l' l'' : List Feat} {ops : List Opn} {k : Nat} {bs : List Opn} {bk : Opn} (hk : k < ops.length) (h : runO l (ops.take k) = .ok (l', bs)) (hd : doO l' (ops.getD k noOpn) = .ok (l'', bk)) : runO l (ops.take (k + 1)) = .ok (l'', bs ++ [bk]) := by
 rw [take_snoc noOpn hk, run_append, h]
 simp only []
 rw [run_one, hd]
theorem run_stop {l l' : List Feat} {ops : List Opn} {k : Nat} {bs : List Opn} {er : Int} (hk : k < ops.length) (h : runO l (ops.take k) = .ok (l', bs)) (hd : doO l' (ops.getD k noOpn) = .error er) : runO l ops = .error (k, er) := by
 have e : ops = ops.take k ++ (ops.getD k noOpn :: ops.drop (k + 1)) := by
  rw [List.getD_eq_getElem?_getD, List.getElem?_eq_getElem hk, Option.getD_some, ← List.drop_eq_getElem_cons hk, List.take_append_drop]
 have hl : (ops.take k).length = k := by rw [List.length_take]; omega
 have e2 : runO l' (ops.getD k noOpn :: ops.drop (k + 1)) = .error (0, er) := by
  unfold runO
  rw [hd]
 rw [e, run_append, h]
 simp only [e2, hl]
 simp
theorem OwnOs.wr {base b : Nat} {w0 w w' : World} {v : Value} {l : List Opn} {m : List Feat} (h : OwnOs base w0 w v l) (hs : ShM w0 w b m) (hg : Wr b w w') : OwnOs base w0 w' v l := by
 obtain ⟨items, rfl, ho, hr⟩ := h
 obtain ⟨_, D, ⟨es, clock, hb, _⟩, _⟩ := hs
 refine ⟨items, rfl, ⟨ho.1, ?_⟩, hr⟩
 rcases ho.2 with h | ⟨g, cap, cur, hv, hbg, hh, hrr⟩
 · exact .inl h
 · refine .inr ⟨g, cap, cur, hv, hbg, hg.block_ne hh (fun e => ?_), hrr⟩
   subst e
   rw [hh] at hb
   cases hb
set_option maxHeartbeats 2000000 in
theorem paapply_bad (l : List Feat) (ops : List Opn) (v0 v1 : Value) (w : World) (h : FeatsAt w v0 l) (h1 : OpsAt w v1 ops) (hn : ¬ (FeatsOk l ∧ ops.length ≤ 100 ∧ ∀ o ∈ ops, OpOk o)) : Calls Tryz.prog 78 #[v0, v1] w fun e w' => e = .returned (.tuple #[.map none, nilV, .int .i64 (-1), .int .i64 1]) ∧ Below w.heap.size w w' := by
 obtain ⟨ad, c, rfl, k0, _, _⟩ := h.form
 obtain ⟨ad1, c1, rfl, k1, _, _⟩ := h1.form
 obtain ⟨u1, hu1⟩ : ∃ u, decide (FeatsOk l) = u := ⟨_, rfl⟩
 obtain ⟨u2, hu2⟩ : ∃ u, decide (ops.length ≤ 100 ∧ ∀ o ∈ ops, OpOk o) = u := ⟨_, rfl⟩
 have NO : Hid (u1 = true → u2 = true → False) := Lib.hid fun e1 e2 => by subst e1 e2; exact hn ⟨of_decide_eq_true hu1, of_decide_eq_true hu2⟩
 have H0 := Lib.hid k0
 have H1 := Lib.hid k1
 have U1 := Lib.hid hu1
 have U2 := Lib.hid hu2
 clear h h1 k0 k1 hu1 hu2 hn
 go_enter Tryz.func78, Tryz.ntmps78
 go_wp2_with fail
 (with_reducible refine (ftList_any l _ _ H0.out U1.out).mono ?_)
 rintro e w1 ⟨rfl, hb1⟩
 cases u1
 · go_wp2_with fail
   go_returns
   exact ⟨rfl, hb1⟩
 go_wp2_with fail
 (with_reducible refine (pavalid_any ops _ _ (H1.out.later hb1) U2.out).mono ?_)
 rintro e w2 ⟨rfl, hb2⟩
 cases u2
 · go_wp2_with fail
   go_returns
   exact ⟨rfl, below_step hb1 hb2⟩
 have hno := NO.out
 simp at hno
theorem OwnOs.ne {base b : Nat} {w0 w : World} {v : Value} {l : List Opn} {m : List Feat} (h : OwnOs base w0 w v l) (hs : ShM w0 w b m) : v.ownBlock ≠ some b := by
 obtain ⟨items, rfl, ho, hr⟩ := h
 obtain ⟨_, D, ⟨es, clock, hb, _⟩, _⟩ := hs
 rcases ho.2 with ⟨rfl, _⟩ | ⟨g, cap, cur, rfl, hbg, hh, hrr⟩
 · simp [Value.ownBlock]
 · intro e
   simp only [Value.ownBlock, Option.some.injEq] at e
   subst e
   rw [hh] at hb
   cases hb
theorem OwnOs.neD {base g b n : Nat} {w0 w : World} {v : Value} {l : List Opn} (h : OwnOs base w0 w v l) (hs : DeedM w g b n) : v.ownBlock ≠ some g := by
 obtain ⟨items, rfl, ho, hr⟩ := h
 obtain ⟨D, ⟨es, clock, hb, _⟩, _⟩ := hs
 rcases ho.2 with ⟨rfl, _⟩ | ⟨g', cap, cur, rfl, hbg, hh, hrr⟩
 · simp [Value.ownBlock]
 · intro e
   simp only [Value.ownBlock, Option.some.injEq] at e
   subst e
   rw [hh] at hb
   cases hb
theorem two_allocs (w : World) (A B : Obj) : Below w.heap.size w ((w.alloc A).alloc B) := ((Below.refl _ _).alloc (Nat.le_refl _) _).alloc (by simp only [World.size_alloc]; omega) _
theorem form_ins {p : Opn} (hf : OpForm p) (h : p.kind = 1) : ∃ f, p = ⟨1, f.id, f, 0, 0, 0, 0, 0⟩ := by
 cases hf with
 | ins f _ => exact ⟨f, rfl⟩
 | del => simp [delO] at h
 | mov => simp [movO] at h
 | dep => simp [depO] at h
 | sym => simp [symO] at h
theorem form_del {p : Opn} (hf : OpForm p) (h : p.kind = 2) : ∃ id, p = ⟨2, id, ⟨0, 0, 0, 0, 0, [], 0, 0, []⟩, 0, 0, 0, 0, 0⟩ := by
 cases hf with
 | ins => simp [insO] at h
 | del id _ => exact ⟨id, rfl⟩
 | mov => simp [movO] at h
 | dep => simp [depO] at h
 | sym => simp [symO] at h
theorem below_step2 {B : Nat} {w W w1 : World} (h : Below B w W) (h1 : Below W.heap.size W w1) (hB : B ≤ w.heap.size := by exact Nat.le_refl _) : Below B w w1 := h.trans (h1.mono (Nat.le_trans hB h.size))
set_option maxHeartbeats 8000000 in
theorem paapply_run (l : List Feat) (ops : List Opn) (v0 v1 : Value) (w0 w : World) (h : Feats2 w0 w v0 l) (h1 : OpsAt w0 v1 ops) (hb0 : Below w0.heap.size w0 w) (hl : FeatsOk l) (hlen : ops.length ≤ 100) (ho : ∀ o ∈ ops, OpOk o) :
  Calls Tryz.prog 78 #[v0, v1] w fun e w' => Below w.heap.size w w' ∧ ((∃ (i : Nat) (er : Int), runO l ops = .error (i, er) ∧ e = .returned (.tuple #[.map none, nilV, .int .i64 i, .int .i64 er])) ∨
   ∃ (b : Nat) (l' : List Feat) (bs : List Opn) (ad : Option Addr) (n c : Nat), runO l ops = .ok (l', bs) ∧ bs.length = n ∧ e = .returned (.tuple #[.map (some b), .slice ad n c, .int .i64 (-1), .int .i64 0]) ∧ w.heap.size ≤ b ∧ ShM w0 w' b l' ∧ FeatsOk l' ∧ OwnOs w.heap.size w0 w' (.slice ad n c) bs) := by
 obtain ⟨ad, c, rfl, k0, _, _⟩ := h.form
 obtain ⟨ad1, c1, rfl, k1, hn1, _⟩ := h1.form
 have H0 := Lib.hid k0
 have H1 := Lib.hid k1
 have HB0 := Lib.hid hb0
 have HLO := Lib.hid hl
 obtain ⟨n, hln⟩ : ∃ n, ops.length = n := ⟨_, rfl⟩
 rw [hln] at H1 hn1 hlen
 have OK2 : Hid (decide (ops.length ≤ 100 ∧ ∀ o ∈ ops, OpOk o) = true) := Lib.hid (decide_eq_true ⟨by omega, ho⟩)
 have HO := Lib.hid ho
 rw [hln]
 have HL1 := Lib.hid hln
 generalize l.length = n0 at *
 clear h h1 k0 k1 hb0 hl ho hln
 go_enter Tryz.func78, Tryz.ntmps78
 go_wp2_with fail
 (with_reducible refine (ftList_any l _ _ H0.out.at (decide_eq_true HLO.out)).mono ?_)
 rintro e w1 ⟨rfl, hb1⟩
 go_wp2_with fail
 (with_reducible refine (pavalid_any ops _ _ ((H1.out.later HB0.out).later hb1) OK2.out).mono ?_)
 rintro e w2 ⟨rfl, hb2⟩
 have hB2 := below_step hb1 hb2
 go_wp2_with fail
 (with_reducible refine (paload_any l _ w0 w2 (H0.out.later hB2) HLO.out).mono ?_)
 rintro e w3 ⟨rfl, hs3, hb3⟩
 have hB3 := below_step hB2 hb3
 obtain ⟨b, hbn⟩ : ∃ b, w2.heap.size = b := ⟨_, rfl⟩
 have HBB : Hid (w.heap.size ≤ b) := Lib.hid (by rw [← hbn]; exact hB2.size)
 rw [hbn] at hs3 ⊢
 have hbl3 := hs3.lt
 clear hbn hb1 hb2 hb3 hB2
 go_wp2_with fail
 (with_reducible refine (padeeds_any b w3).mono ?_)
 rintro e w4 ⟨rfl, hd4, hb4⟩
 have hB4 := below_step hB3 hb4
 have S4 := Lib.hid (hs3.below hb4)
 obtain ⟨g, hgn⟩ : ∃ g, w3.heap.size = g := ⟨_, rfl⟩
 have HNE : Hid (b ≠ g) := Lib.hid (by omega)
 rw [hgn] at hd4 ⊢
 have D4 := Lib.hid hd4
 clear hgn hbl3 hs3 hd4 hb4 hB3
 go_wp2_with fail
 go_loopw [10, 29] (fun back i wr => ∃ (k : Nat) (l' : List Feat) (bs : List Opn) (ad : Option Addr) (c : Nat), k ≤ n ∧ i = .int .i64 k ∧ back = .slice ad k c ∧ bs.length = k ∧ runO l (ops.take k) = .ok (l', bs) ∧ ShM w0 wr b l' ∧ DeedM wr g b 5 ∧ OwnOs w.heap.size w0 wr (.slice ad k c) bs ∧ Below w.heap.size w wr ∧ FeatsOk l') (fun _ i _ => n - cntV i)
 case atStart => exact ⟨0, l, [], none, 0, by omega, rfl, rfl, rfl, by rw [List.take_zero]; rfl, S4.out, D4.out, OwnOs.nil _ _ _, hB4, HLO.out⟩
 case round =>
  clear S4 D4 hB4
  obtain ⟨k, l', bs, ad, c, hk, rfl, rfl, hlb, hrk, hsm, hdm, how, hb, hlk⟩ := hrel
  have LB := Lib.hid hlb
  have RK := Lib.hid hrk
  have SM := Lib.hid hsm
  have DM := Lib.hid hdm
  have OWN := Lib.hid how
  have HLK := Lib.hid hlk
  have HL3 : Hid (l'.length ≤ 300) := Lib.hid hlk.1
  clear hlb hrk hsm hdm how hlk
  rcases Nat.lt_or_ge k n with hlt | hge
  rotate_left
  · obtain rfl : k = n := by omega
    have RUN : Hid (runO l ops = .ok (l', bs)) := Lib.hid (by have h := RK.out; rwa [List.take_of_length_le (by have := HL1.out; omega)] at h)
    go_wp2_with fail
    go_returns
    exact ⟨hb, .inr ⟨b, l', bs, ad, k, c, RUN.out, LB.out, rfl, HBB.out, SM.out, HLK.out, OWN.out⟩⟩
  obtain ⟨gg, oo, va, vs, rfl, fc⟩ := H1.out.row hlt
  obtain ⟨p, hp⟩ : ∃ p, ops.getD k noOpn = p := ⟨_, rfl⟩
  have hf : OpForm p := by rw [← hp]; exact opForm (HO.out _ (getD_memD (by have := HL1.out; omega) _))
  rw [hp] at fc
  have HP := Lib.hid hp
  have HF := Lib.hid hf
  have HID := Lib.hid (opOk_form hf).1
  have PA := Lib.hid fc.parts
  have RG0 := (fc.later (HB0.out.trans (hb.mono HB0.out.size))).range
  have KB : Hid (1 ≤ p.kind ∧ p.kind ≤ (5 : Nat)) := Lib.hid (by have := kinds_of hf; exact this)
  obtain ⟨aa, ca, ab, cb, rfl, rfl⟩ := PA.out.form
  clear fc hp
  by_cases h1 : p.kind = 1
  · obtain ⟨f, rfl⟩ : ∃ f, p = ⟨1, f.id, f, 0, 0, 0, 0, 0⟩ := form_ins hf h1
    clear h1 hf
    simp only [op_row] at RG0 PA HID KB
    generalize f.area.length = na at *
    generalize f.secs.length = nb at *
    have RG : Hid (wr.rangeAt gg (oo + k * 16) [.int .i64 1, .int .i64 f.id, .int .i64 f.id, .int .i64 f.kind, .int .i64 f.x, .int .i64 f.y, .int .i64 f.rad, .slice aa na ca, .int .i64 f.dep, .int .i64 f.sym, .slice ab nb cb, .int .i64 0, .int .i64 0, .int .i64 0, .int .i64 0, .int .i64 0]) := Lib.hid RG0
    clear RG0
    have DE : Hid (deedV b 1 = .func (.func 293) #[.map (some b)] #[]) := Lib.hid rfl
    go_wp2_with (first
     | (refine wpList_load_mid rfl 34 _ rfl gg (oo + k * 16) rfl [.int .i64 1, .int .i64 f.id, .int .i64 f.id, .int .i64 f.kind, .int .i64 f.x, .int .i64 f.y, .int .i64 f.rad, .slice aa na ca, .int .i64 f.dep, .int .i64 f.sym, .slice ab nb cb, .int .i64 0, .int .i64 0, .int .i64 0, .int .i64 0, .int .i64 0] _ RG.out Tryz.underlying34 rfl (by kernel_rfl) ?_)
     | (refine wpList_deedLook rfl _ _ _ rfl Tryz.underlying248 rfl rfl (DM.out.below ((Below.refl _ _).alloc (Nat.le_refl _) _)) KB.out.1 KB.out.2 (by omega) ?_; rw [DE.out])
     | (refine wpList_load_row rfl 34 _ rfl _ rfl _ _ _ _ (block_new wr _) Tryz.underlying34 rfl (by kernel_rfl) ?_))
    refine calls_named fun W hW => ?_
    have hbW : Below wr.heap.size wr W := by rw [hW]; exact (Below.refl _ _).alloc (Nat.le_refl _) _
    clear hW
    have SW := SM.out.below hbW
    have DW := DM.out.below hbW
    have OW := OWN.out.keep hbW
    have hbWw := below_step2 hb hbW
    have BW0 := HB0.out.trans (hbWw.mono HB0.out.size)
    (with_reducible refine (sinsert_any l' f b _ _ w0 W SW PA.out (HL3.out) HID.out).mono ?_)
    rintro e w2 ⟨hwr, bk, a1, m1, c1, a2, m2, c2, er, l2, rfl, hpk, hs2, hout⟩
    have hbb := SW.lt
    have hb2 : Below w.heap.size w w2 := hbWw.trans (hwr.below HBB.out hbWw.size)
    have O2 := Lib.hid (OW.wr SW hwr)
    have D2 := Lib.hid (DW.grown hwr (fun e => HNE.out (Option.some.inj e)))
    have S2 := Lib.hid hs2
    have PK := Lib.hid hpk
    clear hwr SW DW OW hs2 hpk hbW BW0 hbb RG DE
    rcases hout with ⟨hd, hne, rfl⟩ | ⟨hd, rfl⟩
    · have d : (er != 0) = true := by simpa using hne
      have RUN : Hid (runO l ops = .error (k, er)) := Lib.hid (run_stop (by have := HL1.out; omega) RK.out (by rw [HP.out]; exact hd))
      clear hd hne
      go_wp2_with fail
      go_returns
      exact ⟨hb2.alloc hb2.size _, .inl ⟨k, er, RUN.out, rfl⟩⟩
    have RUN : Hid (runO l (ops.take (k + 1)) = .ok (l2, bs ++ [bk])) := Lib.hid (run_snoc (by have := HL1.out; omega) RK.out (by rw [HP.out]; exact hd))
    have HL2 : Hid (FeatsOk l2) := Lib.hid (do_back HLK.out HF.out (by exact hd)).1
    clear hd
    go_wp2_with (first
     | (refine wpList_load_row rfl 34 _ rfl _ rfl _ _ _ _ (block_new w2 _) Tryz.underlying34 rfl (by kernel_rfl) ?_)
     | (refine wpList_appO rfl _ _ rfl w.heap.size w0 _ bs [bk] rfl (O2.out.keep (two_allocs _ _ _)) _ _ _ rfl [(bk, .slice a1 m1 c1, .slice a2 m2 c2)] rfl rfl (fun x hx => by obtain rfl := List.mem_singleton.1 hx; exact PK.out) (SrcAt.one (block_new_at _ (by simp only [World.size_alloc])) rfl) (N := k + 1) (by rw [LB.out]) (by omega) (by simp only [World.size_alloc]; have := hb2.size; omega) ?_; intro ad' c' w5 how hgr hbl))
    have hb5 : Below w.heap.size w w5 := (hb2.trans ((two_allocs _ _ _).mono hb2.size)).trans hbl
    go_roundw
    case rel => exact ⟨k + 1, l2, bs ++ [bk], ad', c', by omega, by go_num, rfl, by rw [List.length_append, LB.out]; rfl, RUN.out, ((S2.out.alloc _).alloc _).grown hgr (O2.out.ne S2.out), (D2.out.below (two_allocs _ _ _)).grown hgr (O2.out.neD D2.out), how, hb5, HL2.out⟩
    case measure => simp [cntV]; omega
  by_cases h2 : p.kind = 2
  · obtain ⟨id, rfl⟩ : ∃ id, p = ⟨2, id, ⟨0, 0, 0, 0, 0, [], 0, 0, []⟩, 0, 0, 0, 0, 0⟩ := form_del hf h2
    clear h1 h2 hf
    simp only [op_row] at RG0 PA HID KB
    generalize ([] : List (Int × Int)).length = na at *
    have PN : Hid (PartsAt w0 noFeat (.slice aa na ca) (.slice ab na cb)) := Lib.hid PA.out
    have RG : Hid (wr.rangeAt gg (oo + k * 16) [.int .i64 2, .int .i64 id, .int .i64 0, .int .i64 0, .int .i64 0, .int .i64 0, .int .i64 0, .slice aa na ca, .int .i64 0, .int .i64 0, .slice ab na cb, .int .i64 0, .int .i64 0, .int .i64 0, .int .i64 0, .int .i64 0]) := Lib.hid RG0
    clear RG0
    have DE : Hid (deedV b 2 = .func (.func 294) #[.map (some b)] #[]) := Lib.hid rfl
    go_wp2_with (first
     | (refine wpList_load_mid rfl 34 _ rfl gg (oo + k * 16) rfl [.int .i64 2, .int .i64 id, .int .i64 0, .int .i64 0, .int .i64 0, .int .i64 0, .int .i64 0, .slice aa na ca, .int .i64 0, .int .i64 0, .slice ab na cb, .int .i64 0, .int .i64 0, .int .i64 0, .int .i64 0, .int .i64 0] _ RG.out Tryz.underlying34 rfl (by kernel_rfl) ?_)
     | (refine wpList_deedLook rfl _ _ _ rfl Tryz.underlying248 rfl rfl (DM.out.below ((Below.refl _ _).alloc (Nat.le_refl _) _)) KB.out.1 KB.out.2 (by omega) ?_; rw [DE.out])
     | (refine wpList_load_row rfl 34 _ rfl _ rfl _ _ _ _ (block_new wr _) Tryz.underlying34 rfl (by kernel_rfl) ?_))
    refine calls_named fun W hW => ?_
    have hbW : Below wr.heap.size wr W := by rw [hW]; exact (Below.refl _ _).alloc (Nat.le_refl _) _
    clear hW
    have SW := SM.out.below hbW
    have DW := DM.out.below hbW
    have OW := OWN.out.keep hbW
    have hbWw := below_step2 hb hbW
    have BW0 := HB0.out.trans (hbWw.mono HB0.out.size)
    (with_reducible refine (sremove_any l' id b _ _ w0 W SW PN.out HID.out).mono ?_)
    rintro e w2 ⟨hwr, bk, a1, m1, c1, a2, m2, c2, er, l2, rfl, hpk, hs2, hout⟩
    have hbb := SW.lt
    have hb2 : Below w.heap.size w w2 := hbWw.trans (hwr.below HBB.out hbWw.size)
    have O2 := Lib.hid (OW.wr SW hwr)
    have D2 := Lib.hid (DW.grown hwr (fun e => HNE.out (Option.some.inj e)))
    have S2 := Lib.hid hs2
    have PK := Lib.hid hpk
    clear hwr SW DW OW hs2 hpk hbW BW0 hbb RG DE
    rcases hout with ⟨hd, hne, rfl⟩ | ⟨hd, rfl⟩
    · have d : (er != 0) = true := by simpa using hne
      have RUN : Hid (runO l ops = .error (k, er)) := Lib.hid (run_stop (by have := HL1.out; omega) RK.out (by rw [HP.out]; exact hd))
      clear hd hne
      go_wp2_with fail
      go_returns
      exact ⟨hb2.alloc hb2.size _, .inl ⟨k, er, RUN.out, rfl⟩⟩
    have RUN : Hid (runO l (ops.take (k + 1)) = .ok (l2, bs ++ [bk])) := Lib.hid (run_snoc (by have := HL1.out; omega) RK.out (by rw [HP.out]; exact hd))
    have HL2 : Hid (FeatsOk l2) := Lib.hid (do_back HLK.out HF.out (by exact hd)).1
    clear hd
    go_wp2_with (first
     | (refine wpList_load_row rfl 34 _ rfl _ rfl _ _ _ _ (block_new w2 _) Tryz.underlying34 rfl (by kernel_rfl) ?_)
     | (refine wpList_appO rfl _ _ rfl w.heap.size w0 _ bs [bk] rfl (O2.out.keep (two_allocs _ _ _)) _ _ _ rfl [(bk, .slice a1 m1 c1, .slice a2 m2 c2)] rfl rfl (fun x hx => by obtain rfl := List.mem_singleton.1 hx; exact PK.out) (SrcAt.one (block_new_at _ (by simp only [World.size_alloc])) rfl) (N := k + 1) (by rw [LB.out]) (by omega) (by simp only [World.size_alloc]; have := hb2.size; omega) ?_; intro ad' c' w5 how hgr hbl))
    have hb5 : Below w.heap.size w w5 := (hb2.trans ((two_allocs _ _ _).mono hb2.size)).trans hbl
    go_roundw
    case rel => exact ⟨k + 1, l2, bs ++ [bk], ad', c', by omega, by go_num, rfl, by rw [List.length_append, LB.out]; rfl, RUN.out, ((S2.out.alloc _).alloc _).grown hgr (O2.out.ne S2.out), (D2.out.below (two_allocs _ _ _)).grown hgr (O2.out.neD D2.out), how, hb5, HL2.out⟩
    case measure => simp [cntV]; omega
  have KK : Hid (p.kind ≠ 1 ∧ p.kind ≠ 2) := Lib.hid ⟨h1, h2⟩
  clear h1 h2 hf
  simp only [op_row] at RG0
  generalize p.feat.area.length = na at *
  generalize p.feat.secs.length = nb at *
  have RG : Hid (wr.rangeAt gg (oo + k * 16) [.int .i64 p.kind, .int .i64 p.id, .int .i64 p.feat.id, .int .i64 p.feat.kind, .int .i64 p.feat.x, .int .i64 p.feat.y, .int .i64 p.feat.rad, .slice aa na ca, .int .i64 p.feat.dep, .int .i64 p.feat.sym, .slice ab nb cb, .int .i64 p.x, .int .i64 p.y, .int .i64 p.rad, .int .i64 p.dep, .int .i64 p.sym]) := Lib.hid RG0
  clear RG0
  have DE : Hid (deedV b p.kind = .func (.func 295) #[.map (some b)] #[]) := Lib.hid (by unfold deedV; rw [if_neg KK.out.1, if_neg KK.out.2])
  go_wp2_with (first
   | (refine wpList_load_mid rfl 34 _ rfl gg (oo + k * 16) rfl [.int .i64 p.kind, .int .i64 p.id, .int .i64 p.feat.id, .int .i64 p.feat.kind, .int .i64 p.feat.x, .int .i64 p.feat.y, .int .i64 p.feat.rad, .slice aa na ca, .int .i64 p.feat.dep, .int .i64 p.feat.sym, .slice ab nb cb, .int .i64 p.x, .int .i64 p.y, .int .i64 p.rad, .int .i64 p.dep, .int .i64 p.sym] _ RG.out Tryz.underlying34 rfl (by kernel_rfl) ?_)
   | (refine wpList_deedLook rfl _ _ _ rfl Tryz.underlying248 rfl rfl (DM.out.below ((Below.refl _ _).alloc (Nat.le_refl _) _)) KB.out.1 KB.out.2 (by omega) ?_; rw [DE.out])
   | (refine wpList_load_row rfl 34 _ rfl _ rfl _ _ _ _ (block_new wr _) Tryz.underlying34 rfl (by kernel_rfl) ?_))
  refine calls_named fun W hW => ?_
  have hbW : Below wr.heap.size wr W := by rw [hW]; exact (Below.refl _ _).alloc (Nat.le_refl _) _
  clear hW
  have SW := SM.out.below hbW
  have DW := DM.out.below hbW
  have OW := OWN.out.keep hbW
  have hbWw := below_step2 hb hbW
  have BW0 := HB0.out.trans (hbWw.mono HB0.out.size)
  (with_reducible refine (schange_any l' p b _ _ w0 W SW BW0 PA.out HL3.out HID.out KK.out.1 KK.out.2).mono ?_)
  rintro e w2 ⟨hwr, bk, a1, m1, c1, a2, m2, c2, er, l2, rfl, hpk, hs2, hout⟩
  have hbb := SW.lt
  have hb2 : Below w.heap.size w w2 := hbWw.trans (hwr.below HBB.out hbWw.size)
  have O2 := Lib.hid (OW.wr SW hwr)
  have D2 := Lib.hid (DW.grown hwr (fun e => HNE.out (Option.some.inj e)))
  have S2 := Lib.hid hs2
  have PK := Lib.hid hpk
  clear hwr SW DW OW hs2 hpk hbW BW0 hbb RG DE
  rcases hout with ⟨hd, hne, rfl⟩ | ⟨hd, rfl⟩
  · have d : (er != 0) = true := by simpa using hne
    have RUN : Hid (runO l ops = .error (k, er)) := Lib.hid (run_stop (by have := HL1.out; omega) RK.out (by rw [HP.out]; exact hd))
    clear hd hne
    go_wp2_with fail
    go_returns
    exact ⟨hb2.alloc hb2.size _, .inl ⟨k, er, RUN.out, rfl⟩⟩
  have RUN : Hid (runO l (ops.take (k + 1)) = .ok (l2, bs ++ [bk])) := Lib.hid (run_snoc (by have := HL1.out; omega) RK.out (by rw [HP.out]; exact hd))
  have HL2 : Hid (FeatsOk l2) := Lib.hid (do_back HLK.out HF.out (by exact hd)).1
  clear hd
  go_wp2_with (first
   | (refine wpList_load_row rfl 34 _ rfl _ rfl _ _ _ _ (block_new w2 _) Tryz.underlying34 rfl (by kernel_rfl) ?_)
   | (refine wpList_appO rfl _ _ rfl w.heap.size w0 _ bs [bk] rfl (O2.out.keep (two_allocs _ _ _)) _ _ _ rfl [(bk, .slice a1 m1 c1, .slice a2 m2 c2)] rfl rfl (fun x hx => by obtain rfl := List.mem_singleton.1 hx; exact PK.out) (SrcAt.one (block_new_at _ (by simp only [World.size_alloc])) rfl) (N := k + 1) (by rw [LB.out]) (by omega) (by simp only [World.size_alloc]; have := hb2.size; omega) ?_; intro ad' c' w5 how hgr hbl))
  have hb5 : Below w.heap.size w w5 := (hb2.trans ((two_allocs _ _ _).mono hb2.size)).trans hbl
  go_roundw
  case rel => exact ⟨k + 1, l2, bs ++ [bk], ad', c', by omega, by go_num, rfl, by rw [List.length_append, LB.out]; rfl, RUN.out, ((S2.out.alloc _).alloc _).grown hgr (O2.out.ne S2.out), (D2.out.below (two_allocs _ _ _)).grown hgr (O2.out.neD D2.out), how, hb5, HL2.out⟩
  case measure => simp [cntV]; omega
end Go.Proofs.YtdmegkkifiahdaaGreat
