/- Contracts of chapter 20's functions in the form in which the laws call them; the plain law of symbols. -/
import Derived.Test.YtmhgcmcifdclmaaGreatTrHead
import Derived.Test.YtmhgcmcifdclmaaGreatKF
namespace Go.Proofs.YtmhgcmcifdclmaaGreat
open Go.RowKit Go.Shelf
set_option linter.unusedVariables false
theorem trFeature_raw (m : Dat) (a b : Bk) {va vb : Value} (f : Feat) {aa : Option Addr} {na ca : Nat} {ab : Option Addr} {ns cs : Nat} (w : World) (ha : MksAt w va a.marks) (hb : MksAt w vb b.marks) (hp : PartsAt w f (.slice aa na ca) (.slice ab ns cs)) {g : Feat} {k : Int} (hr : featR m a b f = (g, k)) :
    Calls Tryz.prog 14 #[.agg #[.int .i64 m.a, .int .i64 m.b, .int .i64 m.c, .int .i64 m.d, .int .i64 m.e, .int .i64 m.f, .int .i64 m.r], .agg #[.int .i64 a.office, va], .agg #[.int .i64 b.office, vb], featV f (.slice aa na ca) (.slice ab ns cs)] w (FeatGive w.heap.size g k w) := trFeature_any m a b va vb f aa na ca ab ns cs w ha hb hp hr
theorem syFind_raw (b : Bk) {v0 : Value} (n : Int) (w : World) (h : MksAt w v0 b.marks) {ms mk mc k : Int} (hr : findR b n = (⟨ms, mk, mc⟩, k)) :
    Calls Tryz.prog 15 #[.agg #[.int .i64 b.office, v0], .int .i64 n] w fun e w' => e = .returned (.tuple #[.agg #[.int .i64 ms, .int .i64 mk, .int .i64 mc], .int .i64 k]) ∧ Below w.heap.size w w' := syFind_any b v0 n w h hr
theorem one_err {m : Dat} {A B : List Mk} {f : Feat} {k : Int} (h : oneD m A B f = .error k) : k ≠ 0 := by
  unfold oneD at h
  split at h
  · cases h; decide
  · split at h
    · cases h; decide
    · split at h
      · cases h; decide
      · split at h
        · cases h; decide
        · split at h
          · cases h
          · cases h; decide
theorem oneR_zero {m : Dat} {A B : List Mk} {f g : Feat} (h : oneR m A B f = (g, 0)) : oneD m A B f = .ok g := by
  unfold oneR at h
  cases e : oneD m A B f with
  | ok x =>
    rw [e] at h
    cases h
    rfl
  | error k =>
    rw [e] at h
    cases h
    exact absurd rfl (one_err e)
theorem one_fine {m : Dat} {A B : List Mk} {f g : Feat} (h : oneD m A B f = .ok g) : FeatOk g := by
  unfold oneD at h
  split at h
  · cases h
  · split at h
    · cases h
    · split at h
      · cases h
      · split at h
        · cases h
        · split at h
          · next hg => cases h; exact hg
          · cases h
theorem featR_zero {m : Dat} {a b : Bk} {f g : Feat} (h : featR m a b f = (g, 0)) : BooksOk m a b ∧ FeatOk f ∧ oneD m a.marks b.marks f = .ok g ∧ FeatOk g := by
  unfold featR at h
  by_cases hb : BooksOk m a b ∧ FeatOk f
  · rw [if_pos hb] at h
    have h1 := oneR_zero h
    exact ⟨hb.1, hb.2, h1, one_fine h1⟩
  · rw [if_neg hb] at h
    cases h
theorem findR_of {b : Bk} {n : Int} {m : Mk} (hb : BkOk b) (hn : 0 ≤ n ∧ n ≤ 999) (h : findM b.marks n = some m) : findR b n = (m, 0) := by
  unfold findR
  rw [if_pos ⟨hb, hn⟩, h]
  rfl
theorem sym_facts {m : Dat} {a b : Bk} {f g : Feat} (h : featR m a b f = (g, 0)) : ∃ x y : Mk, findR a f.sym = (x, 0) ∧ findR b g.sym = (y, 0) ∧ x.kind = f.kind ∧ y.kind = f.kind ∧ x.cls ≤ y.cls := by
  obtain ⟨⟨hm, ha, hb⟩, hf, ho, hg⟩ := featR_zero h
  obtain ⟨x, y, h1, h2, h3, h4, h5⟩ := one_symbols hb.2.2 ho
  exact ⟨x, y, findR_of ha ⟨hf.1.2.1.1, hf.1.2.1.2⟩ h1, findR_of hb ⟨hg.1.2.1.1, hg.1.2.1.2⟩ h2, h3, h4, h5⟩
/-- What Covers answers. -/
def covF (f : Feat) (x y : Int) : Bool × Int := if FeatOk f ∧ Vld x y then (covB f x y, 0) else (false, 1)
set_option maxHeartbeats 1000000 in
theorem ftCovers_any (f : Feat) (aa ab : Option Addr) (na ca ns cs : Nat) (qx qy : Int) (w : World) (hp : PartsAt w f (.slice aa na ca) (.slice ab ns cs)) {v : Bool} {k : Int} (hr : covF f qx qy = (v, k)) :
    Calls Tryz.prog 23 #[featV f (.slice aa na ca) (.slice ab ns cs), .agg #[.int .i64 qx, .int .i64 qy]] w fun e w' => e = .returned (.tuple #[.bool v, .int .i64 k]) ∧ Below w.heap.size w w' := by
  obtain ⟨_, _, _, _, e1, e2⟩ := hp.form
  cases e1
  cases e2
  by_cases hv : FeatOk f ∧ Vld qx qy
  · unfold covF at hr
    rw [if_pos hv] at hr
    cases hr
    exact ftCovers_yes f aa ab ca cs qx qy w hv.1 hp.1 hp.2 hv.2
  unfold covF at hr
  rw [if_neg hv] at hr
  cases hr
  obtain ⟨u1, hu1⟩ : ∃ v, decide (FeatOk f) = v := ⟨_, rfl⟩
  have U1 := Lib.hid hu1
  have HP := Lib.hid hp
  have HV := Lib.hid hv
  clear hp hv hu1
  go_enter Tryz.func23, Tryz.ntmps23
  go_wp2_with fail
  refine calls_named fun W hW => ?_
  obtain ⟨p1, p2, hB⟩ := box2 hW
  clear hW
  obtain ⟨h1, h2⟩ : PtsAt W _ _ ∧ SecsAt W _ _ := HP.out.later hB
  have P2 := Lib.hid p2
  clear p1 p2
  (with_reducible refine (ftValid_any f _ _ _ h1 h2 U1.out).mono ?_)
  rintro e w1 ⟨rfl, hb1⟩
  have hB1 := below_step hB hb1
  clear h1 h2
  cases u1
  · go_wp2_with fail
    go_ret2
    exact ⟨rfl, hB1⟩
  · have NV : Hid (decide (Vld qx qy) = false) := Lib.hid (decide_eq_false (fun h => HV.out ⟨of_decide_eq_true U1.out, h⟩))
    have c2 := cell_block (block_later hb1 P2.out)
    go_wp2_with fail
    (with_reducible refine (hpValid_any _ _ _ NV.out).mono ?_)
    rintro e w2 ⟨rfl, hb2⟩
    have hB2 := below_step hB1 hb2
    clear c2
    go_wp2_with fail
    go_ret2
    exact ⟨rfl, hB2⟩
theorem covF_zero {f : Feat} {x y : Int} {v : Bool} (h : covF f x y = (v, 0)) : FeatOk f ∧ Vld x y ∧ covB f x y = v := by
  unfold covF at h
  by_cases hv : FeatOk f ∧ Vld x y
  · rw [if_pos hv] at h
    exact ⟨hv.1, hv.2, congrArg Prod.fst h⟩
  · rw [if_neg hv] at h
    cases h
theorem fitsR_zero {m : Dat} {p q : Pt} {v : Bool} (h : fitsR m p q = (v, 0)) : DatOk m ∧ Vld p.1 p.2 ∧ Vld q.1 q.2 ∧ (v = true → FitsD m p q) := by
  unfold fitsR at h
  by_cases hv : DatOk m ∧ Vld p.1 p.2 ∧ Vld q.1 q.2
  · rw [if_pos hv] at h
    injection h with h1 h2
    refine ⟨hv.1, hv.2.1, hv.2.2, fun e => ?_⟩
    rw [e] at h1
    exact of_decide_eq_true h1
  · rw [if_neg hv] at h
    cases h
theorem cov_facts {m : Dat} {a b : Bk} {f g : Feat} {px py qx qy e3 : Int} {v1 v2 v3 : Bool} (h : featR m a b f = (g, 0)) (h1 : covF f px py = (v1, 0)) (h2 : fitsR m (px, py) (qx, qy) = (v2, 0)) (h3 : covF g qx qy = (v3, e3)) :
    e3 = 0 ∧ g.id = f.id ∧ g.kind = f.kind ∧ g.dep = f.dep ∧ (v1 = true → v2 = true → v3 = true) := by
  obtain ⟨⟨hm, ha, hb⟩, hf, ho, hg⟩ := featR_zero h
  obtain ⟨_, mk, t, _, _, _, hc⟩ := one_ok ho
  obtain ⟨s1, s2, s3, _⟩ := carry_same hc
  obtain ⟨_, _, c1⟩ := covF_zero h1
  obtain ⟨_, _, q1, c2⟩ := fitsR_zero h2
  have q2 : Vld qx qy := q1
  have h4 : covF g qx qy = (covB g qx qy, 0) := if_pos (And.intro hg q2)
  rw [h4] at h3
  cases h3
  exact ⟨rfl, s1, s2, s3, fun e1 e2 => carry_cover (p := (px, py)) (q := (qx, qy)) hm hf hc hg (c2 e2) (c1.trans e1)⟩
theorem two_facts {m1 m2 : Dat} {a b c : Bk} {f g g2 : Feat} {px py qx qy rx ry e4 : Int} {v1 v2 v3 v4 : Bool} (h : featR m1 a b f = (g, 0)) (h' : featR m2 b c g = (g2, 0)) (h1 : covF f px py = (v1, 0)) (h2 : fitsR m1 (px, py) (qx, qy) = (v2, 0)) (h3 : fitsR m2 (qx, qy) (rx, ry) = (v3, 0)) (h4 : covF g2 rx ry = (v4, e4)) :
    e4 = 0 ∧ (v1 = true → v2 = true → v3 = true → v4 = true) := by
  obtain ⟨v, e, h5⟩ : ∃ (v : Bool) (e : Int), covF g qx qy = (v, e) := ⟨_, _, rfl⟩
  obtain ⟨rfl, _, _, _, k1⟩ := cov_facts h h1 h2 h5
  obtain ⟨rfl, _, _, _, k2⟩ := cov_facts h' h5 h3 h4
  exact ⟨rfl, fun a1 a2 a3 => k2 (k1 a1 a2) a3⟩
theorem box9 {w W : World} {o1 o2 o3 o4 o5 o6 o7 o8 o9 : Obj} (h : W = ((((((((w.alloc o1).alloc o2).alloc o3).alloc o4).alloc o5).alloc o6).alloc o7).alloc o8).alloc o9) : W.heap[w.heap.size]? = some o1 ∧ W.heap[w.heap.size + 1]? = some o2 ∧ W.heap[w.heap.size + 2]? = some o3 ∧ W.heap[w.heap.size + 3]? = some o4 ∧ W.heap[w.heap.size + 4]? = some o5 ∧ W.heap[w.heap.size + 5]? = some o6 ∧ W.heap[w.heap.size + 6]? = some o7 ∧ W.heap[w.heap.size + 7]? = some o8 ∧ W.heap[w.heap.size + 8]? = some o9 ∧ Below w.heap.size w W := by
  obtain ⟨a1, a2, a3, a4, a5, a6, a7, a8, hb⟩ := box8 (rfl : (((((((w.alloc o1).alloc o2).alloc o3).alloc o4).alloc o5).alloc o6).alloc o7).alloc o8 = _)
  subst h
  have hs : ((((((((w.alloc o1).alloc o2).alloc o3).alloc o4).alloc o5).alloc o6).alloc o7).alloc o8).heap.size = w.heap.size + 8 := by simp
  exact ⟨block_alloc a1, block_alloc a2, block_alloc a3, block_alloc a4, block_alloc a5, block_alloc a6, block_alloc a7, block_alloc a8, by rw [← hs]; exact block_new _ _, hb.alloc (by omega) _⟩
end Go.Proofs.YtmhgcmcifdclmaaGreat
