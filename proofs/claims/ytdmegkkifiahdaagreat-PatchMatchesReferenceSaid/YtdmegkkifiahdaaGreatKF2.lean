import Derived.Test.YtdmegkkifiahdaaGreatRows
import Derived.WalkKit
import Derived.ProofKit
import Derived.OpenShut
import Derived.Lib.SmallJoins
import Derived.Test.YtdmegkkifiahdaaGreatKB
import Derived.Deep.Slices
import Derived.Test.YtdmegkkifiahdaaGreatShtA
import Derived.Test.YtdmegkkifiahdaaGreatShtMath
namespace Go.Proofs.YtdmegkkifiahdaaGreat
open Go.ChangeShapes Go.WideShapes Go.ChangeAt Go.RowKit Go.Joins
section
variable {H : Type} {enc : TypeId × Value → H} {P : Program}
theorem trodAll_stays (hl : laidOutB P = true) {W W' : World} (hb : Below W.heap.size W W') : ∀ (ts : List TypeId) (vs : List Value) (ds : List (DataW H)) (ps : List MemPlace), (∀ t ∈ ts, P.readableRec t = true ∧ t < P.types.size) →
  DataW.TrodAll enc P W 0 (fun _ => true) true ts vs ds ps → (∀ x ∈ ps, x.block < W.heap.size) → DataW.TrodAll enc P W' 0 (fun b => decide (b < W.heap.size)) true ts vs ds ps
 | [], vs, ds, ps, _, h, _ => by
   obtain ⟨rfl, rfl, rfl⟩ := trodAll_nil h
   exact trodAll_mk0
 | t :: ts, vs, ds, ps, ht, h, hlt => by
   obtain ⟨v, vs', d, ds', p, q, rfl, rfl, rfl, h0, hr⟩ := trodAll_cons h
   exact trodAll_cons_mk (Below.trod hl (ht t (by simp)).1 (ht t (by simp)).2 h0 hb (fun x hx => hlt x (by simp [hx])))
    (trodAll_stays hl hb ts vs' ds' q (fun u hu => ht u (by simp [hu])) hr (fun x hx => hlt x (by simp [hx])))
theorem post_law {f : Func} {s : ChangeSpec} {W W' : World} {args : Array Value} {ds : List (DataW H)} {p : List MemPlace} {tb : TypeId} (hl : laidOutB P = true) (hro : ∀ t ∈ f.params.toList, P.readableRec t = true ∧ t < P.types.size)
  (hsv : s.vars = []) (hW : DataW.Whole enc P f.params.toList s.vars false W args.toList ds [] p) (hA : DataW.TrodAll enc P W 0 (fun _ => true) true f.params.toList args.toList ds p)
  (hs1 : (s.fn H (ds ++ [])).results = [.lit (.bool true)]) (hs2 : (s.fn H (ds ++ [])).args = ds) (hs3 : (s.fn H (ds ++ [])).vars = []) (hrt : f.resultTypes = #[tb]) (htb : P.underlying tb = some .bool) (hb : Below W.heap.size W W') :
  s.post enc P f false true false false W args (.bool true) W' := by
 refine ⟨ds, [], p, [], p, [], hW, ?_, ?_, ?_, hb.frame _, fun h => by cases h⟩
 · rw [hs1, hrt]
   exact trodAll_cons_mk (p := []) (p' := []) (shut_bool htb _) trodAll_mk0
 · rw [hs2]
   exact trodAll_stays hl hb _ _ _ _ hro hA hW.lt
 · rw [hs3, hsv]
   rfl
end
set_option maxRecDepth 100000 in
theorem laid_out : laidOutB Tryz.prog = true := by kernel_rfl
theorem own_knob : ownKnob Tryz.prog.godebug = none := by kernel_rfl
end Go.Proofs.YtdmegkkifiahdaaGreat
namespace Go.Proofs.YtdmegkkifiahdaaGreat
open Go.ChangeShapes Go.WideShapes Go.ChangeAt Go.RowKit Go.Joins
set_option maxRecDepth 100000
section
variable {H : Type} {enc : TypeId × Value → H} {w : World} {base : Nat} {spare : Nat → Bool} {held : Bool} {r : Reach} {b0 : Nat} {v : Value} {d : DataW H} {p : List MemPlace}
theorem one_cell {v : Value} {ad : Option Addr} {n c : Nat} {cs : Array Value} (h : v.cells = cs) (hv : ∃ a n c, v = .slice a n c) (hc : cs.toList = [.slice ad n c]) : v = .slice ad n c := by
 obtain ⟨a, n', c', rfl⟩ := hv
 subst h
 simpa [Value.cells] using hc
theorem cell_spot {a : Addr} {v : Value} (h : w.cell? a = some v) : a = ⟨a.block, a.off, none⟩ := by
 obtain ⟨b, o, s⟩ := a
 cases s with
 | none => rfl
 | some s =>
   unfold World.cell? at h
   split at h <;> simp at h
theorem add_form {b o i : Nat} : (Addr.mk b o none).add i = ⟨b, o + i, none⟩ := by
 unfold Addr.add
 split
 · next h => rw [h]; rfl
 · rfl
theorem elems_open {t e : TypeId} {k fuel : Nat} {cs : List Value} {x : DataW H × List MemPlace} {α : Type} (R : List Value → α → Prop) [Inhabited α] (ht : Tryz.prog.underlying t = some (.slice e)) (hC : Tryz.prog.cellsOf e = k) (hk : 0 < k)
  (hel : ∀ fuel cs y, DataW.trod enc Tryz.prog w base spare held fuel e cs = some y → ∃ a, cs.length = k ∧ R cs a)
  (h : DataW.trod enc Tryz.prog w base spare held fuel t cs = some x) : ∃ ad n c, cs = [.slice ad n c] ∧ (n ≤ 9223372036854775807 ∧ n ≤ c) ∧ ∃ (C : Nat → List Value) (X : Nat → α), ∀ i, i < n → ∃ g o, ad = some ⟨g, o, none⟩ ∧ R (C i) (X i) ∧ ∀ j v, (C i)[j]? = some v → w.cell? ⟨g, o + i * k + j, none⟩ = some v := by
 rcases Go.Deep.open_slice ht h with ⟨h0, _⟩ | ⟨a, len, cap, m, f, D, Pl, hcs, _, hl, hm, hmm, _, hi⟩
 · exact ⟨none, 0, 0, h0, by omega, fun _ => [], fun _ => default, fun i hi => by omega⟩
 · have hlm : len ≤ m := by rw [hmm]; split <;> omega
   rw [hC] at hi
   have key : ∀ i, i < len → ∃ q : List Value × α, q.1.length = k ∧ R q.1 q.2 ∧ ∀ j v, q.1[j]? = some v → w.cell? ((a.add (i * k)).add j) = some v := by
    intro i hin
    obtain ⟨cs', h1, h2⟩ := hi i (by omega)
    obtain ⟨X, hl, hX⟩ := hel _ _ _ h2
    obtain ⟨hs, _, hat⟩ := World.cells?_some h1
    refine ⟨(cs', X), hl, hX, fun j v hj => (hat j ?_).trans hj⟩
    have := (List.getElem?_eq_some_iff.1 hj).1
    simp only [] at this
    omega
   obtain ⟨Q, hQ⟩ := Go.Deep.choose_lt (α := List Value × α) key
   refine ⟨some a, len, cap, hcs, ⟨Nat.le_trans (Nat.le_trans hl hm) (Nat.le_refl _), hl⟩, fun i => (Q i).1, fun i => (Q i).2, fun i hin => ?_⟩
   obtain ⟨q1, _, q2⟩ := hQ 0 (by omega)
   have h0 := q2 0 ((Q 0).1[0]'(by omega)) (by simp)
   rw [Nat.zero_mul, show a.add 0 = a from rfl, show a.add 0 = a from rfl] at h0
   have ha := cell_spot h0
   obtain ⟨_, hR, hc⟩ := hQ i hin
   refine ⟨a.block, a.off, by rw [← ha], hR, fun j v hj => ?_⟩
   have h1 := hc j v hj
   rw [ha, add_form, add_form] at h1
   exact h1
theorem tr1 {fuel : Nat} {cs : List Value} {y : DataW H × List MemPlace} (h : DataW.trod enc Tryz.prog w base spare held fuel 3 cs = some y) : ∃ n, cs = [.int .i64 n] := by
 obtain ⟨n, e, _, _⟩ := DataW.trod_int Tryz.underlying3 h
 exact ⟨n, e⟩
theorem ls2 {α : Type} {cs : List α} (h : cs.length = 2) : ∃ a b, cs = [a, b] := by
 match cs, h with
 | [a, b], _ => exact ⟨a, b, rfl⟩
theorem ls4 {α : Type} {cs : List α} (h : cs.length = 4) : ∃ a b c d, cs = [a, b, c, d] := by
 match cs, h with
 | [a, b, c, d], _ => exact ⟨a, b, c, d, rfl⟩
theorem ls6 {α : Type} {cs : List α} (h : cs.length = 6) : ∃ a b c d e f, cs = [a, b, c, d, e, f] := by
 match cs, h with
 | [a, b, c, d, e, f], _ => exact ⟨a, b, c, d, e, f, rfl⟩
theorem ls7 {α : Type} {cs : List α} (h : cs.length = 7) : ∃ a b c d e f g, cs = [a, b, c, d, e, f, g] := by
 match cs, h with
 | [a, b, c, d, e, f, g], _ => exact ⟨a, b, c, d, e, f, g, rfl⟩
theorem ls8 {α : Type} {cs : List α} (h : cs.length = 8) : ∃ a b c d e f g i, cs = [a, b, c, d, e, f, g, i] := by
 match cs, h with
 | [a, b, c, d, e, f, g, i], _ => exact ⟨a, b, c, d, e, f, g, i, rfl⟩
theorem ls9 {α : Type} {cs : List α} (h : cs.length = 9) : ∃ a b c d e f g i j, cs = [a, b, c, d, e, f, g, i, j] := by
 match cs, h with
 | [a, b, c, d, e, f, g, i, j], _ => exact ⟨a, b, c, d, e, f, g, i, j, rfl⟩
theorem tr_pt {fuel : Nat} {cs : List Value} {y : DataW H × List MemPlace} (h : DataW.trod enc Tryz.prog w base spare held fuel 28 cs = some y) : ∃ a b, cs = [.int .i64 a, .int .i64 b] := by
 obtain ⟨xs, n, _, rfl, hl, hlen, hf⟩ := DataW.trod_struct Tryz.underlying28 h
 have hC : Tryz.prog.cellsOf 28 = 2 := by kernel_rfl
 have hI : Tryz.prog.cellsOf 3 = 1 := by kernel_rfl
 rw [hC] at hl
 obtain ⟨c0, c1, rfl⟩ := ls2 hl
 obtain ⟨y0, y1, rfl⟩ := ls2 hlen
 obtain ⟨a, ea⟩ := tr1 (hf 0 _ rfl)
 obtain ⟨b, eb⟩ := tr1 (hf 1 _ rfl)
 simp [hI] at ea eb
 exact ⟨a, b, by rw [ea, eb]⟩
theorem tr_sec {fuel : Nat} {cs : List Value} {y : DataW H × List MemPlace} (h : DataW.trod enc Tryz.prog w base spare held fuel 151 cs = some y) : ∃ a b c d e f, cs = [.int .i64 a, .int .i64 b, .int .i64 c, .int .i64 d, .int .i64 e, .int .i64 f] := by
 obtain ⟨xs, n, _, rfl, hl, hlen, hf⟩ := DataW.trod_struct Tryz.underlying151 h
 have hC : Tryz.prog.cellsOf 151 = 6 := by kernel_rfl
 have hI : Tryz.prog.cellsOf 3 = 1 := by kernel_rfl
 have hP : Tryz.prog.cellsOf 28 = 2 := by kernel_rfl
 rw [hC] at hl
 obtain ⟨c0, c1, c2, c3, c4, c5, rfl⟩ := ls6 hl
 obtain ⟨y0, y1, y2, y3, rfl⟩ := ls4 hlen
 obtain ⟨a, b, ea⟩ := tr_pt (hf 0 _ rfl)
 obtain ⟨c, d, eb⟩ := tr_pt (hf 1 _ rfl)
 obtain ⟨e, ee⟩ := tr1 (hf 2 _ rfl)
 obtain ⟨f, ef⟩ := tr1 (hf 3 _ rfl)
 simp [hI, hP] at ea eb ee ef
 exact ⟨a, b, c, d, e, f, by rw [ea.1, ea.2, eb.1, eb.2, ee, ef]⟩
theorem rows_of_elems {k : Nat} {n : Nat} {ad : Option Addr} {c : Nat} (hn : n ≤ 9223372036854775807 ∧ n ≤ c) {C : Nat → List Value} {X : Nat → Nat → Int} (h : ∀ i, i < n → ∃ g o, ad = some ⟨g, o, none⟩ ∧ (∀ j, j < k → (C i)[j]? = some (.int .i64 (X i j))) ∧ ∀ j v, (C i)[j]? = some v → w.cell? ⟨g, o + i * k + j, none⟩ = some v) : Lists k w (.slice ad n c) n X :=
 ⟨⟨ad, c, rfl, hn.1, fun i hi => by
   obtain ⟨g, o, hg, h1, h2⟩ := h i hi
   exact ⟨g, o, hg, fun j hj => h2 j _ (h1 j hj)⟩⟩, fun _ _ _ e => by cases e; exact hn.2⟩
theorem pts_tr {fuel : Nat} {cs : List Value} {x : DataW H × List MemPlace} (h : DataW.trod enc Tryz.prog w base spare held fuel 29 cs = some x) : ∃ ad n c l, cs = [.slice ad n c] ∧ l.length = n ∧ PtsAt w (.slice ad n c) l := by
 obtain ⟨ad, n, c, rfl, hn, C, X, hX⟩ := elems_open (α := Nat → Int) (fun cs X => ∀ j, j < 2 → cs[j]? = some (.int .i64 (X j))) Tryz.underlying29 (by kernel_rfl : _ = 2) (by omega)
  (fun _ _ _ h => by
   obtain ⟨a, b, rfl⟩ := tr_pt h
   exact ⟨fun j => ptC (a, b) j, rfl, fun j hj => match j, hj with
    | 0, _ => rfl
    | 1, _ => rfl⟩) h
 obtain ⟨l, hl, hp⟩ := (rows_of_elems (k := 2) (ad := ad) (c := c) hn hX).pts
 exact ⟨ad, n, c, l, rfl, hl, hp⟩
theorem secs_tr {fuel : Nat} {cs : List Value} {x : DataW H × List MemPlace} (h : DataW.trod enc Tryz.prog w base spare held fuel 30 cs = some x) : ∃ ad n c l, cs = [.slice ad n c] ∧ l.length = n ∧ SecsAt w (.slice ad n c) l := by
 obtain ⟨ad, n, c, rfl, hn, C, X, hX⟩ := elems_open (α := Nat → Int) (fun cs X => ∀ j, j < 6 → cs[j]? = some (.int .i64 (X j))) Tryz.underlying30 (by kernel_rfl : _ = 6) (by omega)
  (fun _ _ _ h => by
   obtain ⟨a, b, c, d, e, f, rfl⟩ := tr_sec h
   exact ⟨fun j => Sec.c ⟨a, b, c, d, e, f⟩ j, rfl, fun j hj => match j, hj with
    | 0, _ => rfl
    | 1, _ => rfl
    | 2, _ => rfl
    | 3, _ => rfl
    | 4, _ => rfl
    | 5, _ => rfl⟩) h
 obtain ⟨l, hl, hp⟩ := (rows_of_elems (k := 6) (ad := ad) (c := c) hn hX).secs
 exact ⟨ad, n, c, l, rfl, hl, hp⟩
theorem tr_feat {fuel : Nat} {cs : List Value} {y : DataW H × List MemPlace} (h : DataW.trod enc Tryz.prog w base spare held fuel 32 cs = some y) : ∃ (f : Feat) (ad : Option Addr) (c : Nat) (ad2 : Option Addr) (c2 : Nat),
  cs = [.int .i64 f.id, .int .i64 f.kind, .int .i64 f.x, .int .i64 f.y, .int .i64 f.rad, .slice ad f.area.length c, .int .i64 f.dep, .int .i64 f.sym, .slice ad2 f.secs.length c2] ∧ PtsAt w (.slice ad f.area.length c) f.area ∧ SecsAt w (.slice ad2 f.secs.length c2) f.secs := by
 obtain ⟨xs, n, _, rfl, hl, hlen, hf⟩ := DataW.trod_struct Tryz.underlying32 h
 have hC : Tryz.prog.cellsOf 32 = 9 := by kernel_rfl
 have hI : Tryz.prog.cellsOf 3 = 1 := by kernel_rfl
 have hP : Tryz.prog.cellsOf 28 = 2 := by kernel_rfl
 have hA : Tryz.prog.cellsOf 29 = 1 := by kernel_rfl
 have hS : Tryz.prog.cellsOf 30 = 1 := by kernel_rfl
 rw [hC] at hl
 obtain ⟨c0, c1, c2, c3, c4, c5, c6, c7, c8, rfl⟩ := ls9 hl
 obtain ⟨y0, y1, y2, y3, y4, y5, y6, y7, rfl⟩ := ls8 hlen
 obtain ⟨id, e0⟩ := tr1 (hf 0 _ rfl)
 obtain ⟨kind, e1⟩ := tr1 (hf 1 _ rfl)
 obtain ⟨x, y, e2⟩ := tr_pt (hf 2 _ rfl)
 obtain ⟨rad, e3⟩ := tr1 (hf 3 _ rfl)
 obtain ⟨ad, na, ca, area, e4, l4, h4⟩ := pts_tr (hf 4 _ rfl)
 obtain ⟨dep, e5⟩ := tr1 (hf 5 _ rfl)
 obtain ⟨sym, e6⟩ := tr1 (hf 6 _ rfl)
 obtain ⟨ad2, ns, cs, secs, e7, l7, h7⟩ := secs_tr (hf 7 _ rfl)
 simp [hI, hP, hA, hS] at e0 e1 e2 e3 e4 e5 e6 e7
 subst l4 l7
 exact ⟨⟨id, kind, x, y, rad, area, dep, sym, secs⟩, ad, ca, ad2, cs, by rw [e0, e1, e2.1, e2.2, e3, e4, e5, e6, e7], h4, h7⟩
theorem feats_tr {fuel : Nat} {cs : List Value} {x : DataW H × List MemPlace} (h : DataW.trod enc Tryz.prog w base spare held fuel 22 cs = some x) : ∃ ad n c l, cs = [.slice ad n c] ∧ l.length = n ∧ FeatsAt w (.slice ad n c) l := by
 haveI : Inhabited Feat := ⟨noFeat⟩
 obtain ⟨ad, n, c, rfl, hn, C, X, hX⟩ := elems_open (α := Feat) (fun cs f => ∃ (ad : Option Addr) (c : Nat) (ad2 : Option Addr) (c2 : Nat),
   cs = [.int .i64 f.id, .int .i64 f.kind, .int .i64 f.x, .int .i64 f.y, .int .i64 f.rad, .slice ad f.area.length c, .int .i64 f.dep, .int .i64 f.sym, .slice ad2 f.secs.length c2] ∧ PtsAt w (.slice ad f.area.length c) f.area ∧ SecsAt w (.slice ad2 f.secs.length c2) f.secs)
  Tryz.underlying22 (by kernel_rfl : _ = 9) (by omega)
  (fun _ _ _ h => by
   obtain ⟨f, ad, c, ad2, c2, rfl, h1, h2⟩ := tr_feat h
   exact ⟨f, rfl, ad, c, ad2, c2, rfl, h1, h2⟩) h
 refine ⟨ad, n, c, (List.range n).map X, rfl, by simp, ad, c, by simp, by simpa using hn, fun i hi => ?_⟩
 rw [List.length_map, List.length_range] at hi
 obtain ⟨g, o, hg, ⟨ad1, c1, ad2, c2, e, h1, h2⟩, h3⟩ := hX i hi
 rw [range_getD n X noFeat hi]
 rw [e] at h3
 exact ⟨g, o, _, _, hg, h3 0 _ rfl, h3 1 _ rfl, h3 2 _ rfl, h3 3 _ rfl, h3 4 _ rfl, h3 5 _ rfl, h3 6 _ rfl, h3 7 _ rfl, h3 8 _ rfl, h1, h2⟩
theorem open_feats (hv : Value.okWide Tryz.prog w r b0 22 v) (h : DataW.Trod enc Tryz.prog w base spare held 22 v d p) : ∃ ad c l, v = .slice ad l.length c ∧ FeatsAt w (.slice ad l.length c) l := by
 obtain ⟨fuel, hf⟩ := h
 obtain ⟨ad, n, c, l, hcs, rfl, hR⟩ := feats_tr hf
 exact ⟨ad, c, l, one_cell rfl (okWide_slice Tryz.underlying22 hv) hcs, hR⟩
end
end Go.Proofs.YtdmegkkifiahdaaGreat
namespace Go.Proofs.YtdmegkkifiahdaaGreat
open Go.ChangeShapes Go.WideShapes Go.ChangeAt Go.RowKit Go.Joins
set_option maxRecDepth 100000
section
variable {H : Type} {enc : TypeId × Value → H} {w : World} {base : Nat} {spare : Nat → Bool} {held : Bool} {r : Reach} {b0 : Nat} {v : Value} {d : DataW H} {p : List MemPlace}
end
end Go.Proofs.YtdmegkkifiahdaaGreat
