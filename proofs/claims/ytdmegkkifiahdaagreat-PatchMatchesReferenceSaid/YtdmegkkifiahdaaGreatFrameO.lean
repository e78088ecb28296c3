import Derived.Test.YtdmegkkifiahdaaGreatKF2
import Derived.Test.YtdmegkkifiahdaaGreatPC
namespace Go.Proofs.YtdmegkkifiahdaaGreat
open Go.ChangeShapes Go.WideShapes Go.ChangeAt Go.RowKit Go.Joins
set_option maxRecDepth 100000
section
variable {H : Type} {enc : TypeId × Value → H} {w : World} {base : Nat} {spare : Nat → Bool} {held : Bool} {r : Reach} {b0 : Nat} {v : Value} {d : DataW H} {p : List MemPlace}
theorem ls16 {α : Type} {cs : List α} (h : cs.length = 16) : ∃ a b c d e f g i j k l m n o p q, cs = [a, b, c, d, e, f, g, i, j, k, l, m, n, o, p, q] := by
 match cs, h with
 | [a, b, c, d, e, f, g, i, j, k, l, m, n, o, p, q], _ => exact ⟨a, b, c, d, e, f, g, i, j, k, l, m, n, o, p, q, rfl⟩
theorem tr_op {fuel : Nat} {cs : List Value} {y : DataW H × List MemPlace} (h : DataW.trod enc Tryz.prog w base spare held fuel 34 cs = some y) : ∃ (x : Opn) (va vs : Value), cs = opCells (x, va, vs) ∧ PartsAt w x.feat va vs := by
 obtain ⟨xs, n, _, rfl, hl, hlen, hf⟩ := DataW.trod_struct Tryz.underlying34 h
 have hC : Tryz.prog.cellsOf 34 = 16 := by kernel_rfl
 have hI : Tryz.prog.cellsOf 3 = 1 := by kernel_rfl
 have hP : Tryz.prog.cellsOf 28 = 2 := by kernel_rfl
 have hF : Tryz.prog.cellsOf 32 = 9 := by kernel_rfl
 rw [hC] at hl
 obtain ⟨c0, c1, c2, c3, c4, c5, c6, c7, c8, c9, c10, c11, c12, c13, c14, c15, rfl⟩ := ls16 hl
 obtain ⟨y0, y1, y2, y3, y4, y5, y6, rfl⟩ := ls7 hlen
 obtain ⟨kind, e0⟩ := tr1 (hf 0 _ rfl)
 obtain ⟨id, e1⟩ := tr1 (hf 1 _ rfl)
 obtain ⟨f, ad, c, ad2, c2', e2, ha, hs⟩ := tr_feat (hf 2 _ rfl)
 obtain ⟨px, py, e3⟩ := tr_pt (hf 3 _ rfl)
 obtain ⟨rad, e4⟩ := tr1 (hf 4 _ rfl)
 obtain ⟨dep, e5⟩ := tr1 (hf 5 _ rfl)
 obtain ⟨sym, e6⟩ := tr1 (hf 6 _ rfl)
 simp [hI, hP, hF] at e0 e1 e2 e3 e4 e5 e6
 obtain ⟨f0, f1, f2, f3, f4, f5, f6, f7, f8⟩ := e2
 exact ⟨⟨kind, id, f, px, py, rad, dep, sym⟩, .slice ad f.area.length c, .slice ad2 f.secs.length c2', by rw [e0, e1, f0, f1, f2, f3, f4, f5, f6, f7, f8, e3.1, e3.2, e4, e5, e6]; rfl, ha, hs⟩
theorem ops_tr {fuel : Nat} {cs : List Value} {x : DataW H × List MemPlace} (h : DataW.trod enc Tryz.prog w base spare held fuel 23 cs = some x) : ∃ ad n c l, cs = [.slice ad n c] ∧ l.length = n ∧ OpsAt w (.slice ad n c) l := by
 haveI : Inhabited Opn := ⟨noOpn⟩
 obtain ⟨ad, n, c, rfl, hn, C, X, hX⟩ := elems_open (α := Opn) (fun cs f => ∃ (va vs : Value), cs = opCells (f, va, vs) ∧ PartsAt w f.feat va vs)
  Tryz.underlying23 (by kernel_rfl : _ = 16) (by omega)
  (fun _ _ _ h => by
   obtain ⟨f, va, vs, rfl, h1⟩ := tr_op h
   exact ⟨f, rfl, va, vs, rfl, h1⟩) h
 refine ⟨ad, n, c, (List.range n).map X, rfl, by simp, ad, c, by simp, by simpa using hn, fun i hi => ?_⟩
 rw [List.length_map, List.length_range] at hi
 obtain ⟨g, o, hg, ⟨va, vs, e, h1⟩, h3⟩ := hX i hi
 rw [range_getD n X noOpn hi]
 rw [e] at h3
 exact ⟨g, o, va, vs, hg, opCells_at (x := (X i, va, vs)) h1 fun j hj => by
  obtain ⟨u, hu⟩ : ∃ u, (opCells (X i, va, vs))[j]? = some u := ⟨_, List.getElem?_eq_getElem (by rw [opCells_len]; exact hj)⟩
  rw [hu]
  exact h3 j u hu⟩
theorem open_ops (hv : Value.okWide Tryz.prog w r b0 23 v) (h : DataW.Trod enc Tryz.prog w base spare held 23 v d p) : ∃ ad c l, v = .slice ad l.length c ∧ OpsAt w (.slice ad l.length c) l := by
 obtain ⟨fuel, hf⟩ := h
 obtain ⟨ad, n, c, l, hcs, rfl, hR⟩ := ops_tr hf
 exact ⟨ad, c, l, one_cell rfl (okWide_slice Tryz.underlying23 hv) hcs, hR⟩
end
end Go.Proofs.YtdmegkkifiahdaaGreat
