/- Opening the arguments of chapter 20's laws: datums, books, features. -/
import Derived.Test.YtdmegkkifiahdaaGreatFrameH
import Derived.Test.YtdmegkkifiahdaaGreatFrameO
import Derived.Test.YtdmegkkifiahdaaGreatKH
namespace Go.Proofs.YtdmegkkifiahdaaGreat
open Go.ChangeShapes Go.WideShapes Go.ChangeAt Go.RowKit Go.Joins
set_option maxRecDepth 100000
theorem and_2 {p q1 q2 : Bool} (h : p = true) (g : (q1 && q2) = true) : (p && q1 && q2) = true := by cases p <;> cases q1 <;> simp_all
theorem and_4 {p q1 q2 q3 q4 : Bool} (h : p = true) (g : (q1 && q2 && q3 && q4) = true) : (p && q1 && q2 && q3 && q4) = true := by cases p <;> cases q1 <;> simp_all
theorem and_5 {p q1 q2 q3 q4 q5 : Bool} (h : p = true) (g : (q1 && q2 && q3 && q4 && q5) = true) : (p && q1 && q2 && q3 && q4 && q5) = true := by cases p <;> cases q1 <;> simp_all
theorem and_8 {p q1 q2 q3 q4 q5 q6 q7 q8 : Bool} (h : p = true) (g : (q1 && q2 && q3 && q4 && q5 && q6 && q7 && q8) = true) : (p && q1 && q2 && q3 && q4 && q5 && q6 && q7 && q8) = true := by cases p <;> cases q1 <;> simp_all
section
variable {H : Type} {enc : TypeId × Value → H} {w : World} {base : Nat} {spare : Nat → Bool} {held : Bool} {r : Reach} {b0 : Nat} {v : Value} {d : DataW H} {p : List MemPlace}
theorem ls3 {α : Type} {cs : List α} (h : cs.length = 3) : ∃ a b c, cs = [a, b, c] := by
  match cs, h with
  | [a, b, c], _ => exact ⟨a, b, c, rfl⟩
theorem tr_mark {fuel : Nat} {cs : List Value} {y : DataW H × List MemPlace} (h : DataW.trod enc Tryz.prog w base spare held fuel 166 cs = some y) : ∃ m : Mk, cs = [.int .i64 m.sym, .int .i64 m.kind, .int .i64 m.cls] := by
  obtain ⟨xs, n, _, rfl, hl, hlen, hf⟩ := DataW.trod_struct Tryz.underlying166 h
  have hC : Tryz.prog.cellsOf 166 = 3 := by kernel_rfl
  have hI : Tryz.prog.cellsOf 3 = 1 := by kernel_rfl
  rw [hC] at hl
  obtain ⟨c0, c1, c2, rfl⟩ := ls3 hl
  obtain ⟨y0, y1, y2, rfl⟩ := ls3 hlen
  obtain ⟨a, ea⟩ := tr1 (hf 0 _ rfl)
  obtain ⟨b, eb⟩ := tr1 (hf 1 _ rfl)
  obtain ⟨c, ec⟩ := tr1 (hf 2 _ rfl)
  simp [hI] at ea eb ec
  exact ⟨⟨a, b, c⟩, by rw [ea, eb, ec]⟩
theorem marks_tr {fuel : Nat} {cs : List Value} {x : DataW H × List MemPlace} (h : DataW.trod enc Tryz.prog w base spare held fuel 70 cs = some x) : ∃ ad n c l, cs = [.slice ad n c] ∧ l.length = n ∧ MksAt w (.slice ad n c) l := by
  haveI : Inhabited Mk := ⟨noMk⟩
  obtain ⟨ad, n, c, rfl, hn, C, X, hX⟩ := elems_open (α := Mk) (fun cs m => cs = [.int .i64 m.sym, .int .i64 m.kind, .int .i64 m.cls]) Tryz.underlying70 (by kernel_rfl : _ = 3) (by omega)
    (fun _ _ _ h => by
      obtain ⟨m, rfl⟩ := tr_mark h
      exact ⟨m, rfl, rfl⟩) h
  refine ⟨ad, n, c, (List.range n).map X, rfl, by simp, ad, c, by simp, by simpa using hn.1, fun i hi => ?_⟩
  rw [List.length_map, List.length_range] at hi
  obtain ⟨g, o, hg, e, h3⟩ := hX i hi
  rw [e] at h3
  refine ⟨g, o, hg, fun j hj => ?_⟩
  have hr := range_getD n X noMk hi
  match j, hj with
  | 0, _ => rw [h3 0 _ rfl]; unfold mkX; rw [hr]; rfl
  | 1, _ => rw [h3 1 _ rfl]; unfold mkX; rw [hr]; rfl
  | 2, _ => rw [h3 2 _ rfl]; unfold mkX; rw [hr]; rfl
theorem tr_book {fuel : Nat} {cs : List Value} {y : DataW H × List MemPlace} (h : DataW.trod enc Tryz.prog w base spare held fuel 72 cs = some y) : ∃ (b : Bk) (ad : Option Addr) (c : Nat), cs = [.int .i64 b.office, .slice ad b.marks.length c] ∧ MksAt w (.slice ad b.marks.length c) b.marks := by
  obtain ⟨xs, n, _, rfl, hl, hlen, hf⟩ := DataW.trod_struct Tryz.underlying72 h
  have hC : Tryz.prog.cellsOf 72 = 2 := by kernel_rfl
  have hI : Tryz.prog.cellsOf 3 = 1 := by kernel_rfl
  have hM : Tryz.prog.cellsOf 70 = 1 := by kernel_rfl
  rw [hC] at hl
  obtain ⟨c0, c1, rfl⟩ := ls2 hl
  obtain ⟨y0, y1, rfl⟩ := ls2 hlen
  obtain ⟨f, e0⟩ := tr1 (hf 0 _ rfl)
  obtain ⟨ad, n, c, l, e1, l1, h1⟩ := marks_tr (hf 1 _ rfl)
  simp [hI, hM] at e0 e1
  subst l1
  exact ⟨⟨f, l⟩, ad, c, by rw [e0, e1], h1⟩
theorem open_book (hv : Value.okWide Tryz.prog w r b0 72 v) (h : DataW.Trod enc Tryz.prog w base spare held 72 v d p) : ∃ (b : Bk) (ad : Option Addr) (c : Nat), v = .agg #[.int .i64 b.office, .slice ad b.marks.length c] ∧ MksAt w (.slice ad b.marks.length c) b.marks := by
  obtain ⟨cs, rfl, _⟩ := okWide_struct Tryz.underlying72 hv
  obtain ⟨fuel, hf⟩ := h
  obtain ⟨b, ad, c, e, h1⟩ := tr_book hf
  refine ⟨b, ad, c, ?_, h1⟩
  obtain ⟨l⟩ := cs
  have e' : l = _ := e
  rw [e']
theorem open_dat (hv : Value.okWide Tryz.prog w r b0 52 v) (h : DataW.Trod enc Tryz.prog w base spare held 52 v d p) : ∃ m : Dat, v = .agg #[.int .i64 m.a, .int .i64 m.b, .int .i64 m.c, .int .i64 m.d, .int .i64 m.e, .int .i64 m.f, .int .i64 m.r] := by
  obtain ⟨cs, rfl, _⟩ := okWide_struct Tryz.underlying52 hv
  obtain ⟨fuel, hf⟩ := h
  obtain ⟨m, e⟩ := tr_dat hf
  refine ⟨m, ?_⟩
  obtain ⟨l⟩ := cs
  have e' : l = _ := e
  rw [e']
end
end Go.Proofs.YtdmegkkifiahdaaGreat
