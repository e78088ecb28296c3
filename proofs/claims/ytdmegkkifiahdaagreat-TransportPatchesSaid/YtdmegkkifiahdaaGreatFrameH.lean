/- Opening sheets as arguments of chapter 14's laws. -/
import Derived.Test.YtdmegkkifiahdaaGreatFrameF
import Derived.Test.YtdmegkkifiahdaaGreatShtA
import Derived.Test.YtdmegkkifiahdaaGreatShtMath
namespace Go.Proofs.YtdmegkkifiahdaaGreat
open Go.ChangeShapes Go.WideShapes Go.ChangeAt Go.RowKit Go.Joins
set_option maxRecDepth 100000
section
variable {H : Type} {enc : TypeId × Value → H} {w : World} {base : Nat} {spare : Nat → Bool} {held : Bool} {r : Reach} {b0 : Nat} {v : Value} {d : DataW H} {p : List MemPlace}
theorem tr_dat {fuel : Nat} {cs : List Value} {y : DataW H × List MemPlace} (h : DataW.trod enc Tryz.prog w base spare held fuel 52 cs = some y) : ∃ m : Dat, cs = [.int .i64 m.a, .int .i64 m.b, .int .i64 m.c, .int .i64 m.d, .int .i64 m.e, .int .i64 m.f, .int .i64 m.r] := by
  obtain ⟨xs, n, _, rfl, hl, hlen, hf⟩ := DataW.trod_struct Tryz.underlying52 h
  have hC : Tryz.prog.cellsOf 52 = 7 := by kernel_rfl
  have hI : Tryz.prog.cellsOf 3 = 1 := by kernel_rfl
  rw [hC] at hl
  obtain ⟨c0, c1, c2, c3, c4, c5, c6, rfl⟩ := ls7 hl
  obtain ⟨y0, y1, y2, y3, y4, y5, y6, rfl⟩ := ls7 hlen
  obtain ⟨a, e0⟩ := tr1 (hf 0 _ rfl)
  obtain ⟨b, e1⟩ := tr1 (hf 1 _ rfl)
  obtain ⟨c, e2⟩ := tr1 (hf 2 _ rfl)
  obtain ⟨d, e3⟩ := tr1 (hf 3 _ rfl)
  obtain ⟨e, e4⟩ := tr1 (hf 4 _ rfl)
  obtain ⟨f, e5⟩ := tr1 (hf 5 _ rfl)
  obtain ⟨r, e6⟩ := tr1 (hf 6 _ rfl)
  simp [hI] at e0 e1 e2 e3 e4 e5 e6
  exact ⟨⟨a, b, c, d, e, f, r⟩, by rw [e0, e1, e2, e3, e4, e5, e6]⟩
end
end Go.Proofs.YtdmegkkifiahdaaGreat
