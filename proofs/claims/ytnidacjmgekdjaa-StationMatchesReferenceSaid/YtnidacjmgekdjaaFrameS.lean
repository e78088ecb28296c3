/- Opening the arguments of chapter 31's laws: stations, suns, boxes, places, numbers. -/
import Derived.Test.YtnidacjmgekdjaaFrame
namespace Go.Proofs.Ytnidacjmgekdjaa
open Go.ChangeShapes Go.WideShapes Go.ChangeAt Go.RowKit Go.Joins
section
variable {H : Type} {enc : TypeId × Value → H} {w : World} {base : Nat} {spare : Nat → Bool} {held : Bool} {r : Reach} {b0 : Nat} {v : Value} {d : DataW H} {p : List MemPlace}
theorem list2 {α : Type} {cs : List α} (h : cs.length = 2) : ∃ a b, cs = [a, b] := by
  match cs, h with
  | [a, b], _ => exact ⟨a, b, rfl⟩
theorem list4 {α : Type} {cs : List α} (h : cs.length = 4) : ∃ a b c d, cs = [a, b, c, d] := by
  match cs, h with
  | [a, b, c, d], _ => exact ⟨a, b, c, d, rfl⟩
theorem list6 {α : Type} {cs : List α} (h : cs.length = 6) : ∃ a b c d e f, cs = [a, b, c, d, e, f] := by
  match cs, h with
  | [a, b, c, d, e, f], _ => exact ⟨a, b, c, d, e, f, rfl⟩
theorem list7 {α : Type} {cs : List α} (h : cs.length = 7) : ∃ a b c d e f g, cs = [a, b, c, d, e, f, g] := by
  match cs, h with
  | [a, b, c, d, e, f, g], _ => exact ⟨a, b, c, d, e, f, g, rfl⟩
theorem tr_int {fuel : Nat} {cs : List Value} {y : DataW H × List MemPlace} (h : DataW.trod enc Try.prog w base spare held fuel 3 cs = some y) : ∃ n, cs = [.int .i64 n] := by
  obtain ⟨n, e, _, _⟩ := DataW.trod_int Try.underlying3 h
  exact ⟨n, e⟩
theorem tr_pt {fuel : Nat} {cs : List Value} {y : DataW H × List MemPlace} (h : DataW.trod enc Try.prog w base spare held fuel 23 cs = some y) : ∃ a b, cs = [.int .i64 a, .int .i64 b] := by
  obtain ⟨xs, n, _, rfl, hl, hlen, hf⟩ := DataW.trod_struct Try.underlying23 h
  have hC : Try.prog.cellsOf 23 = 2 := by kernel_rfl
  have hI : Try.prog.cellsOf 3 = 1 := by kernel_rfl
  rw [hC] at hl
  obtain ⟨c0, c1, rfl⟩ := list2 hl
  obtain ⟨y0, y1, rfl⟩ := list2 hlen
  obtain ⟨a, ea⟩ := tr_int (hf 0 _ rfl)
  obtain ⟨b, eb⟩ := tr_int (hf 1 _ rfl)
  simp [hI] at ea eb
  exact ⟨a, b, by rw [ea, eb]⟩
theorem tr_span {fuel : Nat} {cs : List Value} {y : DataW H × List MemPlace} (h : DataW.trod enc Try.prog w base spare held fuel 29 cs = some y) : ∃ a b, cs = [.int .i64 a, .int .i64 b] := by
  obtain ⟨xs, n, _, rfl, hl, hlen, hf⟩ := DataW.trod_struct Try.underlying29 h
  have hC : Try.prog.cellsOf 29 = 2 := by kernel_rfl
  have hI : Try.prog.cellsOf 3 = 1 := by kernel_rfl
  rw [hC] at hl
  obtain ⟨c0, c1, rfl⟩ := list2 hl
  obtain ⟨y0, y1, rfl⟩ := list2 hlen
  obtain ⟨a, ea⟩ := tr_int (hf 0 _ rfl)
  obtain ⟨b, eb⟩ := tr_int (hf 1 _ rfl)
  simp [hI] at ea eb
  exact ⟨a, b, by rw [ea, eb]⟩
theorem tr_sun {fuel : Nat} {cs : List Value} {y : DataW H × List MemPlace} (h : DataW.trod enc Try.prog w base spare held fuel 27 cs = some y) : ∃ a b, cs = [.int .i64 a, .int .i64 b] := by
  obtain ⟨xs, n, _, rfl, hl, hlen, hf⟩ := DataW.trod_struct Try.underlying27 h
  have hC : Try.prog.cellsOf 27 = 2 := by kernel_rfl
  have hI : Try.prog.cellsOf 3 = 1 := by kernel_rfl
  rw [hC] at hl
  obtain ⟨c0, c1, rfl⟩ := list2 hl
  obtain ⟨y0, y1, rfl⟩ := list2 hlen
  obtain ⟨a, ea⟩ := tr_int (hf 0 _ rfl)
  obtain ⟨b, eb⟩ := tr_int (hf 1 _ rfl)
  simp [hI] at ea eb
  exact ⟨a, b, by rw [ea, eb]⟩
theorem tr_box {fuel : Nat} {cs : List Value} {y : DataW H × List MemPlace} (h : DataW.trod enc Try.prog w base spare held fuel 31 cs = some y) : ∃ a b c e, cs = [.int .i64 a, .int .i64 b, .int .i64 c, .int .i64 e] := by
  obtain ⟨xs, n, _, rfl, hl, hlen, hf⟩ := DataW.trod_struct Try.underlying31 h
  have hC : Try.prog.cellsOf 31 = 4 := by kernel_rfl
  have hI : Try.prog.cellsOf 29 = 2 := by kernel_rfl
  rw [hC] at hl
  obtain ⟨c0, c1, c2, c3, rfl⟩ := list4 hl
  obtain ⟨y0, y1, rfl⟩ := list2 hlen
  obtain ⟨a, b, ea⟩ := tr_span (hf 0 _ rfl)
  obtain ⟨c, e, eb⟩ := tr_span (hf 1 _ rfl)
  simp [hI] at ea eb
  exact ⟨a, b, c, e, by rw [ea.1, ea.2, eb.1, eb.2]⟩
theorem tr_station {fuel : Nat} {cs : List Value} {y : DataW H × List MemPlace} (h : DataW.trod enc Try.prog w base spare held fuel 25 cs = some y) :
    ∃ a b c e f g i, cs = [.int .i64 a, .int .i64 b, .int .i64 c, .int .i64 e, .int .i64 f, .int .i64 g, .int .i64 i] := by
  obtain ⟨xs, n, _, rfl, hl, hlen, hf⟩ := DataW.trod_struct Try.underlying25 h
  have hC : Try.prog.cellsOf 25 = 7 := by kernel_rfl
  have hI : Try.prog.cellsOf 3 = 1 := by kernel_rfl
  have hP : Try.prog.cellsOf 23 = 2 := by kernel_rfl
  rw [hC] at hl
  obtain ⟨c0, c1, c2, c3, c4, c5, c6, rfl⟩ := list7 hl
  obtain ⟨y0, y1, y2, y3, y4, y5, rfl⟩ := list6 hlen
  obtain ⟨a, ea⟩ := tr_int (hf 0 _ rfl)
  obtain ⟨b, c, eb⟩ := tr_pt (hf 1 _ rfl)
  obtain ⟨e, ee⟩ := tr_int (hf 2 _ rfl)
  obtain ⟨f, ef⟩ := tr_int (hf 3 _ rfl)
  obtain ⟨g, eg⟩ := tr_int (hf 4 _ rfl)
  obtain ⟨i, ei⟩ := tr_int (hf 5 _ rfl)
  simp [hI, hP] at ea eb ee ef eg ei
  exact ⟨a, b, c, e, f, g, i, by rw [ea, eb.1, eb.2, ee, ef, eg, ei]⟩
theorem open_sun (hv : Value.okWide Try.prog w r b0 27 v) (h : DataW.Trod enc Try.prog w base spare held 27 v d p) : ∃ a b : Int, v = .agg #[.int .i64 a, .int .i64 b] := by
  obtain ⟨cs, rfl, _⟩ := okWide_struct Try.underlying27 hv
  obtain ⟨fuel, hf⟩ := h
  obtain ⟨a, b, e⟩ := tr_sun hf
  exact ⟨a, b, by rw [show cs = ⟨[.int .i64 a, .int .i64 b]⟩ from by rw [← e]; rfl]⟩
theorem open_box (hv : Value.okWide Try.prog w r b0 31 v) (h : DataW.Trod enc Try.prog w base spare held 31 v d p) : ∃ a b c e : Int, v = .agg #[.int .i64 a, .int .i64 b, .int .i64 c, .int .i64 e] := by
  obtain ⟨cs, rfl, _⟩ := okWide_struct Try.underlying31 hv
  obtain ⟨fuel, hf⟩ := h
  obtain ⟨a, b, c, d, e⟩ := tr_box hf
  exact ⟨a, b, c, d, by rw [show cs = ⟨[.int .i64 a, .int .i64 b, .int .i64 c, .int .i64 d]⟩ from by rw [← e]; rfl]⟩
theorem open_station (hv : Value.okWide Try.prog w r b0 25 v) (h : DataW.Trod enc Try.prog w base spare held 25 v d p) :
    ∃ id ax ay dr nr fi ev : Int, v = .agg #[.int .i64 id, .int .i64 ax, .int .i64 ay, .int .i64 dr, .int .i64 nr, .int .i64 fi, .int .i64 ev] := by
  obtain ⟨cs, rfl, _⟩ := okWide_struct Try.underlying25 hv
  obtain ⟨fuel, hf⟩ := h
  obtain ⟨a, b, c, d, f, g, i, e⟩ := tr_station hf
  exact ⟨a, b, c, d, f, g, i, by rw [show cs = ⟨[.int .i64 a, .int .i64 b, .int .i64 c, .int .i64 d, .int .i64 f, .int .i64 g, .int .i64 i]⟩ from by rw [← e]; rfl]⟩
end
end Go.Proofs.Ytnidacjmgekdjaa
