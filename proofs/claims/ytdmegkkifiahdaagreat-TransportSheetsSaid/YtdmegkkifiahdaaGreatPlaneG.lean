/- The walks of package plane's exported functions Lies, Close, Dist. -/
import Derived.Test.YtdmegkkifiahdaaGreatKA
import Derived.Outline
namespace Go.Proofs.YtdmegkkifiahdaaGreat
open Go.RowKit
theorem Lies_yes (px py r qx qy s : Int) (w : World) (hp : Vld px py) (hq : Vld qx qy) (hr : 0 ≤ r ∧ r ≤ 3000000) (hs : 0 ≤ s ∧ s ≤ 3000000) {v : Bool} (hv : liesB px py r qx qy s = v) :
    Calls Tryz.prog 253 #[.agg #[.int .i64 px, .int .i64 py], .int .i64 r, .agg #[.int .i64 qx, .int .i64 qy], .int .i64 s] w fun e w' => e = .returned (.tuple #[.bool v, .int .i64 0]) ∧ Below w.heap.size w w' := by
  obtain ⟨⟨m1, m2⟩, m3, m4⟩ := sqd_bd hp hq
  obtain ⟨s1, s2⟩ := mul_bd (a := s - r) (b := s - r) (A := 3000000) (B := 3000000) (by omega) (by omega) (by omega) (by omega)
  obtain ⟨r1, r2⟩ := hr
  obtain ⟨z1, z2⟩ := hs
  have HP := Lib.hid hp
  have HQ := Lib.hid hq
  obtain ⟨a1, a2, a3, a4⟩ := hp
  obtain ⟨b1, b2, b3, b4⟩ := hq
  rw [liesB, sqd] at hv
  have HV := Lib.hid hv
  clear hv
  go_enter Tryz.func253, Tryz.ntmps253
  go_wp2_with fail
  refine calls_named fun W hW => ?_
  obtain ⟨p1, p2, p3, hB⟩ := box3 hW
  clear hW
  (with_reducible refine (valids2_yes _ _ _ _ _ _ _ p3 ⟨HP.out, HQ.out⟩).mono ?_)
  rintro e w1 ⟨rfl, hb1⟩
  have q1 := cellsL p1
  have q2 := cellsL p2
  clear p1 p2 p3
  go_wp2_with fail
  (with_reducible refine (dist_yes _ _ r1 r2).mono ?_)
  rintro e w2 ⟨rfl, hb2⟩
  have hB2 := below_step hb1 hb2
  clear hb1 hb2
  go_wp2_with fail
  (with_reducible refine (dist_yes _ _ z1 z2).mono ?_)
  rintro e w3 ⟨rfl, hb3⟩
  have hB3 := below_step hB2 hb3
  clear hB2 hb3
  go_wp2_with fail
  (with_reducible refine (from_any _ _ _ _ _ (by omega) (by omega) (by omega) (by omega)).mono ?_)
  rintro e w4 ⟨rfl, hb4⟩
  have hB4 := below_step hB3 hb4
  clear hB3 hb4
  by_cases t : r ≤ s
  · go_wp2_with fail
    refine calls_named fun W5 hW5 => ?_
    have hB5 : Below w.heap.size w W5 := by rw [hW5]; exact (below_step hB hB4).alloc (below_step hB hB4).size _
    clear hW5 hB hB4
    (with_reducible refine (dot_any _ _ _ _ _ (by omega) (by omega) (by omega) (by omega) (by omega) (by omega)).mono ?_)
    rintro e w6 ⟨rfl, hb6⟩
    go_wp2_with fail
    all_goals
      go_ret2
      exact ⟨by rw [← HV.out]; simp [t], below_step hB5 hb6⟩
  · go_wp2_with fail
    go_ret2
    exact ⟨by rw [← HV.out]; have t' : ¬ r ≤ s := by omega
              simp [t'], (below_step hB hB4).alloc (below_step hB hB4).size _⟩
end Go.Proofs.YtdmegkkifiahdaaGreat
