/- The walk of the head of chapter 1's statements: the examples of the chapter. -/
import Derived.Test.YtkpmiehggmeejaaPlaneG
namespace Go.Proofs.Ytkpmiehggmeejaa
open Go.RowKit
theorem at_any (x y : Int) (w : World) : Calls Try.prog 31 #[.int .i64 x, .int .i64 y] w fun e w' => e = .returned (.agg #[.int .i64 x, .int .i64 y]) ∧ Below w.heap.size w w' := by
  go_enter Try.func31, Try.ntmps31
  go_wp2_with fail
  go_returns
  exact ⟨rfl, by go_grown⟩
set_option maxRecDepth 100000 in
set_option maxHeartbeats 4000000 in
theorem head_any (w : World) : Calls Try.prog 11 #[] w fun e w' => e = .returned (.bool true) ∧ Below w.heap.size w w' := by
  go_enter Try.func11, Try.ntmps11
  have hB0 := Below.refl w.heap.size w
  go_wp2_with fail
  (with_reducible refine (at_any 0 0 _).mono ?_)
  rintro e w1 ⟨rfl, hb⟩
  have hB1 := below_step hB0 hb
  clear hb hB0
  go_wp2_with fail
  (with_reducible refine (at_any 4 0 _).mono ?_)
  rintro e w2 ⟨rfl, hb⟩
  have hB2 := below_step hB1 hb
  clear hb hB1
  go_wp2_with fail
  (with_reducible refine (at_any 4 3 _).mono ?_)
  rintro e w3 ⟨rfl, hb⟩
  have hB3 := below_step hB2 hb
  clear hb hB2
  go_wp2_with fail
  (with_reducible refine (Turn_yes _ _ _ _ _ _ _ ⟨by omega, by omega, by omega, by omega⟩ ⟨by omega, by omega, by omega, by omega⟩ ⟨by omega, by omega, by omega, by omega⟩ (s := 1) (by decide)).mono ?_)
  rintro e w4 ⟨rfl, hb⟩
  have hB4 := below_step hB3 hb
  clear hb hB3
  go_wp2_with fail
  (with_reducible refine (at_any 2 1 _).mono ?_)
  rintro e w5 ⟨rfl, hb⟩
  have hB5 := below_step hB4 hb
  clear hb hB4
  go_wp2_with fail
  (with_reducible refine (at_any 0 0 _).mono ?_)
  rintro e w6 ⟨rfl, hb⟩
  have hB6 := below_step hB5 hb
  clear hb hB5
  go_wp2_with fail
  (with_reducible refine (at_any 4 2 _).mono ?_)
  rintro e w7 ⟨rfl, hb⟩
  have hB7 := below_step hB6 hb
  clear hb hB6
  go_wp2_with fail
  (with_reducible refine (On_yes _ _ _ _ _ _ _ ⟨by omega, by omega, by omega, by omega⟩ ⟨by omega, by omega, by omega, by omega⟩ ⟨by omega, by omega, by omega, by omega⟩ (v := true) (by decide)).mono ?_)
  rintro e w8 ⟨rfl, hb⟩
  have hB8 := below_step hB7 hb
  clear hb hB7
  go_wp2_with fail
  (with_reducible refine (at_any 0 0 _).mono ?_)
  rintro e w9 ⟨rfl, hb⟩
  have hB9 := below_step hB8 hb
  clear hb hB8
  go_wp2_with fail
  (with_reducible refine (at_any 4 4 _).mono ?_)
  rintro e w10 ⟨rfl, hb⟩
  have hB10 := below_step hB9 hb
  clear hb hB9
  go_wp2_with fail
  (with_reducible refine (at_any 0 4 _).mono ?_)
  rintro e w11 ⟨rfl, hb⟩
  have hB11 := below_step hB10 hb
  clear hb hB10
  go_wp2_with fail
  (with_reducible refine (at_any 4 0 _).mono ?_)
  rintro e w12 ⟨rfl, hb⟩
  have hB12 := below_step hB11 hb
  clear hb hB11
  go_wp2_with fail
  (with_reducible refine (Meet_yes _ _ _ _ _ _ _ _ _ ⟨by omega, by omega, by omega, by omega⟩ ⟨by omega, by omega, by omega, by omega⟩ ⟨by omega, by omega, by omega, by omega⟩ ⟨by omega, by omega, by omega, by omega⟩ (v := true) (by decide)).mono ?_)
  rintro e w13 ⟨rfl, hb⟩
  have hB13 := below_step hB12 hb
  clear hb hB12
  go_wp2_with fail
  (with_reducible refine (at_any 0 0 _).mono ?_)
  rintro e w14 ⟨rfl, hb⟩
  have hB14 := below_step hB13 hb
  clear hb hB13
  go_wp2_with fail
  (with_reducible refine (at_any 4 0 _).mono ?_)
  rintro e w15 ⟨rfl, hb⟩
  have hB15 := below_step hB14 hb
  clear hb hB14
  go_wp2_with fail
  (with_reducible refine (at_any 5 0 _).mono ?_)
  rintro e w16 ⟨rfl, hb⟩
  have hB16 := below_step hB15 hb
  clear hb hB15
  go_wp2_with fail
  (with_reducible refine (at_any 9 0 _).mono ?_)
  rintro e w17 ⟨rfl, hb⟩
  have hB17 := below_step hB16 hb
  clear hb hB16
  go_wp2_with fail
  (with_reducible refine (Meet_yes _ _ _ _ _ _ _ _ _ ⟨by omega, by omega, by omega, by omega⟩ ⟨by omega, by omega, by omega, by omega⟩ ⟨by omega, by omega, by omega, by omega⟩ ⟨by omega, by omega, by omega, by omega⟩ (v := false) (by decide)).mono ?_)
  rintro e w18 ⟨rfl, hb⟩
  have hB18 := below_step hB17 hb
  clear hb hB17
  go_wp2_with fail
  (with_reducible refine (at_any 7 4 _).mono ?_)
  rintro e w19 ⟨rfl, hb⟩
  have hB19 := below_step hB18 hb
  clear hb hB18
  go_wp2_with fail
  (with_reducible refine (at_any 0 0 _).mono ?_)
  rintro e w20 ⟨rfl, hb⟩
  have hB20 := below_step hB19 hb
  clear hb hB19
  go_wp2_with fail
  (with_reducible refine (at_any 4 0 _).mono ?_)
  rintro e w21 ⟨rfl, hb⟩
  have hB21 := below_step hB20 hb
  clear hb hB20
  go_wp2_with fail
  (with_reducible refine (Near_yes _ _ _ _ _ _ _ _ ⟨by omega, by omega, by omega, by omega⟩ ⟨by omega, by omega, by omega, by omega⟩ ⟨by omega, by omega, by omega, by omega⟩ ⟨by omega, by omega⟩ (v := true) (by decide)).mono ?_)
  rintro e w22 ⟨rfl, hb⟩
  have hB22 := below_step hB21 hb
  clear hb hB21
  go_wp2_with fail
  (with_reducible refine (at_any 7 4 _).mono ?_)
  rintro e w23 ⟨rfl, hb⟩
  have hB23 := below_step hB22 hb
  clear hb hB22
  go_wp2_with fail
  (with_reducible refine (at_any 0 0 _).mono ?_)
  rintro e w24 ⟨rfl, hb⟩
  have hB24 := below_step hB23 hb
  clear hb hB23
  go_wp2_with fail
  (with_reducible refine (at_any 4 0 _).mono ?_)
  rintro e w25 ⟨rfl, hb⟩
  have hB25 := below_step hB24 hb
  clear hb hB24
  go_wp2_with fail
  (with_reducible refine (Near_yes _ _ _ _ _ _ _ _ ⟨by omega, by omega, by omega, by omega⟩ ⟨by omega, by omega, by omega, by omega⟩ ⟨by omega, by omega, by omega, by omega⟩ ⟨by omega, by omega⟩ (v := false) (by decide)).mono ?_)
  rintro e w26 ⟨rfl, hb⟩
  have hB26 := below_step hB25 hb
  clear hb hB25
  go_wp2_with fail
  (with_reducible refine (at_any 0 0 _).mono ?_)
  rintro e w27 ⟨rfl, hb⟩
  have hB27 := below_step hB26 hb
  clear hb hB26
  go_wp2_with fail
  (with_reducible refine (at_any 4 0 _).mono ?_)
  rintro e w28 ⟨rfl, hb⟩
  have hB28 := below_step hB27 hb
  clear hb hB27
  go_wp2_with fail
  (with_reducible refine (at_any 6 1 _).mono ?_)
  rintro e w29 ⟨rfl, hb⟩
  have hB29 := below_step hB28 hb
  clear hb hB28
  go_wp2_with fail
  (with_reducible refine (at_any 6 9 _).mono ?_)
  rintro e w30 ⟨rfl, hb⟩
  have hB30 := below_step hB29 hb
  clear hb hB29
  go_wp2_with fail
  (with_reducible refine (Close_yes _ _ _ _ _ _ _ _ _ _ ⟨by omega, by omega, by omega, by omega⟩ ⟨by omega, by omega, by omega, by omega⟩ ⟨by omega, by omega, by omega, by omega⟩ ⟨by omega, by omega, by omega, by omega⟩ ⟨by omega, by omega⟩ (v := true) (by decide)).mono ?_)
  rintro e w31 ⟨rfl, hb⟩
  have hB31 := below_step hB30 hb
  clear hb hB30
  go_wp2_with fail
  (with_reducible refine (at_any 0 0 _).mono ?_)
  rintro e w32 ⟨rfl, hb⟩
  have hB32 := below_step hB31 hb
  clear hb hB31
  go_wp2_with fail
  (with_reducible refine (at_any 4 0 _).mono ?_)
  rintro e w33 ⟨rfl, hb⟩
  have hB33 := below_step hB32 hb
  clear hb hB32
  go_wp2_with fail
  (with_reducible refine (at_any 6 1 _).mono ?_)
  rintro e w34 ⟨rfl, hb⟩
  have hB34 := below_step hB33 hb
  clear hb hB33
  go_wp2_with fail
  (with_reducible refine (at_any 6 9 _).mono ?_)
  rintro e w35 ⟨rfl, hb⟩
  have hB35 := below_step hB34 hb
  clear hb hB34
  go_wp2_with fail
  (with_reducible refine (Close_yes _ _ _ _ _ _ _ _ _ _ ⟨by omega, by omega, by omega, by omega⟩ ⟨by omega, by omega, by omega, by omega⟩ ⟨by omega, by omega, by omega, by omega⟩ ⟨by omega, by omega, by omega, by omega⟩ ⟨by omega, by omega⟩ (v := false) (by decide)).mono ?_)
  rintro e w36 ⟨rfl, hb⟩
  have hB36 := below_step hB35 hb
  clear hb hB35
  go_wp2_with fail
  (with_reducible refine (at_any 0 0 _).mono ?_)
  rintro e w37 ⟨rfl, hb⟩
  have hB37 := below_step hB36 hb
  clear hb hB36
  go_wp2_with fail
  (with_reducible refine (at_any 1 2 _).mono ?_)
  rintro e w38 ⟨rfl, hb⟩
  have hB38 := below_step hB37 hb
  clear hb hB37
  go_wp2_with fail
  (with_reducible refine (Dist_yes _ _ _ _ _ ⟨by omega, by omega, by omega, by omega⟩ ⟨by omega, by omega, by omega, by omega⟩ (l := 2) (h := 3) (by decide) (by decide)).mono ?_)
  rintro e w39 ⟨rfl, hb⟩
  have hB39 := below_step hB38 hb
  clear hb hB38
  go_wp2_with fail
  refine calls_named fun W hW => ?_
  have p17 : W.heap[w39.heap.size]? = some (.cells #[.int .i64 2, .int .i64 3] 35) := by rw [hW]; exact block_new _ _
  have hB40 : Below w.heap.size w W := by rw [hW]; exact hB39.alloc hB39.size _
  clear hW hB39
  (with_reducible refine (at_any 3 4 _).mono ?_)
  rintro e w41 ⟨rfl, hb⟩
  have hB41 := below_step hB40 hb
  have p18 := block_later hb p17
  clear hb hB40 p17
  go_wp2_with fail
  (with_reducible refine (at_any 0 0 _).mono ?_)
  rintro e w42 ⟨rfl, hb⟩
  have hB42 := below_step hB41 hb
  replace p18 := block_later hb p18
  clear hb hB41
  go_wp2_with fail
  (with_reducible refine (Lies_yes _ _ _ _ _ _ _ ⟨by omega, by omega, by omega, by omega⟩ ⟨by omega, by omega, by omega, by omega⟩ ⟨by omega, by omega⟩ ⟨by omega, by omega⟩ (v := true) (by decide)).mono ?_)
  rintro e w43 ⟨rfl, hb⟩
  have hB43 := below_step hB42 hb
  replace p18 := block_later hb p18
  clear hb hB42
  go_wp2_with fail
  (with_reducible refine (at_any 3 4 _).mono ?_)
  rintro e w44 ⟨rfl, hb⟩
  have hB44 := below_step hB43 hb
  replace p18 := block_later hb p18
  clear hb hB43
  go_wp2_with fail
  (with_reducible refine (at_any 0 0 _).mono ?_)
  rintro e w45 ⟨rfl, hb⟩
  have hB45 := below_step hB44 hb
  replace p18 := block_later hb p18
  clear hb hB44
  go_wp2_with fail
  (with_reducible refine (Lies_yes _ _ _ _ _ _ _ ⟨by omega, by omega, by omega, by omega⟩ ⟨by omega, by omega, by omega, by omega⟩ ⟨by omega, by omega⟩ ⟨by omega, by omega⟩ (v := false) (by decide)).mono ?_)
  rintro e w46 ⟨rfl, hb⟩
  have hB46 := below_step hB45 hb
  replace p18 := block_later hb p18
  clear hb hB45
  go_wp2_with fail
  (with_reducible refine (at_any 1000001 0 _).mono ?_)
  rintro e w47 ⟨rfl, hb⟩
  have hB47 := below_step hB46 hb
  replace p18 := block_later hb p18
  clear hb hB46
  go_wp2_with fail
  (with_reducible refine (at_any 0 0 _).mono ?_)
  rintro e w48 ⟨rfl, hb⟩
  have hB48 := below_step hB47 hb
  replace p18 := block_later hb p18
  clear hb hB47
  go_wp2_with fail
  (with_reducible refine (at_any 0 0 _).mono ?_)
  rintro e w49 ⟨rfl, hb⟩
  have hB49 := below_step hB48 hb
  replace p18 := block_later hb p18
  clear hb hB48
  go_wp2_with fail
  (with_reducible refine (Turn_no _ _ _ _ _ _ _ (fun h => absurd h.1.x2 (by omega))).mono ?_)
  rintro e w50 ⟨rfl, hb⟩
  have hB50 := below_step hB49 hb
  replace p18 := block_later hb p18
  clear hb hB49
  have c18 := cell_block p18
  go_wp2_with fail
  go_returns
  exact ⟨rfl, hB50⟩
end Go.Proofs.Ytkpmiehggmeejaa
