import Derived.Test.YtdmegkkifiahdaaGreatPatFlds
import Derived.Test.YtdmegkkifiahdaaGreatPNP
import Derived.Test.YtdmegkkifiahdaaGreatPatApp
import Derived.Test.YtdmegkkifiahdaaGreatPSh
namespace Go.Proofs.YtdmegkkifiahdaaGreat
open Go.RowKit Go.Shelf
attribute [local go_sem] bqOp bqAll bqUpon sqOp sqAll sqUpon ssAll
attribute [local irreducible] wpQuiet wpBQ wpPlan wsPlan
set_option linter.unusedVariables false
def diffO (a b : List Feat) : List Opn × Int := if FeatsOk a ∧ FeatsOk b then (if (diffL a b).length ≤ 100 then (diffL a b, 0) else ([], 2)) else ([], 1)
theorem parts_empty {w w' : World} {va vs : Value} (h : PartsAt w noFeat va vs) : PartsAt w' noFeat va vs := by
 obtain ⟨⟨⟨ad, c, e1, h1, _⟩, h2⟩, ⟨⟨ad', c', e2, k1, _⟩, k2⟩⟩ := h
 exact ⟨⟨⟨ad, c, e1, h1, fun i hi => absurd hi (Nat.not_lt_zero i)⟩, h2⟩, ⟨⟨ad', c', e2, k1, fun i hi => absurd hi (Nat.not_lt_zero i)⟩, k2⟩⟩
theorem fieldOps_feat {f g : Feat} : ∀ o ∈ fieldOps f g, o.feat = noFeat := by
 intro o h
 unfold fieldOps at h
 rcases List.mem_append.1 h with h | h
 · rcases List.mem_append.1 h with h | h
   · split at h
     · obtain rfl := List.mem_singleton.1 h; rfl
     · simp at h
   · split at h
     · obtain rfl := List.mem_singleton.1 h; rfl
     · simp at h
 · split at h
   · obtain rfl := List.mem_singleton.1 h; rfl
   · simp at h
theorem flat_snoc {F : Feat → List Opn} {l : List Feat} {k : Nat} {f : Feat} (hk : k < l.length) (hf : l.getD k noFeat = f) : (l.take (k + 1)).flatMap F = (l.take k).flatMap F ++ F f := by
 rw [take_snoc noFeat hk, hf, List.flatMap_append]
 simp
theorem flat_most2 {F : Feat → List Opn} {l : List Feat} {n k : Nat} (h : ∀ x ∈ l, (F x).length ≤ n) (hl : l.length ≤ 300) : ((l.take k).flatMap F).length ≤ 300 * n := by
 have h1 := flat_most (F := F) (n := n) (l := l.take k) (fun x hx => h x (List.mem_of_mem_take hx))
 have h2 : (l.take k).length ≤ 300 := by rw [List.length_take]; omega
 exact Nat.le_trans h1 (Nat.mul_le_mul_right n h2)
set_option maxHeartbeats 8000000 in
set_option maxRecDepth 100000 in
theorem paDiff_any (a b : List Feat) (v0 v1 : Value) (w : World) (h0 : FeatsAt w v0 a) (h1 : FeatsAt w v1 b) {os : List Opn} {er : Int} (hv : diffO a b = (os, er)) : Calls Tryz.prog 24 #[v0, v1] w (UndoP w os er) := by
 obtain ⟨ada, ca, rfl, k0, hna, _⟩ := h0.form
 obtain ⟨adb, cb, rfl, k1, hnb, _⟩ := h1.form
 have HA := Lib.hid k0
 have HB := Lib.hid k1
 have HV := Lib.hid hv
 obtain ⟨ua, hua⟩ : ∃ u, decide (FeatsOk a) = u := ⟨_, rfl⟩
 obtain ⟨ub, hub⟩ : ∃ u, decide (FeatsOk b) = u := ⟨_, rfl⟩
 have UA := Lib.hid hua
 have UB := Lib.hid hub
 obtain ⟨na, hla⟩ : ∃ n, a.length = n := ⟨_, rfl⟩
 obtain ⟨nb, hlb⟩ : ∃ n, b.length = n := ⟨_, rfl⟩
 rw [hla] at HA hna
 rw [hlb] at HB hnb
 rw [hla, hlb]
 have LA := Lib.hid hla
 have LB := Lib.hid hlb
 clear h0 h1 k0 k1 hv hua hub hla hlb
 go_enter Tryz.func24, Tryz.ntmps24
 go_wp2_with fail
 (with_reducible refine (ftList_any a _ _ HA.out UA.out).mono ?_)
 rintro e w1 ⟨rfl, hb1⟩
 cases ua
 · have HX := Lib.hid (show ([] : List Opn) = os ∧ (1 : Int) = er by have h := HV.out; unfold diffO at h; rw [if_neg (fun h => of_decide_eq_false UA.out h.1)] at h; simp only [Prod.mk.injEq] at h; exact h)
   obtain ⟨rfl, rfl⟩ := HX.out
   go_wp2_with fail
   go_returns
   exact ⟨none, 0, 0, rfl, rfl, ops_nil _, hb1⟩
 go_wp2_with fail
 (with_reducible refine (ftList_any b _ _ (HB.out.later hb1) UB.out).mono ?_)
 rintro e w2 ⟨rfl, hb2⟩
 have hB2 := below_step hb1 hb2
 cases ub
 · have HX := Lib.hid (show ([] : List Opn) = os ∧ (1 : Int) = er by have h := HV.out; unfold diffO at h; rw [if_neg (fun h => of_decide_eq_false UB.out h.2)] at h; simp only [Prod.mk.injEq] at h; exact h)
   obtain ⟨rfl, rfl⟩ := HX.out
   go_wp2_with fail
   go_returns
   exact ⟨none, 0, 0, rfl, rfl, ops_nil _, hB2⟩
 have OA := Lib.hid (of_decide_eq_true UA.out)
 have OB := Lib.hid (of_decide_eq_true UB.out)
 have HD : Hid ((if (diffL a b).length ≤ 100 then (diffL a b, (0 : Int)) else ([], 2)) = (os, er)) := Lib.hid (by have h := HV.out; unfold diffO at h; rwa [if_pos ⟨OA.out, OB.out⟩] at h)
 have DL : Hid (∀ k, ((a.take k).flatMap (goneF b)).length ≤ 300) := Lib.hid (fun k => flat_most2 (n := 1) (fun x hx => (gone_form (featsOk_mem OA.out x hx)).2) (featsOk_iff.1 OA.out).1)
 have NL : Hid (∀ k, ((b.take k).flatMap (newF a)).length ≤ 900) := Lib.hid (fun k => flat_most2 (n := 3) (fun x hx => (new_form (featsOk_mem OB.out x hx)).2) (featsOk_iff.1 OB.out).1)
 clear UA UB HV
 go_wp2_with fail
 (with_reducible refine (paload_any a _ w w2 (HA.out.two hB2) OA.out).mono ?_)
 rintro e w3 ⟨rfl, hsa, hb3⟩
 have hB3 := below_step hB2 hb3
 go_wp2_with fail
 (with_reducible refine (paload_any b _ w w3 (HB.out.two hB3) OB.out).mono ?_)
 rintro e w4 ⟨rfl, hsb, hb4⟩
 have C4 := Lib.hid (below_step hB3 hb4)
 have SA := Lib.hid (hsa.below hb4)
 have SB := Lib.hid hsb
 clear hsa hsb hb1 hb2 hb3 hb4 hB2 hB3
 go_wp2_with fail
 go_loopw [8, 37] (fun out i wr => ∃ (k : Nat) (ad : Option Addr) (m c : Nat), k ≤ na ∧ i = .int .i64 k ∧ out = .slice ad m c ∧ ((a.take k).flatMap (goneF b)).length = m ∧ OwnOs w4.heap.size w wr (.slice ad m c) ((a.take k).flatMap (goneF b)) ∧ Below w4.heap.size w4 wr) (fun _ i _ => na - cntV i)
 case atStart => exact ⟨0, none, 0, 0, by omega, rfl, rfl, rfl, OwnOs.nil _ _ _, Below.refl _ _⟩
 case round =>
  obtain ⟨k, ad', m, c', hk, rfl, rfl, hlen, how, hb⟩ := hrel
  have OW := Lib.hid how
  have LE := Lib.hid hlen
  clear how hlen
  rcases Nat.lt_or_ge k na with hlt | hge
  rotate_left
  · obtain rfl : k = na := by omega
    have OW1 : Hid (OwnOs w4.heap.size w wr (.slice ad' m c') (a.flatMap (goneF b))) := Lib.hid (by have h := OW.out; rwa [List.take_of_length_le (by have := LA.out; omega)] at h)
    have LE1 : Hid ((a.flatMap (goneF b)).length = m) := Lib.hid (by have h := LE.out; rwa [List.take_of_length_le (by have := LA.out; omega)] at h)
    have hm9 : m ≤ 300 := by have h1 := LE.out; have h2 := DL.out k; omega
    obtain ⟨w6, rfl⟩ : ∃ z : World, z = wr := ⟨_, rfl⟩
    have C6 := Lib.hid (below_step C4.out hb)
    have SA6 := Lib.hid (SA.out.below hb)
    obtain ⟨ad8, m8, c8, e8⟩ : ∃ x y z, (ad', m, c') = (x, y, z) := ⟨_, _, _, rfl⟩
    simp only [Prod.mk.injEq] at e8
    obtain ⟨rfl, rfl, rfl⟩ := e8
    have hsz6 := hb.size
    clear OW LE SB SA
    go_wp2_with fail
    go_loopw [9, 69] (fun out i wr => ∃ (k : Nat) (ad : Option Addr) (m c : Nat), k ≤ nb ∧ i = .int .i64 k ∧ out = .slice ad m c ∧ ((b.take k).flatMap (newF a)).length = m ∧ OwnOs w6.heap.size w wr (.slice ad m c) ((b.take k).flatMap (newF a)) ∧ Below w6.heap.size w6 wr) (fun _ i _ => nb - cntV i)
    case atStart => exact ⟨0, none, 0, 0, by omega, rfl, rfl, rfl, OwnOs.nil _ _ _, Below.refl _ _⟩
    case round =>
     have hk0 : True := trivial
     clear hk
     obtain ⟨k, ad9, m9, c9, hk, rfl, rfl, hlen, how, hb⟩ := hrel
     have OW := Lib.hid how
     have LE := Lib.hid hlen
     clear how hlen
     rcases Nat.lt_or_ge k nb with hlt | hge
     rotate_left
     · obtain rfl : k = nb := by omega
       have OW2 : Hid (OwnOs w6.heap.size w wr (.slice ad9 m9 c9) (b.flatMap (newF a))) := Lib.hid (by have h := OW.out; rwa [List.take_of_length_le (by have := LB.out; omega)] at h)
       have LE2 : Hid ((b.flatMap (newF a)).length = m9) := Lib.hid (by have h := LE.out; rwa [List.take_of_length_le (by have := LB.out; omega)] at h)
       have hm99 : m9 ≤ 900 := by have h1 := LE.out; have h2 := NL.out k; omega
       obtain ⟨it, e2, ow2, rd2⟩ := OW2.out
       have E2 := Lib.hid e2
       have O2 := Lib.hid ow2
       have R2 := Lib.hid rd2
       have O1 := Lib.hid (OW1.out.keep hb)
       have hszr := hb.size
       clear e2 ow2 rd2 OW LE
       go_upto_region 23 with (first
        | (refine wpList_appO_at rfl _ _ rfl w4.heap.size w _ (a.flatMap (goneF b)) (b.flatMap (newF a)) rfl O1.out _ _ _ rfl it E2.out LE2.out R2.out (own_src O2.out (by rw [← LE2.out, ← E2.out, List.length_map])) (N := m + m9) (by rw [LE1.out]) (by omega) (by omega) ?_; intro ad2 c2 w8 how8 hgr8 hbl8 hat8))
       have hB8 := (below_step C6.out hb).trans (hbl8.mono (by have := C4.out.size; omega))
       have DF : Hid ((diffL a b).length = m + m9) := Lib.hid (by unfold diffL; rw [List.length_append, LE1.out, LE2.out])
       have O8 : Hid (OpsAt w8 (.slice ad2 (m + m9) c2) (diffL a b)) := Lib.hid (by have h := how8.ops hB8 (by rw [List.length_append, LE1.out, LE2.out]; omega); exact h)
       by_cases hl : m + m9 ≤ 100
       · have HX := Lib.hid (show diffL a b = os ∧ (0 : Int) = er by have h := HD.out; rw [if_pos (by rw [DF.out]; exact hl)] at h; simp only [Prod.mk.injEq] at h; exact h)
         obtain ⟨rfl, rfl⟩ := HX.out
         have g1 : ¬ (100 : Int) < (m + m9 : Nat) := by omega
         go_wp2_with fail
         go_returns
         exact ⟨ad2, m + m9, c2, DF.out, rfl, O8.out, hB8⟩
       · have HX := Lib.hid (show ([] : List Opn) = os ∧ (2 : Int) = er by have h := HD.out; rw [if_neg (by rw [DF.out]; exact hl)] at h; simp only [Prod.mk.injEq] at h; exact h)
         obtain ⟨rfl, rfl⟩ := HX.out
         have g1 : (100 : Int) < (m + m9 : Nat) := by omega
         go_wp2_with fail
         go_returns
         exact ⟨none, 0, 0, rfl, rfl, ops_nil _, hB8⟩
     obtain ⟨g0, o0, va, vs, rfl, fc0⟩ := HB.out.row hlt
     obtain ⟨f, hf⟩ : ∃ f, b.getD k noFeat = f := ⟨_, rfl⟩
     have hkl : k < b.length := by have := LB.out; omega
     have hmem : f ∈ b := by rw [← hf]; exact getD_memD hkl _
     rw [hf] at fc0
     have PF : Hid (PartsAt w f va vs) := Lib.hid ⟨fc0.area, fc0.secs⟩
     obtain ⟨fa, fc_, fb, fd, rfl, rfl⟩ := PF.out.form
     have hbw := below_step C6.out hb
     have RG : Hid (wr.rangeAt g0 (o0 + k * 9) [.int .i64 f.id, .int .i64 f.kind, .int .i64 f.x, .int .i64 f.y, .int .i64 f.rad, .slice fa f.area.length fc_, .int .i64 f.dep, .int .i64 f.sym, .slice fb f.secs.length fd]) := Lib.hid (fc0.later hbw).range
     have TK : Hid ((b.take (k + 1)).flatMap (newF a) = (b.take k).flatMap (newF a) ++ (newF a) f) := Lib.hid (flat_snoc hkl hf)
     have WF : Hid ((Lit.int .i64 f.id).wf = true) := Lib.hid (by have h := featOk_id (featsOk_mem OB.out f hmem); exact wf_id (by have := h.1; omega) (by have := h.2; omega))
     have SW := Lib.hid (SA6.out.below hb)
     have hszr := hb.size
     have hm9 : m9 ≤ 900 := by have h1 := LE.out; have h2 := NL.out k; omega
     clear hf hkl hmem fc0
     cases hlk : look a f.id with
     | none =>
       have his : (look a f.id).isSome = false := by rw [hlk]; rfl
       have HLK := Lib.hid hlk
       clear hlk
       go_wp2_with (first
        | (with_reducible refine wpList_load_mid rfl 32 _ rfl g0 (o0 + k * 9) rfl [.int .i64 f.id, .int .i64 f.kind, .int .i64 f.x, .int .i64 f.y, .int .i64 f.rad, .slice fa f.area.length fc_, .int .i64 f.dep, .int .i64 f.sym, .slice fb f.secs.length fd] _ RG.out Tryz.underlying32 rfl (by kernel_rfl) ?_)
        | (refine wpList_shLookOk rfl _ _ _ rfl Tryz.underlying103 rfl rfl (SW.out.alloc _) WF.out ?_; intro gg ua us hp' hg'; have PG := Lib.hid hp'; have GG := Lib.hid hg'; obtain ⟨ga, gc, gb, gd, rfl, rfl⟩ := hp'.form; clear hp' hg'))
       refine calls_named fun W5 hW => ?_
       obtain ⟨p1, p2, hB5⟩ := box2 hW
       clear hW
       have hbw5 := below_step hbw hB5
       (with_reducible refine (pafields_any gg f _ _ _ _ _ (PG.out.later hbw5) (PF.out.later hbw5)).mono ?_)
       rintro e w7 ⟨adx, nx, cx, hb7, hd⟩
       have hB7 := below_step hB5 hb7
       have q1 := block_later hb7 p1
       have Q1 := Lib.hid q1
       have c0 := cell_block q1 0
       have hsz7 := hB7.size
       clear p1 p2 q1
       have NW0 : Hid (newF a f = [insO f]) := Lib.hid (by unfold newF; rw [HLK.out])
       rcases hd with ⟨ops, hdf, hnx, rfl, hops⟩ | ⟨hdf, rfl⟩
       all_goals
        have NW : Hid (newF a f = [insO f]) := Lib.hid (NW0.out)
        go_wp2_with (first
         | (with_reducible refine wpList_load_row rfl 32 (.tmp 17) rfl wr.heap.size rfl _ _ _ _ Q1.out Tryz.underlying32 rfl (by kernel_rfl) ?_)
         | (refine wpList_appO_at rfl _ _ rfl w6.heap.size w _ ((b.take k).flatMap (newF a)) [insO f] rfl (OW.out.keep (hB7.alloc hB7.size _)) _ _ _ rfl [(insO f, .slice fa f.area.length fc_, .slice fb f.secs.length fd)] rfl rfl (fun x hx => by obtain rfl := List.mem_singleton.1 hx; exact PF.out) (SrcAt.one (block_new w7 _) rfl) (N := m9 + 1) (by first | rw [LE.out]; rfl | rw [LE.out]) (by omega) (by first | (simp only [World.size_alloc]; omega) | omega) ?_; intro ad2 c2 w8 how8 hgr8 hbl8 hat8))
        go_roundw
        case rel => exact ⟨k + 1, ad2, m9 + 1, c2, by omega, by go_num, rfl, by rw [TK.out, NW.out, List.length_append, LE.out]; rfl, by rw [TK.out, NW.out]; exact how8, (hb.trans ((hB7.alloc hB7.size _).mono hszr)).trans hbl8⟩
        case measure => simp [cntV]; omega
     | some g =>
       have his : (look a f.id).isSome = true := by rw [hlk]; rfl
       have HLK := Lib.hid hlk
       clear hlk
       go_wp2_with (first
        | (with_reducible refine wpList_load_mid rfl 32 _ rfl g0 (o0 + k * 9) rfl [.int .i64 f.id, .int .i64 f.kind, .int .i64 f.x, .int .i64 f.y, .int .i64 f.rad, .slice fa f.area.length fc_, .int .i64 f.dep, .int .i64 f.sym, .slice fb f.secs.length fd] _ RG.out Tryz.underlying32 rfl (by kernel_rfl) ?_)
        | (refine wpList_shLookOk rfl _ _ _ rfl Tryz.underlying103 rfl rfl (SW.out.alloc _) WF.out ?_; intro gg ua us hp' hg'; have PG := Lib.hid hp'; have GG := Lib.hid hg'; obtain ⟨ga, gc, gb, gd, rfl, rfl⟩ := hp'.form; clear hp' hg'))
       obtain rfl : gg = g := by have h := GG.out; rw [HLK.out] at h; exact h
       refine calls_named fun W5 hW => ?_
       obtain ⟨p1, p2, hB5⟩ := box2 hW
       clear hW
       have hbw5 := below_step hbw hB5
       (with_reducible refine (pafields_any gg f _ _ _ _ _ (PG.out.later hbw5) (PF.out.later hbw5)).mono ?_)
       rintro e w7 ⟨adx, nx, cx, hb7, hd⟩
       have hB7 := below_step hB5 hb7
       have q1 := block_later hb7 p1
       have Q1 := Lib.hid q1
       have c0 := cell_block q1 0
       have hsz7 := hB7.size
       clear p1 p2 q1
       rcases hd with ⟨ops, hdf, hnx, rfl, hops⟩ | ⟨hdf, rfl⟩
       · have NW : Hid (newF a f = ops) := Lib.hid (by unfold newF; rw [HLK.out]; simp only; rw [hdf])
         have hfo := (diffF_acts hdf).1
         obtain ⟨it, e2, rd2, sr2⟩ := ops_items hops
         have FE : Hid (∀ x ∈ it, PartsAt w x.1.feat x.2.1 x.2.2) := Lib.hid (fun x hx => by
          have h1 : x.1 ∈ ops := by rw [← e2]; exact List.mem_map_of_mem hx
          rw [hfo] at h1
          have h2 := rd2 x hx
          rw [fieldOps_feat _ h1] at h2 ⊢
          exact parts_empty h2)
         have E2 := Lib.hid e2
         have S2 := Lib.hid sr2
         have N2 := Lib.hid hnx
         have hn3 : nx ≤ 3 := by rw [← hnx, hfo]; exact fieldOps_len _ _
         clear hdf hfo e2 rd2 sr2 hnx hops
         go_wp2_with (first
          | (refine wpList_appO_at rfl _ _ rfl w6.heap.size w _ ((b.take k).flatMap (newF a)) ops rfl (OW.out.keep hB7) _ _ _ rfl it E2.out N2.out FE.out S2.out (N := m9 + nx) (by first | rw [LE.out]; rfl | rw [LE.out]) (by omega) (by first | (simp only [World.size_alloc]; omega) | omega) ?_; intro ad2 c2 w8 how8 hgr8 hbl8 hat8))
         go_roundw
         case rel => exact ⟨k + 1, ad2, m9 + nx, c2, by omega, by go_num, rfl, by rw [TK.out, NW.out, List.length_append, LE.out, N2.out], by rw [TK.out, NW.out]; exact how8, (hb.trans (hB7.mono hszr)).trans hbl8⟩
         case measure => simp [cntV]; omega
       · have NW0 : Hid (newF a f = [insO f]) := Lib.hid (by unfold newF; rw [HLK.out]; simp only; rw [hdf])
         have NW : Hid (newF a f = [insO f]) := Lib.hid (NW0.out)
         go_wp2_with (first
          | (with_reducible refine wpList_load_row rfl 32 (.tmp 17) rfl wr.heap.size rfl _ _ _ _ Q1.out Tryz.underlying32 rfl (by kernel_rfl) ?_)
          | (refine wpList_appO_at rfl _ _ rfl w6.heap.size w _ ((b.take k).flatMap (newF a)) [insO f] rfl (OW.out.keep (hB7.alloc hB7.size _)) _ _ _ rfl [(insO f, .slice fa f.area.length fc_, .slice fb f.secs.length fd)] rfl rfl (fun x hx => by obtain rfl := List.mem_singleton.1 hx; exact PF.out) (SrcAt.one (block_new w7 _) rfl) (N := m9 + 1) (by first | rw [LE.out]; rfl | rw [LE.out]) (by omega) (by first | (simp only [World.size_alloc]; omega) | omega) ?_; intro ad2 c2 w8 how8 hgr8 hbl8 hat8))
         go_roundw
         case rel => exact ⟨k + 1, ad2, m9 + 1, c2, by omega, by go_num, rfl, by rw [TK.out, NW.out, List.length_append, LE.out]; rfl, by rw [TK.out, NW.out]; exact how8, (hb.trans ((hB7.alloc hB7.size _).mono hszr)).trans hbl8⟩
         case measure => simp [cntV]; omega
  obtain ⟨g0, o0, va, vs, rfl, fc0⟩ := HA.out.row hlt
  obtain ⟨f, hf⟩ : ∃ f, a.getD k noFeat = f := ⟨_, rfl⟩
  have hkl : k < a.length := by have := LA.out; omega
  have hmem : f ∈ a := by rw [← hf]; exact getD_memD hkl _
  rw [hf] at fc0
  have PF : Hid (PartsAt w f va vs) := Lib.hid ⟨fc0.area, fc0.secs⟩
  obtain ⟨fa, fc_, fb, fd, rfl, rfl⟩ := PF.out.form
  have hbw := below_step C4.out hb
  have RG : Hid (wr.rangeAt g0 (o0 + k * 9) [.int .i64 f.id, .int .i64 f.kind, .int .i64 f.x, .int .i64 f.y, .int .i64 f.rad, .slice fa f.area.length fc_, .int .i64 f.dep, .int .i64 f.sym, .slice fb f.secs.length fd]) := Lib.hid (fc0.later hbw).range
  have TK : Hid ((a.take (k + 1)).flatMap (goneF b) = (a.take k).flatMap (goneF b) ++ (goneF b) f) := Lib.hid (flat_snoc hkl hf)
  have WF : Hid ((Lit.int .i64 f.id).wf = true) := Lib.hid (by have h := featOk_id (featsOk_mem OA.out f hmem); exact wf_id (by have := h.1; omega) (by have := h.2; omega))
  have SW := Lib.hid (SB.out.below hb)
  have hszr := hb.size
  have hm9 : m ≤ 300 := by have h1 := LE.out; have h2 := DL.out k; omega
  clear hf hkl hmem fc0
  cases hlk : look b f.id with
  | none =>
    have his : (look b f.id).isSome = false := by rw [hlk]; rfl
    have NW : Hid (goneF b f = [delO f.id]) := Lib.hid (by unfold goneF; rw [hlk])
    clear hlk
    go_wp2_with (first
     | (with_reducible refine wpList_load_mid rfl 32 _ rfl g0 (o0 + k * 9) rfl [.int .i64 f.id, .int .i64 f.kind, .int .i64 f.x, .int .i64 f.y, .int .i64 f.rad, .slice fa f.area.length fc_, .int .i64 f.dep, .int .i64 f.sym, .slice fb f.secs.length fd] _ RG.out Tryz.underlying32 rfl (by kernel_rfl) ?_)
     | (refine wpList_shLookOk rfl _ _ _ rfl Tryz.underlying103 rfl rfl (SW.out.alloc _) WF.out ?_; intro gg ua us hp' hg'; have PG := Lib.hid hp'; have GG := Lib.hid hg'; obtain ⟨ga, gc, gb, gd, rfl, rfl⟩ := hp'.form; clear hp' hg'))
    refine calls_named fun W5 hW => ?_
    obtain ⟨p1, p2, hB5⟩ := box2 hW
    clear hW
    have hbw5 := below_step hbw hB5
    (with_reducible refine (pafields_any f gg _ _ _ _ _ (PF.out.later hbw5) (PG.out.later hbw5)).mono ?_)
    rintro e w7 ⟨adx, nx, cx, hb7, hd⟩
    have hB7 := below_step hB5 hb7
    have q1 := block_later hb7 p1
    have Q1 := Lib.hid q1
    have c0 := cell_block q1 0
    have hsz7 := hB7.size
    clear p1 p2 q1
    rcases hd with ⟨ops, hdf, hnx, rfl, hops⟩ | ⟨hdf, rfl⟩
    all_goals
     go_wp2_with (first
      | (refine wpList_appO_at rfl _ _ rfl w4.heap.size w _ ((a.take k).flatMap (goneF b)) [delO f.id] rfl (OW.out.keep (hB7.alloc hB7.size _)) _ _ _ rfl [(delO f.id, .slice none 0 0, .slice none 0 0)] rfl rfl (fun x hx => by obtain rfl := List.mem_singleton.1 hx; exact PartsAt.zero _) (SrcAt.one (block_new w7 _) rfl) (N := m + 1) (by first | rw [LE.out]; rfl | rw [LE.out]) (by omega) (by first | (simp only [World.size_alloc]; omega) | omega) ?_; intro ad2 c2 w8 how8 hgr8 hbl8 hat8))
     go_roundw
     case rel => exact ⟨k + 1, ad2, m + 1, c2, by omega, by go_num, rfl, by rw [TK.out, NW.out, List.length_append, LE.out]; rfl, by rw [TK.out, NW.out]; exact how8, (hb.trans ((hB7.alloc hB7.size _).mono hszr)).trans hbl8⟩
     case measure => simp [cntV]; omega
  | some g =>
    have his : (look b f.id).isSome = true := by rw [hlk]; rfl
    have HLK := Lib.hid hlk
    clear hlk
    go_wp2_with (first
     | (with_reducible refine wpList_load_mid rfl 32 _ rfl g0 (o0 + k * 9) rfl [.int .i64 f.id, .int .i64 f.kind, .int .i64 f.x, .int .i64 f.y, .int .i64 f.rad, .slice fa f.area.length fc_, .int .i64 f.dep, .int .i64 f.sym, .slice fb f.secs.length fd] _ RG.out Tryz.underlying32 rfl (by kernel_rfl) ?_)
     | (refine wpList_shLookOk rfl _ _ _ rfl Tryz.underlying103 rfl rfl (SW.out.alloc _) WF.out ?_; intro gg ua us hp' hg'; have PG := Lib.hid hp'; have GG := Lib.hid hg'; obtain ⟨ga, gc, gb, gd, rfl, rfl⟩ := hp'.form; clear hp' hg'))
    obtain rfl : gg = g := by have h := GG.out; rw [HLK.out] at h; exact h
    refine calls_named fun W5 hW => ?_
    obtain ⟨p1, p2, hB5⟩ := box2 hW
    clear hW
    have hbw5 := below_step hbw hB5
    (with_reducible refine (pafields_any f gg _ _ _ _ _ (PF.out.later hbw5) (PG.out.later hbw5)).mono ?_)
    rintro e w7 ⟨adx, nx, cx, hb7, hd⟩
    have hB7 := below_step hB5 hb7
    have q1 := block_later hb7 p1
    have Q1 := Lib.hid q1
    have c0 := cell_block q1 0
    have hsz7 := hB7.size
    clear p1 p2 q1
    rcases hd with ⟨ops, hdf, hnx, rfl, hops⟩ | ⟨hdf, rfl⟩
    · have NW : Hid (goneF b f = []) := Lib.hid (by unfold goneF; rw [HLK.out]; simp only; rw [hdf]; rfl)
      clear hdf hnx hops
      go_wp2_with fail
      go_roundw
      case rel => exact ⟨k + 1, ad', m, c', by omega, by go_num, rfl, by rw [TK.out, NW.out, List.append_nil, LE.out], by rw [TK.out, NW.out, List.append_nil]; exact OW.out.keep hB7, hb.trans (hB7.mono hszr)⟩
      case measure => simp [cntV]; omega
    · have NW : Hid (goneF b f = [delO f.id]) := Lib.hid (by unfold goneF; rw [HLK.out]; simp only; rw [hdf]; rfl)
      go_wp2_with (first
       | (refine wpList_appO_at rfl _ _ rfl w4.heap.size w _ ((a.take k).flatMap (goneF b)) [delO f.id] rfl (OW.out.keep (hB7.alloc hB7.size _)) _ _ _ rfl [(delO f.id, .slice none 0 0, .slice none 0 0)] rfl rfl (fun x hx => by obtain rfl := List.mem_singleton.1 hx; exact PartsAt.zero _) (SrcAt.one (block_new w7 _) rfl) (N := m + 1) (by first | rw [LE.out]; rfl | rw [LE.out]) (by omega) (by first | (simp only [World.size_alloc]; omega) | omega) ?_; intro ad2 c2 w8 how8 hgr8 hbl8 hat8))
      go_roundw
      case rel => exact ⟨k + 1, ad2, m + 1, c2, by omega, by go_num, rfl, by rw [TK.out, NW.out, List.length_append, LE.out]; rfl, by rw [TK.out, NW.out]; exact how8, (hb.trans ((hB7.alloc hB7.size _).mono hszr)).trans hbl8⟩
      case measure => simp [cntV]; omega
end Go.Proofs.YtdmegkkifiahdaaGreat
