-- Written by wip/hprint.py, this session's driver of the kit's print. Not trusted: Lean checks it.
import Derived.Test.YtcpcoegoaciipaaPx0
import Derived.Test.YtcpcoegoaciipaaPx2
import Derived.Test.YtcpcoegoaciipaaPx3
namespace Go.Proofs.Ytcpcoegoaciipaa.P
open Go.RowKit Go.Proofs.YtcpcoegoaciipaaW.PrintWords Go.Proofs.YtcpcoegoaciipaaW.PrintLast Go.Proofs.YtcpcoegoaciipaaW.PrintMore
attribute [local go_sem] max2_int min2_int max_two min_two max_three min_three max_four min_four   -- for this text's walks alone
set_option linter.unusedVariables false
set_option linter.unusedSimpArgs false

attribute [local go_sem] cmpE_eq cmpE_ne cmpE_nl cmpE_nn
/-! ### ploverlaw18_OwnAmong: function 4 -/
mutual
def ploverlaw18_OwnAmong.j0 : Nat → Int → Bool → Int → List Int → Bool → Int → Int → Int → Int → Int → Int → Option (Bool)
  | 0, _, _, _, _, _, _, _, _, _, _, _ => none
  | k + 1, x1, x9, x10, x12, x37, x250000, x250001, x251000, x251001, x251002, x251003 => if x37 = true then (some x9) else (ploverlaw18_OwnAmong.l0 k x1 x9 x10 x12 false 0 x250000 x250001 x251000 x251001 x251002 x251003)
def ploverlaw18_OwnAmong.l0 : Nat → Int → Bool → Int → List Int → Bool → Int → Int → Int → Int → Int → Int → Int → Option (Bool)
  | 0, _, _, _, _, _, _, _, _, _, _, _, _ => none
  | k + 1, x1, x9, x10, x12, x14, x15, x250000, x250001, x251000, x251001, x251002, x251003 => if x15 < (x12.length : Int) then (if x14 = true then (if 0 ≤ x15 then (if (rd x12 x15) < 0 then (some false) else (if (rd x12 x15) ≥ x1 then (some false) else (if x15 > 0 then (if 0 ≤ (wrap64 (x15 - 1)) then (if (wrap64 (x15 - 1)) < (x12.length : Int) then (if (rd x12 x15) ≤ (rd x12 (wrap64 (x15 - 1))) then (some false) else (ploverlaw18_OwnAmong.l0 k x1 x9 x10 x12 true (wrap64 (x15 + 1)) x250000 x250001 x251000 x251001 x251002 x251003)) else (none)) else (none)) else (ploverlaw18_OwnAmong.l0 k x1 x9 x10 x12 true (wrap64 (x15 + 1)) x250000 x250001 x251000 x251001 x251002 x251003)))) else (none)) else (if 0 ≤ x15 then (if (rd x12 x15) < 0 then (some false) else (if (rd x12 x15) ≥ x1 then (some false) else (if x15 > 0 then (if 0 ≤ (wrap64 (x15 - 1)) then (if (wrap64 (x15 - 1)) < (x12.length : Int) then (if (rd x12 x15) ≤ (rd x12 (wrap64 (x15 - 1))) then (some false) else (ploverlaw18_OwnAmong.l0 k x1 x9 x10 x12 ((rd x12 x15) == x10) (wrap64 (x15 + 1)) x250000 x250001 x251000 x251001 x251002 x251003)) else (none)) else (none)) else (ploverlaw18_OwnAmong.l0 k x1 x9 x10 x12 ((rd x12 x15) == x10) (wrap64 (x15 + 1)) x250000 x250001 x251000 x251001 x251002 x251003)))) else (none))) else ((ploverref01_In.f x251000 x251001 x251002 x251003 x250000 x250001).bind fun t269 => (if x9 = true then (if x10 ≥ 0 then (if x10 < x1 then (if t269 = true then (some x14) else (some true)) else (some false)) else (some false)) else (some false)))
end
def ploverlaw18_OwnAmong.f (k : Nat) (a0 : Int) (a1 : Int) (a2_0 : Int) (a2_1 : Int) (a3_0 : Int) (a3_1 : Int) (a3_2 : Int) (a3_3 : Int) : Option (Bool) := (ploverlaw18_up.f k).bind fun t251 => ((own_Of.f a0 a1 a2_0 a2_1).bind fun bt252 => ((own_All.f k a0 a1 a3_0 a3_1 a3_2 a3_3).bind fun bt254 => (if bt252.2.isNone = true then (if bt254.2.isNone = true then (ploverlaw18_OwnAmong.j0 k a1 t251 bt252.1 bt254.1 false a2_0 a2_1 a3_0 a3_1 a3_2 a3_3) else (ploverlaw18_OwnAmong.j0 k a1 t251 bt252.1 bt254.1 true a2_0 a2_1 a3_0 a3_1 a3_2 a3_3)) else (ploverlaw18_OwnAmong.j0 k a1 t251 bt252.1 bt254.1 true a2_0 a2_1 a3_0 a3_1 a3_2 a3_3))))
theorem ploverlaw18_OwnAmong.mono_l : ∀ k, (∀ y0 y1 y2 y3 y4 y5 y6 y7 y8 y9 y10, LeO (ploverlaw18_OwnAmong.j0 k y0 y1 y2 y3 y4 y5 y6 y7 y8 y9 y10) (ploverlaw18_OwnAmong.j0 (k + 1) y0 y1 y2 y3 y4 y5 y6 y7 y8 y9 y10)) ∧ (∀ y0 y1 y2 y3 y4 y5 y6 y7 y8 y9 y10 y11, LeO (ploverlaw18_OwnAmong.l0 k y0 y1 y2 y3 y4 y5 y6 y7 y8 y9 y10 y11) (ploverlaw18_OwnAmong.l0 (k + 1) y0 y1 y2 y3 y4 y5 y6 y7 y8 y9 y10 y11))
  | 0 => ⟨fun _ _ _ _ _ _ _ _ _ _ _ r h => by simp [ploverlaw18_OwnAmong.j0] at h, fun _ _ _ _ _ _ _ _ _ _ _ _ r h => by simp [ploverlaw18_OwnAmong.l0] at h⟩
  | k + 1 => by
    obtain ⟨ih0, ih1⟩ := ploverlaw18_OwnAmong.mono_l k
    refine ⟨?_, ?_⟩
    · intro y0 y1 y2 y3 y4 y5 y6 y7 y8 y9 y10
      unfold ploverlaw18_OwnAmong.j0
      repeat' first
      | (with_reducible exact ih0 _ _ _ _ _ _ _ _ _ _ _)
      | (with_reducible exact ih1 _ _ _ _ _ _ _ _ _ _ _ _)
      | (with_reducible exact own_All.mono _ _ _ _ _ _ _)
      | (with_reducible exact ploverlaw18_up.mono _)
      | (with_reducible exact LeO.refl _)
      | (with_reducible exact LeO.none _)
      | (with_reducible refine LeO.ite ?_ ?_)
      | (with_reducible refine LeO.bind ?_ (fun _ => ?_))
      | exact ih0 _ _ _ _ _ _ _ _ _ _ _
      | exact ih1 _ _ _ _ _ _ _ _ _ _ _ _
      | exact own_All.mono _ _ _ _ _ _ _
      | exact ploverlaw18_up.mono _
      | exact LeO.none _
      | refine LeO.ite ?_ ?_
      | refine LeO.bind ?_ (fun _ => ?_)
    · intro y0 y1 y2 y3 y4 y5 y6 y7 y8 y9 y10 y11
      unfold ploverlaw18_OwnAmong.l0
      repeat' first
      | (with_reducible exact ih0 _ _ _ _ _ _ _ _ _ _ _)
      | (with_reducible exact ih1 _ _ _ _ _ _ _ _ _ _ _ _)
      | (with_reducible exact own_All.mono _ _ _ _ _ _ _)
      | (with_reducible exact ploverlaw18_up.mono _)
      | (with_reducible exact LeO.refl _)
      | (with_reducible exact LeO.none _)
      | (with_reducible refine LeO.ite ?_ ?_)
      | (with_reducible refine LeO.bind ?_ (fun _ => ?_))
      | exact ih0 _ _ _ _ _ _ _ _ _ _ _
      | exact ih1 _ _ _ _ _ _ _ _ _ _ _ _
      | exact own_All.mono _ _ _ _ _ _ _
      | exact ploverlaw18_up.mono _
      | exact LeO.none _
      | refine LeO.ite ?_ ?_
      | refine LeO.bind ?_ (fun _ => ?_)
theorem ploverlaw18_OwnAmong.mono : ∀ a0 a1 a2 a3 a4 a5 a6 a7 k, LeO (ploverlaw18_OwnAmong.f k a0 a1 a2 a3 a4 a5 a6 a7) (ploverlaw18_OwnAmong.f (k + 1) a0 a1 a2 a3 a4 a5 a6 a7) := by
  intro a0 a1 a2 a3 a4 a5 a6 a7 k
  obtain ⟨ih0, ih1⟩ := ploverlaw18_OwnAmong.mono_l k
  unfold ploverlaw18_OwnAmong.f
  repeat' first
      | (with_reducible exact ih0 _ _ _ _ _ _ _ _ _ _ _)
      | (with_reducible exact ih1 _ _ _ _ _ _ _ _ _ _ _ _)
      | (with_reducible exact own_All.mono _ _ _ _ _ _ _)
      | (with_reducible exact ploverlaw18_up.mono _)
      | (with_reducible exact LeO.refl _)
      | (with_reducible exact LeO.none _)
      | (with_reducible refine LeO.ite ?_ ?_)
      | (with_reducible refine LeO.bind ?_ (fun _ => ?_))
      | exact ih0 _ _ _ _ _ _ _ _ _ _ _
      | exact ih1 _ _ _ _ _ _ _ _ _ _ _ _
      | exact own_All.mono _ _ _ _ _ _ _
      | exact ploverlaw18_up.mono _
      | exact LeO.none _
      | refine LeO.ite ?_ ?_
      | refine LeO.bind ?_ (fun _ => ?_)
set_option maxHeartbeats 8000000 in
set_option maxRecDepth 100000 in
theorem ploverlaw18_OwnAmong.calls (k : Nat) (a0 : Int) (a1 : Int) (a2_0 : Int) (a2_1 : Int) (a3_0 : Int) (a3_1 : Int) (a3_2 : Int) (a3_3 : Int) (r : Bool) (w : World) (h : ploverlaw18_OwnAmong.f k a0 a1 a2_0 a2_1 a3_0 a3_1 a3_2 a3_3 = some r) :
    Calls Try.prog 4 #[.int .i64 a0, .int .i64 a1, .agg #[.int .i64 a2_0, .int .i64 a2_1], .agg #[.int .i64 a3_0, .int .i64 a3_1, .int .i64 a3_2, .int .i64 a3_3]] w fun e w' => e = .returned (.bool r) ∧ Below w.heap.size w w' := by
  have hu23 := Try.underlying23
  have hu25 := Try.underlying25
  have hu31 := Try.underlying31
  have hu37 := Try.underlying37
  have HB := Aside0.mk (Below.refl w.heap.size w)
  have H : ((ploverlaw18_up.f k).bind fun t251 => ((own_Of.f a0 a1 a2_0 a2_1).bind fun bt252 => ((own_All.f k a0 a1 a3_0 a3_1 a3_2 a3_3).bind fun bt254 => (if bt252.2.isNone = true then (if bt254.2.isNone = true then (ploverlaw18_OwnAmong.j0 k a1 t251 bt252.1 bt254.1 false a2_0 a2_1 a3_0 a3_1 a3_2 a3_3) else (ploverlaw18_OwnAmong.j0 k a1 t251 bt252.1 bt254.1 true a2_0 a2_1 a3_0 a3_1 a3_2 a3_3)) else (ploverlaw18_OwnAmong.j0 k a1 t251 bt252.1 bt254.1 true a2_0 a2_1 a3_0 a3_1 a3_2 a3_3))))) = some r := h
  clear h
  replace H := Option.bind_eq_some_iff.mp H
  obtain ⟨t251, A50, H⟩ := H
  replace H : ((own_Of.f a0 a1 a2_0 a2_1).bind fun bt252 => ((own_All.f k a0 a1 a3_0 a3_1 a3_2 a3_3).bind fun bt254 => (if bt252.2.isNone = true then (if bt254.2.isNone = true then (ploverlaw18_OwnAmong.j0 k a1 t251 bt252.1 bt254.1 false a2_0 a2_1 a3_0 a3_1 a3_2 a3_3) else (ploverlaw18_OwnAmong.j0 k a1 t251 bt252.1 bt254.1 true a2_0 a2_1 a3_0 a3_1 a3_2 a3_3)) else (ploverlaw18_OwnAmong.j0 k a1 t251 bt252.1 bt254.1 true a2_0 a2_1 a3_0 a3_1 a3_2 a3_3)))) = some r := H
  have A5 := Aside0.mk A50
  clear A50
  replace H := Option.bind_eq_some_iff.mp H
  obtain ⟨⟨t252, t253⟩, A60, H⟩ := H
  replace H : ((own_All.f k a0 a1 a3_0 a3_1 a3_2 a3_3).bind fun bt254 => (if t253.isNone = true then (if bt254.2.isNone = true then (ploverlaw18_OwnAmong.j0 k a1 t251 t252 bt254.1 false a2_0 a2_1 a3_0 a3_1 a3_2 a3_3) else (ploverlaw18_OwnAmong.j0 k a1 t251 t252 bt254.1 true a2_0 a2_1 a3_0 a3_1 a3_2 a3_3)) else (ploverlaw18_OwnAmong.j0 k a1 t251 t252 bt254.1 true a2_0 a2_1 a3_0 a3_1 a3_2 a3_3))) = some r := H
  have A6 := Aside0.mk A60
  clear A60
  replace H := Option.bind_eq_some_iff.mp H
  obtain ⟨⟨t254, t257⟩, A70, H⟩ := H
  replace H : (if t253.isNone = true then (if t257.isNone = true then (ploverlaw18_OwnAmong.j0 k a1 t251 t252 t254 false a2_0 a2_1 a3_0 a3_1 a3_2 a3_3) else (ploverlaw18_OwnAmong.j0 k a1 t251 t252 t254 true a2_0 a2_1 a3_0 a3_1 a3_2 a3_3)) else (ploverlaw18_OwnAmong.j0 k a1 t251 t252 t254 true a2_0 a2_1 a3_0 a3_1 a3_2 a3_3)) = some r := H
  have A7 := Aside0.mk A70
  clear A70
  have HC8 := Aside0.mk H
  clear H
  go_enter Try.func4, Try.ntmps4
  go_upto_region 4 with (first | ((with_reducible refine gate_dst (N := 6) rfl ?_); refine box_event ?hg (N := 6) ?hd (cs := #[.int .i64 a2_0, .int .i64 a2_1]) (t := 23) ?hr ?_; (case hd => rfl); (case hg => rfl); (case hr => first | (go_simp; done) | (go_simp; rfl)); intro gb249 hg w9 hbox hb; have n0_ := Aside0.mk (below_step (by repeat (first | (with_reducible first | exact HB.out | apply below_alloc | apply pw_below_drewN | apply below_drew1) | exact HB.out)) hb); have n1_ := Aside0.mk (hbox); have n2_ := Aside0.mk ((by rw [hg]; exact (below_size (by repeat (first | (with_reducible first | exact HB.out | apply below_alloc | apply pw_below_drewN | apply below_drew1) | exact HB.out))) : w.heap.size ≤ gb249)); have n3_ := Aside0.mk ((by rw [hg]; exact (below_size (by repeat (first | (with_reducible first | exact HB.out | apply below_alloc | apply pw_below_drewN | apply below_drew1) | exact HB.out))) : w.heap.size ≤ gb249)); clear HB; have HB := n0_; have BK249 := n1_; have GW249 := n2_; have GE249 := n3_; clear n0_ n1_ n2_ n3_; clear hb hbox hg) | ((with_reducible refine gate_dst (N := 7) rfl ?_); refine box_event ?hg (N := 7) ?hd (cs := #[.int .i64 a3_0, .int .i64 a3_1, .int .i64 a3_2, .int .i64 a3_3]) (t := 25) ?hr ?_; (case hd => rfl); (case hg => rfl); (case hr => first | (go_simp; done) | (go_simp; rfl)); intro gb250 hg w10 hbox hb; have n0_ := Aside0.mk (blk_below (g := gb249) (o := .cells #[.int .i64 a2_0, .int .i64 a2_1] 23 (0, 0)) (by (with_reducible repeat (first | refine blk_drewN ?_ _ | refine blk_drew ?_ | refine blk_alloc ?_ _)); exact BK249.out) hb); have n1_ := Aside0.mk (below_step (by repeat (first | (with_reducible first | exact HB.out | apply below_alloc | apply pw_below_drewN | apply below_drew1 | refine below_set ?_ GE249.out) | exact HB.out)) hb); have n2_ := Aside0.mk (hbox); have n3_ := Aside0.mk ((by rw [hg]; exact (below_size (by repeat (first | (with_reducible first | exact HB.out | apply below_alloc | apply pw_below_drewN | apply below_drew1 | refine below_set ?_ GE249.out) | exact HB.out))) : w.heap.size ≤ gb250)); have n4_ := Aside0.mk ((by rw [hg]; exact (below_size (by repeat (first | (with_reducible first | exact HB.out | apply below_alloc | apply pw_below_drewN | apply below_drew1 | refine below_set ?_ GE249.out) | exact HB.out))) : w.heap.size ≤ gb250)); have n5_ := Aside0.mk ((by rw [hg]; exact Nat.ne_of_lt (blk_lt (g := gb249) (o := .cells #[.int .i64 a2_0, .int .i64 a2_1] 23 (0, 0)) (by (with_reducible repeat (first | refine blk_drewN ?_ _ | refine blk_drew ?_ | refine blk_alloc ?_ _)); exact BK249.out)) : gb249 ≠ gb250)); have n6_ := Aside0.mk ((by rw [hg]; exact Nat.ne_of_gt (blk_lt (g := gb249) (o := .cells #[.int .i64 a2_0, .int .i64 a2_1] 23 (0, 0)) (by (with_reducible repeat (first | refine blk_drewN ?_ _ | refine blk_drew ?_ | refine blk_alloc ?_ _)); exact BK249.out)) : gb250 ≠ gb249)); clear BK249; clear HB; have BK249 := n0_; have HB := n1_; have BK250 := n2_; have GW250 := n3_; have GE250 := n4_; have NB249_250 := n5_; have NB250_249 := n6_; clear n0_ n1_ n2_ n3_ n4_ n5_ n6_; clear hb hbox hg) | (go_at_call 5; (with_reducible refine (ploverlaw18_up.calls k  t251 _ A5.out).mono ?_); rintro e w11 ⟨rfl, hb⟩; have n0_ := Aside0.mk (blk_below (g := gb249) (o := .cells #[.int .i64 a2_0, .int .i64 a2_1] 23 (0, 0)) (by (with_reducible repeat (first | refine blk_drewN ?_ _ | refine blk_drew ?_ | refine blk_alloc ?_ _)); exact BK249.out) hb); have n1_ := Aside0.mk (blk_below (g := gb250) (o := .cells #[.int .i64 a3_0, .int .i64 a3_1, .int .i64 a3_2, .int .i64 a3_3] 25 (0, 0)) (by (with_reducible repeat (first | refine blk_drewN ?_ _ | refine blk_drew ?_ | refine blk_alloc ?_ _)); exact BK250.out) hb); have n2_ := Aside0.mk (below_step (by repeat (first | (with_reducible first | exact HB.out | apply below_alloc | apply pw_below_drewN | apply below_drew1 | refine below_set ?_ GE249.out | refine below_set ?_ GE250.out) | exact HB.out)) hb); clear BK249; clear BK250; clear HB; have BK249 := n0_; have BK250 := n1_; have HB := n2_; clear n0_ n1_ n2_; (try clear hb); (try clear hb2); (try clear hk); (try clear hi); have hnb12 := NB249_250.out; have hnc12 := NB250_249.out; have hcz13_0 : w11.cell? ⟨gb249, 0, none⟩ = some (.int .i64 a2_0) := (blk_cell BK249.out 0).trans rfl; have hcz13_1 : w11.cell? ⟨gb249, 1, none⟩ = some (.int .i64 a2_1) := (blk_cell BK249.out 1).trans rfl; have hfz13_0 := blk_frozen BK249.out 0; have hfz13_1 := blk_frozen BK249.out 1) | (go_at_call 9; (with_reducible refine (own_Of.calls a0 a1 a2_0 a2_1 t252 t253 _ A6.out).mono ?_); rintro e w14 ⟨rfl, hb⟩; have n0_ := Aside0.mk (blk_below (g := gb249) (o := .cells #[.int .i64 a2_0, .int .i64 a2_1] 23 (0, 0)) (by (with_reducible repeat (first | refine blk_drewN ?_ _ | refine blk_drew ?_ | refine blk_alloc ?_ _)); exact BK249.out) hb); have n1_ := Aside0.mk (blk_below (g := gb250) (o := .cells #[.int .i64 a3_0, .int .i64 a3_1, .int .i64 a3_2, .int .i64 a3_3] 25 (0, 0)) (by (with_reducible repeat (first | refine blk_drewN ?_ _ | refine blk_drew ?_ | refine blk_alloc ?_ _)); exact BK250.out) hb); have n2_ := Aside0.mk (below_step (by repeat (first | (with_reducible first | exact HB.out | apply below_alloc | apply pw_below_drewN | apply below_drew1 | refine below_set ?_ GE249.out | refine below_set ?_ GE250.out) | exact HB.out)) hb); clear BK249; clear BK250; clear HB; have BK249 := n0_; have BK250 := n1_; have HB := n2_; clear n0_ n1_ n2_; (try clear hb); (try clear hb2); (try clear hk); (try clear hi); (try simp only [errW_none, errW_some]); have hcz15_0 : w14.cell? ⟨gb250, 0, none⟩ = some (.int .i64 a3_0) := (blk_cell BK250.out 0).trans rfl; have hcz15_1 : w14.cell? ⟨gb250, 1, none⟩ = some (.int .i64 a3_1) := (blk_cell BK250.out 1).trans rfl; have hcz15_2 : w14.cell? ⟨gb250, 2, none⟩ = some (.int .i64 a3_2) := (blk_cell BK250.out 2).trans rfl; have hcz15_3 : w14.cell? ⟨gb250, 3, none⟩ = some (.int .i64 a3_3) := (blk_cell BK250.out 3).trans rfl; have hfz15_0 := blk_frozen BK250.out 0; have hfz15_1 := blk_frozen BK250.out 1; have hfz15_2 := blk_frozen BK250.out 2; have hfz15_3 := blk_frozen BK250.out 3) | (go_at_call 10; (with_reducible refine (own_All.calls k a0 a1 a3_0 a3_1 a3_2 a3_3 t254 t257 _ A7.out).mono ?_); rintro e w16 ⟨v255, rfl, ho0, hb⟩; have n0_ := Aside0.mk (Kd.R_lower ho0 (below_size (by repeat (first | (with_reducible first | exact HB.out | apply below_alloc | apply pw_below_drewN | apply below_drew1 | refine below_set ?_ GE249.out | refine below_set ?_ GE250.out) | exact HB.out)))); have n1_ := Aside0.mk (blk_below (g := gb249) (o := .cells #[.int .i64 a2_0, .int .i64 a2_1] 23 (0, 0)) (by (with_reducible repeat (first | refine blk_drewN ?_ _ | refine blk_drew ?_ | refine blk_alloc ?_ _)); exact BK249.out) hb); have n2_ := Aside0.mk (blk_below (g := gb250) (o := .cells #[.int .i64 a3_0, .int .i64 a3_1, .int .i64 a3_2, .int .i64 a3_3] 25 (0, 0)) (by (with_reducible repeat (first | refine blk_drewN ?_ _ | refine blk_drew ?_ | refine blk_alloc ?_ _)); exact BK250.out) hb); have n3_ := Aside0.mk (below_step (by repeat (first | (with_reducible first | exact HB.out | apply below_alloc | apply pw_below_drewN | apply below_drew1 | refine below_set ?_ GE249.out | refine below_set ?_ GE250.out) | exact HB.out)) hb); clear BK249; clear BK250; clear HB; have HO256 := n0_; have BK249 := n1_; have BK250 := n2_; have HB := n3_; clear n0_ n1_ n2_ n3_; (try clear hb); (try clear hb2); (try clear hk); (try clear hi); (try clear ho0); (try simp only [errW_none, errW_some])))
  repeat (go_quiet (first | ((with_reducible refine gate_dst (N := 6) rfl ?_); refine box_event ?hg (N := 6) ?hd (cs := #[.int .i64 a2_0, .int .i64 a2_1]) (t := 23) ?hr ?_; (case hd => rfl); (case hg => rfl); (case hr => first | (go_simp; done) | (go_simp; rfl)); intro gb249 hg w9 hbox hb; have n0_ := Aside0.mk (below_step (by repeat (first | (with_reducible first | exact HB.out | apply below_alloc | apply pw_below_drewN | apply below_drew1) | exact HB.out)) hb); have n1_ := Aside0.mk (hbox); have n2_ := Aside0.mk ((by rw [hg]; exact (below_size (by repeat (first | (with_reducible first | exact HB.out | apply below_alloc | apply pw_below_drewN | apply below_drew1) | exact HB.out))) : w.heap.size ≤ gb249)); have n3_ := Aside0.mk ((by rw [hg]; exact (below_size (by repeat (first | (with_reducible first | exact HB.out | apply below_alloc | apply pw_below_drewN | apply below_drew1) | exact HB.out))) : w.heap.size ≤ gb249)); clear HB; have HB := n0_; have BK249 := n1_; have GW249 := n2_; have GE249 := n3_; clear n0_ n1_ n2_ n3_; clear hb hbox hg) | ((with_reducible refine gate_dst (N := 7) rfl ?_); refine box_event ?hg (N := 7) ?hd (cs := #[.int .i64 a3_0, .int .i64 a3_1, .int .i64 a3_2, .int .i64 a3_3]) (t := 25) ?hr ?_; (case hd => rfl); (case hg => rfl); (case hr => first | (go_simp; done) | (go_simp; rfl)); intro gb250 hg w10 hbox hb; have n0_ := Aside0.mk (blk_below (g := gb249) (o := .cells #[.int .i64 a2_0, .int .i64 a2_1] 23 (0, 0)) (by (with_reducible repeat (first | refine blk_drewN ?_ _ | refine blk_drew ?_ | refine blk_alloc ?_ _)); exact BK249.out) hb); have n1_ := Aside0.mk (below_step (by repeat (first | (with_reducible first | exact HB.out | apply below_alloc | apply pw_below_drewN | apply below_drew1 | refine below_set ?_ GE249.out) | exact HB.out)) hb); have n2_ := Aside0.mk (hbox); have n3_ := Aside0.mk ((by rw [hg]; exact (below_size (by repeat (first | (with_reducible first | exact HB.out | apply below_alloc | apply pw_below_drewN | apply below_drew1 | refine below_set ?_ GE249.out) | exact HB.out))) : w.heap.size ≤ gb250)); have n4_ := Aside0.mk ((by rw [hg]; exact (below_size (by repeat (first | (with_reducible first | exact HB.out | apply below_alloc | apply pw_below_drewN | apply below_drew1 | refine below_set ?_ GE249.out) | exact HB.out))) : w.heap.size ≤ gb250)); have n5_ := Aside0.mk ((by rw [hg]; exact Nat.ne_of_lt (blk_lt (g := gb249) (o := .cells #[.int .i64 a2_0, .int .i64 a2_1] 23 (0, 0)) (by (with_reducible repeat (first | refine blk_drewN ?_ _ | refine blk_drew ?_ | refine blk_alloc ?_ _)); exact BK249.out)) : gb249 ≠ gb250)); have n6_ := Aside0.mk ((by rw [hg]; exact Nat.ne_of_gt (blk_lt (g := gb249) (o := .cells #[.int .i64 a2_0, .int .i64 a2_1] 23 (0, 0)) (by (with_reducible repeat (first | refine blk_drewN ?_ _ | refine blk_drew ?_ | refine blk_alloc ?_ _)); exact BK249.out)) : gb250 ≠ gb249)); clear BK249; clear HB; have BK249 := n0_; have HB := n1_; have BK250 := n2_; have GW250 := n3_; have GE250 := n4_; have NB249_250 := n5_; have NB250_249 := n6_; clear n0_ n1_ n2_ n3_ n4_ n5_ n6_; clear hb hbox hg) | (go_at_call 5; (with_reducible refine (ploverlaw18_up.calls k  t251 _ A5.out).mono ?_); rintro e w11 ⟨rfl, hb⟩; have n0_ := Aside0.mk (blk_below (g := gb249) (o := .cells #[.int .i64 a2_0, .int .i64 a2_1] 23 (0, 0)) (by (with_reducible repeat (first | refine blk_drewN ?_ _ | refine blk_drew ?_ | refine blk_alloc ?_ _)); exact BK249.out) hb); have n1_ := Aside0.mk (blk_below (g := gb250) (o := .cells #[.int .i64 a3_0, .int .i64 a3_1, .int .i64 a3_2, .int .i64 a3_3] 25 (0, 0)) (by (with_reducible repeat (first | refine blk_drewN ?_ _ | refine blk_drew ?_ | refine blk_alloc ?_ _)); exact BK250.out) hb); have n2_ := Aside0.mk (below_step (by repeat (first | (with_reducible first | exact HB.out | apply below_alloc | apply pw_below_drewN | apply below_drew1 | refine below_set ?_ GE249.out | refine below_set ?_ GE250.out) | exact HB.out)) hb); clear BK249; clear BK250; clear HB; have BK249 := n0_; have BK250 := n1_; have HB := n2_; clear n0_ n1_ n2_; (try clear hb); (try clear hb2); (try clear hk); (try clear hi); have hnb12 := NB249_250.out; have hnc12 := NB250_249.out; have hcz13_0 : w11.cell? ⟨gb249, 0, none⟩ = some (.int .i64 a2_0) := (blk_cell BK249.out 0).trans rfl; have hcz13_1 : w11.cell? ⟨gb249, 1, none⟩ = some (.int .i64 a2_1) := (blk_cell BK249.out 1).trans rfl; have hfz13_0 := blk_frozen BK249.out 0; have hfz13_1 := blk_frozen BK249.out 1) | (go_at_call 9; (with_reducible refine (own_Of.calls a0 a1 a2_0 a2_1 t252 t253 _ A6.out).mono ?_); rintro e w14 ⟨rfl, hb⟩; have n0_ := Aside0.mk (blk_below (g := gb249) (o := .cells #[.int .i64 a2_0, .int .i64 a2_1] 23 (0, 0)) (by (with_reducible repeat (first | refine blk_drewN ?_ _ | refine blk_drew ?_ | refine blk_alloc ?_ _)); exact BK249.out) hb); have n1_ := Aside0.mk (blk_below (g := gb250) (o := .cells #[.int .i64 a3_0, .int .i64 a3_1, .int .i64 a3_2, .int .i64 a3_3] 25 (0, 0)) (by (with_reducible repeat (first | refine blk_drewN ?_ _ | refine blk_drew ?_ | refine blk_alloc ?_ _)); exact BK250.out) hb); have n2_ := Aside0.mk (below_step (by repeat (first | (with_reducible first | exact HB.out | apply below_alloc | apply pw_below_drewN | apply below_drew1 | refine below_set ?_ GE249.out | refine below_set ?_ GE250.out) | exact HB.out)) hb); clear BK249; clear BK250; clear HB; have BK249 := n0_; have BK250 := n1_; have HB := n2_; clear n0_ n1_ n2_; (try clear hb); (try clear hb2); (try clear hk); (try clear hi); (try simp only [errW_none, errW_some]); have hcz15_0 : w14.cell? ⟨gb250, 0, none⟩ = some (.int .i64 a3_0) := (blk_cell BK250.out 0).trans rfl; have hcz15_1 : w14.cell? ⟨gb250, 1, none⟩ = some (.int .i64 a3_1) := (blk_cell BK250.out 1).trans rfl; have hcz15_2 : w14.cell? ⟨gb250, 2, none⟩ = some (.int .i64 a3_2) := (blk_cell BK250.out 2).trans rfl; have hcz15_3 : w14.cell? ⟨gb250, 3, none⟩ = some (.int .i64 a3_3) := (blk_cell BK250.out 3).trans rfl; have hfz15_0 := blk_frozen BK250.out 0; have hfz15_1 := blk_frozen BK250.out 1; have hfz15_2 := blk_frozen BK250.out 2; have hfz15_3 := blk_frozen BK250.out 3) | (go_at_call 10; (with_reducible refine (own_All.calls k a0 a1 a3_0 a3_1 a3_2 a3_3 t254 t257 _ A7.out).mono ?_); rintro e w16 ⟨v255, rfl, ho0, hb⟩; have n0_ := Aside0.mk (Kd.R_lower ho0 (below_size (by repeat (first | (with_reducible first | exact HB.out | apply below_alloc | apply pw_below_drewN | apply below_drew1 | refine below_set ?_ GE249.out | refine below_set ?_ GE250.out) | exact HB.out)))); have n1_ := Aside0.mk (blk_below (g := gb249) (o := .cells #[.int .i64 a2_0, .int .i64 a2_1] 23 (0, 0)) (by (with_reducible repeat (first | refine blk_drewN ?_ _ | refine blk_drew ?_ | refine blk_alloc ?_ _)); exact BK249.out) hb); have n2_ := Aside0.mk (blk_below (g := gb250) (o := .cells #[.int .i64 a3_0, .int .i64 a3_1, .int .i64 a3_2, .int .i64 a3_3] 25 (0, 0)) (by (with_reducible repeat (first | refine blk_drewN ?_ _ | refine blk_drew ?_ | refine blk_alloc ?_ _)); exact BK250.out) hb); have n3_ := Aside0.mk (below_step (by repeat (first | (with_reducible first | exact HB.out | apply below_alloc | apply pw_below_drewN | apply below_drew1 | refine below_set ?_ GE249.out | refine below_set ?_ GE250.out) | exact HB.out)) hb); clear BK249; clear BK250; clear HB; have HO256 := n0_; have BK249 := n1_; have BK250 := n2_; have HB := n3_; clear n0_ n1_ n2_ n3_; (try clear hb); (try clear hb2); (try clear hk); (try clear hi); (try clear ho0); (try simp only [errW_none, errW_some]))); go_upto_region 4 with (first | ((with_reducible refine gate_dst (N := 6) rfl ?_); refine box_event ?hg (N := 6) ?hd (cs := #[.int .i64 a2_0, .int .i64 a2_1]) (t := 23) ?hr ?_; (case hd => rfl); (case hg => rfl); (case hr => first | (go_simp; done) | (go_simp; rfl)); intro gb249 hg w9 hbox hb; have n0_ := Aside0.mk (below_step (by repeat (first | (with_reducible first | exact HB.out | apply below_alloc | apply pw_below_drewN | apply below_drew1) | exact HB.out)) hb); have n1_ := Aside0.mk (hbox); have n2_ := Aside0.mk ((by rw [hg]; exact (below_size (by repeat (first | (with_reducible first | exact HB.out | apply below_alloc | apply pw_below_drewN | apply below_drew1) | exact HB.out))) : w.heap.size ≤ gb249)); have n3_ := Aside0.mk ((by rw [hg]; exact (below_size (by repeat (first | (with_reducible first | exact HB.out | apply below_alloc | apply pw_below_drewN | apply below_drew1) | exact HB.out))) : w.heap.size ≤ gb249)); clear HB; have HB := n0_; have BK249 := n1_; have GW249 := n2_; have GE249 := n3_; clear n0_ n1_ n2_ n3_; clear hb hbox hg) | ((with_reducible refine gate_dst (N := 7) rfl ?_); refine box_event ?hg (N := 7) ?hd (cs := #[.int .i64 a3_0, .int .i64 a3_1, .int .i64 a3_2, .int .i64 a3_3]) (t := 25) ?hr ?_; (case hd => rfl); (case hg => rfl); (case hr => first | (go_simp; done) | (go_simp; rfl)); intro gb250 hg w10 hbox hb; have n0_ := Aside0.mk (blk_below (g := gb249) (o := .cells #[.int .i64 a2_0, .int .i64 a2_1] 23 (0, 0)) (by (with_reducible repeat (first | refine blk_drewN ?_ _ | refine blk_drew ?_ | refine blk_alloc ?_ _)); exact BK249.out) hb); have n1_ := Aside0.mk (below_step (by repeat (first | (with_reducible first | exact HB.out | apply below_alloc | apply pw_below_drewN | apply below_drew1 | refine below_set ?_ GE249.out) | exact HB.out)) hb); have n2_ := Aside0.mk (hbox); have n3_ := Aside0.mk ((by rw [hg]; exact (below_size (by repeat (first | (with_reducible first | exact HB.out | apply below_alloc | apply pw_below_drewN | apply below_drew1 | refine below_set ?_ GE249.out) | exact HB.out))) : w.heap.size ≤ gb250)); have n4_ := Aside0.mk ((by rw [hg]; exact (below_size (by repeat (first | (with_reducible first | exact HB.out | apply below_alloc | apply pw_below_drewN | apply below_drew1 | refine below_set ?_ GE249.out) | exact HB.out))) : w.heap.size ≤ gb250)); have n5_ := Aside0.mk ((by rw [hg]; exact Nat.ne_of_lt (blk_lt (g := gb249) (o := .cells #[.int .i64 a2_0, .int .i64 a2_1] 23 (0, 0)) (by (with_reducible repeat (first | refine blk_drewN ?_ _ | refine blk_drew ?_ | refine blk_alloc ?_ _)); exact BK249.out)) : gb249 ≠ gb250)); have n6_ := Aside0.mk ((by rw [hg]; exact Nat.ne_of_gt (blk_lt (g := gb249) (o := .cells #[.int .i64 a2_0, .int .i64 a2_1] 23 (0, 0)) (by (with_reducible repeat (first | refine blk_drewN ?_ _ | refine blk_drew ?_ | refine blk_alloc ?_ _)); exact BK249.out)) : gb250 ≠ gb249)); clear BK249; clear HB; have BK249 := n0_; have HB := n1_; have BK250 := n2_; have GW250 := n3_; have GE250 := n4_; have NB249_250 := n5_; have NB250_249 := n6_; clear n0_ n1_ n2_ n3_ n4_ n5_ n6_; clear hb hbox hg) | (go_at_call 5; (with_reducible refine (ploverlaw18_up.calls k  t251 _ A5.out).mono ?_); rintro e w11 ⟨rfl, hb⟩; have n0_ := Aside0.mk (blk_below (g := gb249) (o := .cells #[.int .i64 a2_0, .int .i64 a2_1] 23 (0, 0)) (by (with_reducible repeat (first | refine blk_drewN ?_ _ | refine blk_drew ?_ | refine blk_alloc ?_ _)); exact BK249.out) hb); have n1_ := Aside0.mk (blk_below (g := gb250) (o := .cells #[.int .i64 a3_0, .int .i64 a3_1, .int .i64 a3_2, .int .i64 a3_3] 25 (0, 0)) (by (with_reducible repeat (first | refine blk_drewN ?_ _ | refine blk_drew ?_ | refine blk_alloc ?_ _)); exact BK250.out) hb); have n2_ := Aside0.mk (below_step (by repeat (first | (with_reducible first | exact HB.out | apply below_alloc | apply pw_below_drewN | apply below_drew1 | refine below_set ?_ GE249.out | refine below_set ?_ GE250.out) | exact HB.out)) hb); clear BK249; clear BK250; clear HB; have BK249 := n0_; have BK250 := n1_; have HB := n2_; clear n0_ n1_ n2_; (try clear hb); (try clear hb2); (try clear hk); (try clear hi); have hnb12 := NB249_250.out; have hnc12 := NB250_249.out; have hcz13_0 : w11.cell? ⟨gb249, 0, none⟩ = some (.int .i64 a2_0) := (blk_cell BK249.out 0).trans rfl; have hcz13_1 : w11.cell? ⟨gb249, 1, none⟩ = some (.int .i64 a2_1) := (blk_cell BK249.out 1).trans rfl; have hfz13_0 := blk_frozen BK249.out 0; have hfz13_1 := blk_frozen BK249.out 1) | (go_at_call 9; (with_reducible refine (own_Of.calls a0 a1 a2_0 a2_1 t252 t253 _ A6.out).mono ?_); rintro e w14 ⟨rfl, hb⟩; have n0_ := Aside0.mk (blk_below (g := gb249) (o := .cells #[.int .i64 a2_0, .int .i64 a2_1] 23 (0, 0)) (by (with_reducible repeat (first | refine blk_drewN ?_ _ | refine blk_drew ?_ | refine blk_alloc ?_ _)); exact BK249.out) hb); have n1_ := Aside0.mk (blk_below (g := gb250) (o := .cells #[.int .i64 a3_0, .int .i64 a3_1, .int .i64 a3_2, .int .i64 a3_3] 25 (0, 0)) (by (with_reducible repeat (first | refine blk_drewN ?_ _ | refine blk_drew ?_ | refine blk_alloc ?_ _)); exact BK250.out) hb); have n2_ := Aside0.mk (below_step (by repeat (first | (with_reducible first | exact HB.out | apply below_alloc | apply pw_below_drewN | apply below_drew1 | refine below_set ?_ GE249.out | refine below_set ?_ GE250.out) | exact HB.out)) hb); clear BK249; clear BK250; clear HB; have BK249 := n0_; have BK250 := n1_; have HB := n2_; clear n0_ n1_ n2_; (try clear hb); (try clear hb2); (try clear hk); (try clear hi); (try simp only [errW_none, errW_some]); have hcz15_0 : w14.cell? ⟨gb250, 0, none⟩ = some (.int .i64 a3_0) := (blk_cell BK250.out 0).trans rfl; have hcz15_1 : w14.cell? ⟨gb250, 1, none⟩ = some (.int .i64 a3_1) := (blk_cell BK250.out 1).trans rfl; have hcz15_2 : w14.cell? ⟨gb250, 2, none⟩ = some (.int .i64 a3_2) := (blk_cell BK250.out 2).trans rfl; have hcz15_3 : w14.cell? ⟨gb250, 3, none⟩ = some (.int .i64 a3_3) := (blk_cell BK250.out 3).trans rfl; have hfz15_0 := blk_frozen BK250.out 0; have hfz15_1 := blk_frozen BK250.out 1; have hfz15_2 := blk_frozen BK250.out 2; have hfz15_3 := blk_frozen BK250.out 3) | (go_at_call 10; (with_reducible refine (own_All.calls k a0 a1 a3_0 a3_1 a3_2 a3_3 t254 t257 _ A7.out).mono ?_); rintro e w16 ⟨v255, rfl, ho0, hb⟩; have n0_ := Aside0.mk (Kd.R_lower ho0 (below_size (by repeat (first | (with_reducible first | exact HB.out | apply below_alloc | apply pw_below_drewN | apply below_drew1 | refine below_set ?_ GE249.out | refine below_set ?_ GE250.out) | exact HB.out)))); have n1_ := Aside0.mk (blk_below (g := gb249) (o := .cells #[.int .i64 a2_0, .int .i64 a2_1] 23 (0, 0)) (by (with_reducible repeat (first | refine blk_drewN ?_ _ | refine blk_drew ?_ | refine blk_alloc ?_ _)); exact BK249.out) hb); have n2_ := Aside0.mk (blk_below (g := gb250) (o := .cells #[.int .i64 a3_0, .int .i64 a3_1, .int .i64 a3_2, .int .i64 a3_3] 25 (0, 0)) (by (with_reducible repeat (first | refine blk_drewN ?_ _ | refine blk_drew ?_ | refine blk_alloc ?_ _)); exact BK250.out) hb); have n3_ := Aside0.mk (below_step (by repeat (first | (with_reducible first | exact HB.out | apply below_alloc | apply pw_below_drewN | apply below_drew1 | refine below_set ?_ GE249.out | refine below_set ?_ GE250.out) | exact HB.out)) hb); clear BK249; clear BK250; clear HB; have HO256 := n0_; have BK249 := n1_; have BK250 := n2_; have HB := n3_; clear n0_ n1_ n2_ n3_; (try clear hb); (try clear hb2); (try clear hk); (try clear hi); (try clear ho0); (try simp only [errW_none, errW_some]))))
  (try simp only [Act.put, List.setIfInBounds_toArray, List.set_cons_zero, List.set_cons_succ])
  go_cut [37] (fun v37 wc => ∃ (kq : Nat) (x37_7 : Bool), v37 = .bool x37_7 ∧ Aside0 (ploverlaw18_OwnAmong.j0 kq a1 t251 t252 t254 x37_7 a2_0 a2_1 a3_0 a3_1 a3_2 a3_3 = some r) ∧ Aside0 (kq ≤ k) ∧ Aside0 (Kd.R (Kd.int .i64) 3 wc w.heap.size (fun _ => True) v255 t254) ∧ Aside0 (wc.heap[gb249]? = some (.cells #[.int .i64 a2_0, .int .i64 a2_1] 23 (0, 0))) ∧ Aside0 (wc.heap[gb250]? = some (.cells #[.int .i64 a3_0, .int .i64 a3_1, .int .i64 a3_2, .int .i64 a3_3] 25 (0, 0))) ∧ Aside0 (Below w.heap.size w wc))
  case first =>
    have H := HC8.out
    clear HC8
    rcases t253 with _ | q258
    · have H1 : (if t257.isNone = true then (ploverlaw18_OwnAmong.j0 k a1 t251 t252 t254 false a2_0 a2_1 a3_0 a3_1 a3_2 a3_3) else (ploverlaw18_OwnAmong.j0 k a1 t251 t252 t254 true a2_0 a2_1 a3_0 a3_1 a3_2 a3_3)) = some r := by rw [if_pos (show (none : Option Int).isNone = true by rfl)] at H; exact H
      clear H
      have H := H1
      clear H1
      try simp only [errW_none, errW_some]
      rcases t257 with _ | q259
      · have H1 : (ploverlaw18_OwnAmong.j0 k a1 t251 t252 t254 false a2_0 a2_1 a3_0 a3_1 a3_2 a3_3) = some r := by rw [if_pos (show (none : Option Int).isNone = true by rfl)] at H; exact H
        clear H
        have H := H1
        clear H1
        try simp only [errW_none, errW_some]
        have H' := Aside0.mk H
        clear H
        go_wp2
        repeat (go_quiet (fail); try go_wp2)
        go_meet
        case rel => exact ⟨_, (false), (by first | rfl | (simp; done) | (simp [*]; done)), H', ⟨by first | omega | exact Nat.le_refl _⟩, ⟨by (with_reducible repeat (first | apply Kd.R_alloc | apply Kd.R_drewN | apply Kd.R_drew)); exact HO256.out⟩, ⟨by (with_reducible repeat (first | refine blk_drewN ?_ _ | refine blk_drew ?_ | refine blk_alloc ?_ _)); exact BK249.out⟩, ⟨by (with_reducible repeat (first | refine blk_drewN ?_ _ | refine blk_drew ?_ | refine blk_alloc ?_ _)); exact BK250.out⟩, ⟨by repeat (first | (with_reducible first | exact HB.out | apply below_alloc | apply pw_below_drewN | apply below_drew1 | refine below_set ?_ GE249.out | refine below_set ?_ GE250.out) | exact HB.out)⟩⟩
      · have H1 : (ploverlaw18_OwnAmong.j0 k a1 t251 t252 t254 true a2_0 a2_1 a3_0 a3_1 a3_2 a3_3) = some r := by rw [if_neg (show ¬ (some q259).isNone = true by simp)] at H; exact H
        clear H
        have H := H1
        clear H1
        try simp only [errW_none, errW_some]
        have H' := Aside0.mk H
        clear H
        go_wp2
        repeat (go_quiet (fail); try go_wp2)
        go_meet
        case rel => exact ⟨_, (true), (by first | rfl | (simp; done) | (simp [*]; done)), H', ⟨by first | omega | exact Nat.le_refl _⟩, ⟨by (with_reducible repeat (first | apply Kd.R_alloc | apply Kd.R_drewN | apply Kd.R_drew)); exact HO256.out⟩, ⟨by (with_reducible repeat (first | refine blk_drewN ?_ _ | refine blk_drew ?_ | refine blk_alloc ?_ _)); exact BK249.out⟩, ⟨by (with_reducible repeat (first | refine blk_drewN ?_ _ | refine blk_drew ?_ | refine blk_alloc ?_ _)); exact BK250.out⟩, ⟨by repeat (first | (with_reducible first | exact HB.out | apply below_alloc | apply pw_below_drewN | apply below_drew1 | refine below_set ?_ GE249.out | refine below_set ?_ GE250.out) | exact HB.out)⟩⟩
    · have H1 : (ploverlaw18_OwnAmong.j0 k a1 t251 t252 t254 true a2_0 a2_1 a3_0 a3_1 a3_2 a3_3) = some r := by rw [if_neg (show ¬ (some q258).isNone = true by simp)] at H; exact H
      clear H
      have H := H1
      clear H1
      try simp only [errW_none, errW_some]
      have H' := Aside0.mk H
      clear H
      go_wp2
      repeat (go_quiet (fail); try go_wp2)
      go_meet
      case rel => exact ⟨_, (true), (by first | rfl | (simp; done) | (simp [*]; done)), H', ⟨by first | omega | exact Nat.le_refl _⟩, ⟨by (with_reducible repeat (first | apply Kd.R_alloc | apply Kd.R_drewN | apply Kd.R_drew)); exact HO256.out⟩, ⟨by (with_reducible repeat (first | refine blk_drewN ?_ _ | refine blk_drew ?_ | refine blk_alloc ?_ _)); exact BK249.out⟩, ⟨by (with_reducible repeat (first | refine blk_drewN ?_ _ | refine blk_drew ?_ | refine blk_alloc ?_ _)); exact BK250.out⟩, ⟨by repeat (first | (with_reducible first | exact HB.out | apply below_alloc | apply pw_below_drewN | apply below_drew1 | refine below_set ?_ GE249.out | refine below_set ?_ GE250.out) | exact HB.out)⟩⟩
  case rest =>
    clear HC8
    try clear c1
    try clear p2
    try clear q2
    try clear c4
    try clear c12
    try clear hcz13_0
    try clear hcz13_1
    try clear hcz15_0
    try clear hcz15_1
    try clear hcz15_2
    try clear hcz15_3
    try clear hfz13_0
    try clear hfz13_1
    try clear hfz15_0
    try clear hfz15_1
    try clear hfz15_2
    try clear hfz15_3
    try clear q258
    try clear q259
    obtain ⟨kq, x37_7, rfl, HA, HJ7, HO_12, BK249, BK250, HB⟩ := hcut
    cases kq with
    | zero => exact absurd HA.out (by simp [ploverlaw18_OwnAmong.j0])
    | succ kj7 =>
      have H := HA.out
      clear HA
      simp only [ploverlaw18_OwnAmong.j0] at H
      by_cases c17 : x37_7 = true
      · subst c17
        have H1 : (some t251) = some r := by rw [if_pos rfl] at H; exact H
        clear H
        have H := H1
        clear H1
        obtain rfl := Option.some.inj H
        go_wp2
        repeat (go_quiet (fail); try go_wp2)
        go_ret
        exact ⟨by first | rfl | (simp [errW_none, errW_some] <;> rfl) | (simp [*, errW_none, errW_some] <;> rfl), by repeat (first | (with_reducible first | exact HB.out | apply below_alloc | apply pw_below_drewN | apply below_drew1 | refine below_set ?_ GE249.out | refine below_set ?_ GE250.out) | exact HB.out)⟩
      · replace c17 := Bool.eq_false_iff.mpr c17
        subst c17
        have H1 : (ploverlaw18_OwnAmong.l0 kj7 a1 t251 t252 t254 false 0 a2_0 a2_1 a3_0 a3_1 a3_2 a3_3) = some r := by rw [if_neg (show ¬ (false = true) by decide)] at H; exact H
        clear H
        have H := H1
        clear H1
        have H' := Aside0.mk H
        clear H
        go_wp2
        repeat (go_quiet (fail); try go_wp2)
        go_loopg [14, 15] kj7 (fun kq v14 v15 w' => ∃ (x14_2 : Bool) (x15_2 : Int), v14 = .bool x14_2 ∧ v15 = .int .i64 x15_2 ∧ Aside0 (ploverlaw18_OwnAmong.l0 kq a1 t251 t252 t254 x14_2 x15_2 a2_0 a2_1 a3_0 a3_1 a3_2 a3_3 = some r) ∧ Aside0 (kq ≤ kj7) ∧ Aside0 (Kd.R (Kd.int .i64) 3 w' w.heap.size (fun _ => True) v255 t254) ∧ Aside0 (w'.heap[gb249]? = some (.cells #[.int .i64 a2_0, .int .i64 a2_1] 23 (0, 0))) ∧ Aside0 (w'.heap[gb250]? = some (.cells #[.int .i64 a3_0, .int .i64 a3_1, .int .i64 a3_2, .int .i64 a3_3] 25 (0, 0))) ∧ Aside0 (Below w.heap.size w w'))
        case atStart => exact ⟨(false), (0), (by first | rfl | (simp; done) | (simp [*]; done)), (by first | rfl | (simp; done) | (simp [*]; done)), H', ⟨Nat.le_refl _⟩, ⟨by (with_reducible repeat (first | apply Kd.R_alloc | apply Kd.R_drewN | apply Kd.R_drew)); exact HO_12.out⟩, ⟨by (with_reducible repeat (first | refine blk_drewN ?_ _ | refine blk_drew ?_ | refine blk_alloc ?_ _)); exact BK249.out⟩, ⟨by (with_reducible repeat (first | refine blk_drewN ?_ _ | refine blk_drew ?_ | refine blk_alloc ?_ _)); exact BK250.out⟩, ⟨by repeat (first | (with_reducible first | exact HB.out | apply below_alloc | apply pw_below_drewN | apply below_drew1 | refine below_set ?_ GE249.out | refine below_set ?_ GE250.out) | exact HB.out)⟩⟩
        case round =>
          clear H'
          try clear c1
          try clear p2
          try clear q2
          try clear c4
          try clear c12
          try clear c17
          try clear hcz13_0
          try clear hcz13_1
          try clear hcz15_0
          try clear hcz15_1
          try clear hcz15_2
          try clear hcz15_3
          try clear hfz13_0
          try clear hfz13_1
          try clear hfz15_0
          try clear hfz15_1
          try clear hfz15_2
          try clear hfz15_3
          try clear p2
          try clear q2
          try clear q258
          try clear q259
          obtain ⟨x14_2, x15_2, rfl, rfl, HA, HK2, HO_12, BK249, BK250, HB⟩ := hrel
          cases gk with
          | zero => exact absurd HA.out (by simp [ploverlaw18_OwnAmong.l0])
          | succ k2 =>
            have H := HA.out
            clear HA
            simp only [ploverlaw18_OwnAmong.l0] at H
            by_cases c18 : x15_2 < (t254.length : Int)
            · rw [if_pos c18] at H
              have c18b0 : decide (x15_2 < (t254.length : Int)) = true := decide_eq_true c18
              clear c18
              by_cases c19 : x14_2 = true
              · subst c19
                have H1 : (if 0 ≤ x15_2 then (if (rd t254 x15_2) < 0 then (some false) else (if (rd t254 x15_2) ≥ a1 then (some false) else (if x15_2 > 0 then (if 0 ≤ (wrap64 (x15_2 - 1)) then (if (wrap64 (x15_2 - 1)) < (t254.length : Int) then (if (rd t254 x15_2) ≤ (rd t254 (wrap64 (x15_2 - 1))) then (some false) else (ploverlaw18_OwnAmong.l0 k2 a1 t251 t252 t254 true (wrap64 (x15_2 + 1)) a2_0 a2_1 a3_0 a3_1 a3_2 a3_3)) else (none)) else (none)) else (ploverlaw18_OwnAmong.l0 k2 a1 t251 t252 t254 true (wrap64 (x15_2 + 1)) a2_0 a2_1 a3_0 a3_1 a3_2 a3_3)))) else (none)) = some r := by rw [if_pos rfl] at H; exact H
                clear H
                have H := H1
                clear H1
                by_cases c20 : 0 ≤ x15_2
                · rw [if_pos c20] at H
                  have c20b0 : decide (0 ≤ x15_2) = true := decide_eq_true c20
                  clear c20
                  by_cases c21 : (rd t254 x15_2) < 0
                  · rw [if_pos c21] at H
                    have c21b0 : decide ((rd t254 x15_2) < 0) = true := decide_eq_true c21
                    clear c21
                    obtain rfl := Option.some.inj H
                    obtain ⟨Ao22, co22, eo22⟩ := Kd.R_slice HO_12.out
                    subst eo22
                    have p260 : 0 ≤ (x15_2 : Int) := of_decide_eq_true (by first | (with_reducible assumption) | assumption)
                    have q260 : x15_2 < (t254.length : Int) := of_decide_eq_true (by first | (with_reducible assumption) | assumption)
                    obtain ⟨ad260, e260, hx260_0⟩ := Kd.at_int (Kd.R_reads' HO_12.out).2.2 x15_2 p260 q260
                    cases e260
                    replace p260 := eq_true p260
                    replace q260 := eq_true q260
                    go_wp2
                    repeat (go_quiet (fail); try go_wp2)
                    go_ret
                    exact ⟨by first | rfl | (simp [errW_none, errW_some] <;> rfl) | (simp [*, errW_none, errW_some] <;> rfl), by repeat (first | (with_reducible first | exact HB.out | apply below_alloc | apply pw_below_drewN | apply below_drew1 | refine below_set ?_ GE249.out | refine below_set ?_ GE250.out) | exact HB.out)⟩
                  · rw [if_neg c21] at H
                    have c21b0 : decide ((rd t254 x15_2) < 0) = false := decide_eq_false c21
                    clear c21
                    by_cases c23 : (rd t254 x15_2) ≥ a1
                    · rw [if_pos c23] at H
                      have c23b0 : decide (a1 ≤ (rd t254 x15_2)) = true := decide_eq_true c23
                      clear c23
                      obtain rfl := Option.some.inj H
                      obtain ⟨Ao24, co24, eo24⟩ := Kd.R_slice HO_12.out
                      subst eo24
                      have p260 : 0 ≤ (x15_2 : Int) := of_decide_eq_true (by first | (with_reducible assumption) | assumption)
                      have q260 : x15_2 < (t254.length : Int) := of_decide_eq_true (by first | (with_reducible assumption) | assumption)
                      obtain ⟨ad260, e260, hx260_0⟩ := Kd.at_int (Kd.R_reads' HO_12.out).2.2 x15_2 p260 q260
                      cases e260
                      replace p260 := eq_true p260
                      replace q260 := eq_true q260
                      have p261 : 0 ≤ (x15_2 : Int) := of_decide_eq_true (by first | (with_reducible assumption) | assumption)
                      have q261 : x15_2 < (t254.length : Int) := of_decide_eq_true (by first | (with_reducible assumption) | assumption)
                      obtain ⟨ad261, e261, hx261_0⟩ := Kd.at_int (Kd.R_reads' HO_12.out).2.2 x15_2 p261 q261
                      obtain rfl : ad260 = ad261 := (by injection e261)
                      replace p261 := eq_true p261
                      replace q261 := eq_true q261
                      go_wp2
                      repeat (go_quiet (fail); try go_wp2)
                      go_ret
                      exact ⟨by first | rfl | (simp [errW_none, errW_some] <;> rfl) | (simp [*, errW_none, errW_some] <;> rfl), by repeat (first | (with_reducible first | exact HB.out | apply below_alloc | apply pw_below_drewN | apply below_drew1 | refine below_set ?_ GE249.out | refine below_set ?_ GE250.out) | exact HB.out)⟩
                    · rw [if_neg c23] at H
                      have c23b0 : decide (a1 ≤ (rd t254 x15_2)) = false := decide_eq_false c23
                      clear c23
                      by_cases c25 : x15_2 > 0
                      · rw [if_pos c25] at H
                        have c25b0 : decide (0 < x15_2) = true := decide_eq_true c25
                        clear c25
                        obtain ⟨ji26, hji26⟩ : ∃ j_ : Int, (wrap64 (x15_2 - 1)) = j_ := ⟨_, rfl⟩
                        replace H : (if 0 ≤ (ji26) then (if (ji26) < (t254.length : Int) then (if (rd t254 x15_2) ≤ (rd t254 (ji26)) then (some false) else (ploverlaw18_OwnAmong.l0 k2 a1 t251 t252 t254 true (wrap64 (x15_2 + 1)) a2_0 a2_1 a3_0 a3_1 a3_2 a3_3)) else (none)) else (none)) = some r := by first | (rw [hji26] at H; exact H) | (simp only [hji26] at H ⊢; exact H)
                        have hji26w : (IntKind.i64.wrap (x15_2 - 1)) = ji26 := (i64_w _).trans hji26
                        by_cases c27 : 0 ≤ (ji26)
                        · rw [if_pos c27] at H
                          have c27b0 : decide (0 ≤ (ji26)) = true := decide_eq_true c27
                          clear c27
                          by_cases c28 : (ji26) < (t254.length : Int)
                          · rw [if_pos c28] at H
                            have c28b0 : decide ((ji26) < (t254.length : Int)) = true := decide_eq_true c28
                            clear c28
                            by_cases c29 : (rd t254 x15_2) ≤ (rd t254 (ji26))
                            · rw [if_pos c29] at H
                              have c29b0 : decide ((rd t254 x15_2) ≤ (rd t254 (ji26))) = true := decide_eq_true c29
                              clear c29
                              obtain rfl := Option.some.inj H
                              obtain ⟨Ao30, co30, eo30⟩ := Kd.R_slice HO_12.out
                              subst eo30
                              have p260 : 0 ≤ (x15_2 : Int) := of_decide_eq_true (by first | (with_reducible assumption) | assumption)
                              have q260 : x15_2 < (t254.length : Int) := of_decide_eq_true (by first | (with_reducible assumption) | assumption)
                              obtain ⟨ad260, e260, hx260_0⟩ := Kd.at_int (Kd.R_reads' HO_12.out).2.2 x15_2 p260 q260
                              cases e260
                              replace p260 := eq_true p260
                              replace q260 := eq_true q260
                              have p261 : 0 ≤ (x15_2 : Int) := of_decide_eq_true (by first | (with_reducible assumption) | assumption)
                              have q261 : x15_2 < (t254.length : Int) := of_decide_eq_true (by first | (with_reducible assumption) | assumption)
                              obtain ⟨ad261, e261, hx261_0⟩ := Kd.at_int (Kd.R_reads' HO_12.out).2.2 x15_2 p261 q261
                              obtain rfl : ad260 = ad261 := (by injection e261)
                              replace p261 := eq_true p261
                              replace q261 := eq_true q261
                              have p262 : 0 ≤ (x15_2 : Int) := of_decide_eq_true (by first | (with_reducible assumption) | assumption)
                              have q262 : x15_2 < (t254.length : Int) := of_decide_eq_true (by first | (with_reducible assumption) | assumption)
                              obtain ⟨ad262, e262, hx262_0⟩ := Kd.at_int (Kd.R_reads' HO_12.out).2.2 x15_2 p262 q262
                              obtain rfl : ad260 = ad262 := (by injection e262)
                              replace p262 := eq_true p262
                              replace q262 := eq_true q262
                              have p263 : 0 ≤ ((ji26) : Int) := of_decide_eq_true (by first | (with_reducible assumption) | assumption)
                              have q263 : (ji26) < (t254.length : Int) := of_decide_eq_true (by first | (with_reducible assumption) | assumption)
                              obtain ⟨ad263, e263, hx263_0⟩ := Kd.at_int (Kd.R_reads' HO_12.out).2.2 (ji26) p263 q263
                              obtain rfl : ad260 = ad263 := (by injection e263)
                              replace p263 := eq_true p263
                              replace q263 := eq_true q263
                              go_wp2
                              repeat (go_quiet (fail); try go_wp2)
                              go_ret
                              exact ⟨by first | rfl | (simp [errW_none, errW_some] <;> rfl) | (simp only [← hji26]; first | rfl | (simp [errW_none, errW_some] <;> rfl)) | (simp [*, errW_none, errW_some] <;> rfl), by repeat (first | (with_reducible first | exact HB.out | apply below_alloc | apply pw_below_drewN | apply below_drew1 | refine below_set ?_ GE249.out | refine below_set ?_ GE250.out) | exact HB.out)⟩
                            · rw [if_neg c29] at H
                              have c29b0 : decide ((rd t254 x15_2) ≤ (rd t254 (ji26))) = false := decide_eq_false c29
                              clear c29
                              have H' := Aside0.mk H
                              clear H
                              obtain ⟨Ao31, co31, eo31⟩ := Kd.R_slice HO_12.out
                              subst eo31
                              have p260 : 0 ≤ (x15_2 : Int) := of_decide_eq_true (by first | (with_reducible assumption) | assumption)
                              have q260 : x15_2 < (t254.length : Int) := of_decide_eq_true (by first | (with_reducible assumption) | assumption)
                              obtain ⟨ad260, e260, hx260_0⟩ := Kd.at_int (Kd.R_reads' HO_12.out).2.2 x15_2 p260 q260
                              cases e260
                              replace p260 := eq_true p260
                              replace q260 := eq_true q260
                              have p261 : 0 ≤ (x15_2 : Int) := of_decide_eq_true (by first | (with_reducible assumption) | assumption)
                              have q261 : x15_2 < (t254.length : Int) := of_decide_eq_true (by first | (with_reducible assumption) | assumption)
                              obtain ⟨ad261, e261, hx261_0⟩ := Kd.at_int (Kd.R_reads' HO_12.out).2.2 x15_2 p261 q261
                              obtain rfl : ad260 = ad261 := (by injection e261)
                              replace p261 := eq_true p261
                              replace q261 := eq_true q261
                              have p262 : 0 ≤ (x15_2 : Int) := of_decide_eq_true (by first | (with_reducible assumption) | assumption)
                              have q262 : x15_2 < (t254.length : Int) := of_decide_eq_true (by first | (with_reducible assumption) | assumption)
                              obtain ⟨ad262, e262, hx262_0⟩ := Kd.at_int (Kd.R_reads' HO_12.out).2.2 x15_2 p262 q262
                              obtain rfl : ad260 = ad262 := (by injection e262)
                              replace p262 := eq_true p262
                              replace q262 := eq_true q262
                              have p263 : 0 ≤ ((ji26) : Int) := of_decide_eq_true (by first | (with_reducible assumption) | assumption)
                              have q263 : (ji26) < (t254.length : Int) := of_decide_eq_true (by first | (with_reducible assumption) | assumption)
                              obtain ⟨ad263, e263, hx263_0⟩ := Kd.at_int (Kd.R_reads' HO_12.out).2.2 (ji26) p263 q263
                              obtain rfl : ad260 = ad263 := (by injection e263)
                              replace p263 := eq_true p263
                              replace q263 := eq_true q263
                              go_wp2
                              repeat (go_quiet (fail); try go_wp2)
                              go_roundg k2
                              case measure => have := HJ7.out; have := HK2.out; omega
                              case rel => exact ⟨(true), (wrap64 (x15_2 + 1)), (by first | rfl | (simp; done) | (simp [*]; done)), (by first | rfl | (simp; done) | (simp [*]; done)), H', ⟨by have := HJ7.out; have := HK2.out; omega⟩, ⟨by (with_reducible repeat (first | apply Kd.R_alloc | apply Kd.R_drewN | apply Kd.R_drew)); exact HO_12.out⟩, ⟨by (with_reducible repeat (first | refine blk_drewN ?_ _ | refine blk_drew ?_ | refine blk_alloc ?_ _)); exact BK249.out⟩, ⟨by (with_reducible repeat (first | refine blk_drewN ?_ _ | refine blk_drew ?_ | refine blk_alloc ?_ _)); exact BK250.out⟩, ⟨by repeat (first | (with_reducible first | exact HB.out | apply below_alloc | apply pw_below_drewN | apply below_drew1 | refine below_set ?_ GE249.out | refine below_set ?_ GE250.out) | exact HB.out)⟩⟩
                          · rw [if_neg c28] at H
                            exact absurd H (by simp)
                        · rw [if_neg c27] at H
                          exact absurd H (by simp)
                      · rw [if_neg c25] at H
                        have c25b0 : decide (0 < x15_2) = false := decide_eq_false c25
                        clear c25
                        have H' := Aside0.mk H
                        clear H
                        obtain ⟨Ao32, co32, eo32⟩ := Kd.R_slice HO_12.out
                        subst eo32
                        have p260 : 0 ≤ (x15_2 : Int) := of_decide_eq_true (by first | (with_reducible assumption) | assumption)
                        have q260 : x15_2 < (t254.length : Int) := of_decide_eq_true (by first | (with_reducible assumption) | assumption)
                        obtain ⟨ad260, e260, hx260_0⟩ := Kd.at_int (Kd.R_reads' HO_12.out).2.2 x15_2 p260 q260
                        cases e260
                        replace p260 := eq_true p260
                        replace q260 := eq_true q260
                        have p261 : 0 ≤ (x15_2 : Int) := of_decide_eq_true (by first | (with_reducible assumption) | assumption)
                        have q261 : x15_2 < (t254.length : Int) := of_decide_eq_true (by first | (with_reducible assumption) | assumption)
                        obtain ⟨ad261, e261, hx261_0⟩ := Kd.at_int (Kd.R_reads' HO_12.out).2.2 x15_2 p261 q261
                        obtain rfl : ad260 = ad261 := (by injection e261)
                        replace p261 := eq_true p261
                        replace q261 := eq_true q261
                        go_wp2
                        repeat (go_quiet (fail); try go_wp2)
                        go_roundg k2
                        case measure => have := HJ7.out; have := HK2.out; omega
                        case rel => exact ⟨(true), (wrap64 (x15_2 + 1)), (by first | rfl | (simp; done) | (simp [*]; done)), (by first | rfl | (simp; done) | (simp [*]; done)), H', ⟨by have := HJ7.out; have := HK2.out; omega⟩, ⟨by (with_reducible repeat (first | apply Kd.R_alloc | apply Kd.R_drewN | apply Kd.R_drew)); exact HO_12.out⟩, ⟨by (with_reducible repeat (first | refine blk_drewN ?_ _ | refine blk_drew ?_ | refine blk_alloc ?_ _)); exact BK249.out⟩, ⟨by (with_reducible repeat (first | refine blk_drewN ?_ _ | refine blk_drew ?_ | refine blk_alloc ?_ _)); exact BK250.out⟩, ⟨by repeat (first | (with_reducible first | exact HB.out | apply below_alloc | apply pw_below_drewN | apply below_drew1 | refine below_set ?_ GE249.out | refine below_set ?_ GE250.out) | exact HB.out)⟩⟩
                · rw [if_neg c20] at H
                  exact absurd H (by simp)
              · replace c19 := Bool.eq_false_iff.mpr c19
                subst c19
                have H1 : (if 0 ≤ x15_2 then (if (rd t254 x15_2) < 0 then (some false) else (if (rd t254 x15_2) ≥ a1 then (some false) else (if x15_2 > 0 then (if 0 ≤ (wrap64 (x15_2 - 1)) then (if (wrap64 (x15_2 - 1)) < (t254.length : Int) then (if (rd t254 x15_2) ≤ (rd t254 (wrap64 (x15_2 - 1))) then (some false) else (ploverlaw18_OwnAmong.l0 k2 a1 t251 t252 t254 ((rd t254 x15_2) == t252) (wrap64 (x15_2 + 1)) a2_0 a2_1 a3_0 a3_1 a3_2 a3_3)) else (none)) else (none)) else (ploverlaw18_OwnAmong.l0 k2 a1 t251 t252 t254 ((rd t254 x15_2) == t252) (wrap64 (x15_2 + 1)) a2_0 a2_1 a3_0 a3_1 a3_2 a3_3)))) else (none)) = some r := by rw [if_neg (show ¬ (false = true) by decide)] at H; exact H
                clear H
                have H := H1
                clear H1
                by_cases c33 : 0 ≤ x15_2
                · rw [if_pos c33] at H
                  have c33b0 : decide (0 ≤ x15_2) = true := decide_eq_true c33
                  clear c33
                  by_cases c34 : (rd t254 x15_2) < 0
                  · rw [if_pos c34] at H
                    have c34b0 : decide ((rd t254 x15_2) < 0) = true := decide_eq_true c34
                    clear c34
                    obtain rfl := Option.some.inj H
                    obtain ⟨Ao35, co35, eo35⟩ := Kd.R_slice HO_12.out
                    subst eo35
                    have p264 : 0 ≤ (x15_2 : Int) := of_decide_eq_true (by first | (with_reducible assumption) | assumption)
                    have q264 : x15_2 < (t254.length : Int) := of_decide_eq_true (by first | (with_reducible assumption) | assumption)
                    obtain ⟨ad264, e264, hx264_0⟩ := Kd.at_int (Kd.R_reads' HO_12.out).2.2 x15_2 p264 q264
                    cases e264
                    replace p264 := eq_true p264
                    replace q264 := eq_true q264
                    have p265 : 0 ≤ (x15_2 : Int) := of_decide_eq_true (by first | (with_reducible assumption) | assumption)
                    have q265 : x15_2 < (t254.length : Int) := of_decide_eq_true (by first | (with_reducible assumption) | assumption)
                    obtain ⟨ad265, e265, hx265_0⟩ := Kd.at_int (Kd.R_reads' HO_12.out).2.2 x15_2 p265 q265
                    obtain rfl : ad264 = ad265 := (by injection e265)
                    replace p265 := eq_true p265
                    replace q265 := eq_true q265
                    go_wp2
                    repeat (go_quiet (fail); try go_wp2)
                    go_ret
                    exact ⟨by first | rfl | (simp [errW_none, errW_some] <;> rfl) | (simp [*, errW_none, errW_some] <;> rfl), by repeat (first | (with_reducible first | exact HB.out | apply below_alloc | apply pw_below_drewN | apply below_drew1 | refine below_set ?_ GE249.out | refine below_set ?_ GE250.out) | exact HB.out)⟩
                  · rw [if_neg c34] at H
                    have c34b0 : decide ((rd t254 x15_2) < 0) = false := decide_eq_false c34
                    clear c34
                    by_cases c36 : (rd t254 x15_2) ≥ a1
                    · rw [if_pos c36] at H
                      have c36b0 : decide (a1 ≤ (rd t254 x15_2)) = true := decide_eq_true c36
                      clear c36
                      obtain rfl := Option.some.inj H
                      obtain ⟨Ao37, co37, eo37⟩ := Kd.R_slice HO_12.out
                      subst eo37
                      have p264 : 0 ≤ (x15_2 : Int) := of_decide_eq_true (by first | (with_reducible assumption) | assumption)
                      have q264 : x15_2 < (t254.length : Int) := of_decide_eq_true (by first | (with_reducible assumption) | assumption)
                      obtain ⟨ad264, e264, hx264_0⟩ := Kd.at_int (Kd.R_reads' HO_12.out).2.2 x15_2 p264 q264
                      cases e264
                      replace p264 := eq_true p264
                      replace q264 := eq_true q264
                      have p265 : 0 ≤ (x15_2 : Int) := of_decide_eq_true (by first | (with_reducible assumption) | assumption)
                      have q265 : x15_2 < (t254.length : Int) := of_decide_eq_true (by first | (with_reducible assumption) | assumption)
                      obtain ⟨ad265, e265, hx265_0⟩ := Kd.at_int (Kd.R_reads' HO_12.out).2.2 x15_2 p265 q265
                      obtain rfl : ad264 = ad265 := (by injection e265)
                      replace p265 := eq_true p265
                      replace q265 := eq_true q265
                      have p266 : 0 ≤ (x15_2 : Int) := of_decide_eq_true (by first | (with_reducible assumption) | assumption)
                      have q266 : x15_2 < (t254.length : Int) := of_decide_eq_true (by first | (with_reducible assumption) | assumption)
                      obtain ⟨ad266, e266, hx266_0⟩ := Kd.at_int (Kd.R_reads' HO_12.out).2.2 x15_2 p266 q266
                      obtain rfl : ad264 = ad266 := (by injection e266)
                      replace p266 := eq_true p266
                      replace q266 := eq_true q266
                      go_wp2
                      repeat (go_quiet (fail); try go_wp2)
                      go_ret
                      exact ⟨by first | rfl | (simp [errW_none, errW_some] <;> rfl) | (simp [*, errW_none, errW_some] <;> rfl), by repeat (first | (with_reducible first | exact HB.out | apply below_alloc | apply pw_below_drewN | apply below_drew1 | refine below_set ?_ GE249.out | refine below_set ?_ GE250.out) | exact HB.out)⟩
                    · rw [if_neg c36] at H
                      have c36b0 : decide (a1 ≤ (rd t254 x15_2)) = false := decide_eq_false c36
                      clear c36
                      by_cases c38 : x15_2 > 0
                      · rw [if_pos c38] at H
                        have c38b0 : decide (0 < x15_2) = true := decide_eq_true c38
                        clear c38
                        obtain ⟨ji39, hji39⟩ : ∃ j_ : Int, (wrap64 (x15_2 - 1)) = j_ := ⟨_, rfl⟩
                        replace H : (if 0 ≤ (ji39) then (if (ji39) < (t254.length : Int) then (if (rd t254 x15_2) ≤ (rd t254 (ji39)) then (some false) else (ploverlaw18_OwnAmong.l0 k2 a1 t251 t252 t254 ((rd t254 x15_2) == t252) (wrap64 (x15_2 + 1)) a2_0 a2_1 a3_0 a3_1 a3_2 a3_3)) else (none)) else (none)) = some r := by first | (rw [hji39] at H; exact H) | (simp only [hji39] at H ⊢; exact H)
                        have hji39w : (IntKind.i64.wrap (x15_2 - 1)) = ji39 := (i64_w _).trans hji39
                        by_cases c40 : 0 ≤ (ji39)
                        · rw [if_pos c40] at H
                          have c40b0 : decide (0 ≤ (ji39)) = true := decide_eq_true c40
                          clear c40
                          by_cases c41 : (ji39) < (t254.length : Int)
                          · rw [if_pos c41] at H
                            have c41b0 : decide ((ji39) < (t254.length : Int)) = true := decide_eq_true c41
                            clear c41
                            by_cases c42 : (rd t254 x15_2) ≤ (rd t254 (ji39))
                            · rw [if_pos c42] at H
                              have c42b0 : decide ((rd t254 x15_2) ≤ (rd t254 (ji39))) = true := decide_eq_true c42
                              clear c42
                              obtain rfl := Option.some.inj H
                              obtain ⟨Ao43, co43, eo43⟩ := Kd.R_slice HO_12.out
                              subst eo43
                              have p264 : 0 ≤ (x15_2 : Int) := of_decide_eq_true (by first | (with_reducible assumption) | assumption)
                              have q264 : x15_2 < (t254.length : Int) := of_decide_eq_true (by first | (with_reducible assumption) | assumption)
                              obtain ⟨ad264, e264, hx264_0⟩ := Kd.at_int (Kd.R_reads' HO_12.out).2.2 x15_2 p264 q264
                              cases e264
                              replace p264 := eq_true p264
                              replace q264 := eq_true q264
                              have p265 : 0 ≤ (x15_2 : Int) := of_decide_eq_true (by first | (with_reducible assumption) | assumption)
                              have q265 : x15_2 < (t254.length : Int) := of_decide_eq_true (by first | (with_reducible assumption) | assumption)
                              obtain ⟨ad265, e265, hx265_0⟩ := Kd.at_int (Kd.R_reads' HO_12.out).2.2 x15_2 p265 q265
                              obtain rfl : ad264 = ad265 := (by injection e265)
                              replace p265 := eq_true p265
                              replace q265 := eq_true q265
                              have p266 : 0 ≤ (x15_2 : Int) := of_decide_eq_true (by first | (with_reducible assumption) | assumption)
                              have q266 : x15_2 < (t254.length : Int) := of_decide_eq_true (by first | (with_reducible assumption) | assumption)
                              obtain ⟨ad266, e266, hx266_0⟩ := Kd.at_int (Kd.R_reads' HO_12.out).2.2 x15_2 p266 q266
                              obtain rfl : ad264 = ad266 := (by injection e266)
                              replace p266 := eq_true p266
                              replace q266 := eq_true q266
                              have p267 : 0 ≤ (x15_2 : Int) := of_decide_eq_true (by first | (with_reducible assumption) | assumption)
                              have q267 : x15_2 < (t254.length : Int) := of_decide_eq_true (by first | (with_reducible assumption) | assumption)
                              obtain ⟨ad267, e267, hx267_0⟩ := Kd.at_int (Kd.R_reads' HO_12.out).2.2 x15_2 p267 q267
                              obtain rfl : ad264 = ad267 := (by injection e267)
                              replace p267 := eq_true p267
                              replace q267 := eq_true q267
                              have p268 : 0 ≤ ((ji39) : Int) := of_decide_eq_true (by first | (with_reducible assumption) | assumption)
                              have q268 : (ji39) < (t254.length : Int) := of_decide_eq_true (by first | (with_reducible assumption) | assumption)
                              obtain ⟨ad268, e268, hx268_0⟩ := Kd.at_int (Kd.R_reads' HO_12.out).2.2 (ji39) p268 q268
                              obtain rfl : ad264 = ad268 := (by injection e268)
                              replace p268 := eq_true p268
                              replace q268 := eq_true q268
                              go_wp2
                              repeat (go_quiet (fail); try go_wp2)
                              go_ret
                              exact ⟨by first | rfl | (simp [errW_none, errW_some] <;> rfl) | (simp only [← hji39]; first | rfl | (simp [errW_none, errW_some] <;> rfl)) | (simp [*, errW_none, errW_some] <;> rfl), by repeat (first | (with_reducible first | exact HB.out | apply below_alloc | apply pw_below_drewN | apply below_drew1 | refine below_set ?_ GE249.out | refine below_set ?_ GE250.out) | exact HB.out)⟩
                            · rw [if_neg c42] at H
                              have c42b0 : decide ((rd t254 x15_2) ≤ (rd t254 (ji39))) = false := decide_eq_false c42
                              clear c42
                              have H' := Aside0.mk H
                              clear H
                              obtain ⟨Ao44, co44, eo44⟩ := Kd.R_slice HO_12.out
                              subst eo44
                              have p264 : 0 ≤ (x15_2 : Int) := of_decide_eq_true (by first | (with_reducible assumption) | assumption)
                              have q264 : x15_2 < (t254.length : Int) := of_decide_eq_true (by first | (with_reducible assumption) | assumption)
                              obtain ⟨ad264, e264, hx264_0⟩ := Kd.at_int (Kd.R_reads' HO_12.out).2.2 x15_2 p264 q264
                              cases e264
                              replace p264 := eq_true p264
                              replace q264 := eq_true q264
                              have p265 : 0 ≤ (x15_2 : Int) := of_decide_eq_true (by first | (with_reducible assumption) | assumption)
                              have q265 : x15_2 < (t254.length : Int) := of_decide_eq_true (by first | (with_reducible assumption) | assumption)
                              obtain ⟨ad265, e265, hx265_0⟩ := Kd.at_int (Kd.R_reads' HO_12.out).2.2 x15_2 p265 q265
                              obtain rfl : ad264 = ad265 := (by injection e265)
                              replace p265 := eq_true p265
                              replace q265 := eq_true q265
                              have p266 : 0 ≤ (x15_2 : Int) := of_decide_eq_true (by first | (with_reducible assumption) | assumption)
                              have q266 : x15_2 < (t254.length : Int) := of_decide_eq_true (by first | (with_reducible assumption) | assumption)
                              obtain ⟨ad266, e266, hx266_0⟩ := Kd.at_int (Kd.R_reads' HO_12.out).2.2 x15_2 p266 q266
                              obtain rfl : ad264 = ad266 := (by injection e266)
                              replace p266 := eq_true p266
                              replace q266 := eq_true q266
                              have p267 : 0 ≤ (x15_2 : Int) := of_decide_eq_true (by first | (with_reducible assumption) | assumption)
                              have q267 : x15_2 < (t254.length : Int) := of_decide_eq_true (by first | (with_reducible assumption) | assumption)
                              obtain ⟨ad267, e267, hx267_0⟩ := Kd.at_int (Kd.R_reads' HO_12.out).2.2 x15_2 p267 q267
                              obtain rfl : ad264 = ad267 := (by injection e267)
                              replace p267 := eq_true p267
                              replace q267 := eq_true q267
                              have p268 : 0 ≤ ((ji39) : Int) := of_decide_eq_true (by first | (with_reducible assumption) | assumption)
                              have q268 : (ji39) < (t254.length : Int) := of_decide_eq_true (by first | (with_reducible assumption) | assumption)
                              obtain ⟨ad268, e268, hx268_0⟩ := Kd.at_int (Kd.R_reads' HO_12.out).2.2 (ji39) p268 q268
                              obtain rfl : ad264 = ad268 := (by injection e268)
                              replace p268 := eq_true p268
                              replace q268 := eq_true q268
                              go_wp2
                              repeat (go_quiet (fail); try go_wp2)
                              go_roundg k2
                              case measure => have := HJ7.out; have := HK2.out; omega
                              case rel => exact ⟨(((rd t254 x15_2) == t252)), (wrap64 (x15_2 + 1)), (by first | rfl | (simp; done) | (simp [*]; done)), (by first | rfl | (simp; done) | (simp [*]; done)), H', ⟨by have := HJ7.out; have := HK2.out; omega⟩, ⟨by (with_reducible repeat (first | apply Kd.R_alloc | apply Kd.R_drewN | apply Kd.R_drew)); exact HO_12.out⟩, ⟨by (with_reducible repeat (first | refine blk_drewN ?_ _ | refine blk_drew ?_ | refine blk_alloc ?_ _)); exact BK249.out⟩, ⟨by (with_reducible repeat (first | refine blk_drewN ?_ _ | refine blk_drew ?_ | refine blk_alloc ?_ _)); exact BK250.out⟩, ⟨by repeat (first | (with_reducible first | exact HB.out | apply below_alloc | apply pw_below_drewN | apply below_drew1 | refine below_set ?_ GE249.out | refine below_set ?_ GE250.out) | exact HB.out)⟩⟩
                          · rw [if_neg c41] at H
                            exact absurd H (by simp)
                        · rw [if_neg c40] at H
                          exact absurd H (by simp)
                      · rw [if_neg c38] at H
                        have c38b0 : decide (0 < x15_2) = false := decide_eq_false c38
                        clear c38
                        have H' := Aside0.mk H
                        clear H
                        obtain ⟨Ao45, co45, eo45⟩ := Kd.R_slice HO_12.out
                        subst eo45
                        have p264 : 0 ≤ (x15_2 : Int) := of_decide_eq_true (by first | (with_reducible assumption) | assumption)
                        have q264 : x15_2 < (t254.length : Int) := of_decide_eq_true (by first | (with_reducible assumption) | assumption)
                        obtain ⟨ad264, e264, hx264_0⟩ := Kd.at_int (Kd.R_reads' HO_12.out).2.2 x15_2 p264 q264
                        cases e264
                        replace p264 := eq_true p264
                        replace q264 := eq_true q264
                        have p265 : 0 ≤ (x15_2 : Int) := of_decide_eq_true (by first | (with_reducible assumption) | assumption)
                        have q265 : x15_2 < (t254.length : Int) := of_decide_eq_true (by first | (with_reducible assumption) | assumption)
                        obtain ⟨ad265, e265, hx265_0⟩ := Kd.at_int (Kd.R_reads' HO_12.out).2.2 x15_2 p265 q265
                        obtain rfl : ad264 = ad265 := (by injection e265)
                        replace p265 := eq_true p265
                        replace q265 := eq_true q265
                        have p266 : 0 ≤ (x15_2 : Int) := of_decide_eq_true (by first | (with_reducible assumption) | assumption)
                        have q266 : x15_2 < (t254.length : Int) := of_decide_eq_true (by first | (with_reducible assumption) | assumption)
                        obtain ⟨ad266, e266, hx266_0⟩ := Kd.at_int (Kd.R_reads' HO_12.out).2.2 x15_2 p266 q266
                        obtain rfl : ad264 = ad266 := (by injection e266)
                        replace p266 := eq_true p266
                        replace q266 := eq_true q266
                        go_wp2
                        repeat (go_quiet (fail); try go_wp2)
                        go_roundg k2
                        case measure => have := HJ7.out; have := HK2.out; omega
                        case rel => exact ⟨(((rd t254 x15_2) == t252)), (wrap64 (x15_2 + 1)), (by first | rfl | (simp; done) | (simp [*]; done)), (by first | rfl | (simp; done) | (simp [*]; done)), H', ⟨by have := HJ7.out; have := HK2.out; omega⟩, ⟨by (with_reducible repeat (first | apply Kd.R_alloc | apply Kd.R_drewN | apply Kd.R_drew)); exact HO_12.out⟩, ⟨by (with_reducible repeat (first | refine blk_drewN ?_ _ | refine blk_drew ?_ | refine blk_alloc ?_ _)); exact BK249.out⟩, ⟨by (with_reducible repeat (first | refine blk_drewN ?_ _ | refine blk_drew ?_ | refine blk_alloc ?_ _)); exact BK250.out⟩, ⟨by repeat (first | (with_reducible first | exact HB.out | apply below_alloc | apply pw_below_drewN | apply below_drew1 | refine below_set ?_ GE249.out | refine below_set ?_ GE250.out) | exact HB.out)⟩⟩
                · rw [if_neg c33] at H
                  exact absurd H (by simp)
            · rw [if_neg c18] at H
              have c18b0 : decide (x15_2 < (t254.length : Int)) = false := decide_eq_false c18
              clear c18
              replace H := Option.bind_eq_some_iff.mp H
              obtain ⟨t269, A460, H⟩ := H
              replace H : (if t251 = true then (if t252 ≥ 0 then (if t252 < a1 then (if t269 = true then (some x14_2) else (some true)) else (some false)) else (some false)) else (some false)) = some r := H
              have A46 := Aside0.mk A460
              clear A460
              by_cases c47 : t251 = true
              · subst c47
                have H1 : (if t252 ≥ 0 then (if t252 < a1 then (if t269 = true then (some x14_2) else (some true)) else (some false)) else (some false)) = some r := by rw [if_pos rfl] at H; exact H
                clear H
                have H := H1
                clear H1
                by_cases c48 : t252 ≥ 0
                · rw [if_pos c48] at H
                  have c48b0 : decide (0 ≤ t252) = true := decide_eq_true c48
                  clear c48
                  by_cases c49 : t252 < a1
                  · rw [if_pos c49] at H
                    have c49b0 : decide (t252 < a1) = true := decide_eq_true c49
                    clear c49
                    by_cases c50 : t269 = true
                    · subst c50
                      have H1 : (some x14_2) = some r := by rw [if_pos rfl] at H; exact H
                      clear H
                      have H := H1
                      clear H1
                      obtain rfl := Option.some.inj H
                      obtain ⟨Ao51, co51, eo51⟩ := Kd.R_slice HO_12.out
                      subst eo51
                      have hnb52 := NB250_249.out
                      have hnc52 := NB249_250.out
                      have hcz53_0 : wr.cell? ⟨gb250, 0, none⟩ = some (.int .i64 a3_0) := (blk_cell BK250.out 0).trans rfl
                      have hcz53_1 : wr.cell? ⟨gb250, 1, none⟩ = some (.int .i64 a3_1) := (blk_cell BK250.out 1).trans rfl
                      have hcz53_2 : wr.cell? ⟨gb250, 2, none⟩ = some (.int .i64 a3_2) := (blk_cell BK250.out 2).trans rfl
                      have hcz53_3 : wr.cell? ⟨gb250, 3, none⟩ = some (.int .i64 a3_3) := (blk_cell BK250.out 3).trans rfl
                      have hfz53_0 := blk_frozen BK250.out 0
                      have hfz53_1 := blk_frozen BK250.out 1
                      have hfz53_2 := blk_frozen BK250.out 2
                      have hfz53_3 := blk_frozen BK250.out 3
                      have hcz54_0 : wr.cell? ⟨gb249, 0, none⟩ = some (.int .i64 a2_0) := (blk_cell BK249.out 0).trans rfl
                      have hcz54_1 : wr.cell? ⟨gb249, 1, none⟩ = some (.int .i64 a2_1) := (blk_cell BK249.out 1).trans rfl
                      have hfz54_0 := blk_frozen BK249.out 0
                      have hfz54_1 := blk_frozen BK249.out 1
                      go_wp2_with (first | (go_at_call 13; (with_reducible refine (ploverref01_In.calls a3_0 a3_1 a3_2 a3_3 a2_0 a2_1 true _ A46.out).mono ?_); rintro e w55 ⟨rfl, hb⟩; have n0_ := Aside0.mk (Kd.R_below (by (with_reducible repeat (first | apply Kd.R_alloc | apply Kd.R_drewN | apply Kd.R_drew)); exact HO_12.out) hb); have n1_ := Aside0.mk (blk_below (g := gb249) (o := .cells #[.int .i64 a2_0, .int .i64 a2_1] 23 (0, 0)) (by (with_reducible repeat (first | refine blk_drewN ?_ _ | refine blk_drew ?_ | refine blk_alloc ?_ _)); exact BK249.out) hb); have n2_ := Aside0.mk (blk_below (g := gb250) (o := .cells #[.int .i64 a3_0, .int .i64 a3_1, .int .i64 a3_2, .int .i64 a3_3] 25 (0, 0)) (by (with_reducible repeat (first | refine blk_drewN ?_ _ | refine blk_drew ?_ | refine blk_alloc ?_ _)); exact BK250.out) hb); have n3_ := Aside0.mk (below_step (by repeat (first | (with_reducible first | exact HB.out | apply below_alloc | apply pw_below_drewN | apply below_drew1 | refine below_set ?_ GE249.out | refine below_set ?_ GE250.out) | exact HB.out)) hb); clear HO_12; clear BK249; clear BK250; clear HB; have HO_12 := n0_; have BK249 := n1_; have BK250 := n2_; have HB := n3_; clear n0_ n1_ n2_ n3_; (try clear hb); (try clear hb2); (try clear hk); (try clear hi)))
                      repeat (go_quiet (first | (go_at_call 13; (with_reducible refine (ploverref01_In.calls a3_0 a3_1 a3_2 a3_3 a2_0 a2_1 true _ A46.out).mono ?_); rintro e w55 ⟨rfl, hb⟩; have n0_ := Aside0.mk (Kd.R_below (by (with_reducible repeat (first | apply Kd.R_alloc | apply Kd.R_drewN | apply Kd.R_drew)); exact HO_12.out) hb); have n1_ := Aside0.mk (blk_below (g := gb249) (o := .cells #[.int .i64 a2_0, .int .i64 a2_1] 23 (0, 0)) (by (with_reducible repeat (first | refine blk_drewN ?_ _ | refine blk_drew ?_ | refine blk_alloc ?_ _)); exact BK249.out) hb); have n2_ := Aside0.mk (blk_below (g := gb250) (o := .cells #[.int .i64 a3_0, .int .i64 a3_1, .int .i64 a3_2, .int .i64 a3_3] 25 (0, 0)) (by (with_reducible repeat (first | refine blk_drewN ?_ _ | refine blk_drew ?_ | refine blk_alloc ?_ _)); exact BK250.out) hb); have n3_ := Aside0.mk (below_step (by repeat (first | (with_reducible first | exact HB.out | apply below_alloc | apply pw_below_drewN | apply below_drew1 | refine below_set ?_ GE249.out | refine below_set ?_ GE250.out) | exact HB.out)) hb); clear HO_12; clear BK249; clear BK250; clear HB; have HO_12 := n0_; have BK249 := n1_; have BK250 := n2_; have HB := n3_; clear n0_ n1_ n2_ n3_; (try clear hb); (try clear hb2); (try clear hk); (try clear hi))); try go_wp2_with (first | (go_at_call 13; (with_reducible refine (ploverref01_In.calls a3_0 a3_1 a3_2 a3_3 a2_0 a2_1 true _ A46.out).mono ?_); rintro e w55 ⟨rfl, hb⟩; have n0_ := Aside0.mk (Kd.R_below (by (with_reducible repeat (first | apply Kd.R_alloc | apply Kd.R_drewN | apply Kd.R_drew)); exact HO_12.out) hb); have n1_ := Aside0.mk (blk_below (g := gb249) (o := .cells #[.int .i64 a2_0, .int .i64 a2_1] 23 (0, 0)) (by (with_reducible repeat (first | refine blk_drewN ?_ _ | refine blk_drew ?_ | refine blk_alloc ?_ _)); exact BK249.out) hb); have n2_ := Aside0.mk (blk_below (g := gb250) (o := .cells #[.int .i64 a3_0, .int .i64 a3_1, .int .i64 a3_2, .int .i64 a3_3] 25 (0, 0)) (by (with_reducible repeat (first | refine blk_drewN ?_ _ | refine blk_drew ?_ | refine blk_alloc ?_ _)); exact BK250.out) hb); have n3_ := Aside0.mk (below_step (by repeat (first | (with_reducible first | exact HB.out | apply below_alloc | apply pw_below_drewN | apply below_drew1 | refine below_set ?_ GE249.out | refine below_set ?_ GE250.out) | exact HB.out)) hb); clear HO_12; clear BK249; clear BK250; clear HB; have HO_12 := n0_; have BK249 := n1_; have BK250 := n2_; have HB := n3_; clear n0_ n1_ n2_ n3_; (try clear hb); (try clear hb2); (try clear hk); (try clear hi))))
                      go_ret
                      exact ⟨by first | rfl | (simp [errW_none, errW_some] <;> rfl) | (simp [*, errW_none, errW_some] <;> rfl), by repeat (first | (with_reducible first | exact HB.out | apply below_alloc | apply pw_below_drewN | apply below_drew1 | refine below_set ?_ GE249.out | refine below_set ?_ GE250.out) | exact HB.out)⟩
                    · replace c50 := Bool.eq_false_iff.mpr c50
                      subst c50
                      have H1 : (some true) = some r := by rw [if_neg (show ¬ (false = true) by decide)] at H; exact H
                      clear H
                      have H := H1
                      clear H1
                      obtain rfl := Option.some.inj H
                      obtain ⟨Ao56, co56, eo56⟩ := Kd.R_slice HO_12.out
                      subst eo56
                      have hnb57 := NB250_249.out
                      have hnc57 := NB249_250.out
                      have hcz58_0 : wr.cell? ⟨gb250, 0, none⟩ = some (.int .i64 a3_0) := (blk_cell BK250.out 0).trans rfl
                      have hcz58_1 : wr.cell? ⟨gb250, 1, none⟩ = some (.int .i64 a3_1) := (blk_cell BK250.out 1).trans rfl
                      have hcz58_2 : wr.cell? ⟨gb250, 2, none⟩ = some (.int .i64 a3_2) := (blk_cell BK250.out 2).trans rfl
                      have hcz58_3 : wr.cell? ⟨gb250, 3, none⟩ = some (.int .i64 a3_3) := (blk_cell BK250.out 3).trans rfl
                      have hfz58_0 := blk_frozen BK250.out 0
                      have hfz58_1 := blk_frozen BK250.out 1
                      have hfz58_2 := blk_frozen BK250.out 2
                      have hfz58_3 := blk_frozen BK250.out 3
                      have hcz59_0 : wr.cell? ⟨gb249, 0, none⟩ = some (.int .i64 a2_0) := (blk_cell BK249.out 0).trans rfl
                      have hcz59_1 : wr.cell? ⟨gb249, 1, none⟩ = some (.int .i64 a2_1) := (blk_cell BK249.out 1).trans rfl
                      have hfz59_0 := blk_frozen BK249.out 0
                      have hfz59_1 := blk_frozen BK249.out 1
                      go_wp2_with (first | (go_at_call 13; (with_reducible refine (ploverref01_In.calls a3_0 a3_1 a3_2 a3_3 a2_0 a2_1 false _ A46.out).mono ?_); rintro e w60 ⟨rfl, hb⟩; have n0_ := Aside0.mk (Kd.R_below (by (with_reducible repeat (first | apply Kd.R_alloc | apply Kd.R_drewN | apply Kd.R_drew)); exact HO_12.out) hb); have n1_ := Aside0.mk (blk_below (g := gb249) (o := .cells #[.int .i64 a2_0, .int .i64 a2_1] 23 (0, 0)) (by (with_reducible repeat (first | refine blk_drewN ?_ _ | refine blk_drew ?_ | refine blk_alloc ?_ _)); exact BK249.out) hb); have n2_ := Aside0.mk (blk_below (g := gb250) (o := .cells #[.int .i64 a3_0, .int .i64 a3_1, .int .i64 a3_2, .int .i64 a3_3] 25 (0, 0)) (by (with_reducible repeat (first | refine blk_drewN ?_ _ | refine blk_drew ?_ | refine blk_alloc ?_ _)); exact BK250.out) hb); have n3_ := Aside0.mk (below_step (by repeat (first | (with_reducible first | exact HB.out | apply below_alloc | apply pw_below_drewN | apply below_drew1 | refine below_set ?_ GE249.out | refine below_set ?_ GE250.out) | exact HB.out)) hb); clear HO_12; clear BK249; clear BK250; clear HB; have HO_12 := n0_; have BK249 := n1_; have BK250 := n2_; have HB := n3_; clear n0_ n1_ n2_ n3_; (try clear hb); (try clear hb2); (try clear hk); (try clear hi)))
                      repeat (go_quiet (first | (go_at_call 13; (with_reducible refine (ploverref01_In.calls a3_0 a3_1 a3_2 a3_3 a2_0 a2_1 false _ A46.out).mono ?_); rintro e w60 ⟨rfl, hb⟩; have n0_ := Aside0.mk (Kd.R_below (by (with_reducible repeat (first | apply Kd.R_alloc | apply Kd.R_drewN | apply Kd.R_drew)); exact HO_12.out) hb); have n1_ := Aside0.mk (blk_below (g := gb249) (o := .cells #[.int .i64 a2_0, .int .i64 a2_1] 23 (0, 0)) (by (with_reducible repeat (first | refine blk_drewN ?_ _ | refine blk_drew ?_ | refine blk_alloc ?_ _)); exact BK249.out) hb); have n2_ := Aside0.mk (blk_below (g := gb250) (o := .cells #[.int .i64 a3_0, .int .i64 a3_1, .int .i64 a3_2, .int .i64 a3_3] 25 (0, 0)) (by (with_reducible repeat (first | refine blk_drewN ?_ _ | refine blk_drew ?_ | refine blk_alloc ?_ _)); exact BK250.out) hb); have n3_ := Aside0.mk (below_step (by repeat (first | (with_reducible first | exact HB.out | apply below_alloc | apply pw_below_drewN | apply below_drew1 | refine below_set ?_ GE249.out | refine below_set ?_ GE250.out) | exact HB.out)) hb); clear HO_12; clear BK249; clear BK250; clear HB; have HO_12 := n0_; have BK249 := n1_; have BK250 := n2_; have HB := n3_; clear n0_ n1_ n2_ n3_; (try clear hb); (try clear hb2); (try clear hk); (try clear hi))); try go_wp2_with (first | (go_at_call 13; (with_reducible refine (ploverref01_In.calls a3_0 a3_1 a3_2 a3_3 a2_0 a2_1 false _ A46.out).mono ?_); rintro e w60 ⟨rfl, hb⟩; have n0_ := Aside0.mk (Kd.R_below (by (with_reducible repeat (first | apply Kd.R_alloc | apply Kd.R_drewN | apply Kd.R_drew)); exact HO_12.out) hb); have n1_ := Aside0.mk (blk_below (g := gb249) (o := .cells #[.int .i64 a2_0, .int .i64 a2_1] 23 (0, 0)) (by (with_reducible repeat (first | refine blk_drewN ?_ _ | refine blk_drew ?_ | refine blk_alloc ?_ _)); exact BK249.out) hb); have n2_ := Aside0.mk (blk_below (g := gb250) (o := .cells #[.int .i64 a3_0, .int .i64 a3_1, .int .i64 a3_2, .int .i64 a3_3] 25 (0, 0)) (by (with_reducible repeat (first | refine blk_drewN ?_ _ | refine blk_drew ?_ | refine blk_alloc ?_ _)); exact BK250.out) hb); have n3_ := Aside0.mk (below_step (by repeat (first | (with_reducible first | exact HB.out | apply below_alloc | apply pw_below_drewN | apply below_drew1 | refine below_set ?_ GE249.out | refine below_set ?_ GE250.out) | exact HB.out)) hb); clear HO_12; clear BK249; clear BK250; clear HB; have HO_12 := n0_; have BK249 := n1_; have BK250 := n2_; have HB := n3_; clear n0_ n1_ n2_ n3_; (try clear hb); (try clear hb2); (try clear hk); (try clear hi))))
                      go_ret
                      exact ⟨by first | rfl | (simp [errW_none, errW_some] <;> rfl) | (simp [*, errW_none, errW_some] <;> rfl), by repeat (first | (with_reducible first | exact HB.out | apply below_alloc | apply pw_below_drewN | apply below_drew1 | refine below_set ?_ GE249.out | refine below_set ?_ GE250.out) | exact HB.out)⟩
                  · rw [if_neg c49] at H
                    have c49b0 : decide (t252 < a1) = false := decide_eq_false c49
                    clear c49
                    obtain rfl := Option.some.inj H
                    obtain ⟨Ao61, co61, eo61⟩ := Kd.R_slice HO_12.out
                    subst eo61
                    have hnb62 := NB250_249.out
                    have hnc62 := NB249_250.out
                    have hcz63_0 : wr.cell? ⟨gb250, 0, none⟩ = some (.int .i64 a3_0) := (blk_cell BK250.out 0).trans rfl
                    have hcz63_1 : wr.cell? ⟨gb250, 1, none⟩ = some (.int .i64 a3_1) := (blk_cell BK250.out 1).trans rfl
                    have hcz63_2 : wr.cell? ⟨gb250, 2, none⟩ = some (.int .i64 a3_2) := (blk_cell BK250.out 2).trans rfl
                    have hcz63_3 : wr.cell? ⟨gb250, 3, none⟩ = some (.int .i64 a3_3) := (blk_cell BK250.out 3).trans rfl
                    have hfz63_0 := blk_frozen BK250.out 0
                    have hfz63_1 := blk_frozen BK250.out 1
                    have hfz63_2 := blk_frozen BK250.out 2
                    have hfz63_3 := blk_frozen BK250.out 3
                    have hcz64_0 : wr.cell? ⟨gb249, 0, none⟩ = some (.int .i64 a2_0) := (blk_cell BK249.out 0).trans rfl
                    have hcz64_1 : wr.cell? ⟨gb249, 1, none⟩ = some (.int .i64 a2_1) := (blk_cell BK249.out 1).trans rfl
                    have hfz64_0 := blk_frozen BK249.out 0
                    have hfz64_1 := blk_frozen BK249.out 1
                    go_wp2_with (first | (go_at_call 13; (with_reducible refine (ploverref01_In.calls a3_0 a3_1 a3_2 a3_3 a2_0 a2_1 t269 _ A46.out).mono ?_); rintro e w65 ⟨rfl, hb⟩; have n0_ := Aside0.mk (Kd.R_below (by (with_reducible repeat (first | apply Kd.R_alloc | apply Kd.R_drewN | apply Kd.R_drew)); exact HO_12.out) hb); have n1_ := Aside0.mk (blk_below (g := gb249) (o := .cells #[.int .i64 a2_0, .int .i64 a2_1] 23 (0, 0)) (by (with_reducible repeat (first | refine blk_drewN ?_ _ | refine blk_drew ?_ | refine blk_alloc ?_ _)); exact BK249.out) hb); have n2_ := Aside0.mk (blk_below (g := gb250) (o := .cells #[.int .i64 a3_0, .int .i64 a3_1, .int .i64 a3_2, .int .i64 a3_3] 25 (0, 0)) (by (with_reducible repeat (first | refine blk_drewN ?_ _ | refine blk_drew ?_ | refine blk_alloc ?_ _)); exact BK250.out) hb); have n3_ := Aside0.mk (below_step (by repeat (first | (with_reducible first | exact HB.out | apply below_alloc | apply pw_below_drewN | apply below_drew1 | refine below_set ?_ GE249.out | refine below_set ?_ GE250.out) | exact HB.out)) hb); clear HO_12; clear BK249; clear BK250; clear HB; have HO_12 := n0_; have BK249 := n1_; have BK250 := n2_; have HB := n3_; clear n0_ n1_ n2_ n3_; (try clear hb); (try clear hb2); (try clear hk); (try clear hi)))
                    repeat (go_quiet (first | (go_at_call 13; (with_reducible refine (ploverref01_In.calls a3_0 a3_1 a3_2 a3_3 a2_0 a2_1 t269 _ A46.out).mono ?_); rintro e w65 ⟨rfl, hb⟩; have n0_ := Aside0.mk (Kd.R_below (by (with_reducible repeat (first | apply Kd.R_alloc | apply Kd.R_drewN | apply Kd.R_drew)); exact HO_12.out) hb); have n1_ := Aside0.mk (blk_below (g := gb249) (o := .cells #[.int .i64 a2_0, .int .i64 a2_1] 23 (0, 0)) (by (with_reducible repeat (first | refine blk_drewN ?_ _ | refine blk_drew ?_ | refine blk_alloc ?_ _)); exact BK249.out) hb); have n2_ := Aside0.mk (blk_below (g := gb250) (o := .cells #[.int .i64 a3_0, .int .i64 a3_1, .int .i64 a3_2, .int .i64 a3_3] 25 (0, 0)) (by (with_reducible repeat (first | refine blk_drewN ?_ _ | refine blk_drew ?_ | refine blk_alloc ?_ _)); exact BK250.out) hb); have n3_ := Aside0.mk (below_step (by repeat (first | (with_reducible first | exact HB.out | apply below_alloc | apply pw_below_drewN | apply below_drew1 | refine below_set ?_ GE249.out | refine below_set ?_ GE250.out) | exact HB.out)) hb); clear HO_12; clear BK249; clear BK250; clear HB; have HO_12 := n0_; have BK249 := n1_; have BK250 := n2_; have HB := n3_; clear n0_ n1_ n2_ n3_; (try clear hb); (try clear hb2); (try clear hk); (try clear hi))); try go_wp2_with (first | (go_at_call 13; (with_reducible refine (ploverref01_In.calls a3_0 a3_1 a3_2 a3_3 a2_0 a2_1 t269 _ A46.out).mono ?_); rintro e w65 ⟨rfl, hb⟩; have n0_ := Aside0.mk (Kd.R_below (by (with_reducible repeat (first | apply Kd.R_alloc | apply Kd.R_drewN | apply Kd.R_drew)); exact HO_12.out) hb); have n1_ := Aside0.mk (blk_below (g := gb249) (o := .cells #[.int .i64 a2_0, .int .i64 a2_1] 23 (0, 0)) (by (with_reducible repeat (first | refine blk_drewN ?_ _ | refine blk_drew ?_ | refine blk_alloc ?_ _)); exact BK249.out) hb); have n2_ := Aside0.mk (blk_below (g := gb250) (o := .cells #[.int .i64 a3_0, .int .i64 a3_1, .int .i64 a3_2, .int .i64 a3_3] 25 (0, 0)) (by (with_reducible repeat (first | refine blk_drewN ?_ _ | refine blk_drew ?_ | refine blk_alloc ?_ _)); exact BK250.out) hb); have n3_ := Aside0.mk (below_step (by repeat (first | (with_reducible first | exact HB.out | apply below_alloc | apply pw_below_drewN | apply below_drew1 | refine below_set ?_ GE249.out | refine below_set ?_ GE250.out) | exact HB.out)) hb); clear HO_12; clear BK249; clear BK250; clear HB; have HO_12 := n0_; have BK249 := n1_; have BK250 := n2_; have HB := n3_; clear n0_ n1_ n2_ n3_; (try clear hb); (try clear hb2); (try clear hk); (try clear hi))))
                    go_ret
                    exact ⟨by first | rfl | (simp [errW_none, errW_some] <;> rfl) | (simp [*, errW_none, errW_some] <;> rfl), by repeat (first | (with_reducible first | exact HB.out | apply below_alloc | apply pw_below_drewN | apply below_drew1 | refine below_set ?_ GE249.out | refine below_set ?_ GE250.out) | exact HB.out)⟩
                · rw [if_neg c48] at H
                  have c48b0 : decide (0 ≤ t252) = false := decide_eq_false c48
                  clear c48
                  obtain rfl := Option.some.inj H
                  obtain ⟨Ao66, co66, eo66⟩ := Kd.R_slice HO_12.out
                  subst eo66
                  have hnb67 := NB250_249.out
                  have hnc67 := NB249_250.out
                  have hcz68_0 : wr.cell? ⟨gb250, 0, none⟩ = some (.int .i64 a3_0) := (blk_cell BK250.out 0).trans rfl
                  have hcz68_1 : wr.cell? ⟨gb250, 1, none⟩ = some (.int .i64 a3_1) := (blk_cell BK250.out 1).trans rfl
                  have hcz68_2 : wr.cell? ⟨gb250, 2, none⟩ = some (.int .i64 a3_2) := (blk_cell BK250.out 2).trans rfl
                  have hcz68_3 : wr.cell? ⟨gb250, 3, none⟩ = some (.int .i64 a3_3) := (blk_cell BK250.out 3).trans rfl
                  have hfz68_0 := blk_frozen BK250.out 0
                  have hfz68_1 := blk_frozen BK250.out 1
                  have hfz68_2 := blk_frozen BK250.out 2
                  have hfz68_3 := blk_frozen BK250.out 3
                  have hcz69_0 : wr.cell? ⟨gb249, 0, none⟩ = some (.int .i64 a2_0) := (blk_cell BK249.out 0).trans rfl
                  have hcz69_1 : wr.cell? ⟨gb249, 1, none⟩ = some (.int .i64 a2_1) := (blk_cell BK249.out 1).trans rfl
                  have hfz69_0 := blk_frozen BK249.out 0
                  have hfz69_1 := blk_frozen BK249.out 1
                  go_wp2_with (first | (go_at_call 13; (with_reducible refine (ploverref01_In.calls a3_0 a3_1 a3_2 a3_3 a2_0 a2_1 t269 _ A46.out).mono ?_); rintro e w70 ⟨rfl, hb⟩; have n0_ := Aside0.mk (Kd.R_below (by (with_reducible repeat (first | apply Kd.R_alloc | apply Kd.R_drewN | apply Kd.R_drew)); exact HO_12.out) hb); have n1_ := Aside0.mk (blk_below (g := gb249) (o := .cells #[.int .i64 a2_0, .int .i64 a2_1] 23 (0, 0)) (by (with_reducible repeat (first | refine blk_drewN ?_ _ | refine blk_drew ?_ | refine blk_alloc ?_ _)); exact BK249.out) hb); have n2_ := Aside0.mk (blk_below (g := gb250) (o := .cells #[.int .i64 a3_0, .int .i64 a3_1, .int .i64 a3_2, .int .i64 a3_3] 25 (0, 0)) (by (with_reducible repeat (first | refine blk_drewN ?_ _ | refine blk_drew ?_ | refine blk_alloc ?_ _)); exact BK250.out) hb); have n3_ := Aside0.mk (below_step (by repeat (first | (with_reducible first | exact HB.out | apply below_alloc | apply pw_below_drewN | apply below_drew1 | refine below_set ?_ GE249.out | refine below_set ?_ GE250.out) | exact HB.out)) hb); clear HO_12; clear BK249; clear BK250; clear HB; have HO_12 := n0_; have BK249 := n1_; have BK250 := n2_; have HB := n3_; clear n0_ n1_ n2_ n3_; (try clear hb); (try clear hb2); (try clear hk); (try clear hi)))
                  repeat (go_quiet (first | (go_at_call 13; (with_reducible refine (ploverref01_In.calls a3_0 a3_1 a3_2 a3_3 a2_0 a2_1 t269 _ A46.out).mono ?_); rintro e w70 ⟨rfl, hb⟩; have n0_ := Aside0.mk (Kd.R_below (by (with_reducible repeat (first | apply Kd.R_alloc | apply Kd.R_drewN | apply Kd.R_drew)); exact HO_12.out) hb); have n1_ := Aside0.mk (blk_below (g := gb249) (o := .cells #[.int .i64 a2_0, .int .i64 a2_1] 23 (0, 0)) (by (with_reducible repeat (first | refine blk_drewN ?_ _ | refine blk_drew ?_ | refine blk_alloc ?_ _)); exact BK249.out) hb); have n2_ := Aside0.mk (blk_below (g := gb250) (o := .cells #[.int .i64 a3_0, .int .i64 a3_1, .int .i64 a3_2, .int .i64 a3_3] 25 (0, 0)) (by (with_reducible repeat (first | refine blk_drewN ?_ _ | refine blk_drew ?_ | refine blk_alloc ?_ _)); exact BK250.out) hb); have n3_ := Aside0.mk (below_step (by repeat (first | (with_reducible first | exact HB.out | apply below_alloc | apply pw_below_drewN | apply below_drew1 | refine below_set ?_ GE249.out | refine below_set ?_ GE250.out) | exact HB.out)) hb); clear HO_12; clear BK249; clear BK250; clear HB; have HO_12 := n0_; have BK249 := n1_; have BK250 := n2_; have HB := n3_; clear n0_ n1_ n2_ n3_; (try clear hb); (try clear hb2); (try clear hk); (try clear hi))); try go_wp2_with (first | (go_at_call 13; (with_reducible refine (ploverref01_In.calls a3_0 a3_1 a3_2 a3_3 a2_0 a2_1 t269 _ A46.out).mono ?_); rintro e w70 ⟨rfl, hb⟩; have n0_ := Aside0.mk (Kd.R_below (by (with_reducible repeat (first | apply Kd.R_alloc | apply Kd.R_drewN | apply Kd.R_drew)); exact HO_12.out) hb); have n1_ := Aside0.mk (blk_below (g := gb249) (o := .cells #[.int .i64 a2_0, .int .i64 a2_1] 23 (0, 0)) (by (with_reducible repeat (first | refine blk_drewN ?_ _ | refine blk_drew ?_ | refine blk_alloc ?_ _)); exact BK249.out) hb); have n2_ := Aside0.mk (blk_below (g := gb250) (o := .cells #[.int .i64 a3_0, .int .i64 a3_1, .int .i64 a3_2, .int .i64 a3_3] 25 (0, 0)) (by (with_reducible repeat (first | refine blk_drewN ?_ _ | refine blk_drew ?_ | refine blk_alloc ?_ _)); exact BK250.out) hb); have n3_ := Aside0.mk (below_step (by repeat (first | (with_reducible first | exact HB.out | apply below_alloc | apply pw_below_drewN | apply below_drew1 | refine below_set ?_ GE249.out | refine below_set ?_ GE250.out) | exact HB.out)) hb); clear HO_12; clear BK249; clear BK250; clear HB; have HO_12 := n0_; have BK249 := n1_; have BK250 := n2_; have HB := n3_; clear n0_ n1_ n2_ n3_; (try clear hb); (try clear hb2); (try clear hk); (try clear hi))))
                  go_ret
                  exact ⟨by first | rfl | (simp [errW_none, errW_some] <;> rfl) | (simp [*, errW_none, errW_some] <;> rfl), by repeat (first | (with_reducible first | exact HB.out | apply below_alloc | apply pw_below_drewN | apply below_drew1 | refine below_set ?_ GE249.out | refine below_set ?_ GE250.out) | exact HB.out)⟩
              · replace c47 := Bool.eq_false_iff.mpr c47
                subst c47
                have H1 : (some false) = some r := by rw [if_neg (show ¬ (false = true) by decide)] at H; exact H
                clear H
                have H := H1
                clear H1
                obtain rfl := Option.some.inj H
                obtain ⟨Ao71, co71, eo71⟩ := Kd.R_slice HO_12.out
                subst eo71
                have hnb72 := NB250_249.out
                have hnc72 := NB249_250.out
                have hcz73_0 : wr.cell? ⟨gb250, 0, none⟩ = some (.int .i64 a3_0) := (blk_cell BK250.out 0).trans rfl
                have hcz73_1 : wr.cell? ⟨gb250, 1, none⟩ = some (.int .i64 a3_1) := (blk_cell BK250.out 1).trans rfl
                have hcz73_2 : wr.cell? ⟨gb250, 2, none⟩ = some (.int .i64 a3_2) := (blk_cell BK250.out 2).trans rfl
                have hcz73_3 : wr.cell? ⟨gb250, 3, none⟩ = some (.int .i64 a3_3) := (blk_cell BK250.out 3).trans rfl
                have hfz73_0 := blk_frozen BK250.out 0
                have hfz73_1 := blk_frozen BK250.out 1
                have hfz73_2 := blk_frozen BK250.out 2
                have hfz73_3 := blk_frozen BK250.out 3
                have hcz74_0 : wr.cell? ⟨gb249, 0, none⟩ = some (.int .i64 a2_0) := (blk_cell BK249.out 0).trans rfl
                have hcz74_1 : wr.cell? ⟨gb249, 1, none⟩ = some (.int .i64 a2_1) := (blk_cell BK249.out 1).trans rfl
                have hfz74_0 := blk_frozen BK249.out 0
                have hfz74_1 := blk_frozen BK249.out 1
                go_wp2_with (first | (go_at_call 13; (with_reducible refine (ploverref01_In.calls a3_0 a3_1 a3_2 a3_3 a2_0 a2_1 t269 _ A46.out).mono ?_); rintro e w75 ⟨rfl, hb⟩; have n0_ := Aside0.mk (Kd.R_below (by (with_reducible repeat (first | apply Kd.R_alloc | apply Kd.R_drewN | apply Kd.R_drew)); exact HO_12.out) hb); have n1_ := Aside0.mk (blk_below (g := gb249) (o := .cells #[.int .i64 a2_0, .int .i64 a2_1] 23 (0, 0)) (by (with_reducible repeat (first | refine blk_drewN ?_ _ | refine blk_drew ?_ | refine blk_alloc ?_ _)); exact BK249.out) hb); have n2_ := Aside0.mk (blk_below (g := gb250) (o := .cells #[.int .i64 a3_0, .int .i64 a3_1, .int .i64 a3_2, .int .i64 a3_3] 25 (0, 0)) (by (with_reducible repeat (first | refine blk_drewN ?_ _ | refine blk_drew ?_ | refine blk_alloc ?_ _)); exact BK250.out) hb); have n3_ := Aside0.mk (below_step (by repeat (first | (with_reducible first | exact HB.out | apply below_alloc | apply pw_below_drewN | apply below_drew1 | refine below_set ?_ GE249.out | refine below_set ?_ GE250.out) | exact HB.out)) hb); clear HO_12; clear BK249; clear BK250; clear HB; have HO_12 := n0_; have BK249 := n1_; have BK250 := n2_; have HB := n3_; clear n0_ n1_ n2_ n3_; (try clear hb); (try clear hb2); (try clear hk); (try clear hi)))
                repeat (go_quiet (first | (go_at_call 13; (with_reducible refine (ploverref01_In.calls a3_0 a3_1 a3_2 a3_3 a2_0 a2_1 t269 _ A46.out).mono ?_); rintro e w75 ⟨rfl, hb⟩; have n0_ := Aside0.mk (Kd.R_below (by (with_reducible repeat (first | apply Kd.R_alloc | apply Kd.R_drewN | apply Kd.R_drew)); exact HO_12.out) hb); have n1_ := Aside0.mk (blk_below (g := gb249) (o := .cells #[.int .i64 a2_0, .int .i64 a2_1] 23 (0, 0)) (by (with_reducible repeat (first | refine blk_drewN ?_ _ | refine blk_drew ?_ | refine blk_alloc ?_ _)); exact BK249.out) hb); have n2_ := Aside0.mk (blk_below (g := gb250) (o := .cells #[.int .i64 a3_0, .int .i64 a3_1, .int .i64 a3_2, .int .i64 a3_3] 25 (0, 0)) (by (with_reducible repeat (first | refine blk_drewN ?_ _ | refine blk_drew ?_ | refine blk_alloc ?_ _)); exact BK250.out) hb); have n3_ := Aside0.mk (below_step (by repeat (first | (with_reducible first | exact HB.out | apply below_alloc | apply pw_below_drewN | apply below_drew1 | refine below_set ?_ GE249.out | refine below_set ?_ GE250.out) | exact HB.out)) hb); clear HO_12; clear BK249; clear BK250; clear HB; have HO_12 := n0_; have BK249 := n1_; have BK250 := n2_; have HB := n3_; clear n0_ n1_ n2_ n3_; (try clear hb); (try clear hb2); (try clear hk); (try clear hi))); try go_wp2_with (first | (go_at_call 13; (with_reducible refine (ploverref01_In.calls a3_0 a3_1 a3_2 a3_3 a2_0 a2_1 t269 _ A46.out).mono ?_); rintro e w75 ⟨rfl, hb⟩; have n0_ := Aside0.mk (Kd.R_below (by (with_reducible repeat (first | apply Kd.R_alloc | apply Kd.R_drewN | apply Kd.R_drew)); exact HO_12.out) hb); have n1_ := Aside0.mk (blk_below (g := gb249) (o := .cells #[.int .i64 a2_0, .int .i64 a2_1] 23 (0, 0)) (by (with_reducible repeat (first | refine blk_drewN ?_ _ | refine blk_drew ?_ | refine blk_alloc ?_ _)); exact BK249.out) hb); have n2_ := Aside0.mk (blk_below (g := gb250) (o := .cells #[.int .i64 a3_0, .int .i64 a3_1, .int .i64 a3_2, .int .i64 a3_3] 25 (0, 0)) (by (with_reducible repeat (first | refine blk_drewN ?_ _ | refine blk_drew ?_ | refine blk_alloc ?_ _)); exact BK250.out) hb); have n3_ := Aside0.mk (below_step (by repeat (first | (with_reducible first | exact HB.out | apply below_alloc | apply pw_below_drewN | apply below_drew1 | refine below_set ?_ GE249.out | refine below_set ?_ GE250.out) | exact HB.out)) hb); clear HO_12; clear BK249; clear BK250; clear HB; have HO_12 := n0_; have BK249 := n1_; have BK250 := n2_; have HB := n3_; clear n0_ n1_ n2_ n3_; (try clear hb); (try clear hb2); (try clear hk); (try clear hi))))
                go_ret
                exact ⟨by first | rfl | (simp [errW_none, errW_some] <;> rfl) | (simp [*, errW_none, errW_some] <;> rfl), by repeat (first | (with_reducible first | exact HB.out | apply below_alloc | apply pw_below_drewN | apply below_drew1 | refine below_set ?_ GE249.out | refine below_set ?_ GE250.out) | exact HB.out)⟩

end Go.Proofs.Ytcpcoegoaciipaa.P
