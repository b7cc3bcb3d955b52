/- ploverlaw18.OwnAmong answers true for every shift, number of brokers, point and rectangle; no condition. -/
import Derived.Test.YtcpcoegoaciipaaOLaws
import Derived.Test.YtcpcoegoaciipaaRows
import Derived.WalkKit
import Derived.ProofKit
import Derived.OpenShut
import Derived.ShutString
import Derived.ChangeOld
import Derived.Below
import Derived.SizedLaws
import Derived.JoinedOf
import Derived.JoinedAt
import Derived.RowKit3
import Derived.Lib.SmallJoins
namespace Go.Proofs.Ytcpcoegoaciipaa.OwnAmongRow
open Go.ChangeShapes Go.WideShapes Go.ChangeAt Go.RowKit Go.Joins
open Go.Proofs.Ytcpcoegoaciipaa.P
set_option linter.unusedVariables false

theorem knob : ownKnob Try.prog.godebug = none := by kernel_rfl
theorem cellsP : Try.prog.cellsOf 23 = 2 := by kernel_rfl
theorem cellsR : Try.prog.cellsOf 25 = 4 := by kernel_rfl
theorem ptReads {H : Type} (enc : TypeId × Value → H) (x y : Int) (hx : (Lit.int .i64 x).wf = true) (hy : (Lit.int .i64 y).wf = true) (W : World) (sp : Nat → Bool) :
    DataW.Trod enc Try.prog W 0 sp true 23 (.agg #[.int .i64 x, .int .i64 y]) (.agg [.lit (.int .i64 x), .lit (.int .i64 y)]) [] :=
  shut_agg2 (y0 := (.lit (.int .i64 x), [])) (y1 := (.lit (.int .i64 y), [])) Try.underlying23 (by kernel_rfl) cellsP ⟨1, by simp [DataW.trod, Try.underlying2, hx]⟩ ⟨1, by simp [DataW.trod, Try.underlying2, hy]⟩
theorem rcReads {H : Type} (enc : TypeId × Value → H) (x y z u : Int) (hx : (Lit.int .i64 x).wf = true) (hy : (Lit.int .i64 y).wf = true) (hz : (Lit.int .i64 z).wf = true) (hu : (Lit.int .i64 u).wf = true) (W : World) (sp : Nat → Bool) :
    DataW.Trod enc Try.prog W 0 sp true 25 (.agg #[.int .i64 x, .int .i64 y, .int .i64 z, .int .i64 u]) (.agg [.lit (.int .i64 x), .lit (.int .i64 y), .lit (.int .i64 z), .lit (.int .i64 u)]) [] :=
  shut_agg4 (y0 := (.lit (.int .i64 x), [])) (y1 := (.lit (.int .i64 y), [])) (y2 := (.lit (.int .i64 z), [])) (y3 := (.lit (.int .i64 u), [])) Try.underlying25 (by kernel_rfl) cellsR ⟨1, by simp [DataW.trod, Try.underlying2, hx]⟩ ⟨1, by simp [DataW.trod, Try.underlying2, hy]⟩ ⟨1, by simp [DataW.trod, Try.underlying2, hz]⟩ ⟨1, by simp [DataW.trod, Try.underlying2, hu]⟩

set_option maxRecDepth 100000 in
theorem lifted (os : Os) (started : os.Started) (H : Type) (enc : TypeId × Value → H) :
    ReturnsInHanded {} Try.checked os 4 .any (Rows.ownAmongSpec.pre6 enc Try.prog Try.f4 Rows.ownAmongRow.domain false) (Rows.ownAmongSpec.post enc Try.prog Try.f4 false true false false) := by
  refine returnsInHanded_of_change_sized (C := Try.checked) knob started (by kernel_rfl) Try.func4
    (ChangeSpec.witness6 (enc := enc) (C := Try.checked) false ⟨#[], #[.int .i64 0, .int .i64 0, .agg #[.int .i64 0, .int .i64 0], .agg #[.int .i64 0, .int .i64 0, .int .i64 0, .int .i64 0]], []⟩ 8 (by kernel_rfl) (by kernel_rfl) (by kernel_rfl) (by kernel_rfl)) ?_
  intro W base args ds gs before hval0 hW hcnd hsz0 _
  have hval : ∀ (j : Nat) t v, Try.f4.params[j]? = some t → args[j]? = some v → Value.okWide Try.prog W .any base t v := hval0
  have hW' := hW
  obtain ⟨p, q, hA0, hV, rfl, hfz, hnd⟩ := hW
  have hA : DataW.TrodAll enc Try.prog W 0 (fun _ => true) true Try.f4.params.toList args.toList ds p := hA0
  rw [Try.params4] at hA hval
  obtain ⟨v0, vs0, d0, ds0, p0, q0, hargs, rfl, rfl, h0, r0⟩ := trodAll_cons hA
  obtain ⟨v1, vs1, d1, ds1, p1, q1, rfl, rfl, rfl, h1, r1⟩ := trodAll_cons r0
  obtain ⟨v2, vs2, d2, ds2, p2, q2, rfl, rfl, rfl, h2, r2⟩ := trodAll_cons r1
  obtain ⟨v3, vs3, d3, ds3, p3, q3, rfl, rfl, rfl, h3, r3⟩ := trodAll_cons r2
  obtain ⟨rfl, rfl, rfl⟩ := trodAll_nil r3
  obtain rfl : args = #[v0, v1, v2, v3] := by cases args; simp_all
  obtain ⟨rfl, rfl⟩ := trodVars_none hV
  obtain ⟨s, rfl, rfl, rfl, ws⟩ := open_int Try.underlying3 (hval 0 3 v0 rfl rfl) h0
  obtain ⟨b, rfl, rfl, rfl, wb⟩ := open_int Try.underlying3 (hval 1 3 v1 rfl rfl) h1
  obtain ⟨c0, c1, y0, y1, m, rfl, rfl, rfl, hy0, hy1⟩ := open_agg2 Try.underlying23 (by kernel_rfl) cellsP (hval 2 23 v2 rfl rfl) h2
  obtain ⟨x, e0, rfl, wx⟩ := DataW.trod_int Try.underlying2 hy0
  obtain ⟨y, e1, rfl, wy⟩ := DataW.trod_int Try.underlying2 hy1
  obtain ⟨g0, g1, g2, g3, z0, z1, z2, z3, m2, rfl, rfl, rfl, hz0, hz1, hz2, hz3⟩ := open_agg4 Try.underlying25 (by kernel_rfl) cellsR (hval 3 25 v3 rfl rfl) h3
  obtain ⟨x1, i0, rfl, wx1⟩ := DataW.trod_int Try.underlying2 hz0
  obtain ⟨y1', i1, rfl, wy1⟩ := DataW.trod_int Try.underlying2 hz1
  obtain ⟨x2, i2, rfl, wx2⟩ := DataW.trod_int Try.underlying2 hz2
  obtain ⟨y2, i3, rfl, wy2⟩ := DataW.trod_int Try.underlying2 hz3
  simp at e0 e1 i0 i1 i2 i3
  subst e0 e1 i0 i1 i2 i3
  clear hA0 hval0 hsz0
  simp only [List.append_nil] at hW'
  obtain ⟨k, hk⟩ := Own.among s b x y x1 y1' x2 y2
  refine (ploverlaw18_OwnAmong.calls k s b x y x1 y1' x2 y2 true W hk).mono fun e W' hq => ?_
  obtain ⟨he, hbel⟩ := hq
  subst he
  have bel : Below W.heap.size W W' := by first | exact hbel | exact hbel.below
  exact ⟨_, rfl, _, _, _, [], _, [], hW', trodAll_mk1 (shut_bool Try.underlying4 _), (trodAll_cons_mk (shut_int Try.underlying3 ws) (trodAll_cons_mk (shut_int Try.underlying3 wb) (trodAll_cons_mk (ptReads enc x y wx wy _ _) (trodAll_cons_mk (rcReads enc x1 y1' x2 y2 wx1 wy1 wx2 wy2 _ _) trodAll_mk0)))), rfl, bel.frame _, fun h => by cases h⟩

theorem over : Rows.ownAmongRow.holds Try.pinned (OpenSpec.ofChange Rows.ownAmongSpec) :=
  OpenClaim.holds_of_wide 4 Try.f4 rfl rfl rfl rfl rfl rfl rfl ⟨rfl, rfl, rfl, rfl, rfl⟩ rfl rfl rfl rfl rfl (by kernel_rfl) Try.func4 (by kernel_rfl)
    (of_decide_eq_true (by kernel_rfl)) (by unfold Func.isWrapper; first | (rw [if_pos (by decide +kernel)]; kernel_rfl) | (rw [if_neg (by decide +kernel)]; exact ⟨rfl, rfl⟩))
    (fun os started H enc _ => lifted os started H enc)
end Go.Proofs.Ytcpcoegoaciipaa.OwnAmongRow
namespace Go.Proofs.Ytcpcoegoaciipaa
theorem ownAmong_holds : Rows.OwnAmongSaid := OwnAmongRow.over
#print axioms ownAmong_holds
end Go.Proofs.Ytcpcoegoaciipaa
