/- morton.Code: a cell's number, or the error of an argument that may not be. -/
import Derived.Test.YtcpcoegoaciipaaPx1
import Derived.Lib.Hide
import Derived.Outline
namespace Go.Proofs.Ytcpcoegoaciipaa.P
open Go.RowKit Go.Proofs.YtcpcoegoaciipaaW.PrintWords Go.Proofs.YtcpcoegoaciipaaW.PrintLast Go.Proofs.YtcpcoegoaciipaaW.PrintMore
set_option linter.unusedVariables false
set_option linter.unusedSimpArgs false

def codeFar (n : Int) : Bool := decide (n < 0) || decide (2147483648 ≤ n)
def morton_Code.f (a0 : Int) (a1 : Int) : Option (Int × Option Int) :=
  if codeFar a0 then some (0, some 1) else if codeFar a1 then some (0, some 1) else
    (morton_spread.f 40 a0).bind fun x => (morton_spread.f 40 a1).bind fun y => some (Go.bits .or .u64 x (IntKind.u64.wrap (y * 2)), none)

theorem far_calls (n : Int) (w : World) : Calls Try.prog 27 #[.int .i64 n] w fun e w' => e = .returned (.bool (codeFar n)) ∧ w' = w := by
  have HF := Lib.hid (show codeFar n = (decide (n < 0) || decide (2147483648 ≤ n)) from rfl)
  generalize codeFar n = b at *
  by_cases h1 : n < 0
  · have HB := Lib.hid (show b = true by rw [HF.out]; simp [h1])
    go_enter Try.func27, Try.ntmps27
    go_wp2
    go_ret
    exact ⟨by rw [HB.out]; rfl, rfl⟩
  · have h1d : decide (n < 0) = false := decide_eq_false h1
    have HB := Lib.hid (show b = decide (2147483648 ≤ n) by rw [HF.out]; simp [h1])
    go_enter Try.func27, Try.ntmps27
    go_wp2
    go_ret
    exact ⟨by rw [HB.out]; rfl, rfl⟩

theorem conv_u64 (n : Int) (h : codeFar n = false) : IntKind.u64.wrap n = n := by
  unfold codeFar at h
  simp only [Bool.or_eq_false_iff, decide_eq_false_iff_not] at h
  rw [IntKind.wrap_u64]; omega

set_option maxHeartbeats 1000000 in
set_option maxRecDepth 100000 in
theorem morton_Code.calls (a0 : Int) (a1 : Int) (r1 : Int) (r2 : Option Int) (w : World) (h : morton_Code.f a0 a1 = some (r1, r2)) :
    Calls Try.prog 17 #[.int .i64 a0, .int .i64 a1] w fun e w' => e = .returned (.tuple #[.int .u64 r1, errW r2]) ∧ Drawn0 w w' := by
  have HF := Lib.hid (fun n w => far_calls n w)
  have heg : ∀ args w, (callFunc 27 args).run Try.prog w = .ok (.enter 27 args) w := fun args w => enters_ Try.func27 (by kernel_rfl) rfl args w
  unfold morton_Code.f at h
  cases hb0 : codeFar a0 with
  | true =>
    rw [hb0] at h
    simp only [if_true, Option.some.injEq, Prod.mk.injEq] at h
    obtain ⟨rfl, rfl⟩ := h
    have HB0 := Lib.hid hb0
    clear hb0
    go_enter Try.func17, Try.ntmps17
    go_wp2_with fail
    refine (HF.out _ _).mono ?_
    rintro e w' ⟨rfl, rfl⟩
    rw [HB0.out]
    go_wp2_with fail
    go_ret2
    exact ⟨rfl, Drawn0.refl _⟩
  | false =>
    rw [hb0] at h
    simp only [Bool.false_eq_true, if_false] at h
    have hw0 := conv_u64 a0 hb0
    have HB0 := Lib.hid hb0
    clear hb0
    cases hb1 : codeFar a1 with
    | true =>
      rw [hb1] at h
      simp only [if_true, Option.some.injEq, Prod.mk.injEq] at h
      obtain ⟨rfl, rfl⟩ := h
      have HB1 := Lib.hid hb1
      clear hb1 hw0
      go_enter Try.func17, Try.ntmps17
      go_wp2_with fail
      refine (HF.out _ _).mono ?_
      rintro e w' ⟨rfl, rfl⟩
      rw [HB0.out]
      go_wp2_with fail
      refine (HF.out _ _).mono ?_
      rintro e w' ⟨rfl, rfl⟩
      rw [HB1.out]
      go_wp2_with fail
      go_ret2
      exact ⟨rfl, Drawn0.refl _⟩
    | false =>
      rw [hb1] at h
      simp only [Bool.false_eq_true, if_false] at h
      have hw1 := conv_u64 a1 hb1
      have HB1 := Lib.hid hb1
      clear hb1
      obtain ⟨x, hx, h⟩ := Option.bind_eq_some_iff.mp h
      obtain ⟨y, hy, h⟩ := Option.bind_eq_some_iff.mp h
      simp only [Option.some.injEq, Prod.mk.injEq] at h
      obtain ⟨hr1, rfl⟩ := h
      have HX := Lib.hid (fun w => morton_spread.calls 40 a0 x w hx)
      have HY := Lib.hid (fun w => morton_spread.calls 40 a1 y w hy)
      have HR := Lib.hid hr1
      clear hx hy hr1
      go_enter Try.func17, Try.ntmps17
      go_wp2_with fail
      refine (HF.out _ _).mono ?_
      rintro e w' ⟨rfl, rfl⟩
      rw [HB0.out]
      go_wp2_with fail
      refine (HF.out _ _).mono ?_
      rintro e w' ⟨rfl, rfl⟩
      rw [HB1.out]
      go_wp2_with fail
      refine (HX.out _).mono ?_
      rintro e w1 ⟨rfl, ⟨n1, rfl⟩⟩
      go_wp2_with fail
      refine (HY.out _).mono ?_
      rintro e w2 ⟨rfl, ⟨n2, rfl⟩⟩
      go_wp2_with fail
      go_ret2
      exact ⟨by rw [← HR.out]; rfl, ⟨⟨_, rfl⟩⟩⟩
end Go.Proofs.Ytcpcoegoaciipaa.P
