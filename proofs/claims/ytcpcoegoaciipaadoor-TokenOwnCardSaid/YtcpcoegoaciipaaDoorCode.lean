/- ploverlaw00.Code: the number of an error of api's; and token's example. -/
import Derived.Test.YtcpcoegoaciipaaDoorRefCut
import Derived.Lib.IfaceEq
namespace Go.Proofs.YtcpcoegoaciipaaDoor.Tok
open Go.RowKit Go.Proofs.YtcpcoegoaciipaaDoorW.PrintWords Go.Proofs.YtcpcoegoaciipaaDoorW.PrintLast Go.Proofs.YtcpcoegoaciipaaDoorW.PrintMore
open Go.Proofs.YtcpcoegoaciipaaDoor.PTokenCuts
set_option linter.unusedVariables false
set_option linter.unusedSimpArgs false

theorem codeComparable : (Tryd.prog.info? 47).map (·.comparable) = some true := by kernel_rfl
theorem code_eq (w : World) (a b : Int) : (binOp .eql 25 (.iface 47 (.int .i64 a)) (.iface 47 (.int .i64 b))).run Tryd.prog w = .ok (.bool (a == b)) w :=
  Lib.run_eql_iface_int w a b Tryd.underlying25 codeComparable Tryd.underlying47

set_option maxHeartbeats 1000000 in
set_option maxRecDepth 100000 in
theorem code_calls (c : Nat) (hc : c ≤ 12) (w : World) :
    Calls Tryd.prog 9 #[errV c] w fun e w' => e = .returned (.int .i64 c) ∧ w' = w := by
  unfold errV
  by_cases h0 : c = 0
  · subst h0
    rw [if_pos (show ((0 : Nat) : Int) = 0 from rfl)]
    go_enter Tryd.func9, Tryd.ntmps9
    go_wp2
    go_ret
    exact ⟨rfl, rfl⟩
  · rw [if_neg (by omega)]
    have he := fun w b => code_eq w (c : Int) b
    have hc1 : 1 ≤ c := by omega
    clear h0
    go_enter Tryd.func9, Tryd.ntmps9
    go_wp2
    go_loopg [3] 13 (fun kq v3 w' => ∃ n : Nat, v3 = .int .i64 n ∧ 1 ≤ n ∧ n ≤ c ∧ 13 - n ≤ kq ∧ w' = w)
    case atStart => exact ⟨1, rfl, by omega, by omega, by omega, rfl⟩
    case round =>
      obtain ⟨n, rfl, h1, h2, hk, rfl⟩ := hrel
      have hnz : (n : Int) ≤ 12 := by omega
      by_cases hn : n = c
      · have hq : ((c : Int) == (n : Int)) = true := by rw [beq_iff_eq]; omega
        have HN := Lib.hid hn
        clear hn
        go_wp2
        go_ret
        refine ⟨?_, rfl⟩
        have hn' := HN.out
        first | rfl | (rw [hn']; done) | (subst hn'; rfl)
      · have hq : ((c : Int) == (n : Int)) = false := by rw [beq_eq_false_iff_ne]; omega
        go_wp2
        go_roundg (13 - (n + 1))
        case measure => omega
        case rel => exact ⟨n + 1, by simp, by omega, by omega, Nat.le_refl _, rfl⟩
end Go.Proofs.YtcpcoegoaciipaaDoor.Tok
