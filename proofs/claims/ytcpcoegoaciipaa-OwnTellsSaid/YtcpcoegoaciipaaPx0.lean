-- Written by wip/hprint.py, this session's driver of the kit's print. Not trusted: Lean checks it.
import Derived.Test.YtcpcoegoaciipaaProg
import Derived.Below
import Derived.Deep.Draws
import Derived.Deep.AppendLies
import Derived.Maps.AppendAt
import Derived.OwnWalk
import Derived.Laws.BytesArg
import Derived.Laws.MakeOwn
import Derived.Laws.OwnMore
import Derived.Deep.OwnRows
import Derived.Tactics
import Derived.Lib.ConvBytes
import Derived.Laws.Slices
import Derived.WalkKit
import Derived.KernelRfl
import Derived.RowKit3
import Derived.Deep.LoopGhost
import Derived.Deep.QuietTactic
import Derived.BigQuiet
import Derived.WideLaws
import Derived.Deep.DeepCutAuto
import Derived.Deep.CutBlock
import Derived.Deep.RegionHeld3
import Derived.Laws.Rows
import Derived.Lib.AppendStr
import Derived.ArgAppend
import Derived.Laws.IdiomCopy
import Derived.OrdersHeld
import Derived.Laws.BitsLemmas
import Derived.RowKit
import Derived.Test.YtcpcoegoaciipaaWWords
import Derived.Test.YtcpcoegoaciipaaWLast
import Derived.Test.YtcpcoegoaciipaaWTab
import Derived.Test.YtcpcoegoaciipaaWFour
import Derived.Test.YtcpcoegoaciipaaWQPut
import Derived.Test.YtcpcoegoaciipaaWApart
import Derived.Test.YtcpcoegoaciipaaWArr
import Derived.Test.YtcpcoegoaciipaaWZeros
import Derived.Test.YtcpcoegoaciipaaWFoot
import Derived.Test.YtcpcoegoaciipaaWKept
import Derived.Test.YtcpcoegoaciipaaWShare
import Derived.Test.YtcpcoegoaciipaaWN
import Derived.Test.YtcpcoegoaciipaaWFootNe
import Derived.Test.YtcpcoegoaciipaaWAt
import Derived.Test.YtcpcoegoaciipaaWEqStruct
import Derived.Test.YtcpcoegoaciipaaWRepsOne
import Derived.Test.YtcpcoegoaciipaaWInv
import Derived.Test.YtcpcoegoaciipaaWInvWords
import Derived.Test.YtcpcoegoaciipaaWGuard
import Derived.Test.YtcpcoegoaciipaaWNEv
import Derived.Test.YtcpcoegoaciipaaWMore
namespace Go.Proofs.Ytcpcoegoaciipaa.P
open Go.RowKit Go.Proofs.YtcpcoegoaciipaaW.PrintWords Go.Proofs.YtcpcoegoaciipaaW.PrintLast Go.Proofs.YtcpcoegoaciipaaW.PrintMore
attribute [local go_sem] max2_int min2_int max_two min_two max_three min_three max_four min_four   -- for this text's walks alone
set_option linter.unusedVariables false
set_option linter.unusedSimpArgs false



def errW : Option Int → Value
  | none => .nilIface
  | some c => .iface 37 (.int .i64 c)
theorem errW_none : errW none = .nilIface := rfl
theorem errW_some (c : Int) : errW (some c) = .iface 37 (.int .i64 c) := rfl

theorem info3 : (Try.prog.info? 3).map (fun i => (i.zero, i.size, i.bytes)) = some (some (.int .i64 0), 1, 8) := by kernel_rfl
theorem info4 : (Try.prog.info? 4).map (fun i => (i.zero, i.size, i.bytes)) = some (some (.bool false), 1, 1) := by kernel_rfl
theorem info44 : (Try.prog.info? 44).map (fun i => (i.zero, i.size, i.bytes)) = some (some (.int .u64 0), 1, 8) := by kernel_rfl
-- the values' own types
def rd_L2 (xs : List (List Int)) (i : Int) : (List Int) := xs.getD i.toNat ([] : List Int)
theorem at_L2 {w : World} {A : Option Addr} {n : Nat} {xs : List (List Int)} (h : Kd.C (Kd.slice 44 (Kd.int .u64)) w A n xs) (i : Int) (h0 : 0 ≤ i) (h1 : i < n) : ∃ ad A0 c0, A = some ad ∧ w.cell? (ad.add i.toNat) = some (.slice A0 (rd_L2 xs i).length c0) ∧ (rd_L2 xs i).length ≤ c0 ∧ (Kd.int .u64).C w A0 (rd_L2 xs i).length (rd_L2 xs i) := by
  obtain ⟨ad, c, e, _, hK, hc0⟩ := Kd.C_get h ([] : List Int) i h0 h1
  have hc : ∀ j u, c[j]? = some u → w.cell? (ad.add (i.toNat * 1 + j)) = some u := hc0
  obtain ⟨A0, c0, rfl, l0, g0⟩ := hK
  exact ⟨ad, A0, c0, e, by have hq := hc 0 _ rfl; rwa [Nat.mul_one, Nat.add_zero] at hq, l0, g0⟩

def rd_L3 (xs : List (List Int)) (i : Int) : (List Int) := xs.getD i.toNat ([] : List Int)
theorem at_L3 {w : World} {A : Option Addr} {n : Nat} {xs : List (List Int)} (h : Kd.C (Kd.slice 3 (Kd.int .i64)) w A n xs) (i : Int) (h0 : 0 ≤ i) (h1 : i < n) : ∃ ad A0 c0, A = some ad ∧ w.cell? (ad.add i.toNat) = some (.slice A0 (rd_L3 xs i).length c0) ∧ (rd_L3 xs i).length ≤ c0 ∧ (Kd.int .i64).C w A0 (rd_L3 xs i).length (rd_L3 xs i) := by
  obtain ⟨ad, c, e, _, hK, hc0⟩ := Kd.C_get h ([] : List Int) i h0 h1
  have hc : ∀ j u, c[j]? = some u → w.cell? (ad.add (i.toNat * 1 + j)) = some u := hc0
  obtain ⟨A0, c0, rfl, l0, g0⟩ := hK
  exact ⟨ad, A0, c0, e, by have hq := hc 0 _ rfl; rwa [Nat.mul_one, Nat.add_zero] at hq, l0, g0⟩

theorem cmpE_equal {P : Program} (w : World) {t tx : TypeId} {ms : Array (String × TypeId)} {k q : IntKind} (a b : Int)
    (ht : P.underlying t = some (.interface ms)) (hc : (P.info? tx).map (·.comparable) = some true) (hx : P.underlying tx = some (.int q)) :
    (Op.equal t (.iface tx (.int k a)) (.iface tx (.int k b))).run P w = .ok (a == b) w := by
  cases hi : P.info? tx with
  | none => simp [hi] at hc
  | some i =>
    have hcc : i.comparable = true := by simpa [hi] using hc
    have h : ∀ d : Nat, (Op.equalIn (d + 2) t (.iface tx (.int k a)) (.iface tx (.int k b))).run P w = .ok (a == b) w := fun d => by
      simp [Op.equalIn, run_underlying ht, run_underlying hx, typeInfo, hi, hcc]
    simp [Op.equal, Op.maxDepth, h 9998]
theorem cmpE_comp : (Try.prog.info? 37).map (·.comparable) = some true := by kernel_rfl
theorem cmpE_eq (w : World) (a b : Int) : (binOp .eql 31 (.iface 37 (.int .i64 a)) (.iface 37 (.int .i64 b))).run Try.prog w = .ok (.bool (a == b)) w := by
  have h := cmpE_equal w (k := .i64) a b Try.underlying31 cmpE_comp Try.underlying37
  simp only [binOp]
  simp [h]
theorem cmpE_ne (w : World) (a b : Int) : (binOp .neq 31 (.iface 37 (.int .i64 a)) (.iface 37 (.int .i64 b))).run Try.prog w = .ok (.bool (a != b)) w := by
  have h := cmpE_equal w (k := .i64) a b Try.underlying31 cmpE_comp Try.underlying37
  simp only [binOp]
  simp [h, bne]
theorem cmpE_nl (w : World) (b : Value) : (binOp .eql 31 .nilIface (.iface 37 b)).run Try.prog w = .ok (.bool false) w := by
  have h : ∀ d : Nat, (Op.equalIn (d + 1) 31 .nilIface (.iface 37 b)).run Try.prog w = .ok false w := fun d => by
    simp [Op.equalIn, run_underlying Try.underlying31]
  simp only [binOp]
  simp [Op.equal, Op.maxDepth, h 9999]
theorem cmpE_nn (w : World) (b : Value) : (binOp .neq 31 .nilIface (.iface 37 b)).run Try.prog w = .ok (.bool true) w := by
  have h : ∀ d : Nat, (Op.equalIn (d + 1) 31 .nilIface (.iface 37 b)).run Try.prog w = .ok false w := fun d => by
    simp [Op.equalIn, run_underlying Try.underlying31]
  simp only [binOp]
  simp [Op.equal, Op.maxDepth, h 9999]
end Go.Proofs.Ytcpcoegoaciipaa.P
