/- The document's tokens: its two predicates; what a part of a text is. -/
import Derived.Test.YtcpcoegoaciipaaDoorCut
namespace Go.Proofs.YtcpcoegoaciipaaDoor.Tok
open Go.RowKit Go.Proofs.YtcpcoegoaciipaaDoorW.PrintWords Go.Proofs.YtcpcoegoaciipaaDoorW.PrintLast Go.Proofs.YtcpcoegoaciipaaDoorW.PrintMore
open Go.Proofs.YtcpcoegoaciipaaDoor.PTokenCuts
set_option linter.unusedVariables false
set_option linter.unusedSimpArgs false

theorem rlow_pred : IsPred 35 lowB := by
  intro c w h0 h1
  have hb : lowB c = (decide (97 ≤ c) && decide (c ≤ 122)) := by
    unfold lowB
    rw [Bool.eq_iff_iff]
    simp
  rw [hb]
  clear hb
  by_cases h2 : 97 ≤ c
  all_goals
    go_enter Tryd.func35, Tryd.ntmps35
    go_wp2_with fail
    go_ret
    exact ⟨by first | (simp [h2]; done) | (simp [h2]; intros; omega), ⟨⟨0, rfl⟩⟩⟩

theorem rdigit_pred : IsPred 36 digB := by
  intro c w h0 h1
  have hb : digB c = (decide (48 ≤ c) && decide (c ≤ 57)) := by
    unfold digB
    rw [Bool.eq_iff_iff]
    simp
  rw [hb]
  clear hb
  by_cases h2 : 48 ≤ c
  all_goals
    go_enter Tryd.func36, Tryd.ntmps36
    go_wp2_with fail
    go_ret
    exact ⟨by first | (simp [h2]; done) | (simp [h2]; intros; omega), ⟨⟨0, rfl⟩⟩⟩

theorem ext_ext (s : ByteArray) (i n : Nat) (h : i + n ≤ s.size) : (s.extract i s.size).extract 0 n = s.extract i (i + n) := by
  apply ByteArray.ext
  rw [ByteArray.data_extract, ByteArray.data_extract, ByteArray.data_extract, Array.extract_extract]
  congr 1
  omega

theorem ext_ext1 (s : ByteArray) (i m n : Nat) (h : i + n ≤ s.size) : (s.extract i s.size).extract m n = s.extract (i + m) (i + n) := by
  apply ByteArray.ext
  rw [ByteArray.data_extract, ByteArray.data_extract, ByteArray.data_extract, Array.extract_extract]
  congr 1
  omega

theorem bt_ext (s : ByteArray) (i m : Nat) (h : i + m < s.size) : bt (s.extract i s.size) (m : Int) = bt s ((i + m : Nat) : Int) := by
  rw [← bt_at s ((i + m : Nat) : Int) (by rw [Int.toNat_natCast]; exact h), ← bt_at (s.extract i s.size) (m : Int) (by simp; omega)]
  simp only [Int.toNat_natCast]
  rw [ByteArray.getElem_extract]
end Go.Proofs.YtcpcoegoaciipaaDoor.Tok
