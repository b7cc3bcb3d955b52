/- token.one's two predicates, and its words and signs. -/
import Derived.Test.YtcpcoegoaciipaaDoorNum
namespace Go.Proofs.YtcpcoegoaciipaaDoor.Tok
open Go.RowKit Go.Proofs.YtcpcoegoaciipaaDoorW.PrintWords Go.Proofs.YtcpcoegoaciipaaDoorW.PrintLast Go.Proofs.YtcpcoegoaciipaaDoorW.PrintMore
open Go.Proofs.YtcpcoegoaciipaaDoor.PTokenCuts
set_option linter.unusedVariables false
set_option linter.unusedSimpArgs false

theorem word_pred : IsPred 27 wordB := by
  intro c w h0 h1
  have HL := Lib.hid (lower_pred c)
  have HD := Lib.hid (digit_pred c)
  cases hl : lowB c with
  | true =>
    have hw : wordB c = true := by simp [wordB, hl]
    rw [hl] at HL
    rw [hw]
    clear hl hw
    go_enter Tryd.func27, Tryd.ntmps27
    go_wp2_with fail
    refine (HL.out _ h0 h1).mono ?_
    rintro e w' ⟨rfl, ⟨m, rfl⟩⟩
    go_wp2_with fail
    go_ret
    exact ⟨rfl, ⟨⟨_, rfl⟩⟩⟩
  | false =>
    have hw : wordB c = digB c := by simp [wordB, hl]
    rw [hl] at HL
    rw [hw]
    clear hl hw
    go_enter Tryd.func27, Tryd.ntmps27
    go_wp2_with fail
    refine (HL.out _ h0 h1).mono ?_
    rintro e w' ⟨rfl, ⟨m, rfl⟩⟩
    go_wp2_with fail
    refine (HD.out _ h0 h1).mono ?_
    rintro e w' ⟨rfl, ⟨m, rfl⟩⟩
    go_wp2_with fail
    go_ret
    exact ⟨rfl, ⟨⟨_, rfl⟩⟩⟩

theorem text_pred : IsPred 32 textB := by
  intro c w h0 h1
  have hb : textB c = (decide (32 ≤ c) && (decide (c ≤ 126) && (c != 34))) := by
    unfold textB
    rw [Bool.eq_iff_iff]
    simp
  rw [hb]
  clear hb
  by_cases h2 : 32 ≤ c
  all_goals by_cases h3 : c ≤ 126
  all_goals
    go_enter Tryd.func32, Tryd.ntmps32
    go_wp2_with fail
    go_ret
    exact ⟨by first | (simp [h2, h3]; done) | (simp [h2, h3]; intros; omega), ⟨⟨0, rfl⟩⟩⟩
theorem word_enters : ∀ args w, (callFunc 27 args).run Tryd.prog w = .ok (.enter 27 args) w := enters_of Tryd.func27 (by kernel_rfl) rfl
theorem text_enters : ∀ args w, (callFunc 32 args).run Tryd.prog w = .ok (.enter 32 args) w := enters_of Tryd.func32 (by kernel_rfl) rfl

def wordL : List ByteArray := [⟨#[97, 110, 100]⟩, ⟨#[111, 114]⟩, ⟨#[110, 111, 116]⟩, ⟨#[105, 110]⟩, ⟨#[116, 114, 117, 101]⟩]
def signL : List ByteArray := [⟨#[60, 61]⟩, ⟨#[33, 61]⟩, ⟨#[62, 61]⟩, ⟨#[94, 61]⟩, ⟨#[40]⟩, ⟨#[41]⟩, ⟨#[44]⟩, ⟨#[60]⟩, ⟨#[61]⟩, ⟨#[62]⟩]

theorem words_calls (w : World) : Calls Tryd.prog 30 #[] w fun e w' => e = .returned (.slice (some ⟨w.heap.size, 0, none⟩) 5 5) ∧
    w' = w.alloc (.cells #[.string ⟨#[97, 110, 100]⟩, .string ⟨#[111, 114]⟩, .string ⟨#[110, 111, 116]⟩, .string ⟨#[105, 110]⟩, .string ⟨#[116, 114, 117, 101]⟩] 9) := by
  go_enter Tryd.func30, Tryd.ntmps30
  go_wp2_with fail
  go_ret
  exact ⟨rfl, rfl⟩

theorem signs_calls (w : World) : Calls Tryd.prog 33 #[] w fun e w' => e = .returned (.slice (some ⟨w.heap.size, 0, none⟩) 10 10) ∧
    w' = w.alloc (.cells #[.string ⟨#[60, 61]⟩, .string ⟨#[33, 61]⟩, .string ⟨#[62, 61]⟩, .string ⟨#[94, 61]⟩, .string ⟨#[40]⟩, .string ⟨#[41]⟩, .string ⟨#[44]⟩, .string ⟨#[60]⟩, .string ⟨#[61]⟩, .string ⟨#[62]⟩] 9) := by
  go_enter Tryd.func33, Tryd.ntmps33
  go_wp2_with fail
  go_ret
  exact ⟨rfl, rfl⟩

/-- A text among the words, which lie in a block. -/
theorem among_calls (b : Nat) (x : ByteArray) (w : World) (hb : w.heap[b]? = some (.cells #[.string ⟨#[97, 110, 100]⟩, .string ⟨#[111, 114]⟩, .string ⟨#[110, 111, 116]⟩, .string ⟨#[105, 110]⟩, .string ⟨#[116, 114, 117, 101]⟩] 9 (0, 0))) :
    Calls Tryd.prog 29 #[.slice (some ⟨b, 0, none⟩) 5 5, .string x] w fun e w' => e = .returned (.bool (Lib.containsS wordL x)) ∧ w' = w := by
  have h := Tryd.slices_Contains_string b 0 5 5 wordL x w (by decide) (by decide) ?_
  · rw [show List.take 5 wordL = wordL from rfl] at h; exact h
  · intro j hj
    have : j = 0 ∨ j = 1 ∨ j = 2 ∨ j = 3 ∨ j = 4 := by simp [wordL] at hj; omega
    rcases this with rfl | rfl | rfl | rfl | rfl <;> simp [World.cell?, hb, wordL]
end Go.Proofs.YtcpcoegoaciipaaDoor.Tok
