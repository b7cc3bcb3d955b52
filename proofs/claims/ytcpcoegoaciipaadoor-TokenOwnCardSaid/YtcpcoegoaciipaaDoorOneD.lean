/- token.one: a text. -/
import Derived.Test.YtcpcoegoaciipaaDoorOneC
import Derived.WalkSpells
namespace Go.Proofs.YtcpcoegoaciipaaDoor.Tok
open Go.RowKit Go.Proofs.YtcpcoegoaciipaaDoorW.PrintWords Go.Proofs.YtcpcoegoaciipaaDoorW.PrintLast Go.Proofs.YtcpcoegoaciipaaDoorW.PrintMore
open Go.Proofs.YtcpcoegoaciipaaDoor.PTokenCuts
set_option linter.unusedVariables false
set_option linter.unusedSimpArgs false

def textN (s : ByteArray) : Nat := upLen textB (s.extract 1 s.size).data.toList
def zeroT : S36 := ⟨0, 0, 0, ⟨#[]⟩⟩
def textT (s : ByteArray) : S36 := if 200 < textN s ∨ s.size ≤ textN s + 1 ∨ bt s (textN s + 1 : Nat) ≠ 34 then zeroT else ⟨4, 0, 0, s.extract 1 (textN s + 1)⟩
def textLen (s : ByteArray) : Int := if 200 < textN s ∨ s.size ≤ textN s + 1 ∨ bt s (textN s + 1 : Nat) ≠ 34 then 0 else textN s + 2

theorem textN_le (s : ByteArray) : textN s ≤ s.size - 1 := by
  have := upLen_le textB (s.extract 1 s.size).data.toList
  rw [Array.length_toList, ByteArray.size_data] at this
  unfold textN
  simpa using this

set_option maxHeartbeats 1000000 in
set_option maxRecDepth 100000 in
theorem one_text (s : ByteArray) (hs : s.size ≤ 140737488351232) (h0 : 0 < s.size) (hc : bt s 0 = 34) (w : World) :
    Calls Tryd.prog 17 #[.string s] w fun e w' => e = .returned (tokV (textT s) (textLen s)) ∧ Below w.heap.size w w' := by
  have hl : lowB (bt s 0) = false := by rw [hc]; decide
  have hd : digB (bt s 0) = false := by rw [hc]; decide
  have HL := Lib.hid (lower_pred (bt s 0))
  rw [hl] at HL
  have HD := Lib.hid (digit_pred (bt s 0))
  rw [hd] at HD
  have hr := bt_range s 0
  have hb0 : ∀ h : 0 < s.size, (s[0].toNat : Int) = bt s 0 := fun h => bt_at s 0 h
  have hn := textN_le s
  have HN := Lib.hid (show upLen textB (s.extract 1 s.size).data.toList = textN s from rfl)
  have HT := Lib.hid (show tokV (textT s) (textLen s) = if 200 < textN s ∨ s.size ≤ textN s + 1 ∨ bt s (textN s + 1 : Nat) ≠ 34 then tokV zeroT 0 else tokV ⟨4, 0, 0, s.extract 1 (textN s + 1)⟩ ((textN s : Int) + 2) by
    unfold textT textLen; split <;> rfl)
  generalize hv : tokV (textT s) (textLen s) = v at *
  generalize hnn : textN s = n at *
  have x1 : (bt s 0 == 45) = false := by rw [hc]; rfl
  have x2 : (bt s 0 == 34) = true := by rw [hc]; rfl
  have hbn : ∀ h : n + 1 < s.size, (s[n + 1].toNat : Int) = bt s ((n + 1 : Nat) : Int) := fun h => bt_at s ((n + 1 : Nat) : Int) (by simpa using h)
  clear hv hnn hc hl hd
  have e34 : (bt s ((n + 1 : Nat) : Int)) = bt s ((n : Int) + 1) := by rw [Int.natCast_add]; rfl
  rw [e34] at HT
  by_cases c1 : 200 < n
  · have HR := Lib.hid (HT.out.trans (if_pos (Or.inl c1)))
    clear HT e34
    have c1z : (200 : Int) < (n : Int) := by omega
    go_enter Tryd.func17, Tryd.ntmps17
    go_wp2_with fail
    refine (HL.out _ hr.1 hr.2).mono ?_
    rintro e w1 ⟨rfl, ⟨m, rfl⟩⟩
    go_wp2_with fail
    refine (HD.out _ hr.1 hr.2).mono ?_
    rintro e w2 ⟨rfl, ⟨m2, rfl⟩⟩
    go_wp2_with fail
    refine (upto_calls _ textB text_pred text_enters _ (by simp; omega) _).mono ?_
    rintro e w3 ⟨rfl, ⟨m3, rfl⟩⟩
    rw [HN.out]
    go_wp2_with fail
    refine bodyPost_ret (v := v) ?_ rfl ⟨rfl, ?_⟩
    · rw [HR.out]
      simp [results, Tryd.results17, go_sem, tokV, zeroT]
    · repeat (with_reducible first | exact Below.refl _ _ | apply below_drew | apply pw_below_drewN | apply below_alloc | (refine Below.setCell ?_ (by simp) _))
  · by_cases c2 : s.size ≤ n + 1
    · have HR := Lib.hid (HT.out.trans (if_pos (Or.inr (Or.inl c2))))
      clear HT e34
      have c1z : ¬ (200 : Int) < (n : Int) := by omega
      have c2z : (s.size : Int) ≤ (n : Int) + 1 := by omega
      go_enter Tryd.func17, Tryd.ntmps17
      go_wp2_with fail
      refine (HL.out _ hr.1 hr.2).mono ?_
      rintro e w1 ⟨rfl, ⟨m, rfl⟩⟩
      go_wp2_with fail
      refine (HD.out _ hr.1 hr.2).mono ?_
      rintro e w2 ⟨rfl, ⟨m2, rfl⟩⟩
      go_wp2_with fail
      refine (upto_calls _ textB text_pred text_enters _ (by simp; omega) _).mono ?_
      rintro e w3 ⟨rfl, ⟨m3, rfl⟩⟩
      rw [HN.out]
      go_wp2_with fail
      refine bodyPost_ret (v := v) ?_ rfl ⟨rfl, ?_⟩
      · rw [HR.out]
        simp [results, Tryd.results17, go_sem, tokV, zeroT]
      · repeat (with_reducible first | exact Below.refl _ _ | apply below_drew | apply pw_below_drewN | apply below_alloc | (refine Below.setCell ?_ (by simp) _))
    · have c1z : ¬ (200 : Int) < (n : Int) := by omega
      have c2z : (n : Int) + 1 < (s.size : Int) := by omega
      have c2n : n + 1 ≤ s.size := by omega
      by_cases c3 : bt s ((n : Int) + 1) = 34
      · have HR := Lib.hid (HT.out.trans (if_neg (fun h => h.elim c1 (fun h => h.elim c2 (fun h => h c3)))))
        clear HT e34
        have c3z : (bt s ((n : Int) + 1) != 34) = false := by simp [c3]
        clear c3
        go_enter Tryd.func17, Tryd.ntmps17
        go_wp2_with fail
        refine (HL.out _ hr.1 hr.2).mono ?_
        rintro e w1 ⟨rfl, ⟨m, rfl⟩⟩
        go_wp2_with fail
        refine (HD.out _ hr.1 hr.2).mono ?_
        rintro e w2 ⟨rfl, ⟨m2, rfl⟩⟩
        go_wp2_with fail
        refine (upto_calls _ textB text_pred text_enters _ (by simp; omega) _).mono ?_
        rintro e w3 ⟨rfl, ⟨m3, rfl⟩⟩
        rw [HN.out]
        go_wp2_with fail
        go_ways
        refine bodyPost_ret (v := v) ?_ rfl ⟨rfl, ?_⟩
        · rw [HR.out]
          simp [results, Tryd.results17, go_sem, tokV, zeroT]
        · repeat (with_reducible first | exact Below.refl _ _ | apply below_drew | apply pw_below_drewN | apply below_alloc | (refine Below.setCell ?_ (by simp) _))
      · have HR := Lib.hid (HT.out.trans (if_pos (Or.inr (Or.inr c3))))
        clear HT e34
        have c3z : (bt s ((n : Int) + 1) != 34) = true := by simp [c3]
        clear c3
        go_enter Tryd.func17, Tryd.ntmps17
        go_wp2_with fail
        refine (HL.out _ hr.1 hr.2).mono ?_
        rintro e w1 ⟨rfl, ⟨m, rfl⟩⟩
        go_wp2_with fail
        refine (HD.out _ hr.1 hr.2).mono ?_
        rintro e w2 ⟨rfl, ⟨m2, rfl⟩⟩
        go_wp2_with fail
        refine (upto_calls _ textB text_pred text_enters _ (by simp; omega) _).mono ?_
        rintro e w3 ⟨rfl, ⟨m3, rfl⟩⟩
        rw [HN.out]
        go_wp2_with fail
        refine bodyPost_ret (v := v) ?_ rfl ⟨rfl, ?_⟩
        · rw [HR.out]
          simp [results, Tryd.results17, go_sem, tokV, zeroT]
        · repeat (with_reducible first | exact Below.refl _ _ | apply below_drew | apply pw_below_drewN | apply below_alloc | (refine Below.setCell ?_ (by simp) _))
end Go.Proofs.YtcpcoegoaciipaaDoor.Tok
