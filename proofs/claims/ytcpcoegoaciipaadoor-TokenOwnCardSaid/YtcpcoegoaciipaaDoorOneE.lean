/- token.one: a sign; and all together. -/
import Derived.Test.YtcpcoegoaciipaaDoorOneD
namespace Go.Proofs.YtcpcoegoaciipaaDoor.Tok
open Go.RowKit Go.Proofs.YtcpcoegoaciipaaDoorW.PrintWords Go.Proofs.YtcpcoegoaciipaaDoorW.PrintLast Go.Proofs.YtcpcoegoaciipaaDoorW.PrintMore
open Go.Proofs.YtcpcoegoaciipaaDoor.PTokenCuts
set_option linter.unusedVariables false
set_option linter.unusedSimpArgs false

def isFront (s x : ByteArray) : Bool := Lib.hasPrefix s.data.toList x.data.toList
def signP (s : ByteArray) : Option ByteArray := signL.find? (isFront s)
def signT (s : ByteArray) : S36 := match signP s with
  | some x => ⟨5, 0, 0, x⟩
  | none => zeroT
def signLen (s : ByteArray) : Int := match signP s with
  | some x => x.size
  | none => 0

theorem signs_cells {w : World} {b : Nat} (hb : w.heap[b]? = some (.cells #[.string ⟨#[60, 61]⟩, .string ⟨#[33, 61]⟩, .string ⟨#[62, 61]⟩, .string ⟨#[94, 61]⟩, .string ⟨#[40]⟩, .string ⟨#[41]⟩, .string ⟨#[44]⟩, .string ⟨#[60]⟩, .string ⟨#[61]⟩, .string ⟨#[62]⟩] 9 (0, 0))) (j : Nat) (hj : j < 10) :
    w.cell? ⟨b, j, none⟩ = some (.string (signL.getD j ByteArray.empty)) := by
  have : j = 0 ∨ j = 1 ∨ j = 2 ∨ j = 3 ∨ j = 4 ∨ j = 5 ∨ j = 6 ∨ j = 7 ∨ j = 8 ∨ j = 9 := by omega
  rcases this with rfl | rfl | rfl | rfl | rfl | rfl | rfl | rfl | rfl | rfl <;> simp [World.cell?, hb, signL]

theorem find_drop (p : ByteArray → Bool) (l : List ByteArray) (j : Nat) (hj : j < l.length) : (l.drop j).find? p = if p (l.getD j ByteArray.empty) then some (l.getD j ByteArray.empty) else (l.drop (j + 1)).find? p := by
  rw [List.drop_eq_getElem_cons hj, List.find?_cons]
  have : l.getD j ByteArray.empty = l[j] := by simp [List.getD, hj]
  rw [this]
  cases p l[j] <;> simp

set_option maxHeartbeats 1000000 in
set_option maxRecDepth 100000 in
theorem one_sign (s : ByteArray) (hs : s.size ≤ 140737488351232) (h0 : 0 < s.size) (hl : lowB (bt s 0) = false) (hd : digB (bt s 0) = false) (x1 : (bt s 0 == 45) = false) (x2 : (bt s 0 == 34) = false) (w : World) :
    Calls Tryd.prog 17 #[.string s] w fun e w' => e = .returned (tokV (signT s) (signLen s)) ∧ Below w.heap.size w w' := by
  have HL := Lib.hid (lower_pred (bt s 0))
  rw [hl] at HL
  have HD := Lib.hid (digit_pred (bt s 0))
  rw [hd] at HD
  have hr := bt_range s 0
  have hb0 : ∀ h : 0 < s.size, (s[0].toNat : Int) = bt s 0 := fun h => bt_at s 0 h
  have HT := Lib.hid (show tokV (signT s) (signLen s) = (match (signL.drop 0).find? (isFront s) with
    | some x => tokV ⟨5, 0, 0, x⟩ x.size
    | none => tokV zeroT 0) by
    show tokV (signT s) (signLen s) = (match signP s with
    | some x => tokV ⟨5, 0, 0, x⟩ x.size
    | none => tokV zeroT 0)
    unfold signT signLen
    cases signP s <;> rfl)
  generalize hv : tokV (signT s) (signLen s) = v at *
  clear hv hl hd
  go_enter Tryd.func17, Tryd.ntmps17
  go_wp2_with fail
  refine (HL.out _ hr.1 hr.2).mono ?_
  rintro e w1 ⟨rfl, ⟨m, rfl⟩⟩
  go_wp2_with fail
  refine (HD.out _ hr.1 hr.2).mono ?_
  rintro e w2 ⟨rfl, ⟨m2, rfl⟩⟩
  go_wp2_with fail
  refine (signs_calls _).mono ?_
  rintro e w3 ⟨rfl, rfl⟩
  go_wp2_with fail
  have hW : ∃ W, W = ((w.alloc (Obj.cells #[Value.int IntKind.i64 0, Value.int IntKind.i64 0, Value.int IntKind.i64 0, Value.string ⟨#[]⟩] 36)).drewN (m + m2)).alloc (Obj.cells #[.string ⟨#[60, 61]⟩, .string ⟨#[33, 61]⟩, .string ⟨#[62, 61]⟩, .string ⟨#[94, 61]⟩, .string ⟨#[40]⟩, .string ⟨#[41]⟩, .string ⟨#[44]⟩, .string ⟨#[60]⟩, .string ⟨#[61]⟩, .string ⟨#[62]⟩] 9) := ⟨_, rfl⟩
  obtain ⟨W, hW⟩ := hW
  rw [← hW]
  have hB : Below w.heap.size w W := by rw [hW]; exact below_alloc (pw_below_drewN ((Below.refl _ _).alloc (Nat.le_refl _) _) _) _
  have hblk : W.heap[w.heap.size]? = some (.cells #[.int .i64 0, .int .i64 0, .int .i64 0, .string ⟨#[]⟩] 36 (0, 0)) := by
    rw [hW, Below.heap_alloc _ _ _ (by simp)]; exact heap_last w _ _ rfl
  have hsg := signs_cells (w := W) (b := w.heap.size + 1) (by rw [hW]; exact heap_last _ _ _ (by simp))
  clear hW
  have HB := Lib.hid hB
  clear hB
  obtain ⟨k0, k1, k2, k3, f0, f1, f2, f3⟩ := blk4 hblk
  clear hblk
  have HS := Lib.hid hsg
  clear hsg
  go_loopg [79] 10 (fun kq v79 w' => ∃ j : Nat, v79 = .int .i64 j ∧ j ≤ 10 ∧ 10 - j ≤ kq ∧ w' = W ∧ Hid ((signL.drop 0).find? (isFront s) = (signL.drop j).find? (isFront s)))
  case atStart => exact ⟨0, rfl, by omega, by omega, rfl, rfl⟩
  case round =>
    obtain ⟨j, rfl, hj, hk, rfl, HJ⟩ := hrel
    by_cases hlt : j < 10
    · have hx := HS.out j hlt
      have hf := Lib.hid (find_drop (isFront s) signL j (by simpa [signL] using hlt))
      generalize signL.getD j ByteArray.empty = x at *
      have HP := Lib.hid (show ∀ w, Calls Tryd.prog 34 #[.string s, .string x] w fun e w' => e = .returned (.bool (isFront s x)) ∧ w' = w from fun w => Tryd.strings_HasPrefix s x w)
      cases hq : isFront s x with
      | true =>
        rw [hq] at HP hf
        have HR := Lib.hid (show v = tokV ⟨5, 0, 0, x⟩ x.size by rw [HT.out, HJ.out, hf.out]; rfl)
        clear hq hf HJ HT
        go_wp2_with fail
        refine (HP.out _).mono ?_
        rintro e w4 ⟨rfl, rfl⟩
        go_wp2_with fail
        refine bodyPost_ret (v := v) ?_ rfl ⟨rfl, ?_⟩
        · rw [HR.out]
          simp [results, Tryd.results17, go_sem, tokV, k0, k1, k2, k3, f0, f1, f2, f3]
        · repeat (with_reducible first | exact HB.out | (refine Below.setCell ?_ (by simp) _))
      | false =>
        rw [hq] at HP hf
        have HR := Lib.hid (show (signL.drop 0).find? (isFront s) = (signL.drop (j + 1)).find? (isFront s) by rw [HJ.out, hf.out]; rfl)
        clear hq hf HJ
        go_wp2_with fail
        refine (HP.out _).mono ?_
        rintro e w4 ⟨rfl, rfl⟩
        go_wp2_with fail
        go_roundg (10 - (j + 1))
        case measure => omega
        case rel => exact ⟨j + 1, by simp, by omega, Nat.le_refl _, rfl, HR⟩
    · have hj10 : j = 10 := by omega
      subst hj10
      have HR := Lib.hid (show v = tokV zeroT 0 by rw [HT.out, HJ.out]; rfl)
      clear HT HJ
      go_wp2_with fail
      refine bodyPost_ret (v := v) ?_ rfl ⟨rfl, ?_⟩
      · rw [HR.out]
        simp [results, Tryd.results17, go_sem, tokV, zeroT, k0, k1, k2, k3, f0, f1, f2, f3]
      · repeat (with_reducible first | exact HB.out | (refine Below.setCell ?_ (by simp) _))

/-- What token.one comes to. -/
def oneT (s : ByteArray) : S36 :=
  if lowB (bt s 0) then nameT s else if digB (bt s 0) || bt s 0 == 45 then ⟨3, 0, (numP s).1, ⟨#[]⟩⟩ else if bt s 0 == 34 then textT s else signT s
def oneN (s : ByteArray) : Int :=
  if lowB (bt s 0) then nameLen s else if digB (bt s 0) || bt s 0 == 45 then (numP s).2 else if bt s 0 == 34 then textLen s else signLen s

theorem one_calls (s : ByteArray) (hs : s.size ≤ 140737488351232) (h0 : 0 < s.size) (w : World) (hE : Errs w) :
    Calls Tryd.prog 17 #[.string s] w fun e w' => e = .returned (tokV (oneT s) (oneN s)) ∧ Below w.heap.size w w' := by
  unfold oneT oneN
  cases hl : lowB (bt s 0) with
  | true => exact one_name s hs h0 hl w
  | false =>
    simp only [Bool.false_eq_true, if_false]
    cases hd : digB (bt s 0) || bt s 0 == 45 with
    | true => exact one_number s hs h0 hl (by simpa using hd) w hE
    | false =>
      simp only [Bool.or_eq_false_iff] at hd
      simp only [Bool.false_eq_true, if_false]
      cases ht : bt s 0 == 34 with
      | true => exact one_text s hs h0 (by simpa using ht) w
      | false => exact one_sign s hs h0 hl hd.1 hd.2 ht w
end Go.Proofs.YtcpcoegoaciipaaDoor.Tok
