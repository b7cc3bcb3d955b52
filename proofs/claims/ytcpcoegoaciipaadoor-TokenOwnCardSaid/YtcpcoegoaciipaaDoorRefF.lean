/- The document's token at a place: a sign. -/
import Derived.Test.YtcpcoegoaciipaaDoorRefE
namespace Go.Proofs.YtcpcoegoaciipaaDoor.Tok
open Go.RowKit Go.Proofs.YtcpcoegoaciipaaDoorW.PrintWords Go.Proofs.YtcpcoegoaciipaaDoorW.PrintLast Go.Proofs.YtcpcoegoaciipaaDoorW.PrintMore
open Go.Proofs.YtcpcoegoaciipaaDoor.PTokenCuts
set_option linter.unusedVariables false
set_option linter.unusedSimpArgs false

theorem refone_sign {s : ByteArray} {i : Nat} (hl : lowB (bt (s.extract i s.size) 0) = false) (hd : (digB (bt (s.extract i s.size) 0) || bt (s.extract i s.size) 0 == 45) = false) (h34 : (bt (s.extract i s.size) 0 == 34) = false)
    (x : ByteArray) (n : Nat) (b : Bool) (hx : signP (s.extract i s.size) = if b then some x else none) (hn : x.size = n) (h0 : 0 < n) :
    RefOne s i (.returned (.tuple #[.agg #[.int .i64 5, .int .i64 i, .int .i64 0, .string x], .int .i64 ((i : Int) + n), .bool b])) := by
  unfold RefOne oneN oneT
  simp only [hl, hd, h34, Bool.false_eq_true, if_false]
  unfold signLen signT
  rw [hx]
  cases b with
  | true =>
    refine ⟨⟨5, i, 0, x⟩, (i : Int) + n, ?_, fun _ => ⟨rfl, by simp only [if_true]; omega⟩⟩
    simp only [if_true]
    rw [show ((x.size : Int) != 0) = true from by rw [bne_iff_ne]; omega]; rfl
  | false =>
    refine ⟨⟨5, i, 0, x⟩, (i : Int) + n, ?_, fun h => (h rfl).elim⟩
    rfl

theorem refone_two {s : ByteArray} {i : Nat} (hi : i + 1 < s.size) (hl : lowB (bt s i) = false) (hd : digB (bt s i) = false) (h45 : (bt s i == 45) = false) (h34 : (bt s i == 34) = false) (hx : isTwo (s.extract i (i + 2)) = true) :
    RefOne s i (.returned (.tuple #[.agg #[.int .i64 5, .int .i64 i, .int .i64 0, .string (s.extract i (i + 2))], .int .i64 ((i : Int) + 2), .bool true])) := by
  have hb1 : bt (s.extract i s.size) 0 = bt s i := bt_ext s i 0 (by omega)
  exact refone_sign (by rw [hb1]; exact hl) (by rw [hb1, hd, h45]; rfl) (by rw [hb1]; exact h34) _ 2 true (by rw [sign_two_find hi hx]; rfl) (by simp; omega) (by omega)

theorem refone_one {s : ByteArray} {i : Nat} (hi : i < s.size) (hl : lowB (bt s i) = false) (hd : digB (bt s i) = false) (h45 : (bt s i == 45) = false) (h34 : (bt s i == 34) = false) (hx : ¬ (i + 1 < s.size ∧ isTwo (s.extract i (i + 2)) = true)) :
    RefOne s i (.returned (.tuple #[.agg #[.int .i64 5, .int .i64 i, .int .i64 0, .string (s.extract i (i + 1))], .int .i64 ((i : Int) + 1), .bool (isOne (s.extract i (i + 1)))])) := by
  have hb1 : bt (s.extract i s.size) 0 = bt s i := bt_ext s i 0 (by omega)
  exact refone_sign (by rw [hb1]; exact hl) (by rw [hb1, hd, h45]; rfl) (by rw [hb1]; exact h34) _ 1 _ (sign_one_find hi hx) (by simp; omega) (by omega)

set_option maxHeartbeats 2000000 in
set_option maxRecDepth 100000 in
theorem rone_two (s : ByteArray) (hs : s.size ≤ 140737488351232) (i : Nat) (h0 : i < s.size) (hl : lowB (bt s i) = false) (hd : digB (bt s i) = false) (h45 : (bt s i == 45) = false) (h34 : (bt s i == 34) = false)
    (h1 : i + 1 < s.size) (hx : isTwo (s.extract i (i + 2)) = true) (w : World) :
    Calls Tryd.prog 18 #[.string s, .int .i64 i] w fun e w' => RefOne s i e ∧ Below w.heap.size w w' := by
  have HQ := Lib.hid (refone_two h1 hl hd h45 h34 hx)
  have HL := Lib.hid (rlow_pred (bt s i))
  rw [hl] at HL
  have HD := Lib.hid (rdigit_pred (bt s i))
  rw [hd] at HD
  have hr := bt_range s i
  have hb0 : ∀ h : i < s.size, (s[i].toNat : Int) = bt s i := fun h => bt_at s i h
  have hi0 : (i : Int) < (s.size : Int) := by omega
  clear hl hd
  generalize RefOne s i = RO at *
  have h1z : (i : Int) + 1 < (s.size : Int) := by omega
  have b1 : i ≤ i + 2 := by omega
  have b2 : i + 2 ≤ s.size := by omega
  have HX := Lib.hid hx
  clear hx
  go_enter Tryd.func18, Tryd.ntmps18
  go_wp2_with fail
  refine (HL.out _ hr.1 hr.2).mono ?_
  rintro e w1 ⟨rfl, ⟨m, rfl⟩⟩
  go_wp2_with fail
  refine (HD.out _ hr.1 hr.2).mono ?_
  rintro e w2 ⟨rfl, ⟨m2, rfl⟩⟩
  go_wp2_with fail
  all_goals first
    | (exfalso
       have hh := HX.out
       unfold isTwo at hh
       simp_all
       done)
    | skip
  all_goals
    refine bodyPost_ret (v := .tuple #[.agg #[.int .i64 5, .int .i64 i, .int .i64 0, .string (s.extract i (i + 2))], .int .i64 ((i : Int) + 2), .bool true]) ?_ rfl ⟨HQ.out, ?_⟩
    · simp [results, Tryd.results18, go_sem]
    · repeat (with_reducible first | exact Below.refl _ _ | apply below_drew | apply pw_below_drewN | apply below_alloc | (refine Below.setCell ?_ (by simp) _))

end Go.Proofs.YtcpcoegoaciipaaDoor.Tok
