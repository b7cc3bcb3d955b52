/- The document's token at a place: a number. -/
import Derived.Test.YtcpcoegoaciipaaDoorRefNumB
namespace Go.Proofs.YtcpcoegoaciipaaDoor.Tok
open Go.RowKit Go.Proofs.YtcpcoegoaciipaaDoorW.PrintWords Go.Proofs.YtcpcoegoaciipaaDoorW.PrintLast Go.Proofs.YtcpcoegoaciipaaDoorW.PrintMore
open Go.Proofs.YtcpcoegoaciipaaDoor.PTokenCuts
set_option linter.unusedVariables false
set_option linter.unusedSimpArgs false

theorem refone_num {s : ByteArray} {i : Nat} (hl : lowB (bt (s.extract i s.size) 0) = false) (hd : (digB (bt (s.extract i s.size) 0) || bt (s.extract i s.size) 0 == 45) = true) (v q : Int)
    (h : (numP (s.extract i s.size)).2 ≠ 0 → v = (numP (s.extract i s.size)).1 ∧ q = i + (numP (s.extract i s.size)).2) :
    RefOne s i (.returned (.tuple #[.agg #[.int .i64 3, .int .i64 i, .int .i64 v, .string ⟨#[]⟩], .int .i64 q, .bool ((numP (s.extract i s.size)).2 != 0)])) := by
  unfold RefOne oneN oneT
  simp only [hl, hd, Bool.false_eq_true, if_false, if_true]
  generalize (numP (s.extract i s.size)).1 = n1 at *
  generalize (numP (s.extract i s.size)).2 = n2 at *
  refine ⟨⟨3, i, v, ⟨#[]⟩⟩, q, rfl, fun h0 => ?_⟩
  obtain ⟨h1, h2⟩ := h h0
  exact ⟨by rw [h1]; rfl, h2⟩

set_option maxHeartbeats 2000000 in
set_option maxRecDepth 100000 in
theorem rone_number (s : ByteArray) (hs : s.size ≤ 140737488351232) (i : Nat) (h0 : i < s.size) (hc : lowB (bt s i) = false) (hd : digB (bt s i) = true ∨ bt s i = 45) (w : World) :
    Calls Tryd.prog 18 #[.string s, .int .i64 i] w fun e w' => RefOne s i e ∧ Below w.heap.size w w' := by
  have hb1 : bt (s.extract i s.size) 0 = bt s i := bt_ext s i 0 (by omega)
  have HQ := Lib.hid (fun v q h => refone_num (s := s) (i := i) (by rw [hb1]; exact hc) (by rw [hb1]; rcases hd with h | h <;> simp [h]) v q h)
  have HN := Lib.hid (rnumber_calls s hs i h0 hd)
  unfold RefNumP at HN
  generalize (numP (s.extract i s.size)).1 = n1 at *
  generalize (numP (s.extract i s.size)).2 = n2 at *
  generalize RefOne s i = RO at *
  have HL := Lib.hid (rlow_pred (bt s i))
  rw [hc] at HL
  have HD := Lib.hid (rdigit_pred (bt s i))
  have hr := bt_range s i
  have hb0 : ∀ h : i < s.size, (s[i].toNat : Int) = bt s i := fun h => bt_at s i h
  have hi0 : (i : Int) < (s.size : Int) := by omega
  have HX := Lib.hid hd
  clear hc hb1 hd
  cases hq : digB (bt s i) with
  | true =>
    rw [hq] at HD
    clear hq HX
    go_enter Tryd.func18, Tryd.ntmps18
    go_wp2_with fail
    refine (HL.out _ hr.1 hr.2).mono ?_
    rintro e w1 ⟨rfl, ⟨m, rfl⟩⟩
    go_wp2_with fail
    refine (HD.out _ hr.1 hr.2).mono ?_
    rintro e w2 ⟨rfl, ⟨m2, rfl⟩⟩
    go_wp2_with fail
    refine (HN.out _).mono ?_
    rintro e w3 ⟨⟨v, q, rfl, hv⟩, ⟨m3, rfl⟩⟩
    have HV := Lib.hid (HQ.out v q hv)
    clear hv HQ HN
    go_wp2_with fail
    refine bodyPost_ret (v := .tuple #[.agg #[.int .i64 3, .int .i64 i, .int .i64 v, .string ⟨#[]⟩], .int .i64 q, .bool (n2 != 0)]) ?_ rfl ⟨HV.out, ?_⟩
    · simp [results, Tryd.results18, go_sem]
    · repeat (with_reducible first | exact Below.refl _ _ | apply below_drew | apply pw_below_drewN | apply below_alloc | (refine Below.setCell ?_ (by simp) _))
  | false =>
    have hX45 : bt s i = 45 := by
      rcases HX.out with h | h
      · rw [hq] at h; exact absurd h (by simp)
      · exact h
    have hx : (bt s i == 45) = true := by simp [hX45]
    rw [hq] at HD
    clear hq HX hX45
    go_enter Tryd.func18, Tryd.ntmps18
    go_wp2_with fail
    refine (HL.out _ hr.1 hr.2).mono ?_
    rintro e w1 ⟨rfl, ⟨m, rfl⟩⟩
    go_wp2_with fail
    refine (HD.out _ hr.1 hr.2).mono ?_
    rintro e w2 ⟨rfl, ⟨m2, rfl⟩⟩
    go_wp2_with fail
    refine (HN.out _).mono ?_
    rintro e w3 ⟨⟨v, q, rfl, hv⟩, ⟨m3, rfl⟩⟩
    have HV := Lib.hid (HQ.out v q hv)
    clear hv HQ HN
    go_wp2_with fail
    refine bodyPost_ret (v := .tuple #[.agg #[.int .i64 3, .int .i64 i, .int .i64 v, .string ⟨#[]⟩], .int .i64 q, .bool (n2 != 0)]) ?_ rfl ⟨HV.out, ?_⟩
    · simp [results, Tryd.results18, go_sem]
    · repeat (with_reducible first | exact Below.refl _ _ | apply below_drew | apply pw_below_drewN | apply below_alloc | (refine Below.setCell ?_ (by simp) _))
end Go.Proofs.YtcpcoegoaciipaaDoor.Tok
