/- The document's token at a place: a sign of one byte; and all together. -/
import Derived.Test.YtcpcoegoaciipaaDoorRefF
namespace Go.Proofs.YtcpcoegoaciipaaDoor.Tok
open Go.RowKit Go.Proofs.YtcpcoegoaciipaaDoorW.PrintWords Go.Proofs.YtcpcoegoaciipaaDoorW.PrintLast Go.Proofs.YtcpcoegoaciipaaDoorW.PrintMore
open Go.Proofs.YtcpcoegoaciipaaDoor.PTokenCuts
set_option linter.unusedVariables false
set_option linter.unusedSimpArgs false

set_option maxHeartbeats 2000000 in
set_option maxRecDepth 100000 in
theorem rone_end (s : ByteArray) (hs : s.size ≤ 140737488351232) (i : Nat) (h0 : i < s.size) (hl : lowB (bt s i) = false) (hd : digB (bt s i) = false) (h45 : (bt s i == 45) = false) (h34 : (bt s i == 34) = false)
    (h1 : ¬ i + 1 < s.size) (w : World) :
    Calls Tryd.prog 18 #[.string s, .int .i64 i] w fun e w' => RefOne s i e ∧ Below w.heap.size w w' := by
  have HQ := Lib.hid (refone_one h0 hl hd h45 h34 (fun h => h1 h.1))
  have HL := Lib.hid (rlow_pred (bt s i))
  rw [hl] at HL
  have HD := Lib.hid (rdigit_pred (bt s i))
  rw [hd] at HD
  have hr := bt_range s i
  have hb0 : ∀ h : i < s.size, (s[i].toNat : Int) = bt s i := fun h => bt_at s i h
  have hi0 : (i : Int) < (s.size : Int) := by omega
  clear hl hd
  generalize RefOne s i = RO at *
  have h1z : ¬ (i : Int) + 1 < (s.size : Int) := by omega
  have b1 : i ≤ i + 1 := by omega
  have b2 : i + 1 ≤ s.size := by omega
  go_enter Tryd.func18, Tryd.ntmps18
  go_wp2_with fail
  refine (HL.out _ hr.1 hr.2).mono ?_
  rintro e w1 ⟨rfl, ⟨m, rfl⟩⟩
  go_wp2_with fail
  refine (HD.out _ hr.1 hr.2).mono ?_
  rintro e w2 ⟨rfl, ⟨m2, rfl⟩⟩
  go_wp2_with fail
  all_goals
    refine bodyPost_ret (v := .tuple #[.agg #[.int .i64 5, .int .i64 i, .int .i64 0, .string (s.extract i (i + 1))], .int .i64 ((i : Int) + 1), .bool (isOne (s.extract i (i + 1)))]) ?_ rfl ⟨HQ.out, ?_⟩
    · simp [results, Tryd.results18, go_sem, isOne, *]
    · repeat (with_reducible first | exact Below.refl _ _ | apply below_drew | apply pw_below_drewN | apply below_alloc | (refine Below.setCell ?_ (by simp) _))

set_option maxHeartbeats 2000000 in
set_option maxRecDepth 100000 in
theorem rone_one (s : ByteArray) (hs : s.size ≤ 140737488351232) (i : Nat) (h0 : i < s.size) (hl : lowB (bt s i) = false) (hd : digB (bt s i) = false) (h45 : (bt s i == 45) = false) (h34 : (bt s i == 34) = false)
    (h1 : i + 1 < s.size) (hx : isTwo (s.extract i (i + 2)) = false) (w : World) :
    Calls Tryd.prog 18 #[.string s, .int .i64 i] w fun e w' => RefOne s i e ∧ Below w.heap.size w w' := by
  have HQ := Lib.hid (refone_one h0 hl hd h45 h34 (fun h => by rw [hx] at h; exact absurd h.2 (by simp)))
  have HL := Lib.hid (rlow_pred (bt s i))
  rw [hl] at HL
  have HD := Lib.hid (rdigit_pred (bt s i))
  rw [hd] at HD
  have hr := bt_range s i
  have hb0 : ∀ h : i < s.size, (s[i].toNat : Int) = bt s i := fun h => bt_at s i h
  have hi0 : (i : Int) < (s.size : Int) := by omega
  clear hl hd
  generalize RefOne s i = RO at *
  have h1z : (i : Int) + 1 < (s.size : Int) := by omega
  have d1 : i ≤ i + 2 := by omega
  have d2 : i + 2 ≤ s.size := by omega
  unfold isTwo at hx
  simp only [Bool.or_eq_false_iff] at hx
  obtain ⟨⟨⟨t1, t2⟩, t3⟩, t4⟩ := hx
  have b1 : i ≤ i + 1 := by omega
  have b2 : i + 1 ≤ s.size := by omega
  go_enter Tryd.func18, Tryd.ntmps18
  go_wp2_with fail
  refine (HL.out _ hr.1 hr.2).mono ?_
  rintro e w1 ⟨rfl, ⟨m, rfl⟩⟩
  go_wp2_with fail
  refine (HD.out _ hr.1 hr.2).mono ?_
  rintro e w2 ⟨rfl, ⟨m2, rfl⟩⟩
  go_wp2_with fail
  all_goals
    refine bodyPost_ret (v := .tuple #[.agg #[.int .i64 5, .int .i64 i, .int .i64 0, .string (s.extract i (i + 1))], .int .i64 ((i : Int) + 1), .bool (isOne (s.extract i (i + 1)))]) ?_ rfl ⟨HQ.out, ?_⟩
    · simp [results, Tryd.results18, go_sem, isOne, *]
    · repeat (with_reducible first | exact Below.refl _ _ | apply below_drew | apply pw_below_drewN | apply below_alloc | (refine Below.setCell ?_ (by simp) _))

theorem rone_calls (s : ByteArray) (hs : s.size ≤ 140737488351232) (i : Nat) (h0 : i < s.size) (w : World) :
    Calls Tryd.prog 18 #[.string s, .int .i64 i] w fun e w' => RefOne s i e ∧ Below w.heap.size w w' := by
  cases hl : lowB (bt s i) with
  | true => exact rone_name s hs i h0 hl w
  | false =>
    cases hd : digB (bt s i) with
    | true => exact rone_number s hs i h0 hl (Or.inl hd) w
    | false =>
      cases h45 : bt s i == 45 with
      | true => exact rone_number s hs i h0 hl (Or.inr (by simpa using h45)) w
      | false =>
        cases h34 : bt s i == 34 with
        | true => exact rone_text s hs i h0 (by simpa using h34) w
        | false =>
          by_cases h1 : i + 1 < s.size
          · cases hx : isTwo (s.extract i (i + 2)) with
            | true => exact rone_two s hs i h0 hl hd h45 h34 h1 hx w
            | false => exact rone_one s hs i h0 hl hd h45 h34 h1 hx w
          · exact rone_end s hs i h0 hl hd h45 h34 h1 w
end Go.Proofs.YtcpcoegoaciipaaDoor.Tok
