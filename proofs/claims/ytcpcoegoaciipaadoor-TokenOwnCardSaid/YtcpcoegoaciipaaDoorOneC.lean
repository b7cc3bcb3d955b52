/- token.one: a number; a text. -/
import Derived.Test.YtcpcoegoaciipaaDoorOneB
namespace Go.Proofs.YtcpcoegoaciipaaDoor.Tok
open Go.RowKit Go.Proofs.YtcpcoegoaciipaaDoorW.PrintWords Go.Proofs.YtcpcoegoaciipaaDoorW.PrintLast Go.Proofs.YtcpcoegoaciipaaDoorW.PrintMore
open Go.Proofs.YtcpcoegoaciipaaDoor.PTokenCuts
set_option linter.unusedVariables false
set_option linter.unusedSimpArgs false

/-- A block of four cells: what each holds, and that it may be written. -/
theorem blk4 {w : World} {b : Nat} {v0 v1 v2 v3 : Value} {T : TypeId} (h : w.heap[b]? = some (.cells #[v0, v1, v2, v3] T (0, 0))) :
    w.cell? ⟨b, 0, none⟩ = some v0 ∧ w.cell? ⟨b, 1, none⟩ = some v1 ∧ w.cell? ⟨b, 2, none⟩ = some v2 ∧ w.cell? ⟨b, 3, none⟩ = some v3 ∧
    w.frozen? ⟨b, 0, none⟩ = false ∧ w.frozen? ⟨b, 1, none⟩ = false ∧ w.frozen? ⟨b, 2, none⟩ = false ∧ w.frozen? ⟨b, 3, none⟩ = false := by
  refine ⟨?_, ?_, ?_, ?_, ?_, ?_, ?_, ?_⟩ <;> simp [World.cell?, World.frozen?, h]

set_option maxHeartbeats 1000000 in
set_option maxRecDepth 100000 in
theorem one_number (s : ByteArray) (hs : s.size ≤ 140737488351232) (h0 : 0 < s.size) (hc : lowB (bt s 0) = false) (hd : digB (bt s 0) = true ∨ bt s 0 = 45) (w : World) (hE : Errs w) :
    Calls Tryd.prog 17 #[.string s] w fun e w' => e = .returned (tokV ⟨3, 0, (numP s).1, ⟨#[]⟩⟩ (numP s).2) ∧ Below w.heap.size w w' := by
  have HL := Lib.hid (lower_pred (bt s 0))
  rw [hc] at HL
  have HD := Lib.hid (digit_pred (bt s 0))
  have hr := bt_range s 0
  have hb0 : ∀ h : 0 < s.size, (s[0].toNat : Int) = bt s 0 := fun h => bt_at s 0 h
  have HT := Lib.hid (show tokV ⟨3, 0, (numP s).1, ⟨#[]⟩⟩ (numP s).2 = .tuple #[.agg #[.int .i64 3, .int .i64 0, .int .i64 (numP s).1, .string ⟨#[]⟩], .int .i64 (numP s).2] from rfl)
  have HC := Lib.hid (number_calls s hs)
  generalize hv : tokV ⟨3, 0, (numP s).1, ⟨#[]⟩⟩ (numP s).2 = v at *
  generalize hn1 : (numP s).1 = n1 at *
  generalize hn2 : (numP s).2 = n2 at *
  clear hv hn1 hn2 hc
  have HE := Lib.hid hE
  clear hE
  have HX := Lib.hid hd
  clear hd
  cases hq : digB (bt s 0) with
  | true =>
    rw [hq] at HD
    clear hq HX
    go_enter Tryd.func17, Tryd.ntmps17
    go_wp2_with fail
    refine (HL.out _ hr.1 hr.2).mono ?_
    rintro e w1 ⟨rfl, ⟨m, rfl⟩⟩
    go_wp2_with fail
    refine (HD.out _ hr.1 hr.2).mono ?_
    rintro e w2 ⟨rfl, ⟨m2, rfl⟩⟩
    go_wp2_with fail
    have hW : ∃ W, W = (w.alloc (Obj.cells #[Value.int IntKind.i64 0, Value.int IntKind.i64 0, Value.int IntKind.i64 0, Value.string ⟨#[]⟩] 36)).drewN (m + m2) := ⟨_, rfl⟩
    obtain ⟨W, hW⟩ := hW
    rw [← hW]
    have hB : Below w.heap.size w W := by rw [hW]; exact pw_below_drewN ((Below.refl _ _).alloc (Nat.le_refl _) _) _
    have hblk : W.heap[w.heap.size]? = some (.cells #[.int .i64 0, .int .i64 0, .int .i64 0, .string ⟨#[]⟩] 36 (0, 0)) := by rw [hW]; exact heap_last w _ _ rfl
    have hWs : w.heap.size < W.heap.size := by rw [hW]; simp
    clear hW
    refine (HC.out _ (HE.out.below hB)).mono ?_
    rintro e w3 ⟨rfl, hb3⟩
    have HB := Lib.hid (below_then hB hB.size hb3)
    have hblk3 := (hb3.block _ hWs).trans hblk
    clear hB hblk hWs hb3
    obtain ⟨k0, k1, k2, k3, f0, f1, f2, f3⟩ := blk4 hblk3
    clear hblk3
    go_wp2_with fail
    refine bodyPost_ret (v := v) ?_ rfl ⟨rfl, ?_⟩
    · rw [HT.out]
      simp [results, Tryd.results17, go_sem, k0, k1, k2, k3, f0, f1, f2, f3]
    · repeat (with_reducible first | exact HB.out | (refine Below.setCell ?_ (by simp) _))
  | false =>
    have hX45 : bt s 0 = 45 := by
      rcases HX.out with h | h
      · rw [hq] at h; exact absurd h (by simp)
      · exact h
    have hx : (bt s 0 == 45) = true := by simp [hX45]
    rw [hq] at HD
    clear hq HX
    clear hX45
    go_enter Tryd.func17, Tryd.ntmps17
    go_wp2_with fail
    refine (HL.out _ hr.1 hr.2).mono ?_
    rintro e w1 ⟨rfl, ⟨m, rfl⟩⟩
    go_wp2_with fail
    refine (HD.out _ hr.1 hr.2).mono ?_
    rintro e w2 ⟨rfl, ⟨m2, rfl⟩⟩
    go_wp2_with fail
    have hW : ∃ W, W = (w.alloc (Obj.cells #[Value.int IntKind.i64 0, Value.int IntKind.i64 0, Value.int IntKind.i64 0, Value.string ⟨#[]⟩] 36)).drewN (m + m2) := ⟨_, rfl⟩
    obtain ⟨W, hW⟩ := hW
    rw [← hW]
    have hB : Below w.heap.size w W := by rw [hW]; exact pw_below_drewN ((Below.refl _ _).alloc (Nat.le_refl _) _) _
    have hblk : W.heap[w.heap.size]? = some (.cells #[.int .i64 0, .int .i64 0, .int .i64 0, .string ⟨#[]⟩] 36 (0, 0)) := by rw [hW]; exact heap_last w _ _ rfl
    have hWs : w.heap.size < W.heap.size := by rw [hW]; simp
    clear hW
    refine (HC.out _ (HE.out.below hB)).mono ?_
    rintro e w3 ⟨rfl, hb3⟩
    have HB := Lib.hid (below_then hB hB.size hb3)
    have hblk3 := (hb3.block _ hWs).trans hblk
    clear hB hblk hWs hb3
    obtain ⟨k0, k1, k2, k3, f0, f1, f2, f3⟩ := blk4 hblk3
    clear hblk3
    go_wp2_with fail
    refine bodyPost_ret (v := v) ?_ rfl ⟨rfl, ?_⟩
    · rw [HT.out]
      simp [results, Tryd.results17, go_sem, k0, k1, k2, k3, f0, f1, f2, f3]
    · repeat (with_reducible first | exact HB.out | (refine Below.setCell ?_ (by simp) _))
end Go.Proofs.YtcpcoegoaciipaaDoor.Tok
