/- slices.Sort at uint64: siftDownOrdered, heapSortOrdered, reverseRangeOrdered. -/
import Derived.Test.YtcpcoegoaciipaaSrtA
import Derived.Sort.LotB
import Derived.Sort.WalkB2
import Derived.Sort.WalkB3
namespace Go.Proofs.Ytcpcoegoaciipaa.Srt
open Go.RowKit Go.Sort
set_option linter.unusedVariables false
set_option linter.unusedSimpArgs false

set_option maxHeartbeats 1000000 in
theorem sift_calls (g off cap lo hi F : Nat) (d : Array Int) (w : World) (hH : Holds U w g off d) (hlo : lo ≤ hi) (hb : F + hi ≤ d.size) (hsz : d.size < 4611686018427387904) :
    Calls Try.prog 49 #[.slice (some ⟨g, off, none⟩) d.size cap, .int .i64 lo, .int .i64 hi, .int .i64 F] w fun e w' =>
      e = .returned (.tuple #[]) ∧ St w g off (siftDown ltInt hi F lo d) w' := by
  have HH := Lib.hid hH
  generalize hn : d.size = n at *
  have HN := Lib.hid hn
  have HS := Lib.hid (St.self hH)
  clear hH hn
  go_enter Try.func49, Try.ntmps49
  go_wp2
  go_loopg [8] (hi + 1) (fun kq v8 W => ∃ (r : Nat) (x : Array Int), v8 = .int .i64 r ∧ r ≤ hi ∧ hi - r < kq ∧ Hid (x.size = n) ∧ Hid (St w g off x W) ∧ Hid (siftDown ltInt hi F r x = siftDown ltInt hi F lo d))
  case atStart => exact ⟨lo, d, rfl, by omega, by omega, HN, HS, rfl⟩
  case round =>
    obtain ⟨r, x, rfl, hr, hk, HX, HW, HO⟩ := hrel
    obtain ⟨G, hG, hcw, hfw⟩ := HW.out.family HH.out HN.out HX.out
    have HG := Lib.hid hG
    clear hG
    cases gk with
    | zero => omega
    | succ k =>
    by_cases h0 : hi ≤ 2 * r + 1
    · have h0z : (hi : Int) ≤ 2 * (r : Int) + 1 := by omega
      go_wp2
      ((try simp only [Exit.inBlock, Exit.then]); first | refine bodyPost_end (results_none rfl _ _ _) rfl ?_ | refine bodyPost_ret (results_none rfl _ _ _) rfl ?_)
      refine ⟨rfl, ?_⟩
      rw [← HO.out, Go.Sort.sd_end _ _ h0]
      exact HW.out
    · have h0z : ¬ (hi : Int) ≤ 2 * (r : Int) + 1 := by omega
      by_cases h1 : 2 * r + 2 < hi
      · have h1z : 2 * (r : Int) + 1 + 1 < (hi : Int) := by omega
        cases hl : ltInt (G (F + 2 * r + 1)) (G (F + 2 * r + 2)) with
        | true =>
          have hl2 : ltInt x[F + (2 * r + 1)]! x[F + (2 * r + 2)]! = true := by have := hl; rw [HG.out, HG.out] at this; exact this
          cases hm : ltInt (G (F + r)) (G (F + 2 * r + 2)) with
          | true =>
            have hm2 : ltInt x[F + r]! x[F + (2 * r + 2)]! = true := by have := hm; rw [HG.out, HG.out] at this; exact this
            have HM := Lib.hid (Go.Sort.sd_right_go (lt := ltInt) (hi := hi) (F := F) (root := r) x h1 hl2 hm2)
            clear hm2 hl2
            go_wp2
            go_quiet (first | (go_at_call 44; first | (refine Calls.quiet_of_same (less_calls _ _ _)) | exact (less_calls _ _ _).mono (fun e w' h => ⟨h.1, _, h.2⟩)))
            go_wp2
            go_quiet (first | (go_at_call 44; first | (refine Calls.quiet_of_same (less_calls _ _ _)) | exact (less_calls _ _ _).mono (fun e w' h => ⟨h.1, _, h.2⟩)))
            go_wp2
            go_region
            all_goals go_wp2
            go_roundg k
            case measure => omega
            case rel =>
              refine ⟨2 * r + 2, swp x (F + r) (F + (2 * r + 2)), by first | rfl | (congr 1; omega), by omega, by omega, ?_, ?_, ?_⟩
              · show (swp x _ _).size = n; rw [size_swp]; exact HX.out
              · have hx := HX.out; rw [HG.out, HG.out]; exact HW.out.swap _ (F + r) (F + (2 * r + 2)) (by omega) (by omega)
              · show siftDown ltInt hi F _ _ = _; rw [← HO.out, HM.out]
          | false =>
            have hm2 : ltInt x[F + r]! x[F + (2 * r + 2)]! = false := by have := hm; rw [HG.out, HG.out] at this; exact this
            have HM := Lib.hid (Go.Sort.sd_right_stop (lt := ltInt) (hi := hi) (F := F) (root := r) x h1 hl2 hm2)
            clear hm2 hl2
            go_wp2
            go_quiet (first | (go_at_call 44; first | (refine Calls.quiet_of_same (less_calls _ _ _)) | exact (less_calls _ _ _).mono (fun e w' h => ⟨h.1, _, h.2⟩)))
            go_wp2
            go_quiet (first | (go_at_call 44; first | (refine Calls.quiet_of_same (less_calls _ _ _)) | exact (less_calls _ _ _).mono (fun e w' h => ⟨h.1, _, h.2⟩)))
            go_wp2
            ((try simp only [Exit.inBlock, Exit.then]); first | refine bodyPost_end (results_none rfl _ _ _) rfl ?_ | refine bodyPost_ret (results_none rfl _ _ _) rfl ?_)
            refine ⟨rfl, ?_⟩
            rw [← HO.out, HM.out]
            exact (HW.out.drew _).drew _
        | false =>
          have h12 : 2 * r + 2 < hi → ltInt x[F + (2 * r + 1)]! x[F + (2 * r + 2)]! = false := fun _ => by have := hl; rw [HG.out, HG.out] at this; exact this
          cases hm : ltInt (G (F + r)) (G (F + 2 * r + 1)) with
          | true =>
            have hm2 : ltInt x[F + r]! x[F + (2 * r + 1)]! = true := by have := hm; rw [HG.out, HG.out] at this; exact this
            have HM := Lib.hid (Go.Sort.sd_left_go (lt := ltInt) (hi := hi) (F := F) (root := r) x (by omega) h12 hm2)
            clear hm2 h12
            go_wp2
            go_quiet (first | (go_at_call 44; first | (refine Calls.quiet_of_same (less_calls _ _ _)) | exact (less_calls _ _ _).mono (fun e w' h => ⟨h.1, _, h.2⟩)))
            go_wp2
            go_quiet (first | (go_at_call 44; first | (refine Calls.quiet_of_same (less_calls _ _ _)) | exact (less_calls _ _ _).mono (fun e w' h => ⟨h.1, _, h.2⟩)))
            go_wp2
            go_region
            all_goals go_wp2
            go_roundg k
            case measure => omega
            case rel =>
              refine ⟨2 * r + 1, swp x (F + r) (F + (2 * r + 1)), by first | rfl | (congr 1; omega), by omega, by omega, ?_, ?_, ?_⟩
              · show (swp x _ _).size = n; rw [size_swp]; exact HX.out
              · have hx := HX.out; rw [HG.out, HG.out]; exact HW.out.swap _ (F + r) (F + (2 * r + 1)) (by omega) (by omega)
              · show siftDown ltInt hi F _ _ = _; rw [← HO.out, HM.out]
          | false =>
            have hm2 : ltInt x[F + r]! x[F + (2 * r + 1)]! = false := by have := hm; rw [HG.out, HG.out] at this; exact this
            have HM := Lib.hid (Go.Sort.sd_left_stop (lt := ltInt) (hi := hi) (F := F) (root := r) x (by omega) h12 hm2)
            clear hm2 h12
            go_wp2
            go_quiet (first | (go_at_call 44; first | (refine Calls.quiet_of_same (less_calls _ _ _)) | exact (less_calls _ _ _).mono (fun e w' h => ⟨h.1, _, h.2⟩)))
            go_wp2
            go_quiet (first | (go_at_call 44; first | (refine Calls.quiet_of_same (less_calls _ _ _)) | exact (less_calls _ _ _).mono (fun e w' h => ⟨h.1, _, h.2⟩)))
            go_wp2
            ((try simp only [Exit.inBlock, Exit.then]); first | refine bodyPost_end (results_none rfl _ _ _) rfl ?_ | refine bodyPost_ret (results_none rfl _ _ _) rfl ?_)
            refine ⟨rfl, ?_⟩
            rw [← HO.out, HM.out]
            exact (HW.out.drew _).drew _
      · have h1z : decide (2 * (r : Int) + 1 + 1 < (hi : Int)) = false := decide_eq_false (by omega)
        have h12 : 2 * r + 2 < hi → ltInt x[F + (2 * r + 1)]! x[F + (2 * r + 2)]! = false := fun h => absurd h h1
        cases hm : ltInt (G (F + r)) (G (F + 2 * r + 1)) with
        | true =>
          have hm2 : ltInt x[F + r]! x[F + (2 * r + 1)]! = true := by have := hm; rw [HG.out, HG.out] at this; exact this
          have HM := Lib.hid (Go.Sort.sd_left_go (lt := ltInt) (hi := hi) (F := F) (root := r) x (by omega) h12 hm2)
          clear hm2 h12
          go_wp2
          go_quiet (first | (go_at_call 44; first | (refine Calls.quiet_of_same (less_calls _ _ _)) | exact (less_calls _ _ _).mono (fun e w' h => ⟨h.1, _, h.2⟩)))
          go_wp2
          go_quiet (first | (go_at_call 44; first | (refine Calls.quiet_of_same (less_calls _ _ _)) | exact (less_calls _ _ _).mono (fun e w' h => ⟨h.1, _, h.2⟩)))
          go_wp2
          go_region
          all_goals go_wp2
          go_roundg k
          case measure => omega
          case rel =>
            refine ⟨2 * r + 1, swp x (F + r) (F + (2 * r + 1)), by first | rfl | (congr 1; omega), by omega, by omega, ?_, ?_, ?_⟩
            · show (swp x _ _).size = n; rw [size_swp]; exact HX.out
            · have hx := HX.out; rw [HG.out, HG.out]; exact HW.out.swap _ (F + r) (F + (2 * r + 1)) (by omega) (by omega)
            · show siftDown ltInt hi F _ _ = _; rw [← HO.out, HM.out]
        | false =>
          have hm2 : ltInt x[F + r]! x[F + (2 * r + 1)]! = false := by have := hm; rw [HG.out, HG.out] at this; exact this
          have HM := Lib.hid (Go.Sort.sd_left_stop (lt := ltInt) (hi := hi) (F := F) (root := r) x (by omega) h12 hm2)
          clear hm2 h12
          go_wp2
          go_quiet (first | (go_at_call 44; first | (refine Calls.quiet_of_same (less_calls _ _ _)) | exact (less_calls _ _ _).mono (fun e w' h => ⟨h.1, _, h.2⟩)))
          go_wp2
          go_quiet (first | (go_at_call 44; first | (refine Calls.quiet_of_same (less_calls _ _ _)) | exact (less_calls _ _ _).mono (fun e w' h => ⟨h.1, _, h.2⟩)))
          go_wp2
          ((try simp only [Exit.inBlock, Exit.then]); first | refine bodyPost_end (results_none rfl _ _ _) rfl ?_ | refine bodyPost_ret (results_none rfl _ _ _) rfl ?_)
          refine ⟨rfl, ?_⟩
          rw [← HO.out, HM.out]
          exact (HW.out.drew _).drew _

set_option maxHeartbeats 1000000 in
theorem reverse_calls (g off cap a b : Nat) (d : Array Int) (w : World) (hH : Holds U w g off d) (hab : a ≤ b) (hb : b ≤ d.size) (hsz : d.size < 4611686018427387904) :
    Calls Try.prog 42 #[.slice (some ⟨g, off, none⟩) d.size cap, .int .i64 a, .int .i64 b] w fun e w' =>
      e = .returned (.tuple #[]) ∧ St w g off (Sort.reverseRange d a b) w' := by
  have HH := Lib.hid hH
  generalize hn : d.size = n at *
  have HN := Lib.hid hn
  have HS := Lib.hid (St.self hH)
  clear hH hn
  go_enter Try.func42, Try.ntmps42
  go_wp2
  go_loopg [6, 7] (b + 1) (fun kq v6 v7 W => ∃ (i j : Nat) (x : Array Int) (jz : Int), v6 = .int .i64 i ∧ v7 = .int .i64 jz ∧ jz ≤ (b : Int) - 1 ∧ -1 ≤ jz ∧ i ≤ b ∧ b - i < kq ∧ j = jz.toNat ∧ Hid (x.size = n) ∧ Hid (St w g off x W) ∧ Hid (reverseLoop i j x = reverseLoop a (b - 1) d))
  case atStart => exact ⟨a, b - 1, d, (b : Int) - 1, rfl, by simp, by omega, by omega, by omega, by omega, by omega, HN, HS, rfl⟩
  case round =>
    obtain ⟨i, j, x, jz, rfl, rfl, hjb, hjm, hi, hk, hj, HX, HW, HO⟩ := hrel
    obtain ⟨G, hG, hcw, hfw⟩ := HW.out.family HH.out HN.out HX.out
    have HG := Lib.hid hG
    clear hG
    cases gk with
    | zero => omega
    | succ k =>
    by_cases h : (i : Int) < jz
    · obtain rfl : jz = (j : Int) := by omega
      have hx : i < j := by omega
      clear hj
      go_wp2
      go_region
      all_goals go_wp2
      go_roundg k
      case measure => omega
      case rel =>
        refine ⟨i + 1, j - 1, swp x i j, (j : Int) - 1, by simp, by simp, by omega, by omega, by omega, by omega, by omega, ?_, ?_, ?_⟩
        · show (swp x _ _).size = n; rw [size_swp]; exact HX.out
        · have hx := HX.out; rw [HG.out, HG.out]; exact HW.out.swap _ i j (by omega) (by omega)
        · show reverseLoop _ _ _ = _
          rw [← HO.out, reverseLoop.eq_def i j x, if_pos hx]
    · have hx : ¬ i < j := by omega
      go_wp2
      ((try simp only [Exit.inBlock, Exit.then]); first | refine bodyPost_end (results_none rfl _ _ _) rfl ?_ | refine bodyPost_ret (results_none rfl _ _ _) rfl ?_)
      refine ⟨rfl, ?_⟩
      unfold Sort.reverseRange
      rw [← HO.out, reverseLoop, if_neg hx]
      exact HW.out
end Go.Proofs.Ytcpcoegoaciipaa.Srt
