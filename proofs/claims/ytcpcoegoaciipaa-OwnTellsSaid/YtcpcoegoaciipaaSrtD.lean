/- slices.Sort at uint64: partialInsertionSortOrdered. -/
import Derived.Test.YtcpcoegoaciipaaSrtC
import Derived.Sort.WalkA6
import Derived.Deep.CutBlock
import Derived.Deep.DeepCutAuto
namespace Go.Proofs.Ytcpcoegoaciipaa.Srt
open Go.RowKit Go.Sort
set_option linter.unusedVariables false
set_option linter.unusedSimpArgs false

theorem scan_bounds (d : Array Int) (b : Nat) : ∀ k i, b - i ≤ k → i ≤ b → i ≤ scanSorted ltInt d b i ∧ scanSorted ltInt d b i ≤ b
  | 0, i, h, hi => by
    rw [Go.Proofs.scanSorted_stop _ _ _ _ (Or.inl (by omega))]; omega
  | k + 1, i, h, hi => by
    by_cases h1 : i < b
    · cases hl : ltInt d[i]! d[i - 1]! with
      | true => rw [Go.Proofs.scanSorted_stop _ _ _ _ (Or.inr hl)]; omega
      | false =>
        rw [Go.Proofs.scanSorted_go _ _ _ _ h1 hl]
        have := scan_bounds d b k (i + 1) (by omega) (by omega)
        omega
    · rw [Go.Proofs.scanSorted_stop _ _ _ _ (Or.inl h1)]; omega

set_option maxHeartbeats 2000000 in
set_option maxRecDepth 100000 in
theorem partial_calls (g off cap a b : Nat) (d : Array Int) (w : World) (hH : Holds U w g off d) (hab : a < b) (hb : b ≤ d.size) (hsz : d.size < 4611686018427387904) :
    Calls Try.prog 43 #[.slice (some ⟨g, off, none⟩) d.size cap, .int .i64 a, .int .i64 b] w fun e w' =>
      e = .returned (.bool (partialInsertionSort ltInt d a b).2) ∧ St w g off (partialInsertionSort ltInt d a b).1 w' := by
  have HH := Lib.hid hH
  generalize hn : d.size = n at *
  have HN := Lib.hid hn
  have HS := Lib.hid (St.self hH)
  have HR := Lib.hid (show partialInsertionSort ltInt d a b = partialIns ltInt a b 5 (a + 1) d from rfl)
  generalize partialInsertionSort ltInt d a b = r at *
  clear hH hn
  go_enter Try.func43, Try.ntmps43
  go_wp2
  go_loopg [7, 8] 6 (fun kq v7 v8 W => ∃ (i t : Nat) (x : Array Int), v7 = .int .i64 i ∧ v8 = .int .i64 t ∧ a < i ∧ i ≤ b ∧ t ≤ 5 ∧ 5 - t < kq ∧ Hid (x.size = n) ∧ Hid (St w g off x W) ∧ Hid (r = partialIns ltInt a b (5 - t) i x))
  case atStart => exact ⟨a + 1, 0, d, by simp, rfl, by omega, by omega, by omega, by omega, HN, HS, HR⟩
  case round =>
    obtain ⟨i, t, x, rfl, rfl, hai, hib, ht, hk, HX, HW, HO⟩ := hrel
    cases gk with
    | zero => omega
    | succ k =>
    by_cases h5 : t < 5
    · have h5z : (t : Int) < 5 := by omega
      go_upto_block 2 with (fail)
      obtain ⟨G, hG, hcw, hfw⟩ := HW.out.family HH.out HN.out HX.out
      have HG := Lib.hid hG
      clear hG
      obtain ⟨hI1, hI2⟩ := scan_bounds x b (b - i) i (Nat.le_refl _) hib
      generalize hI : scanSorted ltInt x b i = I at *
      have HI := Lib.hid hI
      clear hI
      go_cut [7] (fun s7 wx => s7 = .int .i64 I ∧ Hid (St w g off x wx))
      case first =>
        clear hcw hfw HG G
        go_wp2_with fail
        go_loopg [7] (b + 1) (fun kq v7 W => ∃ (j : Nat), v7 = .int .i64 j ∧ i ≤ j ∧ j ≤ b ∧ b - j < kq ∧ Hid (scanSorted ltInt x b j = I) ∧ Hid (St w g off x W))
        case atStart => exact ⟨i, rfl, Nat.le_refl _, hib, by omega, HI, HW⟩
        case round =>
          obtain ⟨j, rfl, hij, hjb, hkj, HJ, HV⟩ := hrel
          obtain ⟨G, hG, hcw, hfw⟩ := HV.out.family HH.out HN.out HX.out
          have HG := Lib.hid hG
          clear hG
          cases gk with
          | zero => omega
          | succ k2 =>
          by_cases hlt : j < b
          · have hltz : (j : Int) < (b : Int) := by omega
            cases hl : ltInt (G j) (G (j - 1)) with
            | true =>
              have HE := Lib.hid (show j = I by rw [← HJ.out, Go.Proofs.scanSorted_stop _ _ _ _ (Or.inr (by rw [← HG.out, ← HG.out]; exact hl))])
              go_wp2_with fail
              go_quiet (first | (go_at_call 44; first | (refine Calls.quiet_of_same (less_calls _ _ _)) | exact (less_calls _ _ _).mono (fun e w' h => ⟨h.1, _, h.2⟩)))
              go_wp2_with fail
              go_meet
              exact ⟨by rw [HE.out], HV.out.drew _⟩
            | false =>
              have HE := Lib.hid (show scanSorted ltInt x b (j + 1) = I by rw [← HJ.out, Go.Proofs.scanSorted_go _ _ _ _ hlt (by rw [← HG.out, ← HG.out]; exact hl)])
              go_wp2_with fail
              go_quiet (first | (go_at_call 44; first | (refine Calls.quiet_of_same (less_calls _ _ _)) | exact (less_calls _ _ _).mono (fun e w' h => ⟨h.1, _, h.2⟩)))
              go_wp2_with fail
              go_roundg k2
              case measure => omega
              case rel => exact ⟨j + 1, by simp, by omega, by omega, by omega, HE, HV.out.drew _⟩
          · have hltz : decide ((j : Int) < (b : Int)) = false := decide_eq_false (by omega)
            have HE := Lib.hid (show j = I by rw [← HJ.out, Go.Proofs.scanSorted_stop _ _ _ _ (Or.inl hlt)])
            go_wp2_with fail
            go_quiet (first | (go_at_call 44; first | (refine Calls.quiet_of_same (less_calls _ _ _)) | exact (less_calls _ _ _).mono (fun e w' h => ⟨h.1, _, h.2⟩)))
            go_wp2_with fail
            go_meet
            exact ⟨by rw [HE.out], HV.out.drew _⟩
      case rest =>
        obtain ⟨rfl, HV⟩ := hcut
        clear hcw hfw HG G HW
        by_cases hIb : I = b
        · have hq : ((I : Int) == (b : Int)) = true := by rw [hIb]; simp
          have HE := Lib.hid (show r = (x, true) by rw [HO.out, Go.Proofs.pi_true _ _ _ _ _ _ h5 (HI.out.trans hIb)])
          clear hIb
          go_wp2_with fail
          go_ret
          exact ⟨by rw [HE.out]; rfl, by rw [HE.out]; exact HV.out⟩
        · have hq : ((I : Int) == (b : Int)) = false := by rw [beq_eq_false_iff_ne]; omega
          by_cases h50 : b - a < 50
          · have h50z : (b : Int) - (a : Int) < 50 := by omega
            have HE := Lib.hid (show r = (x, false) by rw [HO.out, Go.Proofs.pi_short _ _ _ _ _ _ h5 (by rw [HI.out]; exact hIb) h50])
            clear hIb h50
            go_wp2_with fail
            go_ret
            exact ⟨by rw [HE.out]; rfl, by rw [HE.out]; exact HV.out⟩
          · have h50z : ¬ (b : Int) - (a : Int) < 50 := by omega
            have HE := Lib.hid (show r = partialIns ltInt a b (5 - (t + 1)) I (fixUp ltInt b I (fixDown ltInt a I (swp x I (I - 1)))) by rw [HO.out, Go.Proofs.pi_go _ _ _ _ _ _ _ h5 HI.out hIb h50])
            have HY := Lib.hid (show (swp x I (I - 1)).size = n by rw [size_swp]; exact HX.out)
            have HSW := Lib.hid (fun q => HV.out.swap q I (I - 1) (by have := HX.out; omega) (by have := HX.out; omega))
            obtain ⟨G, hG, hcw, hfw⟩ := HV.out.family HH.out HN.out HX.out
            have HG := Lib.hid hG
            rw [← HG.out, ← HG.out] at HSW
            have hIlt : I < b := by omega
            clear hG HG hIb h50 HO HI HX
            generalize swp x I (I - 1) = y at *
            go_wp2_with fail
            go_region
            all_goals go_upto_if 61 with (fail)
            go_cut [9] (fun s9 wx => Hid (St w g off (fixDown ltInt a I y) wx) ∧ Hid ((fixDown ltInt a I y).size = n))
            case first =>
              clear hcw hfw
              by_cases h2 : 2 ≤ I - a
              · have h2z : 2 ≤ (I : Int) - (a : Int) := by omega
                have HFD := Lib.hid (show fixDown ltInt a I y = shiftDown ltInt (I - 1) y by unfold fixDown; rw [if_pos h2])
                go_wp2_with fail
                go_loopg [9] I (fun kq v9 W => ∃ (j : Nat) (z : Array Int), v9 = .int .i64 j ∧ j < I ∧ j < kq ∧ Hid (z.size = n) ∧ Hid (St w g off z W) ∧ Hid (fixDown ltInt a I y = shiftDown ltInt j z))
                case atStart => exact ⟨I - 1, y, by congr 1; omega, by omega, by omega, HY, HSW.out _, HFD⟩
                case round =>
                  obtain ⟨j, z, rfl, hjI, hkj, HZ, HZW, HZE⟩ := hrel
                  obtain ⟨G2, hG2, hcw, hfw⟩ := HZW.out.family HH.out HN.out HZ.out
                  have HG2 := Lib.hid hG2
                  clear hG2
                  cases gk with
                  | zero => omega
                  | succ k2 =>
                  by_cases hj1 : 1 ≤ j
                  · have hj1z : (1 : Int) ≤ (j : Int) := by omega
                    cases hl : ltInt (G2 j) (G2 (j - 1)) with
                    | true =>
                      have HE2 := Lib.hid (show fixDown ltInt a I y = shiftDown ltInt (j - 1) (swp z j (j - 1)) by rw [HZE.out, Go.Proofs.shiftDown_go _ _ _ hj1 (by rw [← HG2.out, ← HG2.out]; exact hl)])
                      have HS2 := Lib.hid (fun q => HZW.out.swap q j (j - 1) (by have := HZ.out; omega) (by have := HZ.out; omega))
                      rw [← HG2.out, ← HG2.out] at HS2
                      have HZ2 := Lib.hid (show (swp z j (j - 1)).size = n by rw [size_swp]; exact HZ.out)
                      generalize swp z j (j - 1) = z2 at *
                      go_wp2_with fail
                      go_quiet (first | (go_at_call 44; first | (refine Calls.quiet_of_same (less_calls _ _ _)) | exact (less_calls _ _ _).mono (fun e w' h => ⟨h.1, _, h.2⟩)))
                      go_wp2_with fail
                      go_region
                      all_goals go_wp2_with fail
                      go_roundg k2
                      case measure => omega
                      case rel => exact ⟨j - 1, z2, by congr 1; omega, by omega, by omega, HZ2, HS2.out _, HE2⟩
                    | false =>
                      have HE2 := Lib.hid (show fixDown ltInt a I y = z by rw [HZE.out, Go.Proofs.shiftDown_stop _ _ _ (Or.inr (by rw [← HG2.out, ← HG2.out]; exact hl))])
                      go_wp2_with fail
                      go_quiet (first | (go_at_call 44; first | (refine Calls.quiet_of_same (less_calls _ _ _)) | exact (less_calls _ _ _).mono (fun e w' h => ⟨h.1, _, h.2⟩)))
                      go_wp2_with fail
                      go_meet
                      exact ⟨by rw [HE2.out]; exact HZW.out.drew _, by rw [HE2.out]; exact HZ⟩
                  · have hj1z : ¬ (1 : Int) ≤ (j : Int) := by omega
                    have HE2 := Lib.hid (show fixDown ltInt a I y = z by rw [HZE.out, Go.Proofs.shiftDown_stop _ _ _ (Or.inl (by omega))])
                    go_wp2_with fail
                    go_meet
                    exact ⟨by rw [HE2.out]; exact HZW.out, by rw [HE2.out]; exact HZ⟩
              · have h2z : ¬ 2 ≤ (I : Int) - (a : Int) := by omega
                have HFD := Lib.hid (show fixDown ltInt a I y = y by unfold fixDown; rw [if_neg h2])
                go_wp2_with fail
                go_meet
                exact ⟨by rw [HFD.out]; exact HSW.out _, by rw [HFD.out]; exact HY⟩
            case rest =>
              obtain ⟨HD1, HD2⟩ := hcut
              clear hcw hfw HSW HY G
              generalize fixDown ltInt a I y = y1 at *
              go_upto_if 98 with (fail)
              by_cases h2 : 2 ≤ b - I
              · have h2z : 2 ≤ (b : Int) - (I : Int) := by omega
                have HFD := Lib.hid (show fixUp ltInt b I y1 = shiftUp ltInt b (I + 1) y1 by unfold fixUp; rw [if_pos h2])
                go_wp2_with fail
                go_loopg [10] (b + 1) (fun kq v10 W => ∃ (j : Nat) (z : Array Int), v10 = .int .i64 j ∧ I < j ∧ j ≤ b ∧ b - j < kq ∧ Hid (z.size = n) ∧ Hid (St w g off z W) ∧ Hid (fixUp ltInt b I y1 = shiftUp ltInt b j z))
                case atStart => exact ⟨I + 1, y1, by simp, by omega, by omega, by omega, HD2, HD1, HFD⟩
                case round =>
                  obtain ⟨j, z, rfl, hIj, hjb, hkj, HZ, HZW, HZE⟩ := hrel
                  obtain ⟨G2, hG2, hcw, hfw⟩ := HZW.out.family HH.out HN.out HZ.out
                  have HG2 := Lib.hid hG2
                  clear hG2
                  cases gk with
                  | zero => omega
                  | succ k2 =>
                  by_cases hj1 : j < b
                  · have hj1z : (j : Int) < (b : Int) := by omega
                    cases hl : ltInt (G2 j) (G2 (j - 1)) with
                    | true =>
                      have HE2 := Lib.hid (show fixUp ltInt b I y1 = shiftUp ltInt b (j + 1) (swp z j (j - 1)) by rw [HZE.out, Go.Proofs.shiftUp_go _ _ _ _ hj1 (by rw [← HG2.out, ← HG2.out]; exact hl)])
                      have HS2 := Lib.hid (fun q => HZW.out.swap q j (j - 1) (by have := HZ.out; omega) (by have := HZ.out; omega))
                      rw [← HG2.out, ← HG2.out] at HS2
                      have HZ2 := Lib.hid (show (swp z j (j - 1)).size = n by rw [size_swp]; exact HZ.out)
                      generalize swp z j (j - 1) = z2 at *
                      go_wp2_with fail
                      go_quiet (first | (go_at_call 44; first | (refine Calls.quiet_of_same (less_calls _ _ _)) | exact (less_calls _ _ _).mono (fun e w' h => ⟨h.1, _, h.2⟩)))
                      go_wp2_with fail
                      go_region
                      all_goals go_wp2_with fail
                      go_roundg k2
                      case measure => omega
                      case rel => exact ⟨j + 1, z2, by simp, by omega, by omega, by omega, HZ2, HS2.out _, HE2⟩
                    | false =>
                      have HE2 := Lib.hid (show fixUp ltInt b I y1 = z by rw [HZE.out, Go.Proofs.shiftUp_stop _ _ _ _ (Or.inr (by rw [← HG2.out, ← HG2.out]; exact hl))])
                      go_wp2_with fail
                      go_quiet (first | (go_at_call 44; first | (refine Calls.quiet_of_same (less_calls _ _ _)) | exact (less_calls _ _ _).mono (fun e w' h => ⟨h.1, _, h.2⟩)))
                      go_wp2_with fail
                      go_roundg k
                      case measure => omega
                      case rel => exact ⟨I, t + 1, z, rfl, by simp, by omega, by omega, by omega, by omega, HZ, HZW.out.drew _, by rw [← HE2.out]; exact HE⟩
                  · have hj1z : ¬ (j : Int) < (b : Int) := by omega
                    have HE2 := Lib.hid (show fixUp ltInt b I y1 = z by rw [HZE.out, Go.Proofs.shiftUp_stop _ _ _ _ (Or.inl hj1)])
                    go_wp2_with fail
                    go_roundg k
                    case measure => omega
                    case rel => exact ⟨I, t + 1, z, rfl, by simp, by omega, by omega, by omega, by omega, HZ, HZW, by rw [← HE2.out]; exact HE⟩
              · have h2z : ¬ 2 ≤ (b : Int) - (I : Int) := by omega
                have HFD := Lib.hid (show fixUp ltInt b I y1 = y1 by unfold fixUp; rw [if_neg h2])
                go_wp2_with fail
                go_roundg k
                case measure => omega
                case rel => exact ⟨I, t + 1, y1, rfl, by simp, by omega, by omega, by omega, by omega, HD2, HD1, by rw [HFD.out] at HE; exact HE⟩
    · have h5z : ¬ (t : Int) < 5 := by omega
      obtain rfl : t = 5 := by omega
      go_wp2
      go_ret
      refine ⟨?_, ?_⟩
      · rw [HO.out]; rfl
      · rw [HO.out]; exact HW.out
end Go.Proofs.Ytcpcoegoaciipaa.Srt
