/- slices.Sort at uint64: partitionOrdered. Printed by wip/srt/gen.py. -/
import Derived.Test.YtcpcoegoaciipaaSrtE
import Derived.Sort.WalkC4
import Derived.Deep.CutBlock
import Derived.Deep.DeepCutAuto
namespace Go.Proofs.Ytcpcoegoaciipaa.Srt
open Go.RowKit Go.Sort
set_option linter.unusedVariables false
set_option linter.unusedSimpArgs false

set_option maxHeartbeats 4000000 in
set_option maxRecDepth 100000 in
theorem part_calls (g off cap a b pivot n : Nat) (d : Array Int) (w : World) (hn : d.size = n) (hH : Holds U w g off d) (hap : a ≤ pivot) (hpb : pivot < b) (hb : b ≤ n) (hsz : n < 4611686018427387904) :
    Calls Try.prog 46 #[.slice (some ⟨g, off, none⟩) n cap, .int .i64 a, .int .i64 b, .int .i64 pivot] w fun e w' =>
      e = .returned (.tuple #[.int .i64 (partition ltInt d a b pivot).1, .bool (partition ltInt d a b pivot).2.1]) ∧ St w g off (partition ltInt d a b pivot).2.2 w' := by
  have HH := Lib.hid hH
  have HN := Lib.hid hn
  have HSS := St.self hH
  have HRB := Lib.hid (fun i2 j2 (h1 : i2 = scanUp (fun e => ltInt e (swp d a pivot)[a]!) (swp d a pivot) (b - 1) (a + 1)) h2 h3 => Go.Proofs.part_first_break ltInt d a b pivot (i2 := i2) (j2 := j2) rfl rfl rfl h1 h2 h3)
  have HRG := Lib.hid (fun i2 j2 (h1 : i2 = scanUp (fun e => ltInt e (swp d a pivot)[a]!) (swp d a pivot) (b - 1) (a + 1)) h2 h3 => Go.Proofs.part_first_go ltInt d a b pivot (i2 := i2) (j2 := j2) rfl rfl rfl h1 h2 h3)
  have HSW := Lib.hid (fun q => HSS.swap q a pivot (by omega) (by omega))
  have HX0 := Lib.hid (show (swp d a pivot).size = n by rw [size_swp]; exact hn)
  obtain ⟨G0, hG0, hcw0, hfw0⟩ := HSS.family hH hn hn
  have HG0 := Lib.hid hG0
  rw [← HG0.out, ← HG0.out] at HSW
  generalize partition ltInt d a b pivot = r at *
  generalize swp d a pivot = x at *
  clear hH hn HSS hG0 HG0
  rcases Nat.lt_or_eq_of_le hap with hap2 | rfl
  all_goals
    go_enter Try.func46, Try.ntmps46
    go_wp2_with fail
    go_region
    all_goals go_upto_block 0 with (fail)
    clear hcw0 hfw0
    obtain ⟨hbI1, hbI2⟩ := t_up (fun e => ltInt e x[a]!) x (b - 1) (a + 1) (by omega)
    generalize hI : scanUp (fun e => ltInt e x[a]!) x (b - 1) (a + 1) = I at *
    have HI := Lib.hid hI
    clear hI
    go_cut [10] (fun s wx => s = .int .i64 I ∧ Hid (St w g off x wx))
    case first =>
      go_wp2_with fail
      go_loopg [10] ((b - 1) + 2) (fun kq v W => ∃ t : Nat, v = .int .i64 t ∧ (a + 1) ≤ t ∧ t ≤ (b - 1) + 1 ∧ (b - 1) + 1 - t < kq ∧ Hid (scanUp (fun e => ltInt e x[a]!) x (b - 1) t = I) ∧ Hid (St w g off x W))
      case atStart => exact ⟨(a + 1), by first | rfl | (congr 1; omega), by omega, by omega, by omega, HI, HSW.out _⟩
      case round =>
        obtain ⟨t, rfl, hit, htj, hk, HJ, HV⟩ := hrel
        obtain ⟨G, hG, hcw, hfw⟩ := HV.out.family HH.out HN.out HX0.out
        have HG := Lib.hid hG
        clear hG
        cases gk with
        | zero => omega
        | succ k2 =>
        by_cases hlt : t ≤ (b - 1)
        · have hltz : (t : Int) ≤ (b : Int) - 1 := by omega
          cases hl : ltInt (G t) (G a) with
          | true =>
            have HE := Lib.hid (show scanUp (fun e => ltInt e x[a]!) x (b - 1) (t + 1) = I by rw [← HJ.out, Go.Proofs.scanUp_go _ _ _ _ hlt (by show (ltInt x[t]! x[a]!) = true; rw [← HG.out, ← HG.out, hl]; try rfl)])
            go_wp2_with fail
            go_quiet (first | (go_at_call 44; first | (refine Calls.quiet_of_same (less_calls _ _ _)) | exact (less_calls _ _ _).mono (fun e w' h => ⟨h.1, _, h.2⟩)))
            go_wp2_with fail
            go_roundg k2
            case measure => omega
            case rel => exact ⟨t + 1, by first | (congr 1; omega) | (simp; done), by omega, by omega, by omega, HE, HV.out.drew _⟩
          | false =>
            have HE := Lib.hid (show t = I by rw [← HJ.out, Go.Proofs.scanUp_end _ _ _ _ (Or.inr (by show (ltInt x[t]! x[a]!) = false; rw [← HG.out, ← HG.out, hl]; try rfl))])
            go_wp2_with fail
            go_quiet (first | (go_at_call 44; first | (refine Calls.quiet_of_same (less_calls _ _ _)) | exact (less_calls _ _ _).mono (fun e w' h => ⟨h.1, _, h.2⟩)))
            go_wp2_with fail
            go_meet
            exact ⟨by rw [HE.out], HV.out.drew _⟩
        · have hltz : decide ((t : Int) ≤ (b : Int) - 1) = false := decide_eq_false (by omega)
          have HE := Lib.hid (show t = I by rw [← HJ.out, Go.Proofs.scanUp_end _ _ _ _ (Or.inl hlt)])
          go_wp2_with fail
          go_quiet (first | (go_at_call 44; first | (refine Calls.quiet_of_same (less_calls _ _ _)) | exact (less_calls _ _ _).mono (fun e w' h => ⟨h.1, _, h.2⟩)))
          go_wp2_with fail
          go_meet
          exact ⟨by rw [HE.out], HV.out.drew _⟩
    case rest =>
      obtain ⟨rfl, HW1⟩ := hcut
      clear HSW
      go_upto_block 2 with (fail)
      obtain ⟨hbJ1, hbJ2⟩ := t_down (fun e => !ltInt e x[a]!) x I (b - 1) (by omega)
      generalize hJ : scanDown (fun e => !ltInt e x[a]!) x I (b - 1) = J at *
      have HJ := Lib.hid hJ
      clear hJ
      go_cut [11] (fun s wx => s = .int .i64 J ∧ Hid (St w g off x wx))
      case first =>
        go_wp2_with fail
        go_loopg [11] ((b - 1) + 2) (fun kq v W => ∃ t : Nat, v = .int .i64 t ∧ t ≤ (b - 1) ∧ I ≤ t + 1 ∧ t + 1 - I < kq ∧ Hid (scanDown (fun e => !ltInt e x[a]!) x I t = J) ∧ Hid (St w g off x W))
        case atStart => exact ⟨(b - 1), by first | rfl | (congr 1; omega), by omega, by omega, by omega, HJ, HW1⟩
        case round =>
          obtain ⟨t, rfl, hit, htj, hk, HJ, HV⟩ := hrel
          obtain ⟨G, hG, hcw, hfw⟩ := HV.out.family HH.out HN.out HX0.out
          have HG := Lib.hid hG
          clear hG
          cases gk with
          | zero => omega
          | succ k2 =>
          by_cases hlt : I ≤ t
          · have hltz : (I : Int) ≤ (t : Int) := by omega
            cases hl : ltInt (G t) (G a) with
            | true =>
              have HE := Lib.hid (show t = J by rw [← HJ.out, Go.Proofs.scanDown_end _ _ _ _ (Or.inr (by show (!ltInt x[t]! x[a]!) = false; rw [← HG.out, ← HG.out, hl]; try rfl))])
              go_wp2_with fail
              go_quiet (first | (go_at_call 44; first | (refine Calls.quiet_of_same (less_calls _ _ _)) | exact (less_calls _ _ _).mono (fun e w' h => ⟨h.1, _, h.2⟩)))
              go_wp2_with fail
              go_meet
              exact ⟨by rw [HE.out], HV.out.drew _⟩
            | false =>
              have HE := Lib.hid (show scanDown (fun e => !ltInt e x[a]!) x I (t - 1) = J by rw [← HJ.out, Go.Proofs.scanDown_go _ _ _ _ hlt (by omega) (by show (!ltInt x[t]! x[a]!) = true; rw [← HG.out, ← HG.out, hl]; try rfl)])
              go_wp2_with fail
              go_quiet (first | (go_at_call 44; first | (refine Calls.quiet_of_same (less_calls _ _ _)) | exact (less_calls _ _ _).mono (fun e w' h => ⟨h.1, _, h.2⟩)))
              go_wp2_with fail
              go_roundg k2
              case measure => omega
              case rel => exact ⟨t - 1, by first | (congr 1; omega) | (simp; done), by omega, by omega, by omega, HE, HV.out.drew _⟩
          · have hltz : decide ((I : Int) ≤ (t : Int)) = false := decide_eq_false (by omega)
            have HE := Lib.hid (show t = J by rw [← HJ.out, Go.Proofs.scanDown_end _ _ _ _ (Or.inl hlt)])
            go_wp2_with fail
            go_quiet (first | (go_at_call 44; first | (refine Calls.quiet_of_same (less_calls _ _ _)) | exact (less_calls _ _ _).mono (fun e w' h => ⟨h.1, _, h.2⟩)))
            go_wp2_with fail
            go_meet
            exact ⟨by rw [HE.out], HV.out.drew _⟩
      case rest =>
        obtain ⟨rfl, HW2⟩ := hcut
        clear HW1
        have HS2 := Lib.hid (fun (hlt : I < J) q => HW2.out.swap q I J (by have := HX0.out; omega) (by have := HX0.out; omega))
        have HS3 := Lib.hid (fun q => HW2.out.swap q J a (by have := HX0.out; omega) (by have := HX0.out; omega))
        obtain ⟨G, hG, hcw, hfw⟩ := HW2.out.family HH.out HN.out HX0.out
        have HG := Lib.hid hG
        rw [← HG.out, ← HG.out] at HS2
        rw [← HG.out, ← HG.out] at HS3
        by_cases hgt : J < I
        · have hgz : (J : Int) < (I : Int) := by omega
          have HE := Lib.hid (show r = (J, true, swp x J a) from HRB.out I J rfl HJ.out.symm hgt)
          have hJa : a ≤ J := by omega
          generalize swp x J a = x2 at *
          clear hG HG HI HJ HRB HRG HS2
          rcases Nat.lt_or_eq_of_le hJa with hJa | rfl
          all_goals
            go_wp2_with fail
            go_region
            all_goals go_wp2_with fail
            go_ret2
            exact ⟨by rw [HE.out]; try rfl, by rw [HE.out]; exact HS3.out _⟩
        · have hlt : I < J := Go.Proofs.part_scans_lt ltInt a (a + 1) (b - 1) x (by omega) HI.out.symm HJ.out.symm (by omega)
          have hgz : ¬ (J : Int) < (I : Int) := by omega
          have HE := Lib.hid (show r = ((partLoop ltInt a (I + 1) (J - 1) (swp x I J)).1, false, swp (partLoop ltInt a (I + 1) (J - 1) (swp x I J)).2 (partLoop ltInt a (I + 1) (J - 1) (swp x I J)).1 a) from HRG.out I J rfl HJ.out.symm hgt)
          have HS4 := Lib.hid (HS2.out hlt)
          have HX1 := Lib.hid (show (swp x I J).size = n by rw [size_swp]; exact HX0.out)
          generalize swp x I J = x1 at *
          generalize hr2 : partLoop ltInt a (I + 1) (J - 1) x1 = r2 at *
          have HR2 := Lib.hid hr2
          clear hG HG HI HJ HRB HRG HS2 HS3 hr2
          go_wp2_with fail
          go_region
          all_goals go_wp2_with fail
          clear hcw hfw
          go_loopg [10, 11] (b + 1) (fun kq v10 v11 W => ∃ (i j : Nat) (y : Array Int), v10 = .int .i64 i ∧ v11 = .int .i64 j ∧ a < i ∧ i ≤ j + 1 ∧ j < b ∧ j + 1 - i < kq ∧ Hid (y.size = n) ∧ Hid (St w g off y W) ∧ Hid (partLoop ltInt a i j y = r2))
          case atStart => exact ⟨I + 1, J - 1, x1, by simp, by first | (congr 1; omega) | (simp; done), by omega, by omega, by omega, by omega, HX1, HS4.out _, HR2⟩
          case round =>
            obtain ⟨i, j, y, rfl, rfl, hai, hij, hjb, hk, HX, HW, HO⟩ := hrel
            cases gk with
            | zero => omega
            | succ k =>
            clear HS4 HX1 HR2
            go_upto_block 6 with (fail)
            obtain ⟨hbI21, hbI22⟩ := t_up (fun e => ltInt e y[a]!) y j i (by omega)
            generalize hI2 : scanUp (fun e => ltInt e y[a]!) y j i = I2 at *
            have HI2 := Lib.hid hI2
            clear hI2
            go_cut [10] (fun s wx => s = .int .i64 I2 ∧ Hid (St w g off y wx))
            case first =>
              go_wp2_with fail
              go_loopg [10] (j + 2) (fun kq v W => ∃ t : Nat, v = .int .i64 t ∧ i ≤ t ∧ t ≤ j + 1 ∧ j + 1 - t < kq ∧ Hid (scanUp (fun e => ltInt e y[a]!) y j t = I2) ∧ Hid (St w g off y W))
              case atStart => exact ⟨i, by first | rfl | (congr 1; omega), by omega, by omega, by omega, HI2, HW⟩
              case round =>
                obtain ⟨t, rfl, hit, htj, hk, HJ, HV⟩ := hrel
                obtain ⟨G, hG, hcw, hfw⟩ := HV.out.family HH.out HN.out HX.out
                have HG := Lib.hid hG
                clear hG
                cases gk with
                | zero => omega
                | succ k2 =>
                by_cases hlt : t ≤ j
                · have hltz : (t : Int) ≤ (j : Int) := by omega
                  cases hl : ltInt (G t) (G a) with
                  | true =>
                    have HE := Lib.hid (show scanUp (fun e => ltInt e y[a]!) y j (t + 1) = I2 by rw [← HJ.out, Go.Proofs.scanUp_go _ _ _ _ hlt (by show (ltInt y[t]! y[a]!) = true; rw [← HG.out, ← HG.out, hl]; try rfl)])
                    go_wp2_with fail
                    go_quiet (first | (go_at_call 44; first | (refine Calls.quiet_of_same (less_calls _ _ _)) | exact (less_calls _ _ _).mono (fun e w' h => ⟨h.1, _, h.2⟩)))
                    go_wp2_with fail
                    go_roundg k2
                    case measure => omega
                    case rel => exact ⟨t + 1, by first | (congr 1; omega) | (simp; done), by omega, by omega, by omega, HE, HV.out.drew _⟩
                  | false =>
                    have HE := Lib.hid (show t = I2 by rw [← HJ.out, Go.Proofs.scanUp_end _ _ _ _ (Or.inr (by show (ltInt y[t]! y[a]!) = false; rw [← HG.out, ← HG.out, hl]; try rfl))])
                    go_wp2_with fail
                    go_quiet (first | (go_at_call 44; first | (refine Calls.quiet_of_same (less_calls _ _ _)) | exact (less_calls _ _ _).mono (fun e w' h => ⟨h.1, _, h.2⟩)))
                    go_wp2_with fail
                    go_meet
                    exact ⟨by rw [HE.out], HV.out.drew _⟩
                · have hltz : decide ((t : Int) ≤ (j : Int)) = false := decide_eq_false (by omega)
                  have HE := Lib.hid (show t = I2 by rw [← HJ.out, Go.Proofs.scanUp_end _ _ _ _ (Or.inl hlt)])
                  go_wp2_with fail
                  go_quiet (first | (go_at_call 44; first | (refine Calls.quiet_of_same (less_calls _ _ _)) | exact (less_calls _ _ _).mono (fun e w' h => ⟨h.1, _, h.2⟩)))
                  go_wp2_with fail
                  go_meet
                  exact ⟨by rw [HE.out], HV.out.drew _⟩
            case rest =>
              obtain ⟨rfl, HW3⟩ := hcut
              clear HW
              go_upto_block 8 with (fail)
              obtain ⟨hbJ21, hbJ22⟩ := t_down (fun e => !ltInt e y[a]!) y I2 j (by omega)
              generalize hJ2 : scanDown (fun e => !ltInt e y[a]!) y I2 j = J2 at *
              have HJ2 := Lib.hid hJ2
              clear hJ2
              go_cut [11] (fun s wx => s = .int .i64 J2 ∧ Hid (St w g off y wx))
              case first =>
                go_wp2_with fail
                go_loopg [11] (j + 2) (fun kq v W => ∃ t : Nat, v = .int .i64 t ∧ t ≤ j ∧ I2 ≤ t + 1 ∧ t + 1 - I2 < kq ∧ Hid (scanDown (fun e => !ltInt e y[a]!) y I2 t = J2) ∧ Hid (St w g off y W))
                case atStart => exact ⟨j, by first | rfl | (congr 1; omega), by omega, by omega, by omega, HJ2, HW3⟩
                case round =>
                  obtain ⟨t, rfl, hit, htj, hk, HJ, HV⟩ := hrel
                  obtain ⟨G, hG, hcw, hfw⟩ := HV.out.family HH.out HN.out HX.out
                  have HG := Lib.hid hG
                  clear hG
                  cases gk with
                  | zero => omega
                  | succ k2 =>
                  by_cases hlt : I2 ≤ t
                  · have hltz : (I2 : Int) ≤ (t : Int) := by omega
                    cases hl : ltInt (G t) (G a) with
                    | true =>
                      have HE := Lib.hid (show t = J2 by rw [← HJ.out, Go.Proofs.scanDown_end _ _ _ _ (Or.inr (by show (!ltInt y[t]! y[a]!) = false; rw [← HG.out, ← HG.out, hl]; try rfl))])
                      go_wp2_with fail
                      go_quiet (first | (go_at_call 44; first | (refine Calls.quiet_of_same (less_calls _ _ _)) | exact (less_calls _ _ _).mono (fun e w' h => ⟨h.1, _, h.2⟩)))
                      go_wp2_with fail
                      go_meet
                      exact ⟨by rw [HE.out], HV.out.drew _⟩
                    | false =>
                      have HE := Lib.hid (show scanDown (fun e => !ltInt e y[a]!) y I2 (t - 1) = J2 by rw [← HJ.out, Go.Proofs.scanDown_go _ _ _ _ hlt (by omega) (by show (!ltInt y[t]! y[a]!) = true; rw [← HG.out, ← HG.out, hl]; try rfl)])
                      go_wp2_with fail
                      go_quiet (first | (go_at_call 44; first | (refine Calls.quiet_of_same (less_calls _ _ _)) | exact (less_calls _ _ _).mono (fun e w' h => ⟨h.1, _, h.2⟩)))
                      go_wp2_with fail
                      go_roundg k2
                      case measure => omega
                      case rel => exact ⟨t - 1, by first | (congr 1; omega) | (simp; done), by omega, by omega, by omega, HE, HV.out.drew _⟩
                  · have hltz : decide ((I2 : Int) ≤ (t : Int)) = false := decide_eq_false (by omega)
                    have HE := Lib.hid (show t = J2 by rw [← HJ.out, Go.Proofs.scanDown_end _ _ _ _ (Or.inl hlt)])
                    go_wp2_with fail
                    go_quiet (first | (go_at_call 44; first | (refine Calls.quiet_of_same (less_calls _ _ _)) | exact (less_calls _ _ _).mono (fun e w' h => ⟨h.1, _, h.2⟩)))
                    go_wp2_with fail
                    go_meet
                    exact ⟨by rw [HE.out], HV.out.drew _⟩
              case rest =>
                obtain ⟨rfl, HW4⟩ := hcut
                clear HW3
                obtain ⟨G, hG, hcw, hfw⟩ := HW4.out.family HH.out HN.out HX.out
                have HG := Lib.hid hG
                by_cases hgt2 : J2 < I2
                · have hgz2 : (J2 : Int) < (I2 : Int) := by omega
                  have HE2 := Lib.hid (show (J2, y) = r2 by rw [← HO.out, Go.Proofs.part_break ltInt a i j y HI2.out.symm HJ2.out.symm hgt2])
                  have HS5 := Lib.hid (fun q => HW4.out.swap q J2 a (by have := HX.out; omega) (by have := HX.out; omega))
                  rw [← HG.out, ← HG.out] at HS5
                  have HE3 := Lib.hid (show r = (J2, false, swp y J2 a) by rw [HE.out, ← HE2.out])
                  have hJa : a ≤ J2 := by omega
                  generalize swp y J2 a = y2 at *
                  clear hG HG HI2 HJ2 HO HE HE2
                  rcases Nat.lt_or_eq_of_le hJa with hJa | rfl
                  all_goals
                    go_wp2_with fail
                    go_region
                    all_goals go_wp2_with fail
                    go_ret2
                    exact ⟨by rw [HE3.out]; try rfl, by rw [HE3.out]; exact HS5.out _⟩
                · have hlt2 : I2 < J2 := Go.Proofs.part_scans_lt ltInt a i j y (by omega) HI2.out.symm HJ2.out.symm (by omega)
                  have hgz2 : ¬ (J2 : Int) < (I2 : Int) := by omega
                  have HE2 := Lib.hid (show partLoop ltInt a (I2 + 1) (J2 - 1) (swp y I2 J2) = r2 by rw [← HO.out, Go.Proofs.part_go ltInt a i j y HI2.out.symm HJ2.out.symm hgt2])
                  have HS5 := Lib.hid (fun q => HW4.out.swap q I2 J2 (by have := HX.out; omega) (by have := HX.out; omega))
                  rw [← HG.out, ← HG.out] at HS5
                  have HX2 := Lib.hid (show (swp y I2 J2).size = n by rw [size_swp]; exact HX.out)
                  generalize swp y I2 J2 = y2 at *
                  clear hG HG HI2 HJ2 HO
                  go_wp2_with fail
                  go_region
                  all_goals go_wp2_with fail
                  go_roundg k
                  case measure => omega
                  case rel => exact ⟨I2 + 1, J2 - 1, y2, by simp, by first | (congr 1; omega) | (simp; done), by omega, by omega, by omega, by omega, HX2, HS5.out _, HE2⟩
end Go.Proofs.Ytcpcoegoaciipaa.Srt
