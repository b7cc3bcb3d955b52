/- slices.Sort at uint64: partitionEqualOrdered. Printed by wip/srt/gen.py. -/
import Derived.Test.YtcpcoegoaciipaaSrtD
import Derived.Sort.WalkC
import Derived.Deep.CutBlock
import Derived.Deep.DeepCutAuto
namespace Go.Proofs.Ytcpcoegoaciipaa.Srt
open Go.RowKit Go.Sort
set_option linter.unusedVariables false
set_option linter.unusedSimpArgs false

theorem t_up (p : Int → Bool) (d : Array Int) (j i : Nat) (h : i ≤ j + 1) : i ≤ scanUp p d j i ∧ scanUp p d j i ≤ j + 1 :=
  ⟨(scanUp_spec p d j _ i rfl).1, (scanUp_spec p d j _ i rfl).2.1 h⟩
theorem t_down (p : Int → Bool) (d : Array Int) (i j : Nat) (h : i ≤ j + 1) : scanDown p d i j ≤ j ∧ i ≤ scanDown p d i j + 1 :=
  ⟨(scanDown_spec p d i j).1, (scanDown_spec p d i j).2.1 h⟩

set_option maxHeartbeats 2000000 in
set_option maxRecDepth 100000 in
theorem peq_calls (g off cap a b pivot n : Nat) (d : Array Int) (w : World) (hn : d.size = n) (hH : Holds U w g off d) (hap : a ≤ pivot) (hpb : pivot < b) (hb : b ≤ n) (hsz : n < 4611686018427387904) :
    Calls Try.prog 45 #[.slice (some ⟨g, off, none⟩) n cap, .int .i64 a, .int .i64 b, .int .i64 pivot] w fun e w' =>
      e = .returned (.int .i64 (partitionEqual ltInt d a b pivot).1) ∧ St w g off (partitionEqual ltInt d a b pivot).2 w' := by
  have HH := Lib.hid hH
  have HN := Lib.hid hn
  have HSS := St.self hH
  have HR := Lib.hid (show partitionEqual ltInt d a b pivot = partEqLoop ltInt a (a + 1) (b - 1) (swp d a pivot) from rfl)
  have HSW := Lib.hid (fun q => HSS.swap q a pivot (by omega) (by omega))
  have HX0 := Lib.hid (show (swp d a pivot).size = n by rw [size_swp]; exact hn)
  obtain ⟨G0, hG0, hcw0, hfw0⟩ := HSS.family hH hn hn
  have HG0 := Lib.hid hG0
  rw [← HG0.out, ← HG0.out] at HSW
  generalize partitionEqual ltInt d a b pivot = r at *
  generalize swp d a pivot = x0 at *
  clear hH hn HSS hG0 HG0
  rcases Nat.lt_or_eq_of_le hap with hap2 | rfl
  all_goals
    go_enter Try.func45, Try.ntmps45
    go_wp2_with fail
    go_region
    all_goals go_wp2_with fail
    clear hcw0 hfw0
    go_loopg [9, 10] (b + 1) (fun kq v9 v10 W => ∃ (i j : Nat) (x : Array Int), v9 = .int .i64 i ∧ v10 = .int .i64 j ∧ a < i ∧ i ≤ j + 1 ∧ j < b ∧ j + 1 - i < kq ∧ Hid (x.size = n) ∧ Hid (St w g off x W) ∧ Hid (r = partEqLoop ltInt a i j x))
    case atStart => exact ⟨a + 1, b - 1, x0, by simp, by first | (congr 1; omega) | (simp; done), by omega, by omega, by omega, by omega, HX0, HSW.out _, HR⟩
    case round =>
      obtain ⟨i, j, x, rfl, rfl, hai, hij, hjb, hk, HX, HW, HO⟩ := hrel
      cases gk with
      | zero => omega
      | succ k =>
      clear HSW HX0
      go_upto_block 2 with (fail)
      obtain ⟨hbI1, hbI2⟩ := t_up (fun e => !ltInt x[a]! e) x j i (by omega)
      generalize hI : scanUp (fun e => !ltInt x[a]! e) x j i = I at *
      have HI := Lib.hid hI
      clear hI
      go_cut [9] (fun s wx => s = .int .i64 I ∧ Hid (St w g off x wx))
      case first =>
        go_wp2_with fail
        go_loopg [9] (j + 2) (fun kq v W => ∃ t : Nat, v = .int .i64 t ∧ i ≤ t ∧ t ≤ j + 1 ∧ j + 1 - t < kq ∧ Hid (scanUp (fun e => !ltInt x[a]! e) x j t = I) ∧ Hid (St w g off x W))
        case atStart => exact ⟨i, rfl, by omega, by omega, by omega, HI, HW⟩
        case round =>
          obtain ⟨t, rfl, hit, htj, hk, HJ, HV⟩ := hrel
          obtain ⟨G, hG, hcw, hfw⟩ := HV.out.family HH.out HN.out HX.out
          have HG := Lib.hid hG
          clear hG
          cases gk with
          | zero => omega
          | succ k2 =>
          by_cases hlt : t ≤ j
          · have hltz : (t : Int) ≤ (j : Int) := by omega
            cases hl : ltInt (G a) (G t) with
            | true =>
              have HE := Lib.hid (show t = I by rw [← HJ.out, Go.Proofs.scanUp_end _ _ _ _ (Or.inr (by show (!ltInt x[a]! x[t]!) = false; rw [← HG.out, ← HG.out, hl]; try rfl))])
              go_wp2_with fail
              go_quiet (first | (go_at_call 44; first | (refine Calls.quiet_of_same (less_calls _ _ _)) | exact (less_calls _ _ _).mono (fun e w' h => ⟨h.1, _, h.2⟩)))
              go_wp2_with fail
              go_meet
              exact ⟨by rw [HE.out], HV.out.drew _⟩
            | false =>
              have HE := Lib.hid (show scanUp (fun e => !ltInt x[a]! e) x j (t + 1) = I by rw [← HJ.out, Go.Proofs.scanUp_go _ _ _ _ hlt (by show (!ltInt x[a]! x[t]!) = true; rw [← HG.out, ← HG.out, hl]; try rfl)])
              go_wp2_with fail
              go_quiet (first | (go_at_call 44; first | (refine Calls.quiet_of_same (less_calls _ _ _)) | exact (less_calls _ _ _).mono (fun e w' h => ⟨h.1, _, h.2⟩)))
              go_wp2_with fail
              go_roundg k2
              case measure => omega
              case rel => exact ⟨t + 1, by first | (congr 1; omega) | (simp; done), by omega, by omega, by omega, HE, HV.out.drew _⟩
          · have hltz : decide ((t : Int) ≤ (j : Int)) = false := decide_eq_false (by omega)
            have HE := Lib.hid (show t = I by rw [← HJ.out, Go.Proofs.scanUp_end _ _ _ _ (Or.inl hlt)])
            go_wp2_with fail
            go_quiet (first | (go_at_call 44; first | (refine Calls.quiet_of_same (less_calls _ _ _)) | exact (less_calls _ _ _).mono (fun e w' h => ⟨h.1, _, h.2⟩)))
            go_wp2_with fail
            go_meet
            exact ⟨by rw [HE.out], HV.out.drew _⟩
      case rest =>
        obtain ⟨rfl, HW1⟩ := hcut
        clear HW
        go_upto_block 4 with (fail)
        obtain ⟨hbJ1, hbJ2⟩ := t_down (fun e => ltInt x[a]! e) x I j (by omega)
        generalize hJ : scanDown (fun e => ltInt x[a]! e) x I j = J at *
        have HJ := Lib.hid hJ
        clear hJ
        go_cut [10] (fun s wx => s = .int .i64 J ∧ Hid (St w g off x wx))
        case first =>
          go_wp2_with fail
          go_loopg [10] (j + 2) (fun kq v W => ∃ t : Nat, v = .int .i64 t ∧ t ≤ j ∧ I ≤ t + 1 ∧ t + 1 - I < kq ∧ Hid (scanDown (fun e => ltInt x[a]! e) x I t = J) ∧ Hid (St w g off x W))
          case atStart => exact ⟨j, rfl, by omega, by omega, by omega, HJ, HW1⟩
          case round =>
            obtain ⟨t, rfl, hit, htj, hk, HJ, HV⟩ := hrel
            obtain ⟨G, hG, hcw, hfw⟩ := HV.out.family HH.out HN.out HX.out
            have HG := Lib.hid hG
            clear hG
            cases gk with
            | zero => omega
            | succ k2 =>
            by_cases hlt : I ≤ t
            · have hltz : (I : Int) ≤ (t : Int) := by omega
              cases hl : ltInt (G a) (G t) with
              | true =>
                have HE := Lib.hid (show scanDown (fun e => ltInt x[a]! e) x I (t - 1) = J by rw [← HJ.out, Go.Proofs.scanDown_go _ _ _ _ hlt (by omega) (by show (ltInt x[a]! x[t]!) = true; rw [← HG.out, ← HG.out, hl]; try rfl)])
                go_wp2_with fail
                go_quiet (first | (go_at_call 44; first | (refine Calls.quiet_of_same (less_calls _ _ _)) | exact (less_calls _ _ _).mono (fun e w' h => ⟨h.1, _, h.2⟩)))
                go_wp2_with fail
                go_roundg k2
                case measure => omega
                case rel => exact ⟨t - 1, by first | (congr 1; omega) | (simp; done), by omega, by omega, by omega, HE, HV.out.drew _⟩
              | false =>
                have HE := Lib.hid (show t = J by rw [← HJ.out, Go.Proofs.scanDown_end _ _ _ _ (Or.inr (by show (ltInt x[a]! x[t]!) = false; rw [← HG.out, ← HG.out, hl]; try rfl))])
                go_wp2_with fail
                go_quiet (first | (go_at_call 44; first | (refine Calls.quiet_of_same (less_calls _ _ _)) | exact (less_calls _ _ _).mono (fun e w' h => ⟨h.1, _, h.2⟩)))
                go_wp2_with fail
                go_meet
                exact ⟨by rw [HE.out], HV.out.drew _⟩
            · have hltz : decide ((I : Int) ≤ (t : Int)) = false := decide_eq_false (by omega)
              have HE := Lib.hid (show t = J by rw [← HJ.out, Go.Proofs.scanDown_end _ _ _ _ (Or.inl hlt)])
              go_wp2_with fail
              go_quiet (first | (go_at_call 44; first | (refine Calls.quiet_of_same (less_calls _ _ _)) | exact (less_calls _ _ _).mono (fun e w' h => ⟨h.1, _, h.2⟩)))
              go_wp2_with fail
              go_meet
              exact ⟨by rw [HE.out], HV.out.drew _⟩
        case rest =>
          obtain ⟨rfl, HW2⟩ := hcut
          clear HW1
          by_cases hgt : J < I
          · have hgz : (J : Int) < (I : Int) := by omega
            have HE := Lib.hid (show r = (I, x) by rw [HO.out, Go.Proofs.partEq_break ltInt a i j x HI.out.symm HJ.out.symm hgt])
            go_wp2_with fail
            go_ret
            exact ⟨by rw [HE.out]; try rfl, by rw [HE.out]; exact HW2.out⟩
          · have hlt : I < J := Go.Proofs.scans_lt ltInt a i j x (by omega) HI.out.symm HJ.out.symm (by omega)
            have hgz : ¬ (J : Int) < (I : Int) := by omega
            have HE := Lib.hid (show r = partEqLoop ltInt a (I + 1) (J - 1) (swp x I J) by rw [HO.out, Go.Proofs.partEq_go ltInt a i j x HI.out.symm HJ.out.symm hgt])
            have HS2 := Lib.hid (fun q => HW2.out.swap q I J (by have := HX.out; omega) (by have := HX.out; omega))
            have HX2 := Lib.hid (show (swp x I J).size = n by rw [size_swp]; exact HX.out)
            obtain ⟨G, hG, hcw, hfw⟩ := HW2.out.family HH.out HN.out HX.out
            have HG := Lib.hid hG
            rw [← HG.out, ← HG.out] at HS2
            generalize swp x I J = x2 at *
            clear hG HG HI HJ HO
            go_wp2_with fail
            go_region
            all_goals go_wp2_with fail
            go_roundg k
            case measure => omega
            case rel => exact ⟨I + 1, J - 1, x2, by simp, by first | (congr 1; omega) | (simp; done), by omega, by omega, by omega, by omega, HX2, HS2.out _, HE⟩
end Go.Proofs.Ytcpcoegoaciipaa.Srt
