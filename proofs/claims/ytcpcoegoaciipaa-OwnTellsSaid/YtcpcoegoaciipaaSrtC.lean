/- slices.Sort at uint64: heapSortOrdered. -/
import Derived.Test.YtcpcoegoaciipaaSrtB
namespace Go.Proofs.Ytcpcoegoaciipaa.Srt
open Go.RowKit Go.Sort
set_option linter.unusedVariables false
set_option linter.unusedSimpArgs false

theorem sift_at (g off cap lo hi F n : Nat) (d : Array Int) (w : World) (hn : d.size = n) (hH : Holds U w g off d) (hlo : lo ≤ hi) (hb : F + hi ≤ n) (hsz : n < 4611686018427387904) :
    Calls Try.prog 49 #[.slice (some ⟨g, off, none⟩) n cap, .int .i64 lo, .int .i64 hi, .int .i64 F] w fun e w' =>
      e = .returned (.tuple #[]) ∧ St w g off (siftDown ltInt hi F lo d) w' := by
  subst hn; exact sift_calls g off cap lo hi F d w hH hlo hb hsz

set_option maxHeartbeats 1000000 in
theorem heap_callsL (g off cap a L : Nat) (d : Array Int) (w : World) (hH : Holds U w g off d) (hb : a + L ≤ d.size) (hsz : d.size < 4611686018427387904) :
    Calls Try.prog 39 #[.slice (some ⟨g, off, none⟩) d.size cap, .int .i64 a, .int .i64 ((a + L : Nat) : Int)] w fun e w' =>
      e = .returned (.tuple #[]) ∧ St w g off (heapPop ltInt a L (heapBuild ltInt L a ((L - 1) / 2 + 1) d)) w' := by
  have HH := Lib.hid hH
  generalize hn : d.size = n at *
  have HN := Lib.hid hn
  have HS := Lib.hid (St.self hH)
  have HF := Lib.hid (show ((L : Int) - 1).tdiv 2 = ((((L - 1) / 2 + 1 : Nat) : Int)) - 1 by
    have := Go.Proofs.half_start (Nat.le_add_right a L)
    rw [Nat.add_sub_cancel_left] at this
    rw [← this]; congr 1; omega)
  have e1 : ((a : Int) + (L : Int)) - (a : Int) = (L : Int) := by omega
  clear hH hn
  go_enter Try.func39, Try.ntmps39
  go_wp2
  go_loopg [9] ((L - 1) / 2 + 2) (fun kq v9 W => ∃ (k : Nat) (x : Array Int), v9 = .int .i64 ((k : Int) - 1) ∧ k ≤ (L - 1) / 2 + 1 ∧ k < kq ∧ Hid (x.size = n) ∧ Hid (St w g off x W) ∧ Hid (heapBuild ltInt L a k x = heapBuild ltInt L a ((L - 1) / 2 + 1) d))
  case atStart =>
    refine ⟨(L - 1) / 2 + 1, d, ?_, by omega, by omega, HN, HS, rfl⟩
    rw [HF.out]
  case round =>
    obtain ⟨k, x, rfl, hkb, hk, HX, HW, HO⟩ := hrel
    cases gk with
    | zero => omega
    | succ kk =>
    cases k with
    | zero =>
      have HO2 := Lib.hid (show x = heapBuild ltInt L a ((L - 1) / 2 + 1) d from HO.out)
      go_wp2
      go_loopg [10] (L + 1) (fun kq v10 W => ∃ (k : Nat) (x : Array Int), v10 = .int .i64 ((k : Int) - 1) ∧ k ≤ L ∧ k < kq ∧ Hid (x.size = n) ∧ Hid (St w g off x W) ∧ Hid (heapPop ltInt a k x = heapPop ltInt a L (heapBuild ltInt L a ((L - 1) / 2 + 1) d)))
      case atStart => exact ⟨L, x, rfl, by omega, by omega, HX, HW, show heapPop ltInt a L x = _ by rw [HO2.out]⟩
      case round =>
        obtain ⟨k, x, rfl, hkb, hk, HX, HW, HO⟩ := hrel
        cases gk with
        | zero => omega
        | succ kk =>
        cases k with
        | zero =>
          go_wp2
          ((try simp only [Exit.inBlock, Exit.then]); first | refine bodyPost_end (results_none rfl _ _ _) rfl ?_ | refine bodyPost_ret (results_none rfl _ _ _) rfl ?_)
          refine ⟨rfl, ?_⟩
          rw [← HO.out]
          exact HW.out
        | succ k =>
          have e2 : ((k + 1 : Nat) : Int) - 1 = (k : Int) := by omega
          rw [e2]
          obtain ⟨G, hG, hcw, hfw⟩ := HW.out.family HH.out HN.out HX.out
          have HG := Lib.hid hG
          clear hG
          have HSW := Lib.hid (fun q => HW.out.swap q a (a + k) (by have := HX.out; omega) (by have := HX.out; omega))
          have HY := Lib.hid (show (swp x a (a + k)).size = n by rw [size_swp]; exact HX.out)
          have HZ := Lib.hid (size_siftDown (lt := ltInt) k a k 0 (swp x a (a + k)) (by omega))
          have HO2 := Lib.hid (show heapPop ltInt a k (siftDown ltInt k a 0 (swp x a (a + k))) = heapPop ltInt a L (heapBuild ltInt L a ((L - 1) / 2 + 1) d) from HO.out)
          rw [← HG.out, ← HG.out] at HSW
          generalize swp x a (a + k) = y at *
          have fin : ∀ W, St w g off y W → Calls Try.prog 49 #[.slice (some ⟨g, off, none⟩) n cap, .int .i64 (0 : Nat), .int .i64 k, .int .i64 a] W fun e w' => e = .returned (.tuple #[]) ∧ St w g off (siftDown ltInt k a 0 y) w' := fun W hW =>
            (sift_at g off cap 0 k a n y W HY.out (hW.holds HH.out (HY.out.trans HN.out.symm)) (by omega) (by omega) (by omega)).mono fun e w' h => ⟨h.1, hW.then h.2 HZ.out⟩
          have FIN := Lib.hid fin
          clear fin
          rcases Nat.eq_zero_or_pos k with rfl | hk1
          all_goals
            go_wp2_with fail
            go_region
            all_goals go_wp2_with fail
            refine (FIN.out _ (HSW.out _)).mono ?_
            rintro e w2 ⟨rfl, hw2⟩
            have HW2 := Lib.hid hw2
            have HZ2 := Lib.hid (HZ.out.trans HY.out)
            generalize siftDown ltInt _ a 0 y = z at *
            clear hw2
            go_wp2_with fail
            go_roundg kk
            case measure => omega
            case rel => exact ⟨_, z, rfl, by omega, by omega, HZ2, HW2, HO2⟩
    | succ k =>
      have hkz : (0 : Int) ≤ ((k + 1 : Nat) : Int) - 1 := by omega
      have e2 : ((k + 1 : Nat) : Int) - 1 = (k : Int) := by omega
      rw [e2]
      have hhx := HW.out.holds HH.out (HX.out.trans HN.out.symm)
      have HZ := Lib.hid (size_siftDown (lt := ltInt) L a (L - k) k x (Nat.le_refl _))
      go_wp2_with fail
      refine (sift_at g off cap k L a n x _ HX.out hhx (by omega) (by omega) (by omega)).mono ?_
      rintro e w2 ⟨rfl, hw2⟩
      have HW2 := Lib.hid (HW.out.then hw2 HZ.out)
      have HX2 := Lib.hid (HZ.out.trans HX.out)
      have HO2 := Lib.hid (show heapBuild ltInt L a k (siftDown ltInt L a k x) = heapBuild ltInt L a ((L - 1) / 2 + 1) d from HO.out)
      generalize siftDown ltInt L a k x = y at *
      clear hw2 hhx HZ
      go_wp2_with fail
      go_roundg kk
      case measure => omega
      case rel => exact ⟨k, y, rfl, by omega, by omega, HX2, HW2, HO2⟩

theorem heap_calls (g off cap a b n : Nat) (d : Array Int) (w : World) (hn : d.size = n) (hH : Holds U w g off d) (hab : a ≤ b) (hb : b ≤ n) (hsz : n < 4611686018427387904) :
    Calls Try.prog 39 #[.slice (some ⟨g, off, none⟩) n cap, .int .i64 a, .int .i64 b] w fun e w' =>
      e = .returned (.tuple #[]) ∧ St w g off (Sort.heapSort ltInt d a b) w' := by
  subst hn
  have := heap_callsL g off cap a (b - a) d w hH (by omega) hsz
  rw [show a + (b - a) = b by omega] at this
  exact this
theorem ins_at (g off cap a b n : Nat) (d : Array Int) (w : World) (hn : d.size = n) (hH : Holds U w g off d) (hab : a ≤ b) (hb : b ≤ n) (hsz : n < 4611686018427387904) :
    Calls Try.prog 38 #[.slice (some ⟨g, off, none⟩) n cap, .int .i64 a, .int .i64 b] w fun e w' =>
      e = .returned (.tuple #[]) ∧ St w g off (Sort.insertionSort ltInt d a b) w' := by
  subst hn; exact ins_calls g off cap a b d w hH hab hb hsz
theorem reverse_at (g off cap a b n : Nat) (d : Array Int) (w : World) (hn : d.size = n) (hH : Holds U w g off d) (hab : a ≤ b) (hb : b ≤ n) (hsz : n < 4611686018427387904) :
    Calls Try.prog 42 #[.slice (some ⟨g, off, none⟩) n cap, .int .i64 a, .int .i64 b] w fun e w' =>
      e = .returned (.tuple #[]) ∧ St w g off (Sort.reverseRange d a b) w' := by
  subst hn; exact reverse_calls g off cap a b d w hH hab hb hsz
end Go.Proofs.Ytcpcoegoaciipaa.Srt
