/- slices.Sort at uint64: xorshift.Next, nextPowerOfTwo, breakPatternsOrdered. -/
import Derived.Test.YtcpcoegoaciipaaSrtH
import Derived.Test.YtcpcoegoaciipaaShelf
import Derived.Sort.Walk7
import Derived.Sort.WalkA14
namespace Go.Proofs.Ytcpcoegoaciipaa.Srt
open Go.RowKit Go.Sort
set_option linter.unusedVariables false
set_option linter.unusedSimpArgs false

set_option maxHeartbeats 1000000 in
theorem next_calls (rb X : Nat) (hX : X < 18446744073709551616) (w : World) (hc : w.cell? ⟨rb, 0, none⟩ = some (U X)) (hf : w.frozen? ⟨rb, 0, none⟩ = false) :
    Calls Try.prog 51 #[.pointer (some ⟨rb, 0, none⟩)] w fun e w' => e = .returned (U (xorNextN X : Nat)) ∧ w' = (w.setCell ⟨rb, 0, none⟩ (U (xorNextN X : Nat))).drewN 3 := by
  obtain ⟨A, hA⟩ : ∃ A : Nat, A = X ^^^ (X * 8192 % 18446744073709551616) := ⟨_, rfl⟩
  obtain ⟨B, hB⟩ : ∃ B : Nat, B = A ^^^ (A / 128) := ⟨_, rfl⟩
  obtain ⟨C, hC⟩ : ∃ C : Nat, C = B ^^^ (B * 131072 % 18446744073709551616) := ⟨_, rfl⟩
  have lA : A < 18446744073709551616 := by rw [hA]; exact Nat.xor_lt_two_pow (n := 64) (by omega) (by omega)
  have lB : B < 18446744073709551616 := by rw [hB]; exact Nat.xor_lt_two_pow (n := 64) (by omega) (by omega)
  have e1 : bits .xor .u64 (X : Int) (IntKind.u64.wrap ((X : Int) * 8192)) = (A : Int) := by
    rw [IntKind.wrap_u64, show ((X : Int) * 8192 % 18446744073709551616) = ((X * 8192 % 18446744073709551616 : Nat) : Int) by omega, bits_xor_u64_nat _ _ hX (by omega), hA]
  have e2 : bits .xor .u64 (A : Int) ((A : Int) / 128) = (B : Int) := by
    rw [show ((A : Int) / 128) = ((A / 128 : Nat) : Int) by omega, bits_xor_u64_nat _ _ lA (by omega), hB]
  have e3 : bits .xor .u64 (B : Int) (IntKind.u64.wrap ((B : Int) * 131072)) = (C : Int) := by
    rw [IntKind.wrap_u64, show ((B : Int) * 131072 % 18446744073709551616) = ((B * 131072 % 18446744073709551616 : Nat) : Int) by omega, bits_xor_u64_nat _ _ lB (by omega), hC]
  have hv : xorNextN X = C := by unfold xorNextN; simp only []; rw [← hA, ← hB, ← hC]
  rw [hv]
  clear hA hB hC hv
  have hss : ∀ v v', (w.setCell ⟨rb, 0, none⟩ v).setCell ⟨rb, 0, none⟩ v' = w.setCell ⟨rb, 0, none⟩ v' := Go.Proofs.setCell_setCell w rb 0
  go_enter Try.func51, Try.ntmps51
  go_wp2
  go_region
  all_goals go_wp2
  all_goals go_region
  all_goals go_wp2
  all_goals go_region
  all_goals go_wp2
  go_ret
  exact ⟨rfl, rfl⟩

theorem blen_calls (n : Nat) (hn : n < 4611686018427387904) (w : World) :
    Calls Try.prog 37 #[U n] w fun e w' => e = .returned (.int .i64 (bitsLen n : Nat)) ∧ w' = w := by
  have h := Try.bits_Len (n : Int) w (by omega) (by omega)
  rwa [Int.toNat_natCast, Go.Proofs.bitLen_eq _ (by omega)] at h

theorem pow_calls (n : Nat) (hn : n < 4611686018427387904) (w : World) :
    Calls Try.prog 50 #[.int .i64 n] w fun e w' => e = .returned (U ((1 <<< bitsLen n : Nat) : Int)) ∧ w' = w := by
  have hk : bitsLen n ≤ 62 := (bitsLen_le_iff n 62).2 (by omega)
  have hp := Go.Proofs.wrap_two_pow (bitsLen n) hk
  go_enter Try.func50, Try.ntmps50
  go_wp2_with (first | (go_at_call 37; refine (blen_calls n hn _).mono ?_; rintro e w' ⟨rfl, rfl⟩))
  go_ret
  exact ⟨rfl, rfl⟩

set_option maxHeartbeats 2000000 in
set_option maxRecDepth 100000 in
theorem break_callsL (g off cap a L n : Nat) (d : Array Int) (w : World) (hn : d.size = n) (hH : Holds U w g off d) (hg : g < w.heap.size) (hb : a + L ≤ n) (hsz : n < 4611686018427387904) (h8 : 8 ≤ L) :
    Calls Try.prog 40 #[.slice (some ⟨g, off, none⟩) n cap, .int .i64 a, .int .i64 ((a + L : Nat) : Int)] w fun e w' =>
      e = .returned (.tuple #[]) ∧ ∃ m os, w' = Sort.grow (putRow U (Sort.ahead w m) g off (breakPatterns d a (a + L))) os := by
  rw [Go.Proofs.breakPatterns_eq d a L h8]
  obtain ⟨M, hM⟩ : ∃ M : Nat, M = 1 <<< bitsLen L := ⟨_, rfl⟩
  have hM1 : 1 ≤ M := by rw [hM, Nat.one_shiftLeft]; exact Nat.two_pow_pos _
  have hM2 : M ≤ 2 * L := by rw [hM, Nat.one_shiftLeft]; exact two_pow_bitsLen_le (by omega)
  have HNP := Lib.hid (show ∀ w, Calls Try.prog 50 #[.int .i64 (L : Int)] w fun e w' => e = .returned (U (M : Int)) ∧ w' = w by rw [hM]; exact fun w => pow_calls L (by omega) w)
  rw [← hM]
  clear hM
  have HH := Lib.hid hH
  have HN := Lib.hid hn
  have HST := Lib.hid (show w.alloc (Obj.cells #[U (L : Int)] 80) = Sort.grow (putRow U (Sort.ahead w 0) g off d) #[Obj.cells #[U ((UInt64.ofNat L).toNat : Int)] 80] by
    rw [show Sort.ahead w 0 = w from rfl, putRow_self _ _ _ _ _ hH, alloc_eq_grow, show (UInt64.ofNat L).toNat = L from by simp; omega])
  clear hH hn
  go_enter Try.func40, Try.ntmps40
  go_wp2_with (first | (go_at_call 50; rw [show ((a : Int) + (L : Int) - (a : Int)) = (L : Int) by omega]; refine (HNP.out _).mono ?_; rintro e w' ⟨rfl, rfl⟩))
  go_loopg [9] 4 (fun kq vi wr => ∃ (t m : Nat) (r : UInt64) (x : Array Int), vi = .int .i64 ((a + L / 4 * 2 - 1 + t : Nat) : Int) ∧ t ≤ 3 ∧ 3 - t < kq ∧ Hid (x.size = n) ∧
      Hid (wr = Sort.grow (putRow U (Sort.ahead w m) g off x) #[Obj.cells #[U (r.toNat : Int)] 80]) ∧
      Hid (Go.Proofs.bpRest a L M (a + L / 4 * 2 - 1) (3 - t) t (r, x) = Go.Proofs.bpRest a L M (a + L / 4 * 2 - 1) 3 0 (UInt64.ofNat L, d)))
  case atStart => exact ⟨0, 0, UInt64.ofNat L, d, by congr 1; omega, by omega, by omega, HN, HST, rfl⟩
  case round =>
    obtain ⟨t, m, r, x, rfl, ht, hk, HX, HW, HR⟩ := hrel
    obtain ⟨R, hRr⟩ : ∃ R : Nat, R = r.toNat := ⟨_, rfl⟩
    have lR : R < 18446744073709551616 := by rw [hRr]; exact r.toNat_lt
    obtain ⟨R', hR'⟩ : ∃ R' : Nat, R' = xorNextN R := ⟨_, rfl⟩
    have lR' : R' < 18446744073709551616 := by rw [hR']; exact xorNextN_lt R lR
    obtain ⟨O, hO⟩ : ∃ O : Nat, O = R' &&& (M - 1) := ⟨_, rfl⟩
    have lO : O ≤ M - 1 := by rw [hO]; exact Nat.and_le_right
    have eAnd : bits .and .u64 (R' : Int) ((M : Int) - 1) = (O : Int) := by
      rw [show ((M : Int) - 1) = ((M - 1 : Nat) : Int) by omega, bits_and_u64_nat _ _ lR' (by omega), hO]
    obtain ⟨G, hG⟩ : ∃ G : Nat → Int, ∀ y, G y = x[y]! := ⟨fun y => x[y]!, fun _ => rfl⟩
    have hz : (putRow U (Sort.ahead w m) g off x).heap.size = w.heap.size := by simp
    have hxs := HX.out.trans HN.out.symm
    have hcw : ∀ y, y < n → wr.cell? ⟨g, off + y, none⟩ = some (U (G y)) := fun y hy => by
      rw [HW.out, cell?_grow _ _ _ (by rw [hz]; exact hg), hG]; exact cell?_putRow _ _ _ _ d x (holds_ahead _ _ _ _ _ _ HH.out) hxs y (by rw [HX.out]; exact hy)
    have hfw : ∀ y, y < n → wr.frozen? ⟨g, off + y, none⟩ = false := fun y hy => by
      rw [HW.out, frozen?_grow _ _ _ (by rw [hz]; exact hg), frozen?_putRow]; exact ((holds_ahead _ _ m _ _ _ HH.out) y (by rw [HN.out]; exact hy)).2
    have hcB : wr.cell? ⟨w.heap.size, 0, none⟩ = some (U (R : Int)) := by rw [HW.out, hRr, ← hz]; exact Go.Proofs.grow_one_cell _ _ _
    have hfB : wr.frozen? ⟨w.heap.size, 0, none⟩ = false := by rw [HW.out, ← hz]; exact Go.Proofs.grow_one_frozen _ _ _
    have HNX := Lib.hid (show Calls Try.prog 51 #[.pointer (some ⟨w.heap.size, 0, none⟩)] wr fun e w' => e = .returned (U (R' : Int)) ∧ w' = (wr.setCell ⟨w.heap.size, 0, none⟩ (U (R' : Int))).drewN 3 by
      rw [hR']; exact next_calls _ R lR wr hcB hfB)
    have HG := Lib.hid hG
    have HNR := Lib.hid (show R' = (xorNext r).toNat ∧ O = (xorNext r).toNat &&& (M - 1) by
      have e : R' = (xorNext r).toNat := by rw [hR', hRr, xorNext_toNat]
      exact ⟨e, by rw [hO, e]⟩)
    clear hG hRr hR' hO hxs
    cases gk with
    | zero => omega
    | succ kk =>
    by_cases h3 : t < 3
    · go_wp2_with (first | (go_at_call 51; refine HNX.out.mono ?_; rintro e w' ⟨rfl, rfl⟩))
      · have hLO : L ≤ O := by omega
        by_cases hEq : a + L / 4 * 2 - 1 + t = a + (O - L)
        all_goals
          go_region
          all_goals go_wp2
          go_roundg kk
          case measure => omega
          case rel =>
            refine ⟨t + 1, m + 4, xorNext r, swp x (a + L / 4 * 2 - 1 + t) (a + (O - L)), by first | rfl | (congr 1 <;> omega), by omega, by omega, by show (swp x _ _).size = n; rw [size_swp]; exact HX.out, ?_, ?_⟩
            · show _ = _
              (try rw [hEq])
              rw [HW.out, HNR.out.1]
              simp only [HG.out]
              exact Go.Proofs.step_world U w m 4 g off x _ _ hg (by have := HX.out; omega) (by have := HX.out; omega) _ _ _
            · show _ = _
              rw [← HR.out, Go.Proofs.bp_step a L M _ t r x (O - L) (by omega) (by rw [← HNR.out.2, if_pos (by omega)])]
      · have hLO : ¬ L ≤ O := by omega
        by_cases hEq : a + L / 4 * 2 - 1 + t = a + O
        all_goals
          go_region
          all_goals go_wp2
          go_roundg kk
          case measure => omega
          case rel =>
            refine ⟨t + 1, m + 4, xorNext r, swp x (a + L / 4 * 2 - 1 + t) (a + O), by first | rfl | (congr 1 <;> omega), by omega, by omega, by show (swp x _ _).size = n; rw [size_swp]; exact HX.out, ?_, ?_⟩
            · show _ = _
              (try rw [hEq])
              rw [HW.out, HNR.out.1]
              simp only [HG.out]
              exact Go.Proofs.step_world U w m 4 g off x _ _ hg (by have := HX.out; omega) (by have := HX.out; omega) _ _ _
            · show _ = _
              rw [← HR.out, Go.Proofs.bp_step a L M _ t r x O (by omega) (by rw [← HNR.out.2, if_neg (by omega)])]
    · obtain rfl : t = 3 := by omega
      go_wp2
      go_end0
      exact ⟨rfl, m, _, by rw [← HR.out, HW.out]; rfl⟩

theorem break_calls (g off cap a b n : Nat) (d : Array Int) (w : World) (hn : d.size = n) (hH : Holds U w g off d) (hg : g < w.heap.size) (hab : a ≤ b) (hb : b ≤ n) (hsz : n < 4611686018427387904) :
    Calls Try.prog 40 #[.slice (some ⟨g, off, none⟩) n cap, .int .i64 a, .int .i64 b] w fun e w' =>
      e = .returned (.tuple #[]) ∧ ∃ m os, w' = Sort.grow (putRow U (Sort.ahead w m) g off (breakPatterns d a b)) os := by
  obtain ⟨L, rfl⟩ : ∃ L, b = a + L := ⟨b - a, by omega⟩
  by_cases h8 : 8 ≤ L
  · exact break_callsL g off cap a L n d w hn hH hg hb hsz h8
  · have hv : breakPatterns d a (a + L) = d := by unfold breakPatterns; simp only [Nat.add_sub_cancel_left]; rw [if_neg h8]
    rw [hv]
    have HST := Lib.hid (show w = Sort.grow (putRow U (Sort.ahead w 0) g off d) #[] by
      rw [grow_empty, show Sort.ahead w 0 = w from rfl, putRow_self _ _ _ _ _ hH])
    clear hH hn
    go_enter Try.func40, Try.ntmps40
    go_wp2
    go_end0
    exact ⟨rfl, 0, #[], HST.out⟩
end Go.Proofs.Ytcpcoegoaciipaa.Srt
