/- slices.Sort at uint64: cmp.Less, insertionSortOrdered: what the library's text computes is the plain sort of Derived/Sort. -/
import Derived.Test.YtcpcoegoaciipaaProg
import Derived.Sort.Row
import Derived.Sort.LotA
import Derived.Sort.WalkA
import Derived.WalkKit
import Derived.BigGuard
import Derived.BigCall
import Derived.CellFam
import Derived.Deep.Draws
import Derived.Deep.QuietTactic
import Derived.BigQuiet
import Derived.Lib.Hide
import Derived.Deep.LoopGhost
namespace Go.Proofs.Ytcpcoegoaciipaa.Srt
open Go.RowKit Go.Sort
set_option linter.unusedVariables false
set_option linter.unusedSimpArgs false

/-- A cell of uint64. -/
abbrev U : Int → Value := Value.int .u64

theorem isNaN_calls (x : Int) (w : World) : Calls Try.prog 54 #[U x] w fun e w' => e = .returned (.bool false) ∧ w' = w := by
  go_enter Try.func54, Try.ntmps54
  go_wp2
  go_ret
  exact ⟨by simp, rfl⟩

theorem less_calls (x y : Int) (w : World) : Calls Try.prog 44 #[U x, U y] w fun e w' => e = .returned (.bool (ltInt x y)) ∧ w' = w := by
  go_enter Try.func44, Try.ntmps44
  go_wp2_with (go_at_call 54; refine (isNaN_calls _ _).mono ?_; rintro e w' ⟨rfl, rfl⟩)
  go_ret
  exact ⟨rfl, rfl⟩

/-- The world with the row's cells holding d, some draws on. -/
def St (w : World) (g off : Nat) (d : Array Int) (W : World) : Prop := ∃ n, W = putRow U (Sort.ahead w n) g off d

theorem St.self {w : World} {g off : Nat} {d : Array Int} (h : Holds U w g off d) : St w g off d w := ⟨0, (putRow_self _ _ _ _ _ h).symm⟩
theorem St.drew {w W : World} {g off : Nat} {d : Array Int} (h : St w g off d W) (q : Nat) : St w g off d (W.drewN q) := by
  obtain ⟨m, rfl⟩ := h
  exact ⟨m + q, Go.Proofs.putRow_drewN _ _ _ _ _ _ _⟩
theorem St.holds {w W : World} {g off : Nat} {d0 d : Array Int} (h : St w g off d W) (h0 : Holds U w g off d0) (hs : d.size = d0.size) : Holds U W g off d := by
  obtain ⟨m, rfl⟩ := h
  exact holds_putRow _ _ _ _ _ _ (holds_ahead _ _ _ _ _ _ h0) hs
theorem St.swap {w W : World} {g off : Nat} {d : Array Int} (h : St w g off d W) (q j k : Nat) (hj : j < d.size) (hk : k < d.size) :
    St w g off (swp d j k) (((W.drewN q).setCell ⟨g, off + j, none⟩ (U d[k]!)).setCell ⟨g, off + k, none⟩ (U d[j]!)) := by
  obtain ⟨m, rfl⟩ := h
  exact ⟨m + q, Go.Proofs.swap_worldA _ _ _ _ _ _ _ _ _ hj hk⟩
theorem St.then {w W W' : World} {g off : Nat} {d d' : Array Int} (h : St w g off d W) (h' : St W g off d' W') (hs : d'.size = d.size) : St w g off d' W' := by
  obtain ⟨m, rfl⟩ := h
  obtain ⟨n, rfl⟩ := h'
  refine ⟨m + n, ?_⟩
  rw [putRow_ahead, putRow_putRow _ _ _ _ _ _ hs, ← putRow_ahead, ahead_ahead]

/-- The row's cells as a family that the walk can read: the contents under a name of their own. -/
theorem St.family {w W : World} {g off : Nat} {d0 d : Array Int} {n : Nat} (h : St w g off d W) (h0 : Holds U w g off d0) (hs0 : d0.size = n) (hs : d.size = n) :
    ∃ G : Nat → Int, (∀ t, G t = d[t]!) ∧ (∀ t, t < n → W.cell? ⟨g, off + t, none⟩ = some (U (G t))) ∧ (∀ t, t < n → W.frozen? ⟨g, off + t, none⟩ = false) := by
  have hh := h.holds h0 (hs.trans hs0.symm)
  exact ⟨fun t => d[t]!, fun _ => rfl, fun t ht => (hh t (by omega)).1, fun t ht => (hh t (by omega)).2⟩

set_option maxHeartbeats 1000000 in
theorem ins_calls (g off cap a b : Nat) (d : Array Int) (w : World) (hH : Holds U w g off d) (hab : a ≤ b) (hb : b ≤ d.size) (hsz : d.size < 4611686018427387904) :
    Calls Try.prog 38 #[.slice (some ⟨g, off, none⟩) d.size cap, .int .i64 a, .int .i64 b] w fun e w' =>
      e = .returned (.tuple #[]) ∧ St w g off (Sort.insertionSort ltInt d a b) w' := by
  have HH := Lib.hid hH
  generalize hn : d.size = n at *
  have HN := Lib.hid hn
  have HS := Lib.hid (St.self hH)
  clear hH hn
  go_enter Try.func38, Try.ntmps38
  go_wp2
  go_loopg [6] (b + 1 - a) (fun kq v6 W => ∃ (i : Nat) (x : Array Int), v6 = .int .i64 i ∧ a < i ∧ i ≤ b + 1 ∧ b + 1 - i ≤ kq ∧ Hid (x.size = n) ∧ Hid (St w g off x W) ∧ Hid (insOuter ltInt a b i x = insOuter ltInt a b (a + 1) d))
  case atStart => exact ⟨a + 1, d, by simp, by omega, by omega, by omega, HN, HS, rfl⟩
  case round =>
    obtain ⟨i, x, rfl, hai, hib, hk, HX, HW, HO⟩ := hrel
    by_cases hlt : i < b
    · cases gk with
      | zero => omega
      | succ k =>
      have hltz : (i : Int) < (b : Int) := by omega
      go_wp2
      go_loopg [7] (i + 1) (fun kq v7 W => ∃ (j : Nat) (y : Array Int), v7 = .int .i64 j ∧ a ≤ j ∧ j ≤ i ∧ j < kq ∧ Hid (y.size = n) ∧ Hid (St w g off y W) ∧ Hid (insInner ltInt a j y = insInner ltInt a i x))
      case atStart => exact ⟨i, x, rfl, by omega, by omega, by omega, HX, HW, rfl⟩
      case round =>
        obtain ⟨j, y, rfl, haj, hji, hkj, HY, HV, HI⟩ := hrel
        obtain ⟨G, hG, hcw, hfw⟩ := HV.out.family HH.out HN.out HY.out
        have HG := Lib.hid hG
        clear hG
        cases gk with
        | zero => omega
        | succ k2 =>
        by_cases hja : a < j
        · have hjz : (a : Int) < (j : Int) := by omega
          cases hl : ltInt (G j) (G (j - 1)) with
          | true =>
            go_wp2
            go_quiet (first | (go_at_call 44; refine Calls.quiet_of_same (less_calls _ _ _)))
            go_wp2
            go_region
            all_goals go_wp2
            go_roundg k2
            case measure => omega
            case rel =>
              refine ⟨j - 1, swp y j (j - 1), by congr 1; omega, by omega, by omega, by omega, ?_, ?_, ?_⟩
              · show (swp y j (j - 1)).size = n; rw [size_swp]; exact HY.out
              · rw [HG.out, HG.out]; have := HY.out; exact HV.out.swap _ j (j - 1) (by omega) (by omega)
              · show insInner ltInt a (j - 1) _ = _
                rw [← HI.out, Go.Proofs.insInner_go ltInt a j y hja (by rw [← HG.out, ← HG.out]; exact hl)]
          | false =>
            go_wp2
            go_quiet (first | (go_at_call 44; refine Calls.quiet_of_same (less_calls _ _ _)))
            go_wp2
            go_roundg k
            case measure => omega
            case rel =>
              refine ⟨i + 1, y, by simp, by omega, by omega, by omega, HY, HV.out.drew _, ?_⟩
              show insOuter ltInt a b (i + 1) y = _
              rw [← HO.out, Go.Proofs.insOuter_go _ _ _ _ _ hlt, ← HI.out, Go.Proofs.insInner_stop _ _ _ _ (Or.inr (by rw [← HG.out, ← HG.out]; exact hl))]
        · have hjz : ¬ (a : Int) < (j : Int) := by omega
          go_wp2
          go_quiet (first | (go_at_call 44; refine Calls.quiet_of_same (less_calls _ _ _)))
          go_wp2
          go_roundg k
          case measure => omega
          case rel =>
            refine ⟨i + 1, y, by simp, by omega, by omega, by omega, HY, HV.out.drew _, ?_⟩
            show insOuter ltInt a b (i + 1) y = _
            rw [← HO.out, Go.Proofs.insOuter_go _ _ _ _ _ hlt, ← HI.out, Go.Proofs.insInner_stop _ _ _ _ (Or.inl (by omega))]
    · have hltz : ¬ (i : Int) < (b : Int) := by omega
      go_wp2
      go_end0
      refine ⟨rfl, ?_⟩
      unfold Sort.insertionSort
      rw [← HO.out, Go.Proofs.insOuter_stop _ _ _ _ _ hlt]
      exact HW.out
end Go.Proofs.Ytcpcoegoaciipaa.Srt
