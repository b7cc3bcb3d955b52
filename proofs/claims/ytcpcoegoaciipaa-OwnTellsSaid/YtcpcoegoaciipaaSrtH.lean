/- slices.Sort at uint64: choosePivotOrdered. -/
import Derived.Test.YtcpcoegoaciipaaSrtG
namespace Go.Proofs.Ytcpcoegoaciipaa.Srt
open Go.RowKit Go.Sort
set_option linter.unusedVariables false
set_option linter.unusedSimpArgs false

theorem Cn.grow {w W : World} {s : Nat} {t : TypeId} (h : Cn (w.alloc (.cells #[.int .i64 0] t)) w.heap.size s W) : ∃ n os, W = Sort.grow (Sort.ahead w n) os := by
  obtain ⟨m, rfl⟩ := h
  rw [alloc_eq_grow, ahead_grow]
  obtain ⟨os, _, h⟩ := putRow_grow_new (Value.int .i64) (Sort.ahead w m) #[.cells #[.int .i64 0] t] w.heap.size 0 (one s) (Nat.le_refl _)
  exact ⟨m, os, h⟩

theorem Cn.cell {w W : World} {sb s s0 : Nat} (h : Cn w sb s W) (h0 : Holds (Value.int .i64) w sb 0 (one s0)) : W.cell? ⟨sb, 0, none⟩ = some (.int .i64 s) := (one_cell (h.row h0)).1

set_option maxHeartbeats 2000000 in
set_option maxRecDepth 100000 in
theorem choose_calls (g off cap a b n : Nat) (d : Array Int) (w : World) (hn : d.size = n) (hH : Holds U w g off d) (hg : g < w.heap.size) (hab : a < b) (hb : b ≤ n) (hsz : n < 4611686018427387904) :
    Calls Try.prog 41 #[.slice (some ⟨g, off, none⟩) n cap, .int .i64 a, .int .i64 b] w fun e w' =>
      e = .returned (.tuple #[.int .i64 (choosePivot ltInt d a b).1, .int .i64 (hintCode (choosePivot ltInt d a b).2)]) ∧ ∃ n os, w' = Sort.grow (Sort.ahead w n) os := by
  have hne : w.heap.size ≠ g := by omega
  have hS0 : Holds (Value.int .i64) (w.alloc (.cells #[.int .i64 0] 3)) w.heap.size 0 (one 0) := fun j hj => by
    obtain rfl : j = 0 := by simpa using hj
    simp
  have hH0 : Holds U (w.alloc (.cells #[.int .i64 0] 3)) g off d := by rw [alloc_eq_grow]; exact holds_grow _ _ _ _ _ _ hg hH
  have C0 := Lib.hid (Cn.self hS0)
  have MA := Lib.hid (fun (x s : Nat) W hW (h1 : 1 ≤ x) (h2 : x + 1 < n) (h3 : s ≤ 90) => madj_calls g off cap w.heap.size n 0 d _ hn hH0 hS0 hne hsz x s W hW h1 h2 h3)
  have MD := Lib.hid (fun (x y z s : Nat) W hW (h1 : x < n) (h2 : y < n) (h3 : z < n) (h4 : s ≤ 90) => median_calls g off cap w.heap.size n 0 d _ hn hH0 hS0 hne hsz x y z s W hW h1 h2 h3 h4)
  have CC := Lib.hid (fun (s : Nat) W (hW : Cn _ w.heap.size s W) => hW.cell hS0)
  clear hS0 hH0 hH hn hne
  obtain ⟨I, hI⟩ : ∃ I : Nat, I = a + (b - a) / 4 * 1 := ⟨_, rfl⟩
  obtain ⟨J, hJ⟩ : ∃ J : Nat, J = a + (b - a) / 4 * 2 := ⟨_, rfl⟩
  obtain ⟨K, hK⟩ : ∃ K : Nat, K = a + (b - a) / 4 * 3 := ⟨_, rfl⟩
  have eI : ((a : Int) + ((b : Int) - (a : Int)) / 4) = (I : Int) := by omega
  have eJ : ((a : Int) + ((b : Int) - (a : Int)) / 4 * 2) = (J : Int) := by omega
  have eK : ((a : Int) + ((b : Int) - (a : Int)) / 4 * 3) = (K : Int) := by omega
  rw [choosePivot_eq]
  by_cases h8 : b - a ≥ 8
  · have h8z : (8 : Int) ≤ (b : Int) - (a : Int) := by omega
    by_cases h50 : b - a ≥ 50
    · have h50z : (50 : Int) ≤ (b : Int) - (a : Int) := by omega
      have m1 := medianAdjacent_mem ltInt d I 0
      have n1 := medianAdjacent_count ltInt d I 0
      have c1 := fun W hW => MA.out I 0 W hW (by omega) (by omega) (by omega)
      have hr : rawPivot ltInt d a b = median ltInt d (medianAdjacent ltInt d I 0).1 (medianAdjacent ltInt d J (medianAdjacent ltInt d I 0).2).1 (medianAdjacent ltInt d K (medianAdjacent ltInt d J (medianAdjacent ltInt d I 0).2).2).1 (medianAdjacent ltInt d K (medianAdjacent ltInt d J (medianAdjacent ltInt d I 0).2).2).2 := by
        unfold rawPivot; rw [if_pos h8, if_pos h50, ← hI, ← hJ, ← hK]
      rw [hr]
      clear hr
      generalize medianAdjacent ltInt d I 0 = r1 at *
      obtain ⟨i1, s1⟩ := r1
      simp only at m1 n1 c1
      have m2 := medianAdjacent_mem ltInt d J s1
      have n2 := medianAdjacent_count ltInt d J s1
      have c2 := fun W hW => MA.out J s1 W hW (by omega) (by omega) (by omega)
      show Calls _ _ _ _ fun e w' => e = .returned (.tuple #[.int .i64 ((median ltInt d i1 (medianAdjacent ltInt d J s1).1 (medianAdjacent ltInt d K (medianAdjacent ltInt d J s1).2).1 (medianAdjacent ltInt d K (medianAdjacent ltInt d J s1).2).2).1 : Nat), .int .i64 (hintCode (hintOf (median ltInt d i1 (medianAdjacent ltInt d J s1).1 (medianAdjacent ltInt d K (medianAdjacent ltInt d J s1).2).1 (medianAdjacent ltInt d K (medianAdjacent ltInt d J s1).2).2).2))]) ∧ _
      generalize medianAdjacent ltInt d J s1 = r2 at *
      obtain ⟨j1, s2⟩ := r2
      simp only at m2 n2 c2
      have m3 := medianAdjacent_mem ltInt d K s2
      have n3 := medianAdjacent_count ltInt d K s2
      have c3 := fun W hW => MA.out K s2 W hW (by omega) (by omega) (by omega)
      show Calls _ _ _ _ fun e w' => e = .returned (.tuple #[.int .i64 ((median ltInt d i1 j1 (medianAdjacent ltInt d K s2).1 (medianAdjacent ltInt d K s2).2).1 : Nat), .int .i64 (hintCode (hintOf (median ltInt d i1 j1 (medianAdjacent ltInt d K s2).1 (medianAdjacent ltInt d K s2).2).2))]) ∧ _
      generalize medianAdjacent ltInt d K s2 = r3 at *
      obtain ⟨k1, s3⟩ := r3
      simp only at m3 n3 c3
      have c4 := fun W hW => MD.out i1 j1 k1 s3 W hW (by omega) (by omega) (by omega) (by omega)
      have n4 := median_count ltInt d i1 j1 k1 s3
      show Calls _ _ _ _ fun e w' => e = .returned (.tuple #[.int .i64 ((median ltInt d i1 j1 k1 s3).1 : Nat), .int .i64 (hintCode (hintOf (median ltInt d i1 j1 k1 s3).2))]) ∧ _
      generalize median ltInt d i1 j1 k1 s3 = r4 at *
      obtain ⟨p, s⟩ := r4
      show Calls _ _ _ _ fun e w' => e = .returned (.tuple #[.int .i64 (p : Nat), .int .i64 (hintCode (hintOf s))]) ∧ _
      simp only at n4 c4
      have H1 := Lib.hid c1
      have H2 := Lib.hid c2
      have H3 := Lib.hid c3
      have H4 := Lib.hid c4
      have HC := Lib.hid (show hintCode (hintOf s) = if s = 0 then 1 else if s = 12 then 2 else 0 by unfold hintOf; split; rfl; split <;> rfl)
      generalize hintCode (hintOf s) = hc at *
      clear c1 c2 c3 c4 hI hJ hK m1 m2 m3 n1 n2 n3 MA MD
      go_enter Try.func41, Try.ntmps41
      go_wp2_with fail
      refine (H1.out _ C0.out).mono ?_
      rintro e w1 ⟨rfl, h1⟩
      have C1 := Lib.hid h1
      clear h1
      go_wp2_with fail
      refine (H2.out _ C1.out).mono ?_
      rintro e w2 ⟨rfl, h2⟩
      have C2 := Lib.hid h2
      clear h2
      go_wp2_with fail
      refine (H3.out _ C2.out).mono ?_
      rintro e w3 ⟨rfl, h3⟩
      have C3 := Lib.hid h3
      clear h3
      go_wp2_with fail
      refine (H4.out _ C3.out).mono ?_
      rintro e w4 ⟨rfl, h4⟩
      have C4 := Lib.hid h4
      have hcell := CC.out _ _ h4
      clear h4
      by_cases h0 : s = 0
      · have hq : ((s : Int) == 0) = true := by simp [h0]
        have HV := Lib.hid (show hc = 1 by rw [HC.out, if_pos h0])
        clear h0
        go_wp2_with fail
        go_ret2
        exact ⟨by rw [HV.out]; rfl, C4.out.grow⟩
      · have hq : ((s : Int) == 0) = false := by simp [h0]
        by_cases h12 : s = 12
        · have hq2 : ((s : Int) == 12) = true := by simp [h12]
          have HV := Lib.hid (show hc = 2 by rw [HC.out, if_neg h0, if_pos h12])
          clear h12
          go_wp2_with fail
          go_ret2
          exact ⟨by rw [HV.out]; rfl, C4.out.grow⟩
        · have hq2 : ((s : Int) == 12) = false := by rw [beq_eq_false_iff_ne]; omega
          have HV := Lib.hid (show hc = 0 by rw [HC.out, if_neg h0, if_neg h12])
          clear h12
          go_wp2_with fail
          go_ret2
          exact ⟨by rw [HV.out]; rfl, C4.out.grow⟩
    · have h50z : ¬ (50 : Int) ≤ (b : Int) - (a : Int) := by omega
      have hr : rawPivot ltInt d a b = median ltInt d I J K 0 := by
        unfold rawPivot; rw [if_pos h8, if_neg h50, ← hI, ← hJ, ← hK]
      rw [hr]
      clear hr
      have c4 := fun W hW => MD.out I J K 0 W hW (by omega) (by omega) (by omega) (by omega)
      have n4 := median_count ltInt d I J K 0
      generalize median ltInt d I J K 0 = r4 at *
      obtain ⟨p, s⟩ := r4
      show Calls _ _ _ _ fun e w' => e = .returned (.tuple #[.int .i64 (p : Nat), .int .i64 (hintCode (hintOf s))]) ∧ _
      simp only at n4 c4
      have H4 := Lib.hid c4
      have HC := Lib.hid (show hintCode (hintOf s) = if s = 0 then 1 else if s = 12 then 2 else 0 by unfold hintOf; split; rfl; split <;> rfl)
      generalize hintCode (hintOf s) = hc at *
      clear c4 hI hJ hK MA MD
      go_enter Try.func41, Try.ntmps41
      go_wp2_with fail
      refine (H4.out _ C0.out).mono ?_
      rintro e w4 ⟨rfl, h4⟩
      have C4 := Lib.hid h4
      have hcell := CC.out _ _ h4
      clear h4
      by_cases h0 : s = 0
      · have hq : ((s : Int) == 0) = true := by simp [h0]
        have HV := Lib.hid (show hc = 1 by rw [HC.out, if_pos h0])
        clear h0
        go_wp2_with fail
        go_ret2
        exact ⟨by rw [HV.out]; rfl, C4.out.grow⟩
      · have hq : ((s : Int) == 0) = false := by simp [h0]
        have hq2 : ((s : Int) == 12) = false := by rw [beq_eq_false_iff_ne]; omega
        have HV := Lib.hid (show hc = 0 by rw [HC.out, if_neg h0, if_neg (by omega)])
        go_wp2_with fail
        go_ret2
        exact ⟨by rw [HV.out]; rfl, C4.out.grow⟩
  · have h8z : ¬ (8 : Int) ≤ (b : Int) - (a : Int) := by omega
    have hr : rawPivot ltInt d a b = (J, 0) := by
      unfold rawPivot; rw [if_neg h8, ← hJ]
    rw [hr]
    clear hr
    show Calls _ _ _ _ fun e w' => e = .returned (.tuple #[.int .i64 (J : Nat), .int .i64 1]) ∧ _
    clear hI hJ hK MA MD
    have hcell := CC.out _ _ C0.out
    go_enter Try.func41, Try.ntmps41
    go_wp2_with fail
    go_ret2
    exact ⟨rfl, C0.out.grow⟩
end Go.Proofs.Ytcpcoegoaciipaa.Srt
