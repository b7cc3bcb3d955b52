/- slices.Sort at uint64, in the form that the print gives its own functions: a row of the caller's own comes back sorted. -/
import Derived.Test.YtcpcoegoaciipaaSrtJ
import Derived.Test.YtcpcoegoaciipaaPx0
import Derived.Test.YtcpcoegoaciipaaWKept
namespace Go.Proofs.Ytcpcoegoaciipaa.Srt
open Go.RowKit Go.Sort
set_option linter.unusedVariables false
set_option linter.unusedSimpArgs false

/-! ### The slice that is nil -/
set_option maxHeartbeats 1000000 in
theorem ins_nil (w : World) : Calls Try.prog 38 #[.slice none 0 0, .int .i64 0, .int .i64 0] w fun e w' => e = .returned (.tuple #[]) ∧ w' = w := by
  go_enter Try.func38, Try.ntmps38
  go_wp2
  go_loopg [6] 1 (fun kq v6 W => v6 = .int .i64 1 ∧ W = w)
  case atStart => exact ⟨by simp, rfl⟩
  case round =>
    obtain ⟨rfl, rfl⟩ := hrel
    go_wp2
    go_end0
    exact ⟨rfl, rfl⟩
set_option maxHeartbeats 1000000 in
set_option maxRecDepth 1000000 in
theorem pdq_nil (w : World) : Calls Try.prog 36 #[.slice none 0 0, .int .i64 0, .int .i64 0, .int .i64 0] w fun e w' => e = .returned (.tuple #[]) ∧ w' = w := by
  go_enter Try.func36, Try.ntmps36
  go_wp2
  go_loopg [1, 2, 3, 8, 9] 1 (fun kq v1 v2 v3 v8 v9 W => v1 = .int .i64 0 ∧ v2 = .int .i64 0 ∧ v3 = .int .i64 0 ∧ v8 = .bool true ∧ v9 = .bool true ∧ W = w)
  case atStart => exact ⟨rfl, rfl, rfl, rfl, rfl, rfl⟩
  case round =>
    obtain ⟨rfl, rfl, rfl, rfl, rfl, rfl⟩ := hrel
    go_wp2_with fail
    refine (ins_nil _).mono ?_
    rintro e w1 ⟨rfl, rfl⟩
    go_wp2_with fail
    ((try simp only [Exit.inBlock, Exit.then]); first | refine bodyPost_end (results_none rfl _ _ _) rfl ?_ | refine bodyPost_ret (results_none rfl _ _ _) rfl ?_)
    exact ⟨rfl, rfl⟩
theorem bits_zero : bitsLen 0 = 0 := rfl
set_option maxHeartbeats 1000000 in
theorem sort_nil (w : World) : Calls Try.prog 30 #[.slice none 0 0] w fun e w' => e = .returned (.tuple #[]) ∧ w' = w := by
  have HL := Lib.hid (fun w => blen_calls 0 (by decide) w)
  go_enter Try.func30, Try.ntmps30
  go_wp2_with fail
  refine (HL.out _).mono ?_
  rintro e w' ⟨rfl, rfl⟩
  rw [bits_zero]
  go_wp2_with fail
  refine (pdq_nil _).mono ?_
  rintro e w' ⟨rfl, rfl⟩
  go_wp2_with fail
  go_end0
  exact ⟨rfl, rfl⟩

/-! ### The world behind it -/
theorem heap_row {w W : World} {g : Nat} {d : Array Int} {c : Array Value} {t : TypeId} {fr : Nat × Nat} (h : At U w g 0 d W) (hg : w.heap[g]? = some (.cells c t fr)) :
    w.heap.size ≤ W.heap.size ∧ (∀ i, i < w.heap.size → i ≠ g → W.heap[i]? = w.heap[i]?) ∧ W.heap[g]? = some (.cells (putCells U 0 d c) t fr) ∧ W.os = w.os ∧ W.tape = w.tape ∧ W.output = w.output := by
  obtain ⟨n, os, rfl⟩ := h
  have hlt : g < w.heap.size := (Array.getElem?_eq_some_iff.1 hg).1
  have hz : (putRow U (Sort.ahead w n) g 0 d).heap = w.heap.modify g (onCells (putCells U 0 d)) := rfl
  refine ⟨by simp, fun i hi hne => ?_, ?_, rfl, rfl, rfl⟩
  · rw [heap_grow_old _ _ (by rw [hz]; simpa using hi), hz, Array.getElem?_modify]
    rw [if_neg (Ne.symm hne)]
  · rw [heap_grow_old _ _ (by rw [hz]; simpa using hlt), hz, Array.getElem?_modify, if_pos rfl, hg]
    rfl

theorem putCells_take (d : Array Int) (c : Array Value) (h : d.size ≤ c.size) : (putCells U 0 d c).toList.take d.size = d.toList.map U := by
  apply List.ext_getElem
  · simp [putCells]; omega
  · intro i h1 h2
    simp only [List.length_map, Array.length_toList] at h2
    rw [List.getElem_take, List.getElem_map, Array.getElem_toList, Array.getElem_toList]
    simp only [putCells, Array.getElem_mapIdx]
    rw [if_pos ⟨Nat.zero_le _, by omega⟩]
    simp [h2]
end Go.Proofs.Ytcpcoegoaciipaa.Srt

namespace Go.Proofs.Ytcpcoegoaciipaa.P
open Go.RowKit Go.Proofs.YtcpcoegoaciipaaW.PrintWords Go.Proofs.YtcpcoegoaciipaaW.PrintLast Go.Proofs.YtcpcoegoaciipaaW.PrintMore
set_option linter.unusedVariables false
set_option linter.unusedSimpArgs false

def slices_Sort_uint64_uint64.f (a0 : List Int) : Option (List Int) := if a0.length < 4611686018427387904 then some (a0.mergeSort (fun x y => decide (x ≤ y))) else none

theorem slices_Sort_uint64_uint64.calls (P0_ : Nat → Prop) (u9000_ : Value) (l0 : List Int) (r : List Int) (w0 w : World) (hB : Below w0.heap.size w0 w) (ho0 : Kd.R (Kd.int .u64) 44 w w0.heap.size P0_ u9000_ l0) (h : slices_Sort_uint64_uint64.f l0 = some r) :
    Calls Try.prog 30 #[u9000_] w fun e w' => e = .returned (.tuple #[]) ∧ Kd.R (Kd.int .u64) 44 w' w0.heap.size (fun k_ => (P0_ k_ ∨ w.heap.size ≤ k_)) u9000_ r ∧ Below w0.heap.size w0 w' ∧ Kept w w' (fun k_ => P0_ k_) := by
  unfold slices_Sort_uint64_uint64.f at h
  split at h
  case isFalse => cases h
  case isTrue hl =>
  simp only [Option.some.injEq] at h
  have hP := ho0.1
  obtain ⟨hlen, hc⟩ := Kd.own_of_R ho0
  rcases hc with ⟨rfl, hn⟩ | ⟨g, cap, cur, rfl, hbase, hg, hcap, hcm, hcs, htake⟩
  · have hnil : l0 = [] := List.length_eq_zero_iff.1 hn
    subst hnil
    have hr : r = [] := by rw [← h]; simp
    subst hr
    refine (Srt.sort_nil w).mono ?_
    rintro e w' ⟨rfl, rfl⟩
    exact ⟨rfl, Kd.R_nil _ _ _ _ _, hB, Kept.refl _ _⟩
  · have hlt : g < w.heap.size := (Array.getElem?_eq_some_iff.1 hg).1
    simp only [Nat.mul_one] at hcs htake hlen
    have hH : Sort.Holds Srt.U w g 0 l0.toArray := by
      intro j hj
      have hj' : j < l0.length := by simpa using hj
      refine ⟨?_, by simp [World.frozen?, hg]⟩
      have e1 : (cur.toList.take l0.length)[j]? = (encs (Value.int .u64) l0)[j]? := by rw [htake]
      rw [List.getElem?_take_of_lt hj'] at e1
      have e2 : cur[j]? = some (Srt.U l0[j]) := by
        rw [← Array.getElem?_toList, e1]
        simp [encs, hj']
      rw [Nat.zero_add]
      have e3 := cell_of_row w g j cur 44 (0, 0) hg
      rw [e3, e2]
      simp [hj']
    refine (Srt.sort_calls g 0 cap l0.length l0.toArray w (by simp) hH hlt hl).mono ?_
    rintro e w' ⟨rfl, hat⟩
    have hs : (Sort.sort Sort.ltInt l0.toArray).toList = r := by rw [Sort.sortInt l0]; exact h
    have hsz : (Sort.sort Sort.ltInt l0.toArray).size = l0.length := by
      rw [← Array.length_toList, hs, ← h, List.length_mergeSort]
    have hrl : r.length = l0.length := by rw [← h, List.length_mergeSort]
    obtain ⟨q1, q2, q3, q4, q5, q6⟩ := Srt.heap_row hat hg
    refine ⟨rfl, ?_, ⟨q4.trans hB.os, q5.trans hB.tape, q6.trans hB.output, Nat.le_trans hB.size q1, fun i hi => ?_⟩, ⟨q1, fun i hi hne => ?_⟩⟩
    · rw [show (Value.slice (some ⟨g, 0, none⟩) l0.length cap) = .slice (some ⟨g, 0, none⟩) r.length cap by rw [hrl]]
      refine Kd.R_of_own ⟨by simp [encs], Or.inr ⟨g, cap, _, rfl, hbase, q3, by omega, hcm, ?_, ?_⟩⟩ (fun k hk => Or.inl (hP k hk))
      · simp [Sort.putCells, hcs]
      · have := Srt.putCells_take (Sort.sort Sort.ltInt l0.toArray) cur (by rw [hsz, hcs]; exact hcap)
        rw [hsz, hs] at this
        rw [Nat.mul_one, hrl]
        exact this
    · rw [q2 i (Nat.lt_of_lt_of_le hi hB.size) (by omega)]
      exact hB.block i hi
    · refine q2 i hi (fun e => hne ?_)
      subst e
      exact hP _ rfl
end Go.Proofs.Ytcpcoegoaciipaa.P
