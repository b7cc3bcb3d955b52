/- slices.Compact at int, in the form that the print gives its own functions: out of the shelf's contract. -/
import Derived.Test.YtcpcoegoaciipaaPx0
import Derived.Test.YtcpcoegoaciipaaShelf
import Derived.Test.YtcpcoegoaciipaaWKept
import Derived.Sort.Row
namespace Go.Proofs.Ytcpcoegoaciipaa.P
open Go.RowKit Go.Proofs.YtcpcoegoaciipaaW.PrintWords Go.Proofs.YtcpcoegoaciipaaW.PrintLast Go.Proofs.YtcpcoegoaciipaaW.PrintMore
set_option linter.unusedVariables false
set_option linter.unusedSimpArgs false

abbrev I64 : Int → Value := Value.int .i64
def slices_Compact_int_int.f (a0 : List Int) : Option (List Int) := if a0.length < 4611686018427387904 then some (Lib.compact a0) else none

theorem row_heap {w : World} {g q : Nat} {d : Array Int} {c : Array Value} {t : TypeId} {fr : Nat × Nat} (hg : w.heap[g]? = some (.cells c t fr)) :
    (Sort.putRow I64 (Sort.ahead w q) g 0 d).heap.size = w.heap.size ∧ (∀ i, i ≠ g → (Sort.putRow I64 (Sort.ahead w q) g 0 d).heap[i]? = w.heap[i]?) ∧ (Sort.putRow I64 (Sort.ahead w q) g 0 d).heap[g]? = some (.cells (Sort.putCells I64 0 d c) t fr) := by
  have hz : (Sort.putRow I64 (Sort.ahead w q) g 0 d).heap = w.heap.modify g (Sort.onCells (Sort.putCells I64 0 d)) := rfl
  refine ⟨by rw [hz]; simp, fun i hne => ?_, ?_⟩
  · rw [hz, Array.getElem?_modify, if_neg (Ne.symm hne)]
  · rw [hz, Array.getElem?_modify, if_pos rfl, hg]; rfl

theorem cells_take (d : Array Int) (c : Array Value) (n : Nat) (hn : n ≤ d.size) (h : d.size ≤ c.size) : (Sort.putCells I64 0 d c).toList.take n = (d.toList.take n).map I64 := by
  apply List.ext_getElem
  · simp [Sort.putCells]; omega
  · intro i h1 h2
    simp only [List.length_map, List.length_take, Array.length_toList] at h2
    rw [List.getElem_take, List.getElem_map, List.getElem_take, Array.getElem_toList, Array.getElem_toList]
    simp only [Sort.putCells, Array.getElem_mapIdx]
    rw [if_pos ⟨Nat.zero_le _, by omega⟩]
    have : i < d.size := by omega
    simp [this]

theorem slices_Compact_int_int.calls (P0_ : Nat → Prop) (u9000_ : Value) (l0 : List Int) (r : List Int) (w0 w : World) (hB : Below w0.heap.size w0 w) (ho0 : Kd.R (Kd.int .i64) 3 w w0.heap.size P0_ u9000_ l0) (h : slices_Compact_int_int.f l0 = some r) :
    Calls Try.prog 19 #[u9000_] w fun e w' => ∃ v0_ : Value, e = .returned (v0_) ∧ Kd.R (Kd.int .i64) 3 w' w0.heap.size (fun k_ => (P0_ k_ ∨ w.heap.size ≤ k_)) v0_ r ∧ Below w0.heap.size w0 w' ∧ Kept w w' (fun k_ => P0_ k_) := by
  unfold slices_Compact_int_int.f at h
  split at h
  case isFalse => cases h
  case isTrue hl =>
  simp only [Option.some.injEq] at h
  have hP := ho0.1
  obtain ⟨hlen, hc⟩ := Kd.own_of_R ho0
  rcases hc with ⟨rfl, hn⟩ | ⟨g, cap, cur, rfl, hbase, hg, hcap, hcm, hcs, htake⟩
  · have hnil : l0 = [] := List.length_eq_zero_iff.1 hn
    subst hnil
    have hr : r = [] := by rw [← h]; simp [Lib.compact, Lib.compactUpTo]
    subst hr
    refine (Try.slices_Compact_int_empty none 0 w).mono ?_
    rintro e w' ⟨rfl, rfl⟩
    exact ⟨_, rfl, Kd.R_nil _ _ _ _ _, hB, Kept.refl _ _⟩
  · have hlt : g < w.heap.size := (Array.getElem?_eq_some_iff.1 hg).1
    simp only [Nat.mul_one] at hcs htake hlen
    have hH : Sort.Holds I64 w g 0 l0.toArray := by
      intro j hj
      have hj' : j < l0.length := by simpa using hj
      refine ⟨?_, by simp [World.frozen?, hg]⟩
      have e1 : (cur.toList.take l0.length)[j]? = (encs (Value.int .i64) l0)[j]? := by rw [htake]
      rw [List.getElem?_take_of_lt hj'] at e1
      have e2 : cur[j]? = some (I64 l0[j]) := by
        rw [← Array.getElem?_toList, e1]
        simp [encs, hj']
      rw [Nat.zero_add]
      have e3 := cell_of_row w g j cur 3 (0, 0) hg
      rw [e3, e2]
      simp [hj']
    refine (Try.slices_Compact_int g 0 cap l0 w hH (by omega) hcap).mono ?_
    rintro e w' ⟨rfl, q, rfl⟩
    have hcl : r.length ≤ l0.length := by
      rw [← h]; unfold Lib.compact Lib.compactUpTo
      rw [List.length_map]
      exact Nat.le_trans (List.length_filter_le _ _) (by simp)
    rw [h]
    generalize hd : (r ++ List.replicate (l0.length - r.length) 0).toArray = d
    have hds : d.size = l0.length := by rw [← hd]; simp; omega
    have hdt : d.toList.take r.length = r := by rw [← hd]; simp
    obtain ⟨q1, q2, q3⟩ := row_heap (q := q) (d := d) hg
    refine ⟨_, rfl, ?_, ⟨hB.os, hB.tape, hB.output, by rw [q1]; exact hB.size, fun i hi => ?_⟩, ⟨by rw [q1]; exact Nat.le_refl _, fun i hi hne => ?_⟩⟩
    · refine Kd.R_of_own ⟨by simp [encs], Or.inr ⟨g, cap, _, rfl, hbase, q3, by omega, hcm, ?_, ?_⟩⟩ (fun k hk => Or.inl (hP k hk))
      · simp [Sort.putCells, hcs]
      · have := cells_take d cur r.length (by omega) (by rw [hds, hcs]; exact hcap)
        rw [hdt] at this
        rw [Nat.mul_one]
        exact this
    · rw [q2 i (by have := hB.size; omega)]
      exact hB.block i hi
    · refine q2 i (fun e => hne ?_)
      subst e
      exact hP _ rfl
end Go.Proofs.Ytcpcoegoaciipaa.P
