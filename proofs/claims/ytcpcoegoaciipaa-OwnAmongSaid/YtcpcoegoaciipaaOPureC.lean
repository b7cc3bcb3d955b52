/- The owners of a cover, and both laws over what the printed functions answer. -/
import Derived.Test.YtcpcoegoaciipaaOPureB
namespace Go.Proofs.Ytcpcoegoaciipaa.Own
open Go.RowKit Go.Proofs.YtcpcoegoaciipaaW.PrintWords Go.Proofs.YtcpcoegoaciipaaW.PrintLast Go.Proofs.YtcpcoegoaciipaaW.PrintMore Go.Proofs.Ytcpcoegoaciipaa.P
set_option linter.unusedVariables false
set_option linter.unusedSimpArgs false

/-! ### Cells: what they are, that they rise -/
theorem cells_mem {s a b c d v : Int} (hr : Rc a b c d) : v ∈ cells s a b c d ↔ ∃ i j, cell s a ≤ i ∧ i ≤ cell s c ∧ cell s b ≤ j ∧ j ≤ cell s d ∧ v = (code i j : Int) := by
  have h5 := cell_mono (s := s) hr.2.2.2
  have h6 := cell_mono (s := s) hr.2.2.1
  unfold cells
  rw [List.mem_mergeSort, colL_mem]
  constructor
  · rintro ⟨i, j, h1, h2, h3, h4, h⟩; exact ⟨i, j, h1, by omega, h3, by omega, h⟩
  · rintro ⟨i, j, h1, h2, h3, h4, h⟩; exact ⟨i, j, h1, by omega, h3, by omega, h⟩
theorem cells_range {s a b c d v : Int} (h : Sh s) (hr : Rc a b c d) (hv : v ∈ cells s a b c d) : 0 ≤ v ∧ v ≤ 49152 ∧ v.toNat ≤ last s := by
  obtain ⟨i, j, h1, h2, h3, h4, rfl⟩ := (cells_mem hr).1 hv
  have ht := top_le h
  have g3 := cell_le h hr.2.1.1
  have g4 := cell_le h hr.2.1.2
  have := code_small (c := i) (r := j) (by omega) (by omega)
  have : code i j ≤ last s := code_le (by omega) (by omega)
  omega
theorem cells_rise (s a b c d : Int) : (cells s a b c d).Pairwise (fun x y => x ≤ y) := by
  have := List.pairwise_mergeSort leI_trans leI_total (colL (cell s b) (cell s d + 1 - cell s b) (cell s a) (cell s c + 1 - cell s a))
  exact this.imp (fun h => by simpa [leI] using h)
theorem cells_len {s a b c d : Int} (h : Sh s) (hr : Rc a b c d) : (cells s a b c d).length ≤ 17000 := by
  have ht := top_le h
  have g3 := cell_le h hr.2.1.1
  have g4 := cell_le h hr.2.1.2
  unfold cells
  rw [List.length_mergeSort, colL_len]
  exact Nat.le_trans (Nat.mul_le_mul (show _ ≤ 129 by omega) (show _ ≤ 129 by omega)) (by decide)

theorem rd_at {l : List Int} {i : Nat} (h : i < l.length) : rd l (i : Int) = l[i] := by
  unfold rd
  rw [Int.toNat_natCast, List.getD_eq_getElem?_getD, List.getElem?_eq_getElem h]; rfl

/-! ### The code's way: each cell's owner, then each once -/
theorem all_l0 {s b : Int} (h : Sh s) (hb : Br b) (L : List Int) (hL : ∀ v ∈ L, 0 ≤ v ∧ v ≤ 49152) (hn : L.length ≤ 17000) : ∀ (d i : Nat) (acc : List Int) (k : Nat), L.length - i = d → i ≤ L.length → acc.length + d ≤ 17000 → d < k →
    own_All.l0 k s b acc L (L.length : Int) (i : Int) = some (Lib.compact (acc ++ (L.drop i).map (own s b)), none)
  | d, i, acc, 0, _, _, _, h => by omega
  | 0, i, acc, k + 1, hd, hi, ha, hk => by
    unfold own_All.l0
    rw [if_neg (by omega), List.drop_of_length_le (by omega), List.map_nil, List.append_nil]
    unfold slices_Compact_int_int.f
    rw [if_pos (by omega)]
    rfl
  | d + 1, i, acc, k + 1, hd, hi, ha, hk => by
    have hlt : i < L.length := by omega
    have hv := hL L[i] (List.getElem_mem hlt)
    unfold own_All.l0
    rw [if_pos (by omega), if_pos (by omega), if_pos (by omega), rd_at hlt, of_yes h hb hv.1 hv.2]
    simp only [Option.bind_some, Option.isNone_none, if_true]
    rw [if_pos (by omega), w64 _ (by omega)]
    have := all_l0 h hb L hL hn d (i + 1) (acc ++ [own s b L[i]]) k (by omega) (by omega) (by simp; omega) (by omega)
    rw [List.drop_eq_getElem_cons hlt, List.map_cons]
    rw [List.append_assoc] at this
    exact this
theorem All_yes {k : Nat} {s b x1 y1 x2 y2 : Int} (h : Sh s) (hb : Br b) (hr : Rc x1 y1 x2 y2) (hk : 20000 ≤ k) : own_All.f k s b x1 y1 x2 y2 = some (Lib.compact ((cells s x1 y1 x2 y2).map (own s b)), none) := by
  have hl := cells_len h hr
  unfold own_All.f
  rw [Cells_yes h hr hk]
  simp only [Option.bind_some, Option.isNone_none, if_true]
  have := all_l0 h hb (cells s x1 y1 x2 y2) (fun v hv => ⟨(cells_range h hr hv).1, (cells_range h hr hv).2.1⟩) hl (cells s x1 y1 x2 y2).length 0 [] k (by omega) (by omega) (by simp; omega) (by omega)
  rw [List.nil_append, List.drop_zero] at this
  exact this
theorem All_rect {k : Nat} {s b x1 y1 x2 y2 : Int} (h : ¬ (Sh s ∧ Rc x1 y1 x2 y2)) : own_All.f k s b x1 y1 x2 y2 = some ([], some 1) := by
  unfold own_All.f
  rw [Cells_no h]; rfl
theorem All_br {k : Nat} {s b x1 y1 x2 y2 : Int} (h : Sh s) (hb : ¬ Br b) (hr : Rc x1 y1 x2 y2) (hk : 20000 ≤ k) : own_All.f k s b x1 y1 x2 y2 = some ([], some 1) := by
  have hl := cells_len h hr
  have h5 := cell_mono (s := s) hr.2.2.2
  have h6 := cell_mono (s := s) hr.2.2.1
  have hm : ((code (cell s x1) (cell s y1) : Nat) : Int) ∈ cells s x1 y1 x2 y2 := (cells_mem hr).2 ⟨_, _, Nat.le_refl _, h6, Nat.le_refl _, h5, rfl⟩
  have h0 : 0 < (cells s x1 y1 x2 y2).length := List.length_pos_of_mem hm
  unfold own_All.f
  rw [Cells_yes h hr hk]
  simp only [Option.bind_some, Option.isNone_none, if_true]
  obtain ⟨k, rfl⟩ : ∃ m, k = m + 1 := ⟨k - 1, by omega⟩
  unfold own_All.l0
  rw [if_pos (by omega), if_pos (by omega), if_pos (by omega), of_no (fun z => hb z.2)]
  rfl
theorem All_no {k : Nat} {s b x1 y1 x2 y2 : Int} (h : ¬ (Sh s ∧ Br b)) (hk : 20000 ≤ k) : own_All.f k s b x1 y1 x2 y2 = some ([], some 1) := by
  by_cases hr : Sh s ∧ Rc x1 y1 x2 y2
  · exact All_br hr.1 (fun hb => h ⟨hr.1, hb⟩) hr.2 hk
  · exact All_rect hr

/-- What Compact leaves of rising numbers: each once, rising. -/
theorem compactTo (d : Array Int) (hd : ∀ i j, i < j → j < d.size → d[i]! ≤ d[j]!) : ∀ m, m ≤ d.size → (Lib.compactUpTo d m).Pairwise (fun x y => x < y) ∧ ∀ x, x ∈ Lib.compactUpTo d m ↔ ∃ j, j < m ∧ d[j]! = x
  | 0, _ => ⟨by simp [Lib.compactUpTo], fun x => by simp [Lib.compactUpTo]⟩
  | m + 1, hm => by
    obtain ⟨h1, h2⟩ := compactTo d hd m (by omega)
    rw [Lib.compactUpTo_succ]
    by_cases hk : Lib.keeps d m = true
    · rw [if_pos hk]
      refine ⟨List.pairwise_append.2 ⟨h1, by simp, fun x hx y hy => ?_⟩, fun x => ?_⟩
      · obtain ⟨j, hj, rfl⟩ := (h2 x).1 hx
        simp only [List.mem_singleton] at hy
        subst hy
        have hne : d[m]! ≠ d[m - 1]! := by
          simp only [Lib.keeps, Bool.or_eq_true, decide_eq_true_eq, bne_iff_ne, beq_iff_eq, ne_eq, Bool.not_eq_true', beq_eq_false_iff_ne] at hk
          rcases hk with hk | hk
          · omega
          · exact hk
        have a1 := hd (m - 1) m (by omega) (by omega)
        rcases Nat.lt_or_eq_of_le (show j ≤ m - 1 by omega) with a2 | a2
        · have := hd j (m - 1) a2 (by omega); omega
        · subst a2; omega
      · rw [List.mem_append, h2 x, List.mem_singleton]
        constructor
        · rintro (⟨j, hj, rfl⟩ | rfl)
          · exact ⟨j, by omega, rfl⟩
          · exact ⟨m, by omega, rfl⟩
        · rintro ⟨j, hj, rfl⟩
          rcases Nat.lt_or_eq_of_le (show j ≤ m by omega) with a2 | a2
          · exact Or.inl ⟨j, a2, rfl⟩
          · subst a2; exact Or.inr rfl
    · rw [if_neg hk, List.append_nil]
      refine ⟨h1, fun x => ?_⟩
      rw [h2 x]
      have he : 0 < m ∧ d[m]! = d[m - 1]! := by
        simp only [Lib.keeps, Bool.or_eq_true, decide_eq_true_eq, bne_iff_ne, beq_iff_eq, ne_eq, Bool.not_eq_true', beq_eq_false_iff_ne, not_or, Decidable.not_not] at hk
        exact ⟨by omega, hk.2⟩
      constructor
      · rintro ⟨j, hj, rfl⟩; exact ⟨j, by omega, rfl⟩
      · rintro ⟨j, hj, rfl⟩
        rcases Nat.lt_or_eq_of_le (show j ≤ m by omega) with a2 | a2
        · exact ⟨j, a2, rfl⟩
        · subst a2; exact ⟨j - 1, by omega, he.2.symm⟩
theorem compact_facts (l : List Int) (h : l.Pairwise (fun x y => x ≤ y)) : (Lib.compact l).Pairwise (fun x y => x < y) ∧ ∀ x, x ∈ Lib.compact l ↔ x ∈ l := by
  have hp : ∀ i j, i < j → j < l.toArray.size → l.toArray[i]! ≤ l.toArray[j]! := by
    intro i j hij hj
    have hj' : j < l.length := by simpa using hj
    have := List.pairwise_iff_getElem.1 h i j (by omega) hj' hij
    simpa [hj', show i < l.length by omega] using this
  obtain ⟨h1, h2⟩ := compactTo l.toArray hp l.length (by simp)
  refine ⟨h1, fun x => (h2 x).trans ?_⟩
  constructor
  · rintro ⟨j, hj, rfl⟩; simp [hj]
  · intro hx
    obtain ⟨j, hj, rfl⟩ := List.mem_iff_getElem.1 hx
    exact ⟨j, hj, by simp [hj]⟩

/-! ### The document's way: flags -/
def setAll (s b : Int) (has : List Bool) (L : List Int) : List Bool := L.foldl (fun h v => h.set (own s b v).toNat true) has
theorem setAll_len (s b : Int) : ∀ (L : List Int) (has : List Bool), (setAll s b has L).length = has.length
  | [], _ => rfl
  | v :: L, has => by
    have := setAll_len s b L (has.set (own s b v).toNat true)
    rw [List.length_set] at this
    exact this
theorem setAll_at (s b : Int) (j : Nat) : ∀ (L : List Int) (has : List Bool), j < has.length → ((setAll s b has L).getD j false = true ↔ has.getD j false = true ∨ ∃ v ∈ L, (own s b v).toNat = j)
  | [], has, h => by simp [setAll]
  | v :: L, has, h => by
    have ih := setAll_at s b j L (has.set (own s b v).toNat true) (by simpa using h)
    refine ih.trans ?_
    by_cases e : (own s b v).toNat = j
    · simp [e, h]
    · have : (has.set (own s b v).toNat true).getD j false = has.getD j false := by simp [List.getD_eq_getElem?_getD, List.getElem?_set, e]
      rw [this]
      simp [e]
def pick (has : List Bool) : Nat → Nat → List Int
  | _, 0 => []
  | j, d + 1 => if has.getD j false = true then (j : Int) :: pick has (j + 1) d else pick has (j + 1) d
theorem pick_mem (has : List Bool) (x : Int) : ∀ d j, x ∈ pick has j d ↔ ∃ i, j ≤ i ∧ i < j + d ∧ x = (i : Int) ∧ has.getD i false = true
  | 0, j => by simp [pick]; omega
  | d + 1, j => by
    have ih := pick_mem has x d (j + 1)
    unfold pick
    split
    · next h =>
      rw [List.mem_cons, ih]
      constructor
      · rintro (rfl | ⟨i, h1, h2, h3⟩)
        · exact ⟨j, Nat.le_refl _, by omega, rfl, h⟩
        · exact ⟨i, by omega, by omega, h3⟩
      · rintro ⟨i, h1, h2, rfl, h3⟩
        rcases Nat.lt_or_eq_of_le h1 with a | a
        · exact Or.inr ⟨i, by omega, by omega, rfl, h3⟩
        · subst a; exact Or.inl rfl
    · next h =>
      rw [ih]
      constructor
      · rintro ⟨i, h1, h2, h3⟩; exact ⟨i, by omega, by omega, h3⟩
      · rintro ⟨i, h1, h2, rfl, h3⟩
        rcases Nat.lt_or_eq_of_le h1 with a | a
        · exact ⟨i, by omega, by omega, rfl, h3⟩
        · subst a; exact absurd h3 h
theorem pick_rise (has : List Bool) : ∀ d j, (pick has j d).Pairwise (fun x y => x < y)
  | 0, j => by simp [pick]
  | d + 1, j => by
    unfold pick
    split
    · refine List.pairwise_cons.2 ⟨fun x hx => ?_, pick_rise has d (j + 1)⟩
      obtain ⟨i, h1, _, rfl, _⟩ := (pick_mem has x d (j + 1)).1 hx
      omega
    · exact pick_rise has d (j + 1)

theorem rall_l1 {B : Nat} (has : List Bool) (hh : has.length = B) (hB : B ≤ 64) : ∀ (d j : Nat) (out : List Int) (k : Nat), B - j = d → j ≤ B → out.length + d ≤ 64 → d < k →
    ploverref15_All.l1 k (B : Int) has out (j : Int) = some (out ++ pick has j d)
  | d, j, out, 0, _, _, _, h => by omega
  | 0, j, out, k + 1, hd, hj, ho, hk => by
    unfold ploverref15_All.l1
    rw [if_neg (by omega), pick, List.append_nil]
  | d + 1, j, out, k + 1, hd, hj, ho, hk => by
    unfold ploverref15_All.l1
    rw [if_pos (by omega), if_pos (by omega), if_pos (by omega)]
    have hr : rdOf false has (j : Int) = has.getD j false := by unfold rdOf; rw [Int.toNat_natCast]
    rw [hr, w64 _ (by omega), pick]
    split
    · rw [if_pos (by omega)]
      have := rall_l1 has hh hB d (j + 1) (out ++ [(j : Int)]) k (by omega) (by omega) (by simp; omega) (by omega)
      rw [List.append_assoc] at this
      exact this
    · exact rall_l1 has hh hB d (j + 1) out k (by omega) (by omega) (by omega) (by omega)
theorem rall_l0 {s : Int} {B : Nat} (h : Sh s) (hb : Br (B : Int)) (L : List Int) (hL : ∀ v ∈ L, 0 ≤ v ∧ v ≤ 49152 ∧ v.toNat ≤ last s) (hn : L.length ≤ 17000) : ∀ (d i : Nat) (has : List Bool) (k : Nat), L.length - i = d → i ≤ L.length → has.length = B → 200 + d < k →
    ploverref15_All.l0 k s (B : Int) has L (i : Int) = some (pick (setAll s (B : Int) has (L.drop i)) 0 B)
  | d, i, has, 0, _, _, _, h => by omega
  | 0, i, has, k + 1, hd, hi, ha, hk => by
    unfold Br at hb
    unfold ploverref15_All.l0
    rw [if_neg (by omega), List.drop_of_length_le (by omega)]
    have := rall_l1 has ha (by omega) B 0 [] k rfl (by omega) (by simp; omega) (by omega)
    rw [List.nil_append] at this
    exact this
  | d + 1, i, has, k + 1, hd, hi, ha, hk => by
    have hlt : i < L.length := by omega
    have hv := hL L[i] (List.getElem_mem hlt)
    have ho := own_range h hb hv.2.2
    unfold ploverref15_All.l0
    rw [if_pos (by omega), if_pos (by omega), rd_at hlt, rowner h hb hv.1 hv.2.1 (by omega)]
    simp only [Option.bind_some]
    rw [if_pos ho.1, if_pos (by omega), w64 _ (by omega)]
    have := rall_l0 h hb L hL hn d (i + 1) (has.set (own s (B : Int) L[i]).toNat true) k (by omega) (by omega) (by simpa using ha) (by omega)
    rw [List.drop_eq_getElem_cons hlt]
    exact this
/-- Both ways come to one list. -/
theorem rAll {k : Nat} {s b x1 y1 x2 y2 : Int} (h : Sh s) (hb : Br b) (hr : Rc x1 y1 x2 y2) (hk : 20000 ≤ k) : ploverref15_All.f k s b x1 y1 x2 y2 = some (Lib.compact ((cells s x1 y1 x2 y2).map (own s b))) := by
  have hl := cells_len h hr
  have hbr := hb
  unfold Br at hbr
  obtain ⟨B, rfl⟩ := Int.eq_ofNat_of_zero_le (show 0 ≤ b by omega)
  unfold ploverref15_All.f
  rw [if_pos (by omega), if_pos (by omega), rCells h hr hk]
  simp only [Option.bind_some, Int.toNat_natCast]
  have hc := fun v (hv : v ∈ cells s x1 y1 x2 y2) => cells_range h hr hv
  have := rall_l0 h hb (cells s x1 y1 x2 y2) hc hl (cells s x1 y1 x2 y2).length 0 (List.replicate B false) k (by omega) (by omega) (by simp) (by omega)
  rw [List.drop_zero] at this
  refine this.trans (congrArg some ?_)
  have hrise : ((cells s x1 y1 x2 y2).map (own s (B : Int))).Pairwise (fun x y => x ≤ y) := List.pairwise_map.2 ((cells_rise s x1 y1 x2 y2).imp (fun h => own_mono h))
  obtain ⟨f1, f2⟩ := compact_facts _ hrise
  refine rising_eq _ _ (pick_rise _ _ _) f1 (fun x => ?_)
  rw [f2 x, pick_mem, List.mem_map]
  constructor
  · rintro ⟨i, _, hi, rfl, hg⟩
    rcases (setAll_at s (B : Int) i (cells s x1 y1 x2 y2) (List.replicate B false) (by simp; omega)).1 hg with e | ⟨v, hv, e⟩
    · simp [List.getD_eq_getElem?_getD, List.getElem?_replicate] at e
      split at e <;> simp at e
    · have := own_range h hb (hc v hv).2.2
      exact ⟨v, hv, by omega⟩
  · rintro ⟨v, hv, rfl⟩
    have ho := own_range h hb (hc v hv).2.2
    refine ⟨(own s (B : Int) v).toNat, by omega, by omega, by omega, ?_⟩
    exact (setAll_at s (B : Int) _ (cells s x1 y1 x2 y2) (List.replicate B false) (by simp; omega)).2 (Or.inr ⟨v, hv, rfl⟩)
end Go.Proofs.Ytcpcoegoaciipaa.Own
