/- Both laws of owners over what the printed functions answer: each answers true. -/
import Derived.Test.YtcpcoegoaciipaaOPureC
namespace Go.Proofs.Ytcpcoegoaciipaa.Own
open Go.RowKit Go.Proofs.YtcpcoegoaciipaaW.PrintWords Go.Proofs.YtcpcoegoaciipaaW.PrintLast Go.Proofs.YtcpcoegoaciipaaW.PrintMore Go.Proofs.Ytcpcoegoaciipaa.P
set_option linter.unusedVariables false
set_option linter.unusedSimpArgs false

theorem own_list {s b x1 y1 x2 y2 : Int} (h : Sh s) (hb : Br b) (hr : Rc x1 y1 x2 y2) :
    (Lib.compact ((cells s x1 y1 x2 y2).map (own s b))).Pairwise (fun x y => x < y) ∧ ∀ x, x ∈ Lib.compact ((cells s x1 y1 x2 y2).map (own s b)) ↔ ∃ v, v ∈ cells s x1 y1 x2 y2 ∧ own s b v = x := by
  have hrise : ((cells s x1 y1 x2 y2).map (own s b)).Pairwise (fun x y => x ≤ y) := List.pairwise_map.2 ((cells_rise s x1 y1 x2 y2).imp (fun h => own_mono h))
  obtain ⟨f1, f2⟩ := compact_facts _ hrise
  exact ⟨f1, fun x => (f2 x).trans List.mem_map⟩
theorem own_len {s b x1 y1 x2 y2 : Int} (h : Sh s) (hr : Rc x1 y1 x2 y2) : (Lib.compact ((cells s x1 y1 x2 y2).map (own s b))).length ≤ 17000 := by
  have := cells_len h hr
  unfold Lib.compact Lib.compactUpTo
  rw [List.length_map]
  refine Nat.le_trans (List.length_filter_le _ _) ?_
  simp; omega

/-! ### The document's example -/
theorem sh30 : Sh 30 := by unfold Sh; decide
theorem sp_one : sp 1 = 1 := by rw [sp_eq, show 1 / 2 = 0 from rfl, sp_zero]
theorem sp_two : sp 2 = 4 := by rw [sp_eq, show 2 / 2 = 1 from rfl, sp_one]
theorem top30 : top 30 = 2 := rfl
theorem last30 : last 30 = 12 := by unfold last code; rw [top30, sp_two]
theorem rc30 : Rc (-1073741824) (-1073741824) 1073741824 1073741824 := by unfold Rc Pt Co; decide
theorem br3 : Br 3 := by unfold Br; decide
theorem up_len : (Lib.compact ((cells 30 (-1073741824) (-1073741824) 1073741824 1073741824).map (own 30 3))).length = 3 := by
  obtain ⟨f1, f2⟩ := own_list sh30 br3 rc30
  have c0 : cell 30 (-1073741824) = 0 := by unfold cell; decide
  have c2 : cell 30 1073741824 = 2 := by unfold cell; decide
  have hm : ∀ i j, i ≤ 2 → j ≤ 2 → own 30 3 (code i j : Int) ∈ Lib.compact ((cells 30 (-1073741824) (-1073741824) 1073741824 1073741824).map (own 30 3)) := fun i j hi hj =>
    (f2 _).2 ⟨_, (cells_mem rc30).2 ⟨i, j, by omega, by omega, by omega, by omega, rfl⟩, rfl⟩
  have o0 : own 30 3 (code 0 0 : Int) = 0 := by unfold own; rw [last30, code_zero]; decide
  have o1 : own 30 3 (code 2 1 : Int) = 1 := by unfold own code; rw [last30, sp_two, sp_one]; decide
  have o2 : own 30 3 (code 2 2 : Int) = 2 := by unfold own code; rw [last30, sp_two]; decide
  have h0 := hm 0 0 (by omega) (by omega)
  have h1 := hm 2 1 (by omega) (by omega)
  have h2 := hm 2 2 (by omega) (by omega)
  rw [o0] at h0
  rw [o1] at h1
  rw [o2] at h2
  have e : Lib.compact ((cells 30 (-1073741824) (-1073741824) 1073741824 1073741824).map (own 30 3)) = [0, 1, 2] := by
    refine rising_eq _ _ f1 (by decide) (fun x => ⟨fun hx => ?_, fun hx => ?_⟩)
    · obtain ⟨v, hv, rfl⟩ := (f2 x).1 hx
      have := own_range sh30 br3 (cells_range sh30 rc30 hv).2.2
      have : own 30 3 v = 0 ∨ own 30 3 v = 1 ∨ own 30 3 v = 2 := by omega
      rcases this with e | e | e <;> simp [e]
    · simp only [List.mem_cons, List.not_mem_nil, or_false] at hx
      rcases hx with rfl | rfl | rfl
      · exact h0
      · exact h1
      · exact h2
  rw [e]; rfl
theorem up_f {k : Nat} (hk : 20000 ≤ k) : ploverlaw18_up.f k = some true := by
  have hp : Pt 0 0 := by unfold Pt Co; decide
  have hb : Br 1 := by unfold Br; decide
  have ha := own_range sh30 hb (at_range sh30 hp).2.2
  have h0 : own 30 1 (at_ 30 0 0) = 0 := by omega
  unfold ploverlaw18_up.f
  rw [Of_yes sh30 hb hp, Of_no (s := 30) (b := 65) (fun z => absurd z.2 (by unfold Br; decide)), All_yes sh30 br3 rc30 hk]
  simp only [Option.bind_some, h0, up_len]
  rfl

/-! ### OwnTells -/
theorem tells_l0 (L : List Int) (hn : L.length ≤ 17000) (head : Bool) : ∀ (d i k : Nat), L.length - i = d → i ≤ L.length → d < k → ploverlaw18_OwnTells.l0 k head L L (i : Int) = some head
  | d, i, 0, _, _, h => by omega
  | d, i, k + 1, hd, hi, hk => by
    unfold ploverlaw18_OwnTells.l0
    by_cases h : i < L.length
    · rw [if_pos (by omega), if_pos (by omega), if_pos (by omega), if_pos rfl, w64 _ (by omega)]
      exact tells_l0 L hn head (d - 1) (i + 1) k (by omega) (by omega) (by omega)
    · rw [if_neg (by omega)]
theorem tells_j1 {k : Nat} {s b x1 y1 x2 y2 : Int} (h : Sh s) (hb : Br b) (hk : 40000 ≤ k) (L : List Int) (e : Option Int) (hA : own_All.f 30000 s b x1 y1 x2 y2 = some (L, e)) :
    ploverlaw18_OwnTells.j1 k s b true (decide (Rc x1 y1 x2 y2)) L e x1 y1 x2 y2 = some true := by
  obtain ⟨k, rfl⟩ : ∃ m, k = m + 1 := ⟨k - 1, by omega⟩
  simp only [ploverlaw18_OwnTells.j1]
  by_cases hr : Rc x1 y1 x2 y2
  · rw [All_yes h hb hr (by omega)] at hA
    simp only [Option.some.injEq, Prod.mk.injEq] at hA
    obtain ⟨rfl, rfl⟩ := hA
    have hl := own_len (b := b) h hr
    rw [if_pos (by simp [hr]), rAll h hb hr (by omega)]
    simp only [Option.bind_some, Option.isNone_none, if_true]
    generalize Lib.compact ((cells s x1 y1 x2 y2).map (own s b)) = L at *
    obtain ⟨k, rfl⟩ : ∃ m, k = m + 1 := ⟨k - 1, by omega⟩
    simp only [ploverlaw18_OwnTells.j2]
    rw [if_neg (by simp)]
    exact tells_l0 L hl true L.length 0 k (by omega) (by omega) (by omega)
  · rw [All_rect (fun z => hr z.2)] at hA
    simp only [Option.some.injEq, Prod.mk.injEq] at hA
    obtain ⟨rfl, rfl⟩ := hA
    rw [if_neg (by simp [hr])]
    rfl
theorem tells (s b x y x1 y1 x2 y2 : Int) : ∃ k, ploverlaw18_OwnTells.f k s b x y x1 y1 x2 y2 = some true := by
  obtain ⟨K, hK⟩ : ∃ K : Nat, 50000 ≤ K := ⟨_, Nat.le_refl _⟩
  refine ⟨K + 1, ?_⟩
  unfold ploverlaw18_OwnTells.f
  rw [up_f (by omega), rpmay, rrmay]
  obtain ⟨L, e, hA, hA2⟩ : ∃ L e, own_All.f (K + 1) s b x1 y1 x2 y2 = some (L, e) ∧ own_All.f 30000 s b x1 y1 x2 y2 = some (L, e) := by
    by_cases h : Sh s ∧ Br b
    · by_cases hr : Rc x1 y1 x2 y2
      · exact ⟨_, _, All_yes h.1 h.2 hr (by omega), All_yes h.1 h.2 hr (by omega)⟩
      · exact ⟨_, _, All_rect (fun z => hr z.2), All_rect (fun z => hr z.2)⟩
    · exact ⟨_, _, All_no h (by omega), All_no h (by omega)⟩
  rw [hA]
  simp only [Option.bind_some]
  by_cases h : Sh s ∧ Br b
  · obtain ⟨hs, hb⟩ := h
    have hbr := hb
    unfold Br at hbr
    rw [rshift_yes hs]
    simp only [Option.bind_some, if_true]
    have hf : decide (b > 64) = false := by simp; omega
    by_cases hp : Pt x y
    · rw [Of_yes hs hb hp]
      simp only [Option.bind_some]
      rw [if_neg (by omega), hf]
      simp only [ploverlaw18_OwnTells.j0]
      rw [if_neg (by simp), if_pos (by simp [hp]), if_pos (by rfl), rOf hs hb hp (by omega)]
      simp only [Option.bind_some, if_true]
      exact tells_j1 hs hb (by omega) L e hA2
    · rw [Of_far hs hb hp]
      simp only [Option.bind_some]
      rw [if_neg (by omega), hf]
      simp only [ploverlaw18_OwnTells.j0]
      rw [if_neg (by simp), if_neg (by simp [hp]), if_neg (by simp), if_pos (by simp)]
      simp only [if_true]
      exact tells_j1 hs hb (by omega) L e hA2
  · rw [Of_no h]
    rw [All_no h (by omega)] at hA2
    simp only [Option.some.injEq, Prod.mk.injEq] at hA2
    obtain ⟨rfl, rfl⟩ := hA2
    simp only [Option.bind_some]
    have hj : ploverlaw18_OwnTells.j0 (K + 1) s b true (decide (Pt x y)) (decide (Rc x1 y1 x2 y2)) 0 (some 1) [] (some 1) true x y x1 y1 x2 y2 = some true := by
      simp only [ploverlaw18_OwnTells.j0]
      rfl
    by_cases hs : Sh s
    · have hb : ¬ Br b := fun z => h ⟨hs, z⟩
      unfold Br at hb
      rw [rshift_yes hs]
      simp only [Option.bind_some, if_true]
      by_cases h1 : b < 1
      · rw [if_pos h1]; exact hj
      · have ht : decide (b > 64) = true := by simp; omega
        rw [if_neg h1, ht]; exact hj
    · rw [rshift_no hs]
      simp only [Option.bind_some, Bool.false_eq_true, if_false]
      exact hj

/-! ### OwnAmong -/
theorem rin (a b c d x y : Int) : ploverref01_In.f a b c d x y = some (decide (a ≤ x ∧ x ≤ c ∧ b ≤ y ∧ y ≤ d)) := by
  unfold ploverref01_In.f
  by_cases h1 : x ≥ a
  · rw [if_pos h1]
    by_cases h2 : x ≤ c
    · rw [if_pos h2]
      by_cases h3 : y ≥ b
      · rw [if_pos h3]; congr 1; simp [h1, h2]; omega
      · rw [if_neg h3]; congr 1; simp; omega
    · rw [if_neg h2]; congr 1; simp; omega
  · rw [if_neg h1]; congr 1; simp; omega
theorem among_l0 {b n x y x1 y1 x2 y2 : Int} (L : List Int) (hl : L.length ≤ 17000) (hr : L.Pairwise (fun x y => x < y)) (hL : ∀ v ∈ L, 0 ≤ v ∧ v < b) (hn : 0 ≤ n ∧ n < b) (hin : (x1 ≤ x ∧ x ≤ x2 ∧ y1 ≤ y ∧ y ≤ y2) → n ∈ L) :
    ∀ (d i k : Nat) (met : Bool), L.length - i = d → i ≤ L.length → d < k → (met = true ↔ n ∈ L.take i) → ploverlaw18_OwnAmong.l0 k b true n L met (i : Int) x y x1 y1 x2 y2 = some true
  | d, i, 0, met, _, _, h, _ => by omega
  | d, i, k + 1, met, hd, hi, hk, hm => by
    unfold ploverlaw18_OwnAmong.l0
    by_cases h : i < L.length
    · have hv := hL L[i] (List.getElem_mem h)
      have e1 : wrap64 ((i : Int) + 1) = ((i + 1 : Nat) : Int) := by rw [w64 _ (by omega)]; rfl
      have ht : L.take (i + 1) = L.take i ++ [L[i]] := by rw [List.take_succ_eq_append_getElem h]
      have go : ∀ m, (m = true ↔ n ∈ L.take (i + 1)) → (if (i : Int) > 0 then (if 0 ≤ (wrap64 ((i : Int) - 1)) then (if (wrap64 ((i : Int) - 1)) < (L.length : Int) then (if (rd L i) ≤ (rd L (wrap64 ((i : Int) - 1))) then (some false) else (ploverlaw18_OwnAmong.l0 k b true n L m ((i + 1 : Nat) : Int) x y x1 y1 x2 y2)) else (none)) else (none)) else (ploverlaw18_OwnAmong.l0 k b true n L m ((i + 1 : Nat) : Int) x y x1 y1 x2 y2)) = some true := by
        intro m hm'
        have ih := among_l0 L hl hr hL hn hin (d - 1) (i + 1) k m (by omega) (by omega) (by omega) hm'
        by_cases h0 : 0 < i
        · have e2 : wrap64 ((i : Int) - 1) = ((i - 1 : Nat) : Int) := by rw [w64 _ (by omega)]; omega
          have hlt := List.pairwise_iff_getElem.1 hr (i - 1) i (by omega) h (by omega)
          rw [if_pos (by omega), e2, if_pos (by omega), if_pos (by omega), rd_at h, rd_at (show i - 1 < L.length by omega), if_neg (by omega)]
          exact ih
        · rw [if_neg (by omega)]; exact ih
      have h1 : ¬ rd L (i : Int) < 0 := by rw [rd_at h]; omega
      have h2 : ¬ rd L (i : Int) ≥ b := by rw [rd_at h]; omega
      rw [if_pos (by omega), e1]
      cases met with
      | true =>
        rw [if_pos rfl, if_pos (by omega), if_neg h1, if_neg h2]
        exact go true ⟨fun _ => by rw [ht]; exact List.mem_append_left _ (hm.1 rfl), fun _ => rfl⟩
      | false =>
        rw [if_neg (by simp), if_pos (by omega), if_neg h1, if_neg h2]
        refine go _ ?_
        rw [rd_at h, ht, List.mem_append, List.mem_singleton, beq_iff_eq]
        have : n ∉ L.take i := fun z => absurd (hm.2 z) (by simp)
        exact ⟨fun e => Or.inr e.symm, fun e => (e.resolve_left this).symm⟩
    · rw [if_neg (by omega), rin]
      simp only [Option.bind_some, if_true]
      rw [if_pos (by omega), if_pos (by omega)]
      by_cases hi2 : x1 ≤ x ∧ x ≤ x2 ∧ y1 ≤ y ∧ y ≤ y2
      · rw [if_pos (by simp only [decide_eq_true_eq]; exact hi2)]
        have hmem := hin hi2
        rw [List.take_of_length_le (by omega)] at hm
        rw [hm.2 hmem]
      · rw [if_neg (by simp only [decide_eq_true_eq]; exact hi2)]
theorem among (s b x y x1 y1 x2 y2 : Int) : ∃ k, ploverlaw18_OwnAmong.f k s b x y x1 y1 x2 y2 = some true := by
  obtain ⟨K, hK⟩ : ∃ K : Nat, 50000 ≤ K := ⟨_, Nat.le_refl _⟩
  refine ⟨K + 1, ?_⟩
  unfold ploverlaw18_OwnAmong.f
  rw [up_f (by omega)]
  by_cases h : Sh s ∧ Br b
  · obtain ⟨hs, hb⟩ := h
    have hbr := hb
    unfold Br at hbr
    by_cases hp : Pt x y
    · by_cases hr : Rc x1 y1 x2 y2
      · rw [Of_yes hs hb hp, All_yes hs hb hr (by omega)]
        simp only [Option.bind_some, Option.isNone_none, if_true]
        obtain ⟨f1, f2⟩ := own_list hs hb hr
        have hlen := own_len (b := b) hs hr
        have hL : ∀ v ∈ Lib.compact ((cells s x1 y1 x2 y2).map (own s b)), 0 ≤ v ∧ v < b := fun v hv => by
          obtain ⟨u, hu, rfl⟩ := (f2 v).1 hv
          exact own_range hs hb (cells_range hs hr hu).2.2
        have hin : (x1 ≤ x ∧ x ≤ x2 ∧ y1 ≤ y ∧ y ≤ y2) → own s b (at_ s x y) ∈ Lib.compact ((cells s x1 y1 x2 y2).map (own s b)) := fun hi =>
          (f2 _).2 ⟨_, (cells_mem hr).2 ⟨_, _, cell_mono hi.1, cell_mono hi.2.1, cell_mono hi.2.2.1, cell_mono hi.2.2.2, rfl⟩, rfl⟩
        have hn := own_range hs hb (at_range hs hp).2.2
        generalize Lib.compact ((cells s x1 y1 x2 y2).map (own s b)) = L at *
        simp only [ploverlaw18_OwnAmong.j0]
        rw [if_neg (by simp)]
        exact among_l0 L hlen f1 hL hn hin L.length 0 K false (by omega) (by omega) (by omega) (by simp)
      · rw [Of_yes hs hb hp, All_rect (fun z => hr z.2)]
        rfl
    · obtain ⟨L, e, hA⟩ : ∃ L e, own_All.f (K + 1) s b x1 y1 x2 y2 = some (L, e) := by
        by_cases hr : Rc x1 y1 x2 y2
        · exact ⟨_, _, All_yes hs hb hr (by omega)⟩
        · exact ⟨_, _, All_rect (fun z => hr z.2)⟩
      rw [Of_far hs hb hp, hA]
      rfl
  · rw [Of_no h, All_no h (by omega)]
    rfl
end Go.Proofs.Ytcpcoegoaciipaa.Own
