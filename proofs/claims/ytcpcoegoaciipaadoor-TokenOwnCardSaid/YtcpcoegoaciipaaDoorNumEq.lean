/- What token.number comes to, said by decimal digits. No program in sight. -/
import Derived.Test.YtcpcoegoaciipaaDoorDec
namespace Go.Proofs.YtcpcoegoaciipaaDoor.Tok
open Go.RowKit Go.Proofs.YtcpcoegoaciipaaDoorW.PrintWords
set_option linter.unusedSimpArgs false

theorem ext_list (t : ByteArray) (n : Nat) : (t.extract 0 n).data.toList = t.data.toList.take n := by
  rw [ByteArray.data_extract, Array.toList_extract, List.extract_eq_take_drop]
  simp

theorem bt_list (t : ByteArray) (i : Nat) (c : UInt8) (h : t.data.toList[i]? = some c) : bt t (i : Int) = c.toNat := by
  have hi : i < t.size := by
    have := (List.getElem?_eq_some_iff.1 h).1
    rwa [Array.length_toList, ByteArray.size_data] at this
  have h2 := list_byte t i hi
  rw [h] at h2
  rw [bt_get t i hi, ← Option.some.inj h2]

theorem upLen_dig (l : List UInt8) : AllDig (l.take (upLen digB l)) := by
  intro c hc
  obtain ⟨i, hi, he⟩ := List.mem_iff_getElem.1 hc
  have hlt : i < upLen digB l := by rw [List.length_take] at hi; omega
  obtain ⟨d, hd, hp⟩ := upLen_lt digB l i hlt
  have : c = d := by
    rw [List.getElem_take] at he
    rw [← he]
    exact (List.getElem?_eq_some_iff.1 hd).2
  subst this
  simp only [digB, decide_eq_true_eq] at hp
  omega

theorem take_nil_iff (l : List UInt8) : (l.take (upLen digB l) = []) ↔ upLen digB l = 0 := by
  have := upLen_le digB l
  rw [List.take_eq_nil_iff]
  constructor
  · rintro (h | h)
    · exact h
    · subst h; rfl
  · exact Or.inl

/-- Digits, by the library: a number of 64 bits, or too much. -/
theorem parse_digits (l : List UInt8) (hl : AllDig l) (hne : l ≠ []) :
    Lib.parseUintB 64 l = if decV l 0 ≤ 18446744073709551615 then .ok (decV l 0) else .range := by
  have e : (2 : Nat) ^ 64 - 1 = 18446744073709551615 := by decide
  rw [Lib.parseUintB, if_neg hne, e]
  exact parse_dec l hl 0 (by omega)

theorem e63 : (2 : Nat) ^ (64 - 1) = 9223372036854775808 := by decide

theorem numP_minus (t : ByteArray) (r : List UInt8) (ht : t.data.toList = 45 :: r) :
    numN t = upLen digB r ∧ numP t = if upLen digB r = 0 ∨ (1 < upLen digB r ∧ bt t 1 = 48) ∨ 9223372036854775808 < decV (r.take (upLen digB r)) 0 ∨ decV (r.take (upLen digB r)) 0 = 0 then (0, 0) else (-(decV (r.take (upLen digB r)) 0 : Int), (upLen digB r : Int) + 1) := by
  have hd : (trimD t).data.toList = r := by
    unfold trimD Lib.trimPrefix Lib.hasPrefix
    rw [ht]; simp [List.isPrefixOf]
  have hts : t.size = r.length + 1 := by rw [← ByteArray.size_data, ← Array.length_toList, ht]; rfl
  have hds : (trimD t).size = r.length := by rw [← ByteArray.size_data, ← Array.length_toList, hd]
  have hn : numN t = upLen digB r := by unfold numN; rw [hd]
  have ha : numAll t = upLen digB r + 1 := by unfold numAll; rw [hn, hts, hds]; omega
  refine ⟨hn, ?_⟩
  have hx : (t.extract 0 (numAll t)).data.toList = 45 :: r.take (upLen digB r) := by
    rw [ext_list, ha, ht]; rfl
  have hb : 1 < upLen digB r → bt (trimD t) 0 = bt t 1 := by
    intro h1
    have hlr := upLen_le digB r
    obtain ⟨c, r', rfl⟩ : ∃ c r', r = c :: r' := by
      cases r with
      | nil => simp at hlr; omega
      | cons c r' => exact ⟨c, r', rfl⟩
    rw [show (0 : Int) = ((0 : Nat) : Int) from rfl, show (1 : Int) = ((1 : Nat) : Int) from rfl]
    rw [bt_list (trimD t) 0 c (by rw [hd]; rfl), bt_list t 1 c (by rw [ht]; rfl)]
  unfold numP
  rw [hx, Lib.parseIntB_minus, hn, ha]
  by_cases h0 : upLen digB r = 0
  · rw [if_pos (Or.inl h0), (take_nil_iff r).2 h0]
    rfl
  · rw [parse_digits _ (upLen_dig r) (fun h => h0 ((take_nil_iff r).1 h)), e63]
    generalize decV (r.take (upLen digB r)) 0 = V
    generalize upLen digB r = n at *
    by_cases h1 : V ≤ 18446744073709551615
    · rw [if_pos h1]
      simp only [Lib.signedC]
      by_cases h2 : 9223372036854775808 < V
      · rw [if_pos h2, if_pos (Or.inr (Or.inr (Or.inl h2)))]
      · rw [if_neg h2]
        simp only
        by_cases h3 : 1 < n ∧ bt t 1 = 48
        · rw [if_pos (Or.inl ⟨h3.1, by rw [hb h3.1]; exact h3.2⟩), if_pos (Or.inr (Or.inl h3))]
        · by_cases h4 : V = 0
          · rw [if_pos (Or.inr ⟨by omega, by omega⟩), if_pos (Or.inr (Or.inr (Or.inr h4)))]
          · rw [if_neg (by
              rintro (⟨h5, h6⟩ | ⟨h5, _⟩)
              · exact h3 ⟨h5, by rw [← hb h5]; exact h6⟩
              · omega), if_neg (by
              rintro (h5 | h5 | h5 | h5)
              · exact h0 h5
              · exact h3 h5
              · exact h2 h5
              · exact h4 h5)]
            rfl
    · rw [if_neg h1, if_pos (Or.inr (Or.inr (Or.inl (by omega))))]
      rfl

theorem numP_plain (t : ByteArray) (c : UInt8) (r : List UInt8) (ht : t.data.toList = c :: r) (hc : digB (c.toNat : Int) = true) :
    numN t = upLen digB (c :: r) ∧ 0 < upLen digB (c :: r) ∧ numP t = if (1 < upLen digB (c :: r) ∧ bt t 0 = 48) ∨ 9223372036854775808 ≤ decV ((c :: r).take (upLen digB (c :: r))) 0 then (0, 0) else ((decV ((c :: r).take (upLen digB (c :: r))) 0 : Int), (upLen digB (c :: r) : Int)) := by
  have hc2 : 48 ≤ c.toNat ∧ c.toNat ≤ 57 := by simp only [digB, decide_eq_true_eq] at hc; omega
  have hd : trimD t = t := by
    have h45 : ¬ (45 : UInt8) = c := by rintro rfl; exact absurd hc2.1 (by decide)
    unfold trimD Lib.trimPrefix Lib.hasPrefix
    rw [ht]
    simp only [List.isPrefixOf, beq_iff_eq, h45]
    apply ByteArray.ext
    rw [← Array.toList_inj]; simp [ht, h45]
  have hp : 0 < upLen digB (c :: r) := by simp [upLen, hc]
  have hn : numN t = upLen digB (c :: r) := by unfold numN; rw [hd, ht]
  have ha : numAll t = upLen digB (c :: r) := by unfold numAll; rw [hn, hd]; omega
  refine ⟨hn, hp, ?_⟩
  have hx : (t.extract 0 (numAll t)).data.toList = (c :: r).take (upLen digB (c :: r)) := by
    rw [ext_list, ha, ht]
  have hx2 : ∃ r', (c :: r).take (upLen digB (c :: r)) = c :: r' := by
    obtain ⟨m, hm⟩ : ∃ m, upLen digB (c :: r) = m + 1 := ⟨upLen digB (c :: r) - 1, by omega⟩
    exact ⟨r.take m, by rw [hm]; rfl⟩
  unfold numP
  rw [hx, hn, ha, hd]
  obtain ⟨r', hr'⟩ := hx2
  have hall := upLen_dig (c :: r)
  rw [hr'] at hall ⊢
  rw [Lib.parseIntB_plain 64 c r' (by omega) (by omega), parse_digits _ hall (by simp), e63]
  generalize decV (c :: r') 0 = V
  generalize upLen digB (c :: r) = n at *
  by_cases h1 : V ≤ 18446744073709551615
  · rw [if_pos h1]
    simp only [Lib.signlessC]
    by_cases h2 : 9223372036854775808 ≤ V
    · rw [if_pos h2, if_pos (Or.inr h2)]
    · rw [if_neg h2]
      simp only
      by_cases h3 : 1 < n ∧ bt t 0 = 48
      · rw [if_pos (Or.inl h3), if_pos (Or.inl h3)]
      · rw [if_neg (by
          rintro (h5 | ⟨_, h5⟩)
          · exact h3 h5
          · omega), if_neg (by
          rintro (h5 | h5)
          · exact h3 h5
          · exact h2 h5)]
  · rw [if_neg h1, if_pos (Or.inr (by omega))]
    rfl
end Go.Proofs.YtcpcoegoaciipaaDoor.Tok
