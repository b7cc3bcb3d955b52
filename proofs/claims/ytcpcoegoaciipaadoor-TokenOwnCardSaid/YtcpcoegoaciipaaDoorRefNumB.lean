/- The document's number at a place is the program's. -/
import Derived.Test.YtcpcoegoaciipaaDoorRefNum
namespace Go.Proofs.YtcpcoegoaciipaaDoor.Tok
open Go.RowKit Go.Proofs.YtcpcoegoaciipaaDoorW.PrintWords Go.Proofs.YtcpcoegoaciipaaDoorW.PrintLast Go.Proofs.YtcpcoegoaciipaaDoorW.PrintMore
open Go.Proofs.YtcpcoegoaciipaaDoor.PTokenCuts
set_option linter.unusedVariables false
set_option linter.unusedSimpArgs false

def RefNumP (s : ByteArray) (i : Nat) (e : Ending) : Prop :=
  ∃ v q, e = .returned (.tuple #[.int .i64 v, .int .i64 q, .bool ((numP (s.extract i s.size)).2 != 0)]) ∧ ((numP (s.extract i s.size)).2 ≠ 0 → v = (numP (s.extract i s.size)).1 ∧ q = i + (numP (s.extract i s.size)).2)

theorem ext_data (s : ByteArray) (i : Nat) : (s.extract i s.size).data.toList = s.data.toList.drop i := by
  rw [ByteArray.data_extract, Array.toList_extract, List.extract_eq_take_drop, ← ByteArray.size_data, ← Array.length_toList, ← List.length_drop, List.take_length]

theorem drop_cons (s : ByteArray) (i : Nat) (h : i < s.size) : ∃ c, s.data.toList.drop i = c :: s.data.toList.drop (i + 1) ∧ bt s (i : Int) = c.toNat := by
  have hl : i < s.data.toList.length := by rw [Array.length_toList, ByteArray.size_data]; exact h
  exact ⟨s.data.toList[i], List.drop_eq_getElem_cons hl, bt_list s i _ (List.getElem?_eq_getElem hl)⟩

theorem rnumber_minus (s : ByteArray) (hs : s.size ≤ 140737488351232) (i : Nat) (hi : i < s.size) (hc : bt s i = 45) (w : World) :
    Calls Tryd.prog 37 #[.string s, .int .i64 i] w fun e w' => RefNumP s i e ∧ Drawn0 w w' := by
  obtain ⟨c, hd, hb⟩ := drop_cons s i hi
  have hc45 : c = 45 := by
    have h1 : (c.toNat : Int) = 45 := by rw [← hb]; exact hc
    exact UInt8.toNat_inj.1 (by show c.toNat = 45; omega)
  subst hc45
  have hr : (s.extract (i + 1) s.size).data.toList = s.data.toList.drop (i + 1) := ext_data s (i + 1)
  obtain ⟨hn, hP⟩ := numP_minus (s.extract i s.size) (s.data.toList.drop (i + 1)) (by rw [ext_data, hd])
  have hall := upLen_dig (s.data.toList.drop (i + 1))
  obtain ⟨hb1, hb2⟩ := refSt_spec _ hall 0 (by omega)
  have hle := upLen_le digB (s.data.toList.drop (i + 1))
  have hlen : (s.data.toList.drop (i + 1)).length = s.size - (i + 1) := by rw [List.length_drop, Array.length_toList, ByteArray.size_data]
  have hlead : 1 < upLen digB (s.data.toList.drop (i + 1)) → bt (s.extract i s.size) 1 = bt s ((i + 1 : Nat) : Int) := fun h => bt_ext s i 1 (by omega)
  generalize hn0 : upLen digB (s.data.toList.drop (i + 1)) = nd at *
  generalize hds : (s.data.toList.drop (i + 1)).take nd = ds at *
  refine (rnumber_loop s hs i hi true (by rw [hc]; rfl) (i + 1) rfl nd (by rw [hr, hn0]) ds (by rw [hr, hds]) (refSt ds 0 false).1 (refSt ds 0 false).2 rfl (fun h => ?_) w).mono ?_
  · rw [hb2 h]; rw [hb1] at h; have := of_decide_eq_false h; omega
  · rintro e w' ⟨⟨v, rfl, hv⟩, hw⟩
    refine ⟨?_, hw⟩
    generalize hst : refSt ds 0 false = st at *
    generalize hV : decV ds 0 = V at *
    unfold RefNumP
    rw [hP]
    by_cases hf : nd = 0 ∨ (1 < nd ∧ bt (s.extract i s.size) 1 = 48) ∨ 9223372036854775808 < V ∨ V = 0
    · rw [if_pos hf]
      have hF : rnFail nd (bt s ((i + 1 : Nat) : Int) == 48) true st.1 st.2 = true := by
        unfold rnFail
        rcases hf with h | ⟨h, h2⟩ | h | h
        · simp [h]
        · rw [hlead h] at h2
          have e1 : decide (1 < nd) = true := decide_eq_true h
          have e2 : (bt s ((i + 1 : Nat) : Int) == 48) = true := by rw [beq_iff_eq]; exact h2
          rw [e1, e2]; simp
        · rw [hb1, decide_eq_true h]; simp
        · cases hq : st.2 with
          | true => simp
          | false => rw [hb2 hq, h]; simp
      exact ⟨v, _, by rw [hF]; rfl, fun h => absurd rfl h⟩
    · rw [if_neg hf]
      have hV2 : ¬ 9223372036854775808 < V := fun h => hf (Or.inr (Or.inr (Or.inl h)))
      have hq : st.2 = false := by rw [hb1]; exact decide_eq_false hV2
      have hF : rnFail nd (bt s ((i + 1 : Nat) : Int) == 48) true st.1 st.2 = false := by
        unfold rnFail
        rw [hq, hb2 hq]
        have h1 : decide (nd = 0) = false := decide_eq_false (fun h => hf (Or.inl h))
        have h2 : decide (V = 0) = false := decide_eq_false (fun h => hf (Or.inr (Or.inr (Or.inr h))))
        have h3 : (decide (1 < nd) && (bt s ((i + 1 : Nat) : Int) == 48)) = false := by
          rw [Bool.and_eq_false_iff]
          by_cases h : 1 < nd
          · right; rw [beq_eq_false_iff_ne]; intro h4; exact hf (Or.inr (Or.inl ⟨h, by rw [hlead h]; exact h4⟩))
          · left; exact decide_eq_false h
        rw [h1, h2, h3]; rfl
      refine ⟨v, _, by rw [hF]; show _ = Ending.returned (.tuple #[_, _, .bool (((nd : Int) + 1) != 0)]); rw [show (((nd : Int) + 1) != 0) = true from by rw [bne_iff_ne]; omega]; rfl, fun _ => ?_⟩
      have := hv hF
      rw [hb2 hq] at this
      exact ⟨this, by omega⟩

theorem rnumber_plain (s : ByteArray) (hs : s.size ≤ 140737488351232) (i : Nat) (hi : i < s.size) (hc : digB (bt s i) = true) (w : World) :
    Calls Tryd.prog 37 #[.string s, .int .i64 i] w fun e w' => RefNumP s i e ∧ Drawn0 w w' := by
  obtain ⟨c, hd, hb⟩ := drop_cons s i hi
  have hr : (s.extract i s.size).data.toList = c :: s.data.toList.drop (i + 1) := by rw [ext_data, hd]
  have hne : (bt s i == 45) = false := by
    rw [beq_eq_false_iff_ne]; intro h; rw [h] at hc; exact absurd hc (by decide)
  obtain ⟨hn, hpos, hP⟩ := numP_plain (s.extract i s.size) c (s.data.toList.drop (i + 1)) hr (by rw [← hb]; exact hc)
  have hall := upLen_dig (c :: s.data.toList.drop (i + 1))
  obtain ⟨hb1, hb2⟩ := refSt_spec _ hall 0 (by omega)
  have hlead : bt (s.extract i s.size) 0 = bt s (i : Int) := bt_ext s i 0 (by omega)
  generalize hn0 : upLen digB (c :: s.data.toList.drop (i + 1)) = nd at *
  generalize hds : (c :: s.data.toList.drop (i + 1)).take nd = ds at *
  refine (rnumber_loop s hs i hi false hne i rfl nd (by rw [hr, hn0]) ds (by rw [hr, hds]) (refSt ds 0 false).1 (refSt ds 0 false).2 rfl (fun h => ?_) w).mono ?_
  · rw [hb2 h]; rw [hb1] at h; have := of_decide_eq_false h; omega
  · rintro e w' ⟨⟨v, rfl, hv⟩, hw⟩
    refine ⟨?_, hw⟩
    generalize hst : refSt ds 0 false = st at *
    generalize hV : decV ds 0 = V at *
    unfold RefNumP
    rw [hP, hlead]
    by_cases hf : (1 < nd ∧ bt s (i : Int) = 48) ∨ 9223372036854775808 ≤ V
    · rw [if_pos hf]
      have hF : rnFail nd (bt s (i : Int) == 48) false st.1 st.2 = true := by
        unfold rnFail
        rcases hf with ⟨h, h2⟩ | h
        · simp [h, h2]
        · cases hq : st.2 with
          | true => simp
          | false =>
            have h3 := hb2 hq
            rw [hb1] at hq
            have := of_decide_eq_false hq
            rw [h3, show V = 9223372036854775808 by omega]; simp
      exact ⟨v, _, by rw [hF]; rfl, fun h => absurd rfl h⟩
    · rw [if_neg hf]
      have hV2 : ¬ 9223372036854775808 ≤ V := fun h => hf (Or.inr h)
      have hq : st.2 = false := by rw [hb1]; exact decide_eq_false (by omega)
      have hF : rnFail nd (bt s (i : Int) == 48) false st.1 st.2 = false := by
        unfold rnFail
        rw [hq, hb2 hq]
        have h1 : decide (nd = 0) = false := decide_eq_false (by omega)
        have h2 : decide (V = 9223372036854775808) = false := decide_eq_false (by omega)
        have h3 : (decide (1 < nd) && (bt s (i : Int) == 48)) = false := by
          rw [Bool.and_eq_false_iff]
          by_cases h : 1 < nd
          · right; rw [beq_eq_false_iff_ne]; intro h4; exact hf (Or.inl ⟨h, h4⟩)
          · left; exact decide_eq_false h
        rw [h1, h2, h3]; rfl
      refine ⟨v, _, by rw [hF]; show _ = Ending.returned (.tuple #[_, _, .bool ((nd : Int) != 0)]); rw [show ((nd : Int) != 0) = true from by rw [bne_iff_ne]; omega]; rfl, fun _ => ?_⟩
      have := hv hF
      rw [hb2 hq] at this
      exact ⟨this, by omega⟩

theorem rnumber_calls (s : ByteArray) (hs : s.size ≤ 140737488351232) (i : Nat) (hi : i < s.size) (hc : digB (bt s i) = true ∨ bt s i = 45) (w : World) :
    Calls Tryd.prog 37 #[.string s, .int .i64 i] w fun e w' => RefNumP s i e ∧ Drawn0 w w' :=
  hc.elim (fun h => rnumber_plain s hs i hi h w) (fun h => rnumber_minus s hs i hi h w)
end Go.Proofs.YtcpcoegoaciipaaDoor.Tok
