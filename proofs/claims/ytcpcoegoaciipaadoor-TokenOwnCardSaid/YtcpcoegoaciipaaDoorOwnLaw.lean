/- The tokens' own law, plain: each token's piece of the text cuts to itself. -/
import Derived.Test.YtcpcoegoaciipaaDoorCuts
namespace Go.Proofs.YtcpcoegoaciipaaDoor.Tok
open Go.RowKit Go.Proofs.YtcpcoegoaciipaaDoorW.PrintWords Go.Proofs.YtcpcoegoaciipaaDoorW.PrintLast Go.Proofs.YtcpcoegoaciipaaDoorW.PrintMore
open Go.Proofs.YtcpcoegoaciipaaDoor.PTokenCuts
set_option linter.unusedVariables false
set_option linter.unusedSimpArgs false

theorem upLen_take (p : Int → Bool) (l : List UInt8) : ∀ m, upLen p l ≤ m → upLen p (l.take m) = upLen p l := by
  induction l with
  | nil => intro m _; simp
  | cons c l ih =>
    intro m h
    cases m with
    | zero =>
      have h0 : upLen p (c :: l) = 0 := by omega
      rw [h0]; rfl
    | succ m =>
      simp only [List.take_succ_cons, upLen] at h ⊢
      split
      · rename_i hc; rw [if_pos hc] at h; rw [ih m (by omega)]
      · rfl

theorem ext_dt (s : ByteArray) (a b : Nat) : (s.extract a b).data.toList = (s.data.toList.drop a).take (b - a) := by
  rw [ByteArray.data_extract, Array.toList_extract]
theorem list_size (s : ByteArray) : s.data.toList.length = s.size := by rw [Array.length_toList, ByteArray.size_data]
theorem size_ext (s : ByteArray) (m : Nat) (h : m ≤ s.size) : (s.extract 0 m).size = m := by simp; omega
theorem ext0 (s : ByteArray) (a m n : Nat) (h : n ≤ m) : (s.extract 0 m).extract a n = s.extract a n := by
  apply ByteArray.ext
  rw [ByteArray.data_extract, ByteArray.data_extract, ByteArray.data_extract, Array.extract_extract]
  congr 1 <;> omega
theorem bt0 (s : ByteArray) (m i : Nat) (h : i < m) (hm : m ≤ s.size) : bt (s.extract 0 m) (i : Int) = bt s (i : Int) := by
  rw [← bt_at s (i : Int) (by simp; omega), ← bt_at (s.extract 0 m) (i : Int) (by simp; omega)]
  simp only [Int.toNat_natCast]
  rw [ByteArray.getElem_extract]
  simp
theorem bt00 (s : ByteArray) (m : Nat) (h : 0 < m) (hm : m ≤ s.size) : bt (s.extract 0 m) 0 = bt s 0 := bt0 s m 0 h hm

theorem local_name (s : ByteArray) (m : Nat) (hm : m ≤ s.size) (h1 : nameLen s ≤ m) (h0 : 0 < nameLen s) : nameLen (s.extract 0 m) = nameLen s ∧ nameT (s.extract 0 m) = nameT s := by
  have hn : nameN s ≤ m := by 
    unfold nameLen at h0 h1
    split at h0
    · omega
    · next hc => rw [if_neg hc] at h1; omega
  have e : nameN (s.extract 0 m) = nameN s := by
    unfold nameN at hn ⊢
    rw [ext_dt, List.drop_zero, Nat.sub_zero, upLen_take _ _ _ hn]
  unfold nameLen nameT
  rw [e, ext0 s 0 m (nameN s) hn]
  exact ⟨rfl, rfl⟩

theorem local_text (s : ByteArray) (m : Nat) (hm : m ≤ s.size) (h1 : textLen s ≤ m) (h0 : 0 < textLen s) : textLen (s.extract 0 m) = textLen s ∧ textT (s.extract 0 m) = textT s := by
  have hc : ¬ (200 < textN s ∨ s.size ≤ textN s + 1 ∨ bt s (textN s + 1 : Nat) ≠ 34) := by intro hc; unfold textLen at h0; rw [if_pos hc] at h0; omega
  unfold textLen at h1
  rw [if_neg hc] at h1
  have e : textN (s.extract 0 m) = textN s := by
    have hx : ((s.extract 0 m).extract 1 (s.extract 0 m).size).data.toList = (s.extract 1 s.size).data.toList.take (m - 1) := by
      rw [size_ext s m hm, ext_dt, ext_dt, ext_dt, List.drop_zero, Nat.sub_zero, List.drop_take, List.take_take, List.take_take]
      congr 1; omega
    unfold textN at h1 ⊢
    rw [hx, upLen_take _ _ _ (by omega)]
  have hb : bt (s.extract 0 m) ((textN s + 1 : Nat) : Int) = bt s ((textN s + 1 : Nat) : Int) := bt0 s m _ (by omega) hm
  have hc2 : ¬ (200 < textN s ∨ (s.extract 0 m).size ≤ textN s + 1 ∨ bt (s.extract 0 m) (textN s + 1 : Nat) ≠ 34) := by
    rw [size_ext s m hm, hb]
    rintro (h | h | h)
    · exact hc (.inl h)
    · omega
    · exact hc (.inr (.inr h))
  unfold textLen textT
  rw [e, if_neg hc, if_neg hc2, if_neg hc, if_neg hc2, ext0 s 1 m (textN s + 1) (by omega)]
  exact ⟨rfl, rfl⟩

theorem front_ext (s x : ByteArray) (m : Nat) : isFront (s.extract 0 m) x = (isFront s x && decide (x.size ≤ m)) := by
  unfold isFront Lib.hasPrefix
  rw [ext_dt, List.drop_zero, Nat.sub_zero, Bool.eq_iff_iff, Bool.and_eq_true, List.isPrefixOf_iff_prefix, List.isPrefixOf_iff_prefix, decide_eq_true_eq, ← list_size x]
  constructor
  · intro h
    exact ⟨h.trans (List.take_prefix _ _), by have := h.length_le; rw [List.length_take] at this; omega⟩
  · rintro ⟨h, hl⟩
    exact List.prefix_take_iff.2 ⟨h, hl⟩

theorem local_sign (s : ByteArray) (m : Nat) (hm : m ≤ s.size) (h1 : signLen s ≤ m) (h0 : 0 < signLen s) : signLen (s.extract 0 m) = signLen s ∧ signT (s.extract 0 m) = signT s := by
  have e : signP (s.extract 0 m) = signP s := by
    unfold signLen at h0 h1
    cases h : signP s with
    | none => rw [h] at h0; simp at h0
    | some x =>
      rw [h] at h1
      unfold signP at h ⊢
      rw [List.find?_eq_some_iff_append] at h ⊢
      obtain ⟨hx, l1, l2, hl, ha⟩ := h
      refine ⟨by rw [front_ext, hx]; simp only at h1; simp; omega, l1, l2, hl, fun a h => ?_⟩
      have := ha a h
      rw [front_ext]
      simp at this ⊢
      exact .inl this
  unfold signLen signT
  rw [e]
  exact ⟨rfl, rfl⟩

theorem trim_list (s : ByteArray) : (trimD s).data.toList = Lib.trimPrefix s.data.toList [45] := by unfold trimD; simp
theorem trim_take (l : List UInt8) (m : Nat) (h : 1 ≤ m) : Lib.trimPrefix (l.take m) [45] = (Lib.trimPrefix l [45]).take (m - (l.length - (Lib.trimPrefix l [45]).length)) := by
  cases l with
  | nil => simp [Lib.trimPrefix]
  | cons c r =>
    obtain ⟨k, rfl⟩ : ∃ k, m = k + 1 := ⟨m - 1, by omega⟩
    by_cases hc : c = 45
    · subst hc; simp [Lib.trimPrefix, Lib.hasPrefix, List.isPrefixOf]
    · have : ((45 : UInt8) == c) = false := by simp; exact fun h => hc h.symm
      simp [Lib.trimPrefix, Lib.hasPrefix, List.isPrefixOf, this]

theorem local_num (s : ByteArray) (m : Nat) (hm : m ≤ s.size) (h1 : (numP s).2 ≤ m) (h0 : 0 < (numP s).2) : numP (s.extract 0 m) = numP s := by
  obtain ⟨v, hv, hc⟩ : ∃ v, Lib.parseIntB 64 (s.extract 0 (numAll s)).data.toList = .ok v ∧ ¬ ((1 < numN s ∧ bt (trimD s) 0 = 48) ∨ (v = 0 ∧ numN s < numAll s)) := by
    unfold numP at h0
    split at h0
    · next v hv =>
      split at h0
      · simp at h0
      · next hc => exact ⟨v, hv, hc⟩
    · simp at h0
  have he : numP s = (v, (numAll s : Int)) := by unfold numP; rw [hv]; simp only; rw [if_neg hc]
  rw [he] at h0 h1 ⊢
  simp only at h0 h1
  have hd1 := trimD_size s
  have hT : trimD (s.extract 0 m) = (trimD s).extract 0 (m - (s.size - (trimD s).size)) := by
    apply ByteArray.ext
    apply Array.toList_inj.1
    rw [trim_list, ext_dt, ext_dt, List.drop_zero, List.drop_zero, Nat.sub_zero, Nat.sub_zero, trim_take _ _ (by omega), trim_list, ← trim_list, list_size, list_size]
  have hd : s.size - (trimD s).size + numN s = numAll s := rfl
  have hTs : (trimD (s.extract 0 m)).size = m - (s.size - (trimD s).size) := by rw [hT, size_ext _ _ (by omega)]
  have hN : numN (s.extract 0 m) = numN s := by
    have h2 : numN s ≤ m - (s.size - (trimD s).size) := by omega
    unfold numN at h2 ⊢
    rw [hT, ext_dt, List.drop_zero, Nat.sub_zero, upLen_take _ _ _ h2]
  have hA : numAll (s.extract 0 m) = numAll s := by
    show (s.extract 0 m).size - (trimD (s.extract 0 m)).size + numN (s.extract 0 m) = _
    rw [size_ext _ _ hm, hTs, hN]; omega
  unfold numP
  rw [hA, ext0 s 0 m _ (by omega), hv, hN]
  simp only
  rw [if_neg]
  rintro (⟨h3, h4⟩ | h3)
  · rw [hT, bt00 _ _ (by omega) (by omega)] at h4
    exact hc (.inl ⟨h3, h4⟩)
  · exact hc (.inr h3)

theorem local_one (s : ByteArray) (m : Nat) (hm : m ≤ s.size) (h1 : oneN s ≤ m) (h0 : 0 < oneN s) : oneN (s.extract 0 m) = oneN s ∧ oneT (s.extract 0 m) = oneT s := by
  have hb := bt00 s m (by omega) hm
  unfold oneN oneT at *
  rw [hb]
  split
  · next h => rw [if_pos h] at h1 h0; exact local_name s m hm h1 h0
  · next h =>
    rw [if_neg h] at h1 h0
    split
    · next h2 => rw [if_pos h2] at h1 h0; rw [local_num s m hm h1 h0]; exact ⟨rfl, rfl⟩
    · next h2 =>
      rw [if_neg h2] at h1 h0
      split
      · next h3 => rw [if_pos h3] at h1 h0; exact local_text s m hm h1 h0
      · next h3 => rw [if_neg h3] at h1 h0; exact local_sign s m hm h1 h0

inductive Toks (s : ByteArray) : Nat → List S36 → Prop
  | nil (i : Nat) (h : ∀ q : Nat, i ≤ q → q < s.size → bt s (q : Int) = 32) : Toks s i []
  | cons (i a : Nat) (l : List S36) (hi : i ≤ a) (hsp : ∀ q : Nat, i ≤ q → q < a → bt s (q : Int) = 32) (ha : a < s.size) (hne : bt s (a : Int) ≠ 32)
      (hn : 0 < oneN (s.extract a s.size)) (ht : Toks s (a + (oneN (s.extract a s.size)).toNat) l) : Toks s i (tokAt (oneT (s.extract a s.size)) a :: l)

theorem Toks.back {s : ByteArray} {i : Nat} {l : List S36} (h : bt s (i : Int) = 32) (t : Toks s (i + 1) l) : Toks s i l := by
  cases t with
  | nil _ hq => exact .nil _ fun q h1 h2 => (Nat.eq_or_lt_of_le h1).elim (fun e => by subst e; exact h) (fun h3 => hq q h3 h2)
  | cons _ a l hi hsp ha hne hn ht => exact .cons _ a l (by omega) (fun q h1 h2 => (Nat.eq_or_lt_of_le h1).elim (fun e => by subst e; exact h) (fun h3 => hsp q h3 h2)) ha hne hn ht

theorem cutL_toks (s : ByteArray) : ∀ k i acc l, i ≤ s.size → cutL s k i acc = some l → ∃ t, l = acc ++ t ∧ Toks s i t
  | 0, _, _, _, _, h => by simp [cutL] at h
  | k + 1, i, acc, l, hi, h => by
    unfold cutL at h
    split at h
    · next hlt =>
      split at h
      · next h32 =>
        obtain ⟨t, e, ht⟩ := cutL_toks s k _ _ _ (by omega) h
        exact ⟨t, e, ht.back h32⟩
      · next h32 =>
        split at h
        · cases h
        · next hz =>
          have ho := oneN_range (s.extract i s.size) (by simp; omega)
          have hsz : (s.extract i s.size).size = s.size - i := by simp
          obtain ⟨t, e, ht⟩ := cutL_toks s k _ _ _ (by omega) h
          refine ⟨_, by rw [e, List.append_assoc]; rfl, .cons i i t (Nat.le_refl _) (fun q h1 h2 => by omega) hlt h32 (by omega) ht⟩
    · simp only [Option.some.injEq] at h
      exact ⟨[], by simp [h], .nil _ fun q h1 h2 => by omega⟩

theorem cutL_skip (p : ByteArray) : ∀ k (i : Nat) acc, p.size - i < k → (∀ q : Nat, i ≤ q → q < p.size → bt p (q : Int) = 32) → cutL p k i acc = some acc
  | 0, _, _, h, _ => by omega
  | k + 1, i, acc, h, hq => by
    unfold cutL
    split
    · next hlt => rw [if_pos (hq i (Nat.le_refl _) hlt)]; exact cutL_skip p k (i + 1) acc (by omega) fun q h1 h2 => hq q (by omega) h2
    · rfl

theorem piece (s : ByteArray) (hs : s.size ≤ 500) (a en : Nat) (ha : a < s.size) (hne : bt s (a : Int) ≠ 32) (hn : 0 < oneN (s.extract a s.size)) (h1 : a + (oneN (s.extract a s.size)).toNat ≤ en) (h2 : en ≤ s.size)
    (hq : ∀ q : Nat, a + (oneN (s.extract a s.size)).toNat ≤ q → q < en → bt s (q : Int) = 32) : cutP (s.extract a en) = ([tokAt (oneT (s.extract a s.size)) 0], 0) := by
  have hp : s.extract a en = (s.extract a s.size).extract 0 (en - a) := by rw [ext_ext s a (en - a) (by omega)]; congr 1; omega
  have hS : (s.extract a s.size).size = s.size - a := by simp
  have hbt : ∀ q : Nat, q < en - a → bt (s.extract a en) (q : Int) = bt s ((a + q : Nat) : Int) := fun q h => by
    rw [hp, bt0 _ _ _ h (by omega), bt_ext s a q (by omega)]
  obtain ⟨e1, e2⟩ := local_one (s.extract a s.size) (en - a) (by omega) (by omega) hn
  rw [← hp] at e1 e2
  have hpz : (s.extract a en).size = en - a := by simp; omega
  generalize s.extract a en = P at *
  have hPP : P.extract 0 P.size = P := by apply ByteArray.ext; simp
  unfold cutP
  rw [if_neg (by omega)]
  unfold cutL
  rw [if_pos (by omega), if_neg (by have := hbt 0 (by omega); simp only [Nat.add_zero] at this; rw [show ((0 : Nat) : Int) = 0 from rfl] at this; show ¬ bt P ((0 : Nat) : Int) = 32; rw [show ((0 : Nat) : Int) = 0 from rfl, this]; exact hne), hPP, e1, if_neg (by omega), e2, cutL_skip P _ _ _ (by omega) (fun q h3 h4 => by
    rw [hbt q (by omega)]; exact hq _ (by omega) (by omega))]
  rfl

theorem toks_get {s : ByteArray} {i : Nat} {l : List S36} (h : Toks s i l) : ∀ j, j < l.length →
    ∃ a en : Nat, l.getD j z36 = tokAt (oneT (s.extract a s.size)) a ∧ a < s.size ∧ bt s (a : Int) ≠ 32 ∧ 0 < oneN (s.extract a s.size) ∧ a + (oneN (s.extract a s.size)).toNat ≤ en ∧ en ≤ s.size ∧
      (∀ q : Nat, a + (oneN (s.extract a s.size)).toNat ≤ q → q < en → bt s (q : Int) = 32) ∧ (j + 1 < l.length → (l.getD (j + 1) z36).f1 = en) ∧ (¬ j + 1 < l.length → en = s.size) := by
  induction h with
  | nil => intro j hj; simp at hj
  | cons i a l hi hsp ha hne hn ht ih =>
    intro j hj
    cases j with
    | zero =>
      have ho := oneN_range (s.extract a s.size) (by simp; omega)
      have hsz : (s.extract a s.size).size = s.size - a := by simp
      cases ht with
      | nil _ hq => exact ⟨a, s.size, by simp, ha, hne, hn, by omega, Nat.le_refl _, hq, by simp, fun _ => rfl⟩
      | cons _ b r hi2 hsp2 hb hne2 hn2 ht2 => exact ⟨a, b, by simp, ha, hne, hn, hi2, by omega, hsp2, fun _ => by simp [tokAt], fun h => by simp at h⟩
    | succ j =>
      obtain ⟨b, en, h1, h2, h3, h4, h5, h6, h7, h8, h9⟩ := ih j (by simpa using hj)
      exact ⟨b, en, by simpa using h1, h2, h3, h4, h5, h6, h7, fun h => by have := h8 (by simpa using h); simpa using this, fun h => h9 (by simpa using h)⟩

/-- A token's piece of the text cuts to itself. -/
theorem own_law (s : ByteArray) (l : List S36) (h : cutP s = (l, 0)) (j : Nat) (hj : j < l.length) :
    ∃ a en : Nat, (rd_T36 l (j : Int)).f1 = a ∧ a < en ∧ en ≤ s.size ∧ (j + 1 < l.length → (rd_T36 l ((j : Int) + 1)).f1 = en) ∧ (¬ j + 1 < l.length → en = s.size) ∧
      cutP (s.extract a en) = ([⟨(rd_T36 l (j : Int)).f0, 0, (rd_T36 l (j : Int)).f2, (rd_T36 l (j : Int)).f3⟩], 0) := by
  unfold cutP at h
  split at h
  · simp at h
  · next hsz =>
    split at h
    · next l' hl =>
      simp only [Prod.mk.injEq, and_true] at h
      subst h
      obtain ⟨t, e, ht⟩ := cutL_toks s _ _ _ _ (by omega) hl
      simp only [List.nil_append] at e
      subst e
      obtain ⟨a, en, h1, h2, h3, h4, h5, h6, h7, h8, h9⟩ := toks_get ht j hj
      have e1 : rd_T36 l' (j : Int) = tokAt (oneT (s.extract a s.size)) a := by unfold rd_T36; rw [Int.toNat_natCast]; exact h1
      have e2 : rd_T36 l' ((j : Int) + 1) = l'.getD (j + 1) z36 := by unfold rd_T36; congr 1
      rw [e1, e2]
      refine ⟨a, en, rfl, by omega, h6, h8, h9, ?_⟩
      exact piece s (by omega) a en h2 h3 h4 h5 h6 h7
    · simp at h
end Go.Proofs.YtcpcoegoaciipaaDoor.Tok
