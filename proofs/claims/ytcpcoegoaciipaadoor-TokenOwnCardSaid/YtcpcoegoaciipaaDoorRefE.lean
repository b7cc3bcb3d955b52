/- Signs: the document's and the program's are the same. No program in sight. -/
import Derived.Test.YtcpcoegoaciipaaDoorRefD
namespace Go.Proofs.YtcpcoegoaciipaaDoor.Tok
open Go.RowKit Go.Proofs.YtcpcoegoaciipaaDoorW.PrintWords Go.Proofs.YtcpcoegoaciipaaDoorW.PrintLast Go.Proofs.YtcpcoegoaciipaaDoorW.PrintMore
open Go.Proofs.YtcpcoegoaciipaaDoor.PTokenCuts
set_option linter.unusedVariables false
set_option linter.unusedSimpArgs false

def isTwo (x : ByteArray) : Bool := x.toList == [60, 61] || x.toList == [33, 61] || x.toList == [62, 61] || x.toList == [94, 61]
def isOne (x : ByteArray) : Bool := x.toList == [40] || x.toList == [41] || x.toList == [44] || x.toList == [60] || x.toList == [61] || x.toList == [62]

theorem ext2 (s : ByteArray) (i : Nat) (h : i + 1 < s.size) : ∃ c d r, s.data.toList.drop i = c :: d :: r ∧ (s.extract i (i + 2)).toList = [c, d] ∧ bt s (i : Int) = c.toNat := by
  obtain ⟨c, h1, h2⟩ := drop_cons s i (by omega)
  obtain ⟨d, h3, _⟩ := drop_cons s (i + 1) h
  refine ⟨c, d, _, by rw [h1, h3], ?_, h2⟩
  rw [ByteArray.toList_eq, ByteArray.data_extract, Array.toList_extract, List.extract_eq_take_drop, h1, h3, show i + 2 - i = 2 from by omega]
  rfl

theorem ext1 (s : ByteArray) (i : Nat) (h : i < s.size) : ∃ c r, s.data.toList.drop i = c :: r ∧ (s.extract i (i + 1)).toList = [c] ∧ bt s (i : Int) = c.toNat := by
  obtain ⟨c, h1, h2⟩ := drop_cons s i (by omega)
  refine ⟨c, _, h1, ?_, h2⟩
  rw [ByteArray.toList_eq, ByteArray.data_extract, Array.toList_extract, List.extract_eq_take_drop, h1, show i + 1 - i = 1 from by omega]
  rfl

theorem ba_ext {x : ByteArray} {l : List UInt8} (h : x.toList = l) : x = ⟨l.toArray⟩ := by
  rw [ByteArray.toList_eq] at h
  apply ByteArray.ext; rw [← h]

theorem front_list {s : ByteArray} {l : List UInt8} (hs : s.data.toList = l) (x : ByteArray) : isFront s x = x.data.toList.isPrefixOf l := by
  unfold isFront Lib.hasPrefix; rw [hs]

theorem sign_two_find {s : ByteArray} {i : Nat} (h : i + 1 < s.size) (hx : isTwo (s.extract i (i + 2)) = true) : signP (s.extract i s.size) = some (s.extract i (i + 2)) := by
  obtain ⟨c, d, r, h1, h2, _⟩ := ext2 s i h
  have hl : (s.extract i s.size).data.toList = c :: d :: r := by rw [ext_data, h1]
  unfold isTwo at hx
  simp only [Bool.or_eq_true, beq_iff_eq] at hx
  unfold signP
  rcases hx with ((hx | hx) | hx) | hx
  all_goals
    rw [ba_ext hx]
    rw [h2] at hx
    simp only [List.cons.injEq, and_true] at hx
    obtain ⟨rfl, rfl⟩ := hx
    simp only [signL, List.find?_cons, front_list hl]
    simp [List.isPrefixOf]

theorem sign_one_find {s : ByteArray} {i : Nat} (h0 : i < s.size) (h : ¬ (i + 1 < s.size ∧ isTwo (s.extract i (i + 2)) = true)) :
    signP (s.extract i s.size) = if isOne (s.extract i (i + 1)) then some (s.extract i (i + 1)) else none := by
  obtain ⟨c, r, h1, h2, _⟩ := ext1 s i h0
  have hl : (s.extract i s.size).data.toList = c :: r := by rw [ext_data, h1]
  have hno : ∀ a ∈ ([60, 33, 62, 94] : List UInt8), List.isPrefixOf [a, 61] (c :: r) = false := by
    intro a ha
    cases r with
    | nil => simp [List.isPrefixOf]
    | cons d r' =>
      have hi : i + 1 < s.size := by
        have := congrArg List.length h1
        rw [List.length_drop, Array.length_toList, ByteArray.size_data] at this
        simp at this; omega
      obtain ⟨c', d', r2, g1, g2, _⟩ := ext2 s i hi
      rw [h1] at g1
      simp only [List.cons.injEq] at g1
      obtain ⟨rfl, rfl, rfl⟩ := g1
      have hx : isTwo (s.extract i (i + 2)) = false := by
        cases hq : isTwo (s.extract i (i + 2)) with
        | false => rfl
        | true => exact absurd ⟨hi, hq⟩ h
      unfold isTwo at hx
      rw [g2] at hx
      simp only [Bool.or_eq_false_iff, beq_eq_false_iff_ne, ne_eq, List.cons.injEq, and_true, not_and] at hx
      simp only [List.isPrefixOf, Bool.and_true]
      simp only [List.mem_cons, List.not_mem_nil, or_false] at ha
      rw [Bool.and_eq_false_iff, beq_eq_false_iff_ne, beq_eq_false_iff_ne]
      by_cases hd : (61 : UInt8) = d
      · left
        intro hac
        rcases ha with rfl | rfl | rfl | rfl
        · exact hx.1.1.1 hac.symm hd.symm
        · exact hx.1.1.2 hac.symm hd.symm
        · exact hx.1.2 hac.symm hd.symm
        · exact hx.2 hac.symm hd.symm
      · exact Or.inr hd
  unfold signP
  simp only [signL, List.find?_cons, front_list hl, hno 60 (by simp), hno 33 (by simp), hno 62 (by simp), hno 94 (by simp)]
  have hp : ∀ a : UInt8, List.isPrefixOf [a] (c :: r) = (a == c) := by intro a; simp [List.isPrefixOf]
  simp only [hp, List.find?_nil]
  unfold isOne
  rw [h2]
  by_cases c1 : c = 40
  · subst c1; rw [ba_ext h2]; rfl
  by_cases c2 : c = 41
  · subst c2; rw [ba_ext h2]; rfl
  by_cases c3 : c = 44
  · subst c3; rw [ba_ext h2]; rfl
  by_cases c4 : c = 60
  · subst c4; rw [ba_ext h2]; rfl
  by_cases c5 : c = 61
  · subst c5; rw [ba_ext h2]; rfl
  by_cases c6 : c = 62
  · subst c6; rw [ba_ext h2]; rfl
  have e : ∀ a : UInt8, c ≠ a → (a == c) = false := fun a h => beq_eq_false_iff_ne.2 (fun h2 => h h2.symm)
  simp [e 40 c1, e 41 c2, e 44 c3, e 60 c4, e 61 c5, e 62 c6, c1, c2, c3, c4, c5, c6]
end Go.Proofs.YtcpcoegoaciipaaDoor.Tok
