/- Decimal numbers, by the document and by the library: what both come to. No program in sight. -/
import Derived.Test.YtcpcoegoaciipaaDoorNum
namespace Go.Proofs.YtcpcoegoaciipaaDoor.Tok
open Go.RowKit Go.Proofs.YtcpcoegoaciipaaDoorW.PrintWords

/-- What digits come to, behind a number. -/
def decV (l : List UInt8) (acc : Nat) : Nat := l.foldl (fun a c => a * 10 + (c.toNat - 48)) acc
theorem decV_cons (c : UInt8) (l : List UInt8) (acc : Nat) : decV (c :: l) acc = decV l (acc * 10 + (c.toNat - 48)) := by
  simp only [decV, List.foldl_cons]
theorem decV_nil (acc : Nat) : decV [] acc = acc := by simp only [decV, List.foldl_nil]
theorem decV_ge (l : List UInt8) (acc : Nat) : acc ≤ decV l acc := by
  induction l generalizing acc with
  | nil => rw [decV_nil]; exact Nat.le_refl _
  | cons c l ih => rw [decV_cons]; have := ih (acc * 10 + (c.toNat - 48)); omega

def AllDig (l : List UInt8) : Prop := ∀ c ∈ l, 48 ≤ c.toNat ∧ c.toNat ≤ 57
theorem AllDig.tail {c : UInt8} {l : List UInt8} (h : AllDig (c :: l)) : AllDig l := fun d hd => h d (List.mem_cons_of_mem _ hd)

theorem parse_dec (l : List UInt8) (hl : AllDig l) (acc : Nat) (ha : acc ≤ 18446744073709551615) :
    Lib.parseUintM 18446744073709551615 acc l = if decV l acc ≤ 18446744073709551615 then .ok (decV l acc) else .range := by
  induction l generalizing acc with
  | nil => rw [Lib.parseUintM, decV_nil, if_pos ha]
  | cons c l ih =>
    have hc := hl c List.mem_cons_self
    have hg := decV_ge l (acc * 10 + (c.toNat - 48))
    rw [Lib.parseUintM, if_pos hc, decV_cons]
    by_cases h1 : 1844674407370955162 ≤ acc
    · rw [if_pos h1, if_neg (by omega)]
    · rw [if_neg h1]
      by_cases h2 : 18446744073709551615 < acc * 10 + (c.toNat - 48)
      · rw [if_pos h2, if_neg (by omega)]
      · rw [if_neg h2]; exact ih hl.tail _ (by omega)

/-- The document's state: the number, and whether it is too great. -/
def refSt : List UInt8 → Nat → Bool → Nat × Bool
  | [], n, b => (n, b)
  | c :: l, n, b => refSt l ((10 * n + (c.toNat - 48)) % 18446744073709551616) (b || decide (922337203685477580 < n) || (n == 922337203685477580 && decide (56 < c.toNat)))

theorem refSt_big (l : List UInt8) (n : Nat) : (refSt l n true).2 = true := by
  induction l generalizing n with
  | nil => rfl
  | cons c l ih => simp only [refSt, Bool.true_or]; exact ih _

theorem refSt_spec (l : List UInt8) (hl : AllDig l) (n : Nat) (hn : n ≤ 9223372036854775808) :
    (refSt l n false).2 = decide (9223372036854775808 < decV l n) ∧ ((refSt l n false).2 = false → (refSt l n false).1 = decV l n) := by
  induction l generalizing n with
  | nil => exact ⟨by rw [decV_nil]; exact (decide_eq_false (by omega)).symm, fun _ => (decV_nil n).symm⟩
  | cons c l ih =>
    have hc := hl c List.mem_cons_self
    have hg := decV_ge l (n * 10 + (c.toNat - 48))
    rw [decV_cons]
    simp only [refSt, Bool.false_or]
    cases hb : (decide (922337203685477580 < n) || (n == 922337203685477580 && decide (56 < c.toNat))) with
    | true =>
      have hb2 : 9223372036854775808 < n * 10 + (c.toNat - 48) := by
        simp only [Bool.or_eq_true, Bool.and_eq_true, decide_eq_true_eq, beq_iff_eq] at hb
        omega
      refine ⟨?_, fun h => ?_⟩
      · rw [refSt_big]; simp; omega
      · rw [refSt_big] at h; exact absurd h (by simp)
    | false =>
      have hb2 : n * 10 + (c.toNat - 48) ≤ 9223372036854775808 := by
        simp only [Bool.or_eq_false_iff, Bool.and_eq_false_iff, decide_eq_false_iff_not, beq_eq_false_iff_ne, ne_eq] at hb
        omega
      have e : (10 * n + (c.toNat - 48)) % 18446744073709551616 = n * 10 + (c.toNat - 48) := by omega
      rw [e]
      exact ih hl.tail _ hb2
end Go.Proofs.YtcpcoegoaciipaaDoor.Tok
