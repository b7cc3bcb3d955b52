/- What the printed functions of cells and owners answer, in plain numbers. -/
import Derived.Test.YtcpcoegoaciipaaOPlain
import Derived.Test.YtcpcoegoaciipaaPx5
import Derived.Test.YtcpcoegoaciipaaPx6
namespace Go.Proofs.Ytcpcoegoaciipaa.Own
open Go.RowKit Go.Proofs.YtcpcoegoaciipaaW.PrintWords Go.Proofs.YtcpcoegoaciipaaW.PrintLast Go.Proofs.YtcpcoegoaciipaaW.PrintMore Go.Proofs.Ytcpcoegoaciipaa.P

theorem w64 (n : Int) (h : -9223372036854775808 ≤ n ∧ n ≤ 9223372036854775807) : wrap64 n = n := by unfold wrap64; omega
theorem wu (n : Int) (h0 : 0 ≤ n) (h : n < 18446744073709551616) : IntKind.u64.wrap n = n := by rw [IntKind.wrap_u64]; omega

/-- A shift that may be. -/
def Sh (s : Int) : Prop := 24 ≤ s ∧ s ≤ 31
/-- How many columns there are, less one. -/
def top (s : Int) : Nat := 2 ^ (31 - s).toNat
theorem sh_cases {s : Int} (h : Sh s) : s = 24 ∨ s = 25 ∨ s = 26 ∨ s = 27 ∨ s = 28 ∨ s = 29 ∨ s = 30 ∨ s = 31 := by unfold Sh at h; omega
theorem top_le {s : Int} (h : Sh s) : 1 ≤ top s ∧ top s ≤ 128 := by
  rcases sh_cases h with rfl | rfl | rfl | rfl | rfl | rfl | rfl | rfl <;> decide

theorem may_yes {s : Int} (h : Sh s) : morton_may.f s = some true := by
  unfold morton_may.f; unfold Sh at h
  rw [if_pos h.1]; simp [h.2]
theorem may_no {s : Int} (h : ¬ Sh s) : morton_may.f s = some false := by
  unfold morton_may.f; unfold Sh at h
  split
  · simp; omega
  · rfl
theorem rshift_yes {s : Int} (h : Sh s) : ploverref01_Shift.f s = some true := by
  unfold ploverref01_Shift.f; unfold Sh at h
  rw [if_pos h.1]; simp [h.2]
theorem rshift_no {s : Int} (h : ¬ Sh s) : ploverref01_Shift.f s = some false := by
  unfold ploverref01_Shift.f; unfold Sh at h
  split
  · simp; omega
  · rfl

theorem side_yes {s : Int} (h : Sh s) : morton_Side.f s = some ((top s : Int) + 1) := by
  unfold morton_Side.f
  rw [may_yes h]
  simp only [Option.bind_some, if_true]
  rw [if_pos (by unfold Sh at h; omega)]
  rcases sh_cases h with rfl | rfl | rfl | rfl | rfl | rfl | rfl | rfl <;> (congr 1; kernel_rfl)
theorem side_no {s : Int} (h : ¬ Sh s) : morton_Side.f s = some 0 := by
  unfold morton_Side.f
  rw [may_no h]; rfl

/-! ### Codes -/
def spF : Nat → Nat → Nat
  | 0, _ => 0
  | k + 1, n => 4 * spF k (n / 2) + n % 2
theorem spF_eq : ∀ k n, n < 2 ^ k → spF k n = sp n
  | 0, n, h => by
    have : n = 0 := by simpa using h
    subst this; simp [spF, sp_zero]
  | k + 1, n, h => by
    rw [spF, sp_eq, spF_eq k (n / 2) (by rw [Nat.pow_succ] at h; omega)]
set_option maxRecDepth 100000 in
theorem spread_tab : (List.range 129).all (fun n => morton_spread.f 40 (n : Int) == some ((spF 8 n : Nat) : Int)) = true := by kernel_rfl
theorem spread_eq (n : Nat) (h : n ≤ 128) : morton_spread.f 40 (n : Int) = some (sp n : Int) := by
  have := List.all_eq_true.1 spread_tab n (List.mem_range.2 (by omega))
  rw [beq_iff_eq] at this
  rw [this, spF_eq 8 n (by omega)]
theorem sp_even_or (a b : Nat) (ha : a ≤ 128) (hb : b ≤ 128) : Go.bits .or .u64 (sp a : Int) (IntKind.u64.wrap ((sp b : Int) * 2)) = (code a b : Int) := by
  have h : ((List.range 129).all fun a => (List.range 129).all fun b => Go.bits .or .u64 (spF 8 a : Int) (IntKind.u64.wrap ((spF 8 b : Int) * 2)) == ((spF 8 a + 2 * spF 8 b : Nat) : Int)) = true := by kernel_rfl
  have := List.all_eq_true.1 h a (List.mem_range.2 (by omega))
  have := List.all_eq_true.1 this b (List.mem_range.2 (by omega))
  rw [beq_iff_eq, spF_eq 8 a (by omega), spF_eq 8 b (by omega)] at this
  exact this
theorem far_no (n : Nat) (h : n ≤ 128) : codeFar (n : Int) = false := by unfold codeFar; simp; omega
theorem code_f (a b : Nat) (ha : a ≤ 128) (hb : b ≤ 128) : morton_Code.f (a : Int) (b : Int) = some ((code a b : Int), none) := by
  unfold morton_Code.f
  rw [far_no a ha, far_no b hb, spread_eq a ha, spread_eq b hb]
  simp only [Bool.false_eq_true, if_false, Option.bind_some, sp_even_or a b ha hb]

theorem rcode_f : ∀ (k a b : Nat), a < 2 ^ k → b < 2 ^ k → a ≤ 128 → b ≤ 128 → ploverref01_Code.f (k + 1) (a : Int) (b : Int) = some (code a b : Int)
  | 0, a, b, ha, hb, _, _ => by
    have : a = 0 := by simpa using ha
    have : b = 0 := by simpa using hb
    subst a; subst b
    simp [ploverref01_Code.f, code_zero]
  | k + 1, a, b, ha, hb, ha2, hb2 => by
    rw [Nat.pow_succ] at ha hb
    have ih := rcode_f k (a / 2) (b / 2) (by omega) (by omega) (by omega) (by omega)
    have e1 : wrap64 (Int.tdiv (a : Int) 2) = ((a / 2 : Nat) : Int) := by rw [Int.tdiv_eq_ediv_of_nonneg (by omega), w64 _ (by omega)]; omega
    have e2 : wrap64 (Int.tdiv (b : Int) 2) = ((b / 2 : Nat) : Int) := by rw [Int.tdiv_eq_ediv_of_nonneg (by omega), w64 _ (by omega)]; omega
    have e3 : Int.tmod (a : Int) 2 = ((a % 2 : Nat) : Int) := by rw [Int.tmod_eq_emod_of_nonneg (by omega)]; omega
    have e4 : Int.tmod (b : Int) 2 = ((b % 2 : Nat) : Int) := by rw [Int.tmod_eq_emod_of_nonneg (by omega)]; omega
    have hs := code_small (c := a / 2) (r := b / 2) (by omega) (by omega)
    have hv : IntKind.u64.wrap ((IntKind.u64.wrap ((IntKind.u64.wrap (4 * ((code (a / 2) (b / 2) : Nat) : Int))) + (IntKind.u64.wrap ((a % 2 : Nat) : Int)))) + (IntKind.u64.wrap (2 * (IntKind.u64.wrap ((b % 2 : Nat) : Int))))) = (code a b : Int) := by
      rw [wu ((a % 2 : Nat) : Int) (by omega) (by omega), wu ((b % 2 : Nat) : Int) (by omega) (by omega), wu (4 * _) (by omega) (by omega), wu (2 * _) (by omega) (by omega), wu (4 * _ + _) (by omega) (by omega), wu _ (by omega) (by omega), code_eq a b]
      omega
    rw [ploverref01_Code.f, e1, e2, e3, e4, ih]
    simp only [Option.bind_some, hv]
    by_cases h0 : a = 0
    · by_cases h1 : b = 0
      · subst h0; subst h1; simp [code_zero]
      · rw [if_pos (by omega), if_neg (by omega)]
    · rw [if_neg (by omega)]
theorem rcode_at (k a b : Nat) (hk : 9 ≤ k) (ha : a ≤ 128) (hb : b ≤ 128) : ploverref01_Code.f k (a : Int) (b : Int) = some (code a b : Int) := by
  obtain ⟨j, rfl⟩ : ∃ j, k = j + 1 := ⟨k - 1, by omega⟩
  have h8 : (256 : Nat) ≤ 2 ^ j := by have := Nat.pow_le_pow_right (n := 2) (by omega) (show 8 ≤ j by omega); simpa using this
  exact rcode_f j a b (by omega) (by omega) ha hb

/-! ### Powers of two, cells of coordinates -/
theorem two_l0 : ∀ (d k : Nat) (n i : Nat), n ≤ 62 → n - i = d → i ≤ n → d < k → ploverref01_two.l0 k (n : Int) ((2 ^ i : Nat) : Int) (i : Int) = some ((2 ^ n : Nat) : Int)
  | d, 0, n, i, _, _, _, h => by omega
  | d, k + 1, n, i, hn, hd, hi, hk => by
    unfold ploverref01_two.l0
    by_cases h : i < n
    · have hp : (2 : Nat) ^ (i + 1) ≤ 2 ^ 62 := Nat.pow_le_pow_right (by decide) (by omega)
      rw [if_pos (by omega), w64 ((i : Int) + 1) (by omega), show (2 : Int) * ((2 ^ i : Nat) : Int) = ((2 ^ (i + 1) : Nat) : Int) by rw [Nat.pow_succ]; omega, w64 _ ⟨Int.le_trans (by decide) (Int.natCast_nonneg _), Int.le_trans (Int.ofNat_le.2 hp) (by decide)⟩]
      exact two_l0 (d - 1) k n (i + 1) hn (by omega) (by omega) (by omega)
    · obtain rfl : i = n := by omega
      rw [if_neg (by omega)]
theorem two_f (k n : Nat) (hn : n ≤ 62) (hk : n < k) : ploverref01_two.f k (n : Int) = some ((2 ^ n : Nat) : Int) := by
  unfold ploverref01_two.f
  exact two_l0 n k n 0 hn (by omega) (by omega) (by omega)
theorem rside {k : Nat} {s : Int} (h : Sh s) (hk : 40 ≤ k) : ploverref01_Side.f k s = some ((top s : Int) + 1) := by
  have ht := top_le h
  unfold ploverref01_Side.f
  have e : wrap64 (31 - s) = ((31 - s).toNat : Int) := by unfold Sh at h; rw [w64 _ (by omega)]; omega
  rw [e, two_f k _ (by unfold Sh at h; omega) (by unfold Sh at h; omega)]
  simp only [Option.bind_some]
  show some (wrap64 ((top s : Int) + 1)) = _
  rw [w64 _ (by omega)]

/-- A coordinate that may be. -/
def Co (n : Int) : Prop := -1073741824 ≤ n ∧ n ≤ 1073741824
/-- Its column, or row. -/
def cell (s n : Int) : Nat := (n + 1073741824).toNat / 2 ^ s.toNat
theorem cell_le {s n : Int} (h : Sh s) (hn : Co n) : cell s n ≤ top s := by
  unfold cell Co at *
  rcases sh_cases h with rfl | rfl | rfl | rfl | rfl | rfl | rfl | rfl <;> (simp [top]; omega)
theorem cell_mono {s n m : Int} (h : n ≤ m) : cell s n ≤ cell s m := Nat.div_le_div_right (by omega)
theorem cell_shr {s n : Int} (h : Sh s) (hn : Co n) : shr .i64 (wrap64 (n + 1073741824)) s = (cell s n : Int) := by
  unfold Co at hn
  rw [w64 _ (by omega)]
  obtain ⟨m, hm⟩ := Int.eq_ofNat_of_zero_le (show 0 ≤ n + 1073741824 by omega)
  unfold cell
  rw [hm]
  rcases sh_cases h with rfl | rfl | rfl | rfl | rfl | rfl | rfl | rfl <;> (show ((m : Int) / _) = _; simp [IntKind.bits])
theorem rcell {k : Nat} {s n : Int} (h : Sh s) (hn : Co n) (hk : 40 ≤ k) : ploverref01_Cell.f k s n = some (cell s n : Int) := by
  unfold ploverref01_Cell.f
  have hsh := h
  unfold Sh at hsh
  have e : s = (s.toNat : Int) := by omega
  have ht : ploverref01_two.f k s = some ((2 ^ s.toNat : Nat) : Int) := by rw [e]; exact two_f k _ (by omega) (by omega)
  rw [ht]
  have hc := cell_le h hn
  have ht2 := top_le h
  have hp : 0 < (2 : Nat) ^ s.toNat := Nat.two_pow_pos _
  simp only [Option.bind_some]
  unfold Co at hn
  rw [if_neg (by omega), w64 (n + _) (by omega), Int.tdiv_eq_ediv_of_nonneg (by omega)]
  obtain ⟨m, hm⟩ := Int.eq_ofNat_of_zero_le (show 0 ≤ n + 1073741824 by omega)
  have e2 : (n + 1073741824) / ((2 ^ s.toNat : Nat) : Int) = (cell s n : Int) := by
    unfold cell; rw [hm]; simp
  rw [e2, w64 _ (by omega)]
end Go.Proofs.Ytcpcoegoaciipaa.Own
