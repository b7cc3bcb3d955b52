/- ploverlaw06.TokenCuts answers true. -/
import Derived.Test.YtcpcoegoaciipaaDoorUp
import Derived.Test.YtcpcoegoaciipaaDoorPTokenCutsx6
namespace Go.Proofs.YtcpcoegoaciipaaDoor.Tok
open Go.RowKit Go.Proofs.YtcpcoegoaciipaaDoorW.PrintWords Go.Proofs.YtcpcoegoaciipaaDoorW.PrintLast Go.Proofs.YtcpcoegoaciipaaDoorW.PrintMore
open Go.Proofs.YtcpcoegoaciipaaDoor.PTokenCuts
set_option linter.unusedVariables false
set_option linter.unusedSimpArgs false

theorem w64_in (n : Int) (h : -9223372036854775808 ≤ n ∧ n ≤ 9223372036854775807) : wrap64 n = n := by unfold wrap64; omega

theorem rd_of_lt {l : List S36} {i : Nat} (h : i < l.length) : rd_T36 l (i : Int) = l[i] := by
  unfold rd_T36
  rw [Int.toNat_natCast, List.getD_eq_getElem?_getD, List.getElem?_eq_getElem h]; rfl

theorem as_l0 (l : List S36) (hl : l.length < 3518437208883) : ∀ k i, i ≤ l.length → l.length - i < k →
    ploverlaw06_As.l0 k l ((l.take i).map S51of) (i : Int) = some (l.map S51of)
  | 0, i, _, h => by omega
  | k + 1, i, hi, hk => by
    unfold ploverlaw06_As.l0
    by_cases h : i < l.length
    · rw [if_pos (by omega), if_pos (by omega), if_pos (by simp; omega), w64_in _ (by omega), rd_of_lt h]
      have := as_l0 l hl k (i + 1) (by omega) (by omega)
      rw [List.take_succ_eq_append_getElem h, List.map_append] at this
      exact this
    · rw [if_neg (by omega), List.take_of_length_le (by omega)]
theorem as_f (l : List S36) (hl : l.length < 3518437208883) : ploverlaw06_As.f (l.length + 1) l = some (l.map S51of) :=
  as_l0 l hl _ 0 (by omega) (by omega)

theorem toks_l0 (l : List S51) (hl : l.length < 3518437208883) : ∀ k (i : Nat), i ≤ l.length → l.length - i < k →
    ploverref06_Tokens.l0 k l l (i : Int) = some true
  | 0, i, _, h => by omega
  | k + 1, i, hi, hk => by
    unfold ploverref06_Tokens.l0
    by_cases h : i < l.length
    · rw [if_pos (by omega), if_pos (by omega), if_pos (by omega), if_neg (by simp), w64_in _ (by omega)]
      exact toks_l0 l hl k (i + 1) (by omega) (by omega)
    · rw [if_neg (by omega)]
theorem toks_f (l : List S51) (hl : l.length < 3518437208883) : ploverref06_Tokens.f (l.length + 1) l l = some true := by
  unfold ploverref06_Tokens.f
  rw [if_pos rfl]
  exact toks_l0 l hl _ 0 (by omega) (by omega)

theorem cutL_len (s : ByteArray) : ∀ k i acc l, acc.length ≤ i → i ≤ s.size → cutL s k i acc = some l → l.length ≤ s.size
  | 0, _, _, _, _, _, h => by simp [cutL] at h
  | k + 1, i, acc, l, ha, hi, h => by
    unfold cutL at h
    split at h
    · split at h
      · exact cutL_len s k _ _ _ (by omega) (by omega) h
      · split at h
        · cases h
        · have ho := oneN_range (s.extract i s.size) (by simp; omega)
          have hsz : (s.extract i s.size).size = s.size - i := by simp
          exact cutL_len s k _ _ _ (by simp; omega) (by omega) h
    · simp only [Option.some.injEq] at h; subst h; omega
theorem cutP_len (s : ByteArray) : (cutP s).1.length ≤ 500 := by
  unfold cutP
  split
  · simp
  · split
    · next l h => have := cutL_len s _ _ _ _ (by simp) (by omega) h; simp only; omega
    · simp
theorem cutP_err (s : ByteArray) : (cutP s).2 = 0 ∨ (cutP s).2 = 2 ∨ (cutP s).2 = 5 := by
  unfold cutP
  split
  · simp
  · split <;> simp

set_option maxHeartbeats 1000000 in
set_option maxRecDepth 100000 in
theorem cuts_calls (s : ByteArray) (hs : s.size ≤ 140737488351232) (w : World) (hE : Errs w) :
    Calls Tryd.prog 3 #[.string s] w fun e w' => e = .returned (.bool true) ∧ Below w.heap.size w w' := by
  have HE := Lib.hid hE
  have HO := Lib.hid (fun W hW => cut_calls s hs W hW)
  have HT := Lib.hid (fun W => rcut_calls s hs W)
  have hlen := cutP_len s
  obtain ⟨cN, hcN, hcE⟩ : ∃ c : Nat, c ≤ 12 ∧ (cutP s).2 = (c : Int) := by
    rcases cutP_err s with h | h | h
    · exact ⟨0, by omega, h⟩
    · exact ⟨2, by omega, h⟩
    · exact ⟨5, by omega, h⟩
  rw [hcE] at HO HT
  clear hcE
  have HC := Lib.hid (fun W => code_calls cN hcN W)
  generalize (cutP s).1 = l at *
  generalize errV (cN : Int) = ev at *
  have hmap : (l.map S51of).length = l.length := by simp
  have HA := Lib.hid (as_f l (by omega))
  have HX := Lib.hid (toks_f (l.map S51of) (by rw [hmap]; omega))
  generalize l.map S51of = m at *
  have hlm := Lib.hid hmap
  have hln := Lib.hid hlen
  clear hE hmap hlen hcN
  by_cases hl : 2000 < s.size
  · have hlz : (2000 : Int) < (s.size : Int) := by omega
    clear hl
    go_enter Tryd.func3, Tryd.ntmps3
    go_wp2_with fail
    refine (up_calls _ HE.out).mono ?_
    rintro e w1 ⟨rfl, hb1⟩
    have HB1 := Lib.hid hb1
    clear hb1
    go_wp2_with fail
    go_ret
    exact ⟨rfl, by repeat (with_reducible first | exact HB1.out | apply below_drew | apply pw_below_drewN | apply below_alloc)⟩
  · have hlz : ¬ (2000 : Int) < (s.size : Int) := by omega
    clear hl
    go_enter Tryd.func3, Tryd.ntmps3
    go_wp2_with fail
    refine (up_calls _ HE.out).mono ?_
    rintro e w1 ⟨rfl, hb1⟩
    have HB1 := Lib.hid hb1
    clear hb1
    go_wp2_with fail
    refine (HO.out _ (HE.out.below HB1.out)).mono ?_
    rintro e w2 ⟨v1, rfl, hr1, hb2⟩
    obtain ⟨A, c, rfl, hc, hC⟩ := Kd.R_reads hr1
    have HR1 := Lib.hid hC
    have hcl := Lib.hid hc
    have HB2 := Lib.hid (below_then HB1.out HB1.out.size hb2)
    clear hb2 hC hr1 hc HB1
    go_wp2_with fail
    refine (HT.out _).mono ?_
    rintro e w3 ⟨v2, rfl, hr2, hb3⟩
    obtain ⟨A2, c2, rfl, hc2, hC2⟩ := Kd.R_reads hr2
    have HR2 := Lib.hid hC2
    have hcm := Lib.hid hc2
    have HB3 := Lib.hid (below_then HB2.out HB2.out.size hb3)
    have HR1' := Lib.hid (HR1.out)
    have hb3' := Lib.hid hb3
    clear hb3 hC2 hr2 hc2 HO HT HE
    have HA1 := Lib.hid (fun W (hW : Kd.C k36 W A l.length l) => ploverlaw06_As.calls _ A c l m W hW hcl.out HA.out)
    go_wp2_with (first
      | (go_at_call 9; refine (HC.out _).mono ?_; rintro e w' ⟨rfl, rfl⟩)
      | (go_at_call 11; refine (HA1.out _ ?_).mono ?_; rotate_left; rintro e w' ⟨v, rfl, hr4, hb4⟩))
    case refine_1 => exact Kd.C_below HR1.out hb3'.out
    obtain ⟨A4, c4, rfl, hc4, hC4⟩ := Kd.R_reads hr4
    have HR4 := Lib.hid hC4
    have hc4' := Lib.hid hc4
    have HR2' := Lib.hid (Kd.C_below HR2.out hb4)
    have HB4 := Lib.hid (below_then HB3.out HB3.out.size hb4)
    clear hr4 hb4 hC4 hc4 HR2 HB3
    have HX1 := Lib.hid (fun W h1 h2 => ploverref06_Tokens.calls _ A4 c4 m A2 c2 m true W h1 hc4'.out h2 hcm.out HX.out)
    go_wp2_with (go_at_call 10; refine (HX1.out _ HR4.out HR2'.out).mono ?_; rintro e w' ⟨rfl, ⟨q, rfl⟩⟩)
    go_ret
    exact ⟨rfl, by repeat (with_reducible first | exact HB4.out | apply below_drew | apply pw_below_drewN | apply below_alloc)⟩
end Go.Proofs.YtcpcoegoaciipaaDoor.Tok
