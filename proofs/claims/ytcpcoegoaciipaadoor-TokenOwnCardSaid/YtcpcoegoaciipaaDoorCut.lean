/- token.Cut: the tokens of a text. -/
import Derived.Test.YtcpcoegoaciipaaDoorOneE
namespace Go.Proofs.YtcpcoegoaciipaaDoor.Tok
open Go.RowKit Go.Proofs.YtcpcoegoaciipaaDoorW.PrintWords Go.Proofs.YtcpcoegoaciipaaDoorW.PrintLast Go.Proofs.YtcpcoegoaciipaaDoorW.PrintMore
open Go.Proofs.YtcpcoegoaciipaaDoor.PTokenCuts
set_option linter.unusedVariables false
set_option linter.unusedSimpArgs false

theorem front_size (s x : ByteArray) (h : isFront s x = true) : x.size ≤ s.size := by
  have h1 : x.data.toList.isPrefixOf s.data.toList = true := h
  have h2 := (List.isPrefixOf_iff_prefix.1 h1).length_le
  simpa [Array.length_toList, ByteArray.size_data] using h2

theorem oneN_range (s : ByteArray) (h0 : 0 < s.size) : 0 ≤ oneN s ∧ oneN s ≤ s.size := by
  unfold oneN
  split
  · have := nameN_le s
    unfold nameLen; split <;> omega
  · split
    · have := numAll_le s
      unfold numP
      split
      · split
        · exact ⟨Int.le_refl _, by simp⟩
        · exact ⟨by simp, by simp; omega⟩
      · exact ⟨Int.le_refl _, by simp⟩
    · split
      · have := textN_le s
        unfold textLen; split <;> omega
      · unfold signLen
        cases h : signP s with
        | none => exact ⟨Int.le_refl _, by simp⟩
        | some x =>
          have := front_size s x (by have := List.find?_some h; simpa using this)
          simp only; omega

def tokAt (t : S36) (i : Nat) : S36 := ⟨t.f0, i, t.f2, t.f3⟩

/-- The tokens from a place on, behind those that were cut. -/
def cutL (s : ByteArray) : Nat → Nat → List S36 → Option (List S36)
  | 0, _, _ => none
  | k + 1, i, acc => if i < s.size then
      if bt s i = 32 then cutL s k (i + 1) acc
      else if oneN (s.extract i s.size) = 0 then none
      else cutL s k (i + (oneN (s.extract i s.size)).toNat) (acc ++ [tokAt (oneT (s.extract i s.size)) i])
    else some acc

/-- What token.Cut answers: tokens, or an error's number. -/
def cutP (s : ByteArray) : List S36 × Int :=
  if 500 < s.size then ([], 5) else match cutL s (s.size + 1) 0 [] with
    | some l => (l, 0)
    | none => ([], 2)

def errV (c : Int) : Value := if c = 0 then .nilIface else .iface 47 (.int .i64 c)

theorem infoTok : (Tryd.prog.info? 36).map (fun i => (i.zero, i.size, i.bytes)) = some (some (.agg #[(.int .i64 0), (.int .i64 0), (.int .i64 0), (.string ⟨#[]⟩)]), 4, 40) := by kernel_rfl

set_option maxHeartbeats 1000000 in
set_option maxRecDepth 100000 in
theorem cut_calls (s : ByteArray) (hs : s.size ≤ 140737488351232) (w : World) (hE : Errs w) :
    Calls Tryd.prog 7 #[.string s] w fun e w' => ∃ v, e = .returned (.tuple #[v, errV (cutP s).2]) ∧ Kd.R k36 36 w' w.heap.size (fun _ => True) v (cutP s).1 ∧ Below w.heap.size w w' := by
  by_cases hl : 500 < s.size
  · have hc : cutP s = ([], 5) := by unfold cutP; rw [if_pos hl]
    rw [hc]
    clear hc
    have hlz : (500 : Int) < (s.size : Int) := by omega
    go_enter Tryd.func7, Tryd.ntmps7
    go_wp2_with fail
    go_ret2
    exact ⟨_, rfl, Kd.R_nil _ _ _ _ _, Below.refl _ _⟩
  · have hlz : ¬ (500 : Int) < (s.size : Int) := by omega
    have HC := Lib.hid (show cutP s = (match cutL s (s.size + 1) 0 [] with
    | some l => (l, 0)
    | none => ([], 2)) by unfold cutP; rw [if_neg hl])
    generalize cutP s = r at *
    have HE := Lib.hid hE
    clear hE
    go_enter Tryd.func7, Tryd.ntmps7
    go_wp2_with fail
    go_loopg [4, 5] (s.size + 1) (fun kq v4 v5 w' => ∃ (i : Nat) (acc : List S36), v5 = .int .i64 i ∧ i ≤ s.size ∧ s.size - i < kq ∧ acc.length ≤ i ∧ Hid (cutL s (s.size + 1) 0 [] = cutL s kq i acc) ∧ Hid (Kd.R k36 36 w' w.heap.size (fun _ => True) v4 acc) ∧ Hid (Below w.heap.size w w'))
    case atStart => exact ⟨0, [], rfl, by omega, by omega, by simp, rfl, Kd.R_nil _ _ _ _ _, Below.refl _ _⟩
    case round =>
      obtain ⟨i, acc, rfl, hi, hk, hal, HL, HR, HB⟩ := hrel
      cases gk with
      | zero => omega
      | succ k =>
      by_cases hlt : i < s.size
      · have hltz : (i : Int) < (s.size : Int) := by omega
        have hb0 : ∀ h : i < s.size, (s[i].toNat : Int) = bt s (i : Int) := fun h => bt_at s (i : Int) h
        by_cases h32 : bt s (i : Int) = 32
        · have HL2 := Lib.hid (show cutL s (s.size + 1) 0 [] = cutL s k (i + 1) acc by rw [HL.out, cutL, if_pos hlt, if_pos h32])
          have hx : (bt s (i : Int) == 32) = true := by simp [h32]
          clear HL h32
          go_wp2_with fail
          go_roundg k
          case measure => omega
          case rel => exact ⟨i + 1, acc, by simp, by omega, by omega, by omega, HL2, HR, HB⟩
        · have hx : (bt s (i : Int) == 32) = false := by simp [h32]
          have ho := oneN_range (s.extract i s.size) (by simp; omega)
          have hsz : (s.extract i s.size).size = s.size - i := by simp
          rw [hsz] at ho
          have HO := Lib.hid (fun W hW => one_calls (s.extract i s.size) (by simp; omega) (by simp; omega) W hW)
          have HL2 := Lib.hid (show cutL s (s.size + 1) 0 [] = if oneN (s.extract i s.size) = 0 then none
            else cutL s k (i + (oneN (s.extract i s.size)).toNat) (acc ++ [tokAt (oneT (s.extract i s.size)) i]) by rw [HL.out, cutL, if_pos hlt, if_neg h32])
          generalize oneN (s.extract i s.size) = n at *
          generalize oneT (s.extract i s.size) = t at *
          clear HL h32 hsz
          go_wp2_with fail
          refine (HO.out _ (HE.out.below HB.out)).mono ?_
          rintro e w2 ⟨rfl, hb2⟩
          have HR2 := Lib.hid (Kd.R_below HR.out hb2)
          have HB2 := Lib.hid (below_then HB.out HB.out.size hb2)
          clear HR HB hb2
          unfold tokV
          by_cases hn : n = 0
          · have hnb : (n == 0) = true := by simp [hn]
            have HV := Lib.hid (show r = ([], 2) by rw [HC.out, HL2.out, if_pos hn])
            clear HL2 HC hn
            go_wp2_with fail
            go_ret2
            refine ⟨_, by rw [HV.out]; rfl, ?_, ?_⟩
            · rw [HV.out]; exact Kd.R_nil _ _ _ _ _
            · exact below_alloc HB2.out _
          · have hnb : (n == 0) = false := by simp [hn]
            have HL3 := Lib.hid (show cutL s (s.size + 1) 0 [] = cutL s k (i + n.toNat) (acc ++ [tokAt t i]) by rw [HL2.out, if_neg hn])
            have hn1 : 1 ≤ n := by omega
            have hn2 : (i : Int) + n ≤ (s.size : Int) := by omega
            clear HL2 HC hn ho
            go_wp2_with (at_builtin; go_loud (refine Kd.R_append k36 (w0 := w) w.heap.size (by rfl) (.tmp 34) (.tmp 36) 23 36 (.agg #[(.int .i64 0), (.int .i64 0), (.int .i64 0), (.string ⟨#[]⟩)]) 40 rfl Tryd.underlying23 infoTok rfl (by decide) (by omega) u4 acc (tokAt t i) [.int .i64 t.f0, .int .i64 i, .int .i64 t.f2, .string t.f3] (fun _ => True) (fun _ => False) rfl ?aX ?aP (fun _ hk => hk.elim) (fun _ _ => trivial) ?aO ?aB ?aS ?aL ?_))
            case aX => simp [Act.eval]
            case aP => exact k36_mkM _ _ _ (tokAt t i)
            case aO => exact Kd.R_alloc HR2.out _
            case aB => exact below_alloc HB2.out _
            case aS => exact below_size (below_alloc HB2.out _)
            case aL => omega
            intro v1 w6 ho6 hb6 _ _
            have HR6 := Lib.hid ho6
            have HB6 := Lib.hid hb6
            clear ho6 hb6 HR2 HB2
            go_wp2_with fail
            go_roundg k
            case measure => omega
            case rel => exact ⟨i + n.toNat, acc ++ [tokAt t i], by simp; omega, by omega, by omega, by simp; omega, HL3, HR6, HB6⟩
      · have HV := Lib.hid (show r = (acc, 0) by rw [HC.out, HL.out, cutL, if_neg hlt])
        have hltz : ¬ (i : Int) < (s.size : Int) := by omega
        clear HC HL
        go_wp2_with fail
        go_ret2
        refine ⟨_, by rw [HV.out]; rfl, ?_, ?_⟩
        · rw [HV.out]; exact HR.out
        · exact HB.out
end Go.Proofs.YtcpcoegoaciipaaDoor.Tok
