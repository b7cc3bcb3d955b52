/- token.number: what a number at the front of a text is, and how many bytes it has. -/
import Derived.Test.YtcpcoegoaciipaaDoorUpto
import Derived.Test.YtcpcoegoaciipaaDoorShelf
import Derived.Test.YtcpcoegoaciipaaDoorPTokenCutsx2
namespace Go.Proofs.YtcpcoegoaciipaaDoor.Tok
open Go.RowKit Go.Proofs.YtcpcoegoaciipaaDoorW.PrintWords Go.Proofs.YtcpcoegoaciipaaDoorW.PrintLast Go.Proofs.YtcpcoegoaciipaaDoorW.PrintMore
open Go.Proofs.YtcpcoegoaciipaaDoor.PTokenCuts
set_option linter.unusedVariables false
set_option linter.unusedSimpArgs false

def digB (c : Int) : Bool := decide (48 ≤ c ∧ c ≤ 57)
def lowB (c : Int) : Bool := decide (97 ≤ c ∧ c ≤ 122)
def wordB (c : Int) : Bool := lowB c || digB c
def textB (c : Int) : Bool := decide (32 ≤ c ∧ c ≤ 126 ∧ c ≠ 34)

theorem digit_pred : IsPred 28 digB := by
  intro c w h0 h1
  refine (token_digit.calls c (digB c) w ?_)
  unfold token_digit.f digB
  by_cases h : c ≥ 48
  · rw [if_pos h]; congr 1; simp; omega
  · rw [if_neg h]; congr 1; simp; omega

theorem lower_pred : IsPred 25 lowB := by
  intro c w h0 h1
  refine (token_lower.calls c (lowB c) w ?_)
  unfold token_lower.f lowB
  by_cases h : c ≥ 97
  · rw [if_pos h]; congr 1; simp; omega
  · rw [if_neg h]; congr 1; simp; omega

theorem digit_enters : ∀ args w, (callFunc 28 args).run Tryd.prog w = .ok (.enter 28 args) w := enters_of Tryd.func28 (by kernel_rfl) rfl

/-- What both errors of the library hold: an interface value. -/
def Errs (w : World) : Prop := (∃ t p, w.cell? ⟨0, 0, none⟩ = some (.iface t p)) ∧ (∃ t p, w.cell? ⟨1, 0, none⟩ = some (.iface t p))

theorem Errs.below {w w' : World} (h : Errs w) (hb : Below w.heap.size w w') : Errs w' := by
  obtain ⟨⟨t, p, h1⟩, ⟨u, q, h2⟩⟩ := h
  exact ⟨⟨t, p, pw_cell_below hb h1⟩, ⟨u, q, pw_cell_below hb h2⟩⟩

def trimD (s : ByteArray) : ByteArray := ⟨(Lib.trimPrefix s.data.toList [45]).toArray⟩
def numN (s : ByteArray) : Nat := upLen digB (trimD s).data.toList
def numAll (s : ByteArray) : Nat := s.size - (trimD s).size + numN s
/-- What token.number comes to: the number, and how many bytes. -/
def numP (s : ByteArray) : Int × Int :=
  match Lib.parseIntB 64 (s.extract 0 (numAll s)).data.toList with
  | .ok v => if (1 < numN s ∧ bt (trimD s) 0 = 48) ∨ (v = 0 ∧ numN s < numAll s) then (0, 0) else (v, numAll s)
  | _ => (0, 0)

theorem trimD_size (s : ByteArray) : (trimD s).size ≤ s.size ∧ s.size ≤ (trimD s).size + 1 := by
  have h : (trimD s).size = (Lib.trimPrefix s.data.toList [45]).length := by unfold trimD; rw [ByteArray.size]; simp only [List.size_toArray]
  have h2 : s.data.toList.length = s.size := by rw [Array.length_toList, ByteArray.size_data]
  rw [h, ← h2]
  unfold Lib.trimPrefix
  split
  · rw [List.length_drop]; simp only [List.length_cons, List.length_nil]; omega
  · omega

theorem numN_le (s : ByteArray) : numN s ≤ (trimD s).size := by
  have := upLen_le digB (trimD s).data.toList
  rw [Array.length_toList, ByteArray.size_data] at this
  exact this

theorem numAll_le (s : ByteArray) : numAll s ≤ s.size := by
  have h1 := trimD_size s
  have h2 := numN_le s
  unfold numAll
  omega

theorem trim_calls (s : ByteArray) (w : World) : Calls Tryd.prog 46 #[.string s, .string ⟨#[45]⟩] w fun e w' => e = .returned (.string (trimD s)) ∧ w' = w :=
  Tryd.strings_TrimPrefix s ⟨#[45]⟩ w

theorem bytesWorld_below (w : World) (e : TypeId) (s : ByteArray) : Below w.heap.size w (Lib.bytesWorld w e s) := Lib.bytesWorld_below w e s

set_option maxHeartbeats 1000000 in
set_option maxRecDepth 100000 in
theorem number_calls (s : ByteArray) (hs : s.size ≤ 140737488351232) (w : World) (hE : Errs w) :
    Calls Tryd.prog 31 #[.string s] w fun e w' => e = .returned (.tuple #[.int .i64 (numP s).1, .int .i64 (numP s).2]) ∧ Below w.heap.size w w' := by
  have h1 := trimD_size s
  have h2 := numN_le s
  have h3 := numAll_le s
  have HT := Lib.hid (trim_calls s)
  have HN := Lib.hid (show upLen digB (trimD s).data.toList = numN s from rfl)
  have HA := Lib.hid (show s.size - (trimD s).size + numN s = numAll s from rfl)
  have HP := Lib.hid (show numP s = (match Lib.parseIntB 64 (s.extract 0 (numAll s)).data.toList with
    | .ok v => if (1 < numN s ∧ bt (trimD s) 0 = 48) ∨ (v = 0 ∧ numN s < numAll s) then (0, 0) else (v, (numAll s : Int))
    | _ => (0, 0)) from rfl)
  generalize hd : trimD s = d at *
  generalize hn : numN s = n at *
  generalize ha : numAll s = all at *
  generalize hp : numP s = r at *
  have HE := Lib.hid hE
  clear hd hn ha hp hE
  go_enter Tryd.func31, Tryd.ntmps31
  go_wp2_with fail
  refine (HT.out _).mono ?_
  rintro e w1 ⟨rfl, rfl⟩
  go_wp2_with fail
  refine (upto_calls _ digB digit_pred digit_enters d (by omega) _).mono ?_
  rintro e w2 ⟨rfl, ⟨m, rfl⟩⟩
  rw [HN.out]
  go_wp2_with fail
  have hi : ((s.size : Int) - (d.size : Int) + (n : Int)) = (all : Int) := by have := HA.out; omega
  rw [HA.out, hi]
  clear hi
  have hx : (s.extract 0 all).size ≤ 140737488351232 := by simp; omega
  generalize hX : s.extract 0 all = X at *
  have hb1 := pw_below_drewN (Below.refl w1.heap.size w1) m
  have HE1 := Lib.hid (HE.out.below hb1)
  generalize w1.drewN m = w2 at *
  have HB := Lib.hid hb1
  clear hb1 hX HE HN
  rcases hq : Lib.parseIntB 64 X.data.toList with v | _ | _
  ·
    have HR := Lib.hid (show r = (if 1 < n ∧ bt d 0 = 48 ∨ v = 0 ∧ n < all then (0, 0) else (v, (all : Int))) by rw [HP.out, hq])
    clear HP
    refine (Tryd.strconv_ParseInt_10_at64_ok X (by omega) v hq _).mono ?_
    rintro e w3 ⟨rfl, hw3⟩
    have HB3 := Lib.hid (show Below w1.heap.size w1 w3 by
      rcases hw3 with rfl | ⟨t, rfl⟩
      · exact HB.out
      · exact below_then HB.out HB.out.size (bytesWorld_below _ _ _))
    clear hw3 hq HB
    have hb0 : ∀ h : 0 < d.size, (d[0].toNat : Int) = bt d 0 := fun h => bt_at d 0 h
    go_wp2
    all_goals
      go_ret2
      refine ⟨?_, HB3.out⟩
      rw [HR.out]
      try simp only [beq_iff_eq, beq_eq_false_iff_ne, ne_eq] at *
      first
        | (rw [if_pos (by omega)]; rfl)
        | (rw [if_neg (by omega)]; rfl)
        | (rw [if_neg (by omega)]; have hv : v = 0 := by omega
           rw [hv]; rfl)
  ·
    have HR := Lib.hid (show r = (0, 0) by rw [HP.out, hq])
    clear HP
    obtain ⟨⟨tp, pe, hc⟩, _⟩ := HE1.out
    refine (Tryd.strconv_ParseInt_10_at64_syntax X (by omega) hq _ _ hc (Or.inr ⟨_, _, rfl⟩)).mono ?_
    rintro e w3 ⟨N, rfl, _, _, hb3⟩
    have HB3 := Lib.hid (show Below w1.heap.size w1 w3 from below_then HB.out HB.out.size hb3)
    clear hb3 hq HB hc HE1
    go_wp2
    go_ret2
    refine ⟨?_, HB3.out⟩
    rw [HR.out]
    rfl
  ·
    have HR := Lib.hid (show r = (0, 0) by rw [HP.out, hq])
    clear HP
    obtain ⟨_, ⟨tp, pe, hc⟩⟩ := HE1.out
    refine (Tryd.strconv_ParseInt_10_at64_range X (by omega) hq _ _ hc (Or.inr ⟨_, _, rfl⟩)).mono ?_
    rintro e w3 ⟨N, rfl, _, _, hb3⟩
    have HB3 := Lib.hid (show Below w1.heap.size w1 w3 from below_then HB.out HB.out.size hb3)
    clear hb3 hq HB hc HE1
    go_wp2
    go_ret2
    refine ⟨?_, HB3.out⟩
    rw [HR.out]
    rfl
end Go.Proofs.YtcpcoegoaciipaaDoor.Tok
