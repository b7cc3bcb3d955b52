/- token.upto: how many bytes at the front of a text are so. -/
import Derived.Test.YtcpcoegoaciipaaDoorPTokenCutsx0
import Derived.Lib.Hide
import Derived.Outline
namespace Go.Proofs.YtcpcoegoaciipaaDoor.Tok
open Go.RowKit Go.Proofs.YtcpcoegoaciipaaDoorW.PrintWords Go.Proofs.YtcpcoegoaciipaaDoorW.PrintLast Go.Proofs.YtcpcoegoaciipaaDoorW.PrintMore
set_option linter.unusedVariables false
set_option linter.unusedSimpArgs false

/-- How many bytes at the front are so. -/
def upLen (p : Int → Bool) : List UInt8 → Nat
  | [] => 0
  | c :: l => if p (c.toNat : Int) then upLen p l + 1 else 0

theorem upLen_le (p : Int → Bool) (l : List UInt8) : upLen p l ≤ l.length := by
  induction l with
  | nil => simp [upLen]
  | cons c l ih => simp only [upLen]; split <;> simp <;> omega

/-- All bytes ahead of it are so. -/
theorem upLen_lt (p : Int → Bool) (l : List UInt8) (i : Nat) (h : i < upLen p l) : ∃ c, l[i]? = some c ∧ p (c.toNat : Int) = true := by
  induction l generalizing i with
  | nil => simp [upLen] at h
  | cons c l ih =>
    simp only [upLen] at h
    split at h
    · rename_i hc
      cases i with
      | zero => exact ⟨c, by simp, hc⟩
      | succ i => obtain ⟨d, hd, hp⟩ := ih i (by omega); exact ⟨d, by simpa using hd, hp⟩
    · omega

/-- The one at it isn't. -/
theorem upLen_at (p : Int → Bool) (l : List UInt8) (c : UInt8) (h : l[upLen p l]? = some c) : p (c.toNat : Int) = false := by
  induction l with
  | nil => simp at h
  | cons d l ih =>
    simp only [upLen] at h
    split at h
    · rename_i hd; exact ih (by simpa using h)
    · rename_i hd
      have : d = c := by simpa using h
      subst this; simpa using hd

/-- A predicate on bytes: what a call of it comes to. -/
def IsPred (g : Nat) (p : Int → Bool) : Prop :=
  ∀ (c : Int) (w : World), 0 ≤ c → c ≤ 255 → Calls Tryd.prog g #[.int .u8 c] w fun e w' => e = .returned (.bool (p c)) ∧ Drawn0 w w'

theorem hlt_byte (s : ByteArray) (n : Nat) (h : n < s.size) : s[n]?.isSome = true := by simp [h]

theorem list_byte (s : ByteArray) (n : Nat) (h : n < s.size) : s.data.toList[n]? = some s[n] := by
  rw [Array.getElem?_toList, Array.getElem?_eq_getElem (by simpa using h)]; rfl

theorem upLen_step (p : Int → Bool) (s : ByteArray) (n : Nat) (h : n < s.size) (hn : n ≤ upLen p s.data.toList) (hp : p (bt s (n : Int)) = true) : n + 1 ≤ upLen p s.data.toList := by
  rcases Nat.lt_or_eq_of_le hn with h1 | h1
  · omega
  · exfalso
    have := upLen_at p s.data.toList s[n] (by rw [← h1]; exact list_byte s n h)
    rw [← bt_at s (n : Int) (by simpa using h)] at hp
    simp at hp
    rw [hp] at this
    exact absurd this (by simp)

theorem upLen_stop (p : Int → Bool) (s : ByteArray) (n : Nat) (h : n < s.size) (hn : n ≤ upLen p s.data.toList) (hp : p (bt s (n : Int)) = false) : n = upLen p s.data.toList := by
  rcases Nat.lt_or_eq_of_le hn with h1 | h1
  · exfalso
    obtain ⟨c, hc, hpc⟩ := upLen_lt p s.data.toList n h1
    rw [list_byte s n h] at hc
    obtain rfl := Option.some.inj hc
    rw [← bt_at s (n : Int) (by simpa using h)] at hp
    simp at hp
    rw [hpc] at hp
    exact absurd hp (by simp)
  · exact h1

theorem bt_get (s : ByteArray) (n : Nat) (h : n < s.size) : bt s (n : Int) = (s[n].toNat : Int) := by
  simp [bt, h]

set_option maxHeartbeats 1000000 in
set_option maxRecDepth 100000 in
theorem upto_calls (g : Nat) (p : Int → Bool) (hp : IsPred g p) (eg : ∀ args w, (callFunc g args).run Tryd.prog w = .ok (.enter g args) w)
    (s : ByteArray) (hs : s.size ≤ 9223372036854775807) (w : World) :
    Calls Tryd.prog 26 #[.string s, .func (.func g) #[] #[]] w fun e w' => e = .returned (.int .i64 (upLen p s.data.toList : Nat)) ∧ Drawn0 w w' := by
  go_enter Tryd.func26, Tryd.ntmps26
  go_wp2
  go_loopg [5] (s.size) (fun kq v5 w' => ∃ n : Nat, v5 = .int .i64 n ∧ n ≤ upLen p s.data.toList ∧ s.size - n ≤ kq ∧ Drawn0 w w')
  case atStart => exact ⟨0, by simp, Nat.zero_le _, by omega, Drawn0.refl _⟩
  case round =>
    obtain ⟨n, rfl, hn, hk, ⟨m, rfl⟩⟩ := hrel
    have hle := upLen_le p s.data.toList
    rw [Array.length_toList, ByteArray.size_data] at hle
    have HP := Lib.hid hp
    clear hp
    by_cases c1 : (n : Int) < (s.size : Int)
    · have c1n : n < s.size := by omega
      have hu := s[n].toNat_lt
      have C := HP.out (s[n].toNat : Int)
      have e1 : decide ((n : Int) < (s.size : Int)) = true := decide_eq_true c1
      cases hq : p (s[n].toNat : Int) with
      | true =>
        have HN := Lib.hid (show n + 1 ≤ upLen p s.data.toList from upLen_step p s n c1n hn (by rw [bt_get s n c1n]; exact hq))
        rw [hq] at C
        have HC := Lib.hid C
        clear C hq hn hle
        go_wp2_with fail
        refine (HC.out _ (by omega) (by omega)).mono ?_
        rintro e w' ⟨rfl, ⟨m2, rfl⟩⟩
        go_wp2
        go_roundg (s.size - (n + 1))
        case measure => omega
        case rel => exact ⟨n + 1, by simp, HN.out, Nat.le_refl _, ⟨⟨_, rfl⟩⟩⟩
      | false =>
        have HN := Lib.hid (show n = upLen p s.data.toList from upLen_stop p s n c1n hn (by rw [bt_get s n c1n]; exact hq))
        rw [hq] at C
        have HC := Lib.hid C
        clear C hq hn hle
        go_wp2_with fail
        refine (HC.out _ (by omega) (by omega)).mono ?_
        rintro e w' ⟨rfl, ⟨m2, rfl⟩⟩
        go_wp2
        go_ret
        exact ⟨by rw [← HN.out]; rfl, ⟨⟨_, rfl⟩⟩⟩
    · have HN := Lib.hid (show n = upLen p s.data.toList by omega)
      clear hn hle
      go_wp2
      go_ret
      exact ⟨by rw [← HN.out]; rfl, ⟨⟨_, rfl⟩⟩⟩
end Go.Proofs.YtcpcoegoaciipaaDoor.Tok
