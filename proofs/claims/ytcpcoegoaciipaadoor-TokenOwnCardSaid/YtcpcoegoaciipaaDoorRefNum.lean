/- The document's number at a place. -/
import Derived.Test.YtcpcoegoaciipaaDoorNumEq
import Derived.Test.YtcpcoegoaciipaaDoorRefB
namespace Go.Proofs.YtcpcoegoaciipaaDoor.Tok
open Go.RowKit Go.Proofs.YtcpcoegoaciipaaDoorW.PrintWords Go.Proofs.YtcpcoegoaciipaaDoorW.PrintLast Go.Proofs.YtcpcoegoaciipaaDoorW.PrintMore
open Go.Proofs.YtcpcoegoaciipaaDoor.PTokenCuts
set_option linter.unusedVariables false
set_option linter.unusedSimpArgs false

/-- What the document's number is refused for. -/
def rnFail (nd : Nat) (lead : Bool) (mb : Bool) (n : Nat) (b : Bool) : Bool :=
  decide (nd = 0) || (decide (1 < nd) && lead) || b || (mb && decide (n = 0)) || (!mb && decide (n = 9223372036854775808))

theorem u64_step (x c : Nat) (h : 48 ≤ c) : IntKind.u64.wrap (IntKind.u64.wrap (10 * (x : Int)) + ((c : Int) - 48)) = ((10 * x + (c - 48)) % 18446744073709551616 : Nat) := by
  rw [IntKind.wrap_u64, IntKind.wrap_u64]; omega

theorem big1 (x c : Nat) (y : Bool) (h : y = true) : true = (y || decide (922337203685477580 < x) || (x == 922337203685477580 && decide (56 < c))) := by simp [h]
theorem big2 (x c : Nat) (y : Bool) (h : ¬ y = true) (h2 : (x : Int) = 922337203685477580) : decide (56 < c) = (y || decide (922337203685477580 < x) || (x == 922337203685477580 && decide (56 < c))) := by
  have : x = 922337203685477580 := by omega
  have hy : y = false := by simpa using h
  subst this; simp [hy]
theorem big2i (x c : Nat) (y : Bool) (h : ¬ y = true) (h2 : (x : Int) = 922337203685477580) : decide (56 < (c : Int)) = (y || decide (922337203685477580 < x) || (x == 922337203685477580 && decide (56 < c))) := by
  rw [← big2 x c y h h2]; apply decide_eq_decide.2; omega
theorem big3 (x c : Nat) (y : Bool) (h : ¬ y = true) (h2 : (x : Int) ≤ 922337203685477580) (h3 : ¬ (x : Int) = 922337203685477580) : false = (y || decide (922337203685477580 < x) || (x == 922337203685477580 && decide (56 < c))) := by
  have hy : y = false := by simpa using h
  have e1 : decide (922337203685477580 < x) = false := decide_eq_false (by omega)
  have e2 : (x == 922337203685477580) = false := beq_eq_false_iff_ne.2 (by omega)
  rw [hy, e1, e2]; rfl
theorem big4 (x c : Nat) (y : Bool) (h : ¬ y = true) (h2 : 922337203685477580 < (x : Int)) : true = (y || decide (922337203685477580 < x) || (x == 922337203685477580 && decide (56 < c))) := by
  have e1 : decide (922337203685477580 < x) = true := decide_eq_true (by omega)
  rw [e1]; simp

theorem big4i (x c : Nat) (y : Bool) (h : ¬ y = true) (h2 : 922337203685477580 < (x : Int)) : decide (922337203685477580 < (x : Int)) = (y || decide (922337203685477580 < x) || (x == 922337203685477580 && decide (56 < c))) := by
  rw [decide_eq_true h2]; exact big4 x c y h h2

theorem big3i (x c : Nat) (y : Bool) (h : ¬ y = true) (h2 : (x : Int) ≤ 922337203685477580) (h3 : ¬ (x : Int) = 922337203685477580) : decide (922337203685477580 < (x : Int)) = (y || decide (922337203685477580 < x) || (x == 922337203685477580 && decide (56 < c))) := by
  rw [decide_eq_false (by omega)]; exact big3 x c y h h2 h3

def RefNum (nd : Nat) (lead mb : Bool) (f : Nat) (n : Nat) (b : Bool) (e : Ending) : Prop :=
  ∃ v, e = .returned (.tuple #[.int .i64 v, .int .i64 (f + nd : Nat), .bool (!rnFail nd lead mb n b)]) ∧ (rnFail nd lead mb n b = false → v = if mb then -(n : Int) else n)

theorem refnum_fail {nd : Nat} {lead mb : Bool} {f n : Nat} {b : Bool} (h : rnFail nd lead mb n b = true) :
    RefNum nd lead mb f n b (.returned (.tuple #[.int .i64 0, .int .i64 ((f : Int) + (nd : Int)), .bool false])) :=
  ⟨0, by rw [h, Int.natCast_add]; rfl, fun h2 => by rw [h] at h2; exact absurd h2 (by simp)⟩
theorem refnum_ok {nd : Nat} {lead mb : Bool} {f n : Nat} {b : Bool} (h : rnFail nd lead mb n b = false) (v : Int) (hv : v = if mb then -(n : Int) else n) :
    RefNum nd lead mb f n b (.returned (.tuple #[.int .i64 v, .int .i64 ((f : Int) + (nd : Int)), .bool true])) :=
  ⟨v, by rw [h, Int.natCast_add]; rfl, fun _ => hv⟩

set_option maxHeartbeats 2000000 in
set_option maxRecDepth 100000 in
theorem rnumber_loop (s : ByteArray) (hs : s.size ≤ 140737488351232) (i : Nat) (hi : i < s.size) (mb : Bool) (hmb : (bt s i == 45) = mb) (f : Nat) (hf : f = if mb then i + 1 else i)
    (nd : Nat) (hnd : nd = upLen digB (s.extract f s.size).data.toList) (ds : List UInt8) (hds : ds = (s.extract f s.size).data.toList.take nd) (n : Nat) (b : Bool) (hr : refSt ds 0 false = (n, b)) (hb : b = false → n ≤ 9223372036854775808) (w : World) :
    Calls Tryd.prog 37 #[.string s, .int .i64 i] w fun e w' => RefNum nd (bt s f == 48) mb f n b e ∧ Drawn0 w w' := by
  have hfs : f ≤ s.size := by rw [hf]; split <;> omega
  have hndle : f + nd ≤ s.size := by
    have := upLen_le digB (s.extract f s.size).data.toList
    rw [← hnd, Array.length_toList, ByteArray.size_data] at this
    simp at this; omega
  have hlen : ds.length = nd := by
    rw [hds, List.length_take, Array.length_toList, ByteArray.size_data]; simp; omega
  have HD := Lib.hid (fun (m : Nat) (hm : m < nd) => show ∃ c, ds.drop m = c :: ds.drop (m + 1) ∧ (c.toNat : Int) = bt s ((f + m : Nat) : Int) ∧ 48 ≤ c.toNat ∧ c.toNat ≤ 57 by
    have hml : m < ds.length := by omega
    refine ⟨ds[m], List.drop_eq_getElem_cons hml, ?_, ?_⟩
    · rw [← bt_ext s f m (by omega)]
      refine (bt_list _ _ _ ?_).symm
      have h1 : ds[m]? = some ds[m] := List.getElem?_eq_getElem hml
      have h2 : ds[m]? = (s.extract f s.size).data.toList[m]? := by rw [hds, List.getElem?_take, if_pos hm]
      rw [← h2, h1]
    · have := upLen_dig (s.extract f s.size).data.toList
      rw [← hnd, ← hds] at this
      exact this _ (List.getElem_mem _))
  have HE := Lib.hid (show f + nd < s.size → digB (bt s ((f + nd : Nat) : Int)) = false by
    intro h
    rw [← bt_ext s f nd h]
    have h2 := list_byte (s.extract f s.size) nd (by simp; omega)
    rw [bt_list _ _ _ h2]
    exact upLen_at digB _ _ (by rw [← hnd]; exact h2))
  have HR := Lib.hid hr
  have HBn := Lib.hid hb
  have hb0 : ∀ h : i < s.size, (s[i].toNat : Int) = bt s i := fun h => bt_at s i h
  have hi0 : (i : Int) < (s.size : Int) := by omega
  clear hnd hds hr hb
  cases mb
  ·
    simp only [Bool.false_eq_true, if_false, if_true] at hf
    have HQ1 := Lib.hid (fun h => refnum_fail (nd := nd) (lead := bt s f == 48) (mb := false) (f := f) (n := n) (b := b) h)
    have HQ2 := Lib.hid (fun h v hv => refnum_ok (nd := nd) (lead := bt s f == 48) (mb := false) (f := f) (n := n) (b := b) h v hv)
    generalize RefNum nd (bt s f == 48) false f n b = RN at *
    go_enter Tryd.func37, Tryd.ntmps37
    go_upto_block 0 with (fail)
    first
      | rw [show ((i : Int) + 1) = (f : Int) from by omega]
      | (rw [show (i : Int) = (f : Int) from by omega])
    have HF := Lib.hid hf
    clear hf
    go_cut [1, 9, 10] (fun s1 s9 s10 wx => s1 = .int .i64 ((f : Int) + (nd : Int)) ∧ s9 = .int .u64 (n : Int) ∧ s10 = .bool b ∧ Drawn0 w wx)
    case first =>
      go_wp2_with fail
      go_loopg [1, 9, 10] s.size (fun kq s1 s9 s10 wx => ∃ (m x : Nat) (y : Bool), s1 = .int .i64 ((f : Int) + (m : Int)) ∧ s9 = .int .u64 (x : Int) ∧ s10 = .bool y ∧ m ≤ nd ∧ s.size - (f + m) ≤ kq ∧ Hid (x < 18446744073709551616) ∧ Hid (refSt (ds.drop m) x y = (n, b)) ∧ Drawn0 w wx)
      case atStart => exact ⟨0, 0, false, by simp, by simp, rfl, by omega, by omega, (by show (0 : Nat) < 18446744073709551616; omega), HR, Drawn0.refl _⟩
      case round =>
        obtain ⟨m, x, y, rfl, rfl, rfl, hm, hk, HX, HY, ⟨q, rfl⟩⟩ := hrel
        by_cases hlt : m < nd
        · obtain ⟨c, hc1, hc2, hc3, hc4⟩ := HD.out m hlt
          have hcd : digB (c.toNat : Int) = true := by simp only [digB, decide_eq_true_eq]; omega
          have HC := Lib.hid (rdigit_pred (c.toNat : Int))
          rw [hcd] at HC
          have hcast : ((f + m : Nat) : Int) = (f : Int) + (m : Int) := by omega
          rw [hcast] at hc2
          have hbj : ∀ h : f + m < s.size, (s[f + m].toNat : Int) = (c.toNat : Int) := fun h => by
            rw [hc2, ← hcast]; exact bt_at s ((f + m : Nat) : Int) h
          have HY2 := Lib.hid HY.out
          rw [hc1] at HY2
          have HY3 := Lib.hid (show refSt (ds.drop (m + 1)) ((10 * x + (c.toNat - 48)) % 18446744073709551616) (y || decide (922337203685477580 < x) || (x == 922337203685477580 && decide (56 < c.toNat))) = (n, b) from HY2.out)
          have hltz : (f : Int) + (m : Int) < (s.size : Int) := by omega
          clear hc1 hc2 hcd hcast HY HY2 HD HE HR HBn
          go_wp2_with fail
          refine (HC.out _ (by omega) (by omega)).mono ?_
          rintro e w3 ⟨rfl, ⟨m3, rfl⟩⟩
          go_wp2_with fail
          all_goals
            go_roundg (s.size - (f + (m + 1)))
            case measure => omega
            case rel =>
              refine ⟨m + 1, _, _, ?_, ?_, ?_, by omega, Nat.le_refl _, ?_, HY3, ⟨⟨_, rfl⟩⟩⟩
              · simp; omega
              · refine congrArg (Value.int .u64) ?_
                first
                  | exact u64_step x c.toNat hc3
                  | omega
              · refine congrArg Value.bool ?_
                first
                  | (refine big1 _ _ _ ?_ <;> assumption)
                  | (refine big2 _ _ _ ?_ ?_ <;> assumption)
                  | (refine big2i _ _ _ ?_ ?_ <;> assumption)
                  | (refine big3 _ _ _ ?_ ?_ ?_ <;> assumption)
                  | (refine big3i _ _ _ ?_ ?_ ?_ <;> assumption)
                  | (refine big4 _ _ _ ?_ ?_ <;> assumption)
                  | (refine big4i _ _ _ ?_ ?_ <;> assumption)
              · exact Nat.mod_lt _ (by omega)
        · have hmn : m = nd := by omega
          have HY2 := HY.out
          rw [hmn, List.drop_of_length_le (by omega)] at HY2
          obtain ⟨rfl, rfl⟩ : x = n ∧ y = b := ⟨congrArg Prod.fst HY2, congrArg Prod.snd HY2⟩
          clear HY2 HY
          subst hmn
          by_cases hlt2 : f + m < s.size
          · have hq := HE.out hlt2
            have hrj := bt_range s ((f + m : Nat) : Int)
            have HC := Lib.hid (rdigit_pred (bt s ((f + m : Nat) : Int)))
            rw [hq] at HC
            have hcast : ((f + m : Nat) : Int) = (f : Int) + (m : Int) := by omega
            have hbj : ∀ h : f + m < s.size, (s[f + m].toNat : Int) = bt s ((f + m : Nat) : Int) := fun h => bt_at s ((f + m : Nat) : Int) h
            rw [hcast] at hbj HC hrj
            have hltz : (f : Int) + (m : Int) < (s.size : Int) := by omega
            clear hq HD HE HR HBn hcast
            go_wp2_with fail
            refine (HC.out _ hrj.1 hrj.2).mono ?_
            rintro e w3 ⟨rfl, ⟨m3, rfl⟩⟩
            go_wp2_with fail
            go_meet
            exact ⟨by simp, rfl, rfl, ⟨⟨_, rfl⟩⟩⟩
          · have hltz : ¬ (f : Int) + (m : Int) < (s.size : Int) := by omega
            clear HD HE HR HBn
            go_wp2_with fail
            go_meet
            exact ⟨by simp, rfl, rfl, ⟨⟨_, rfl⟩⟩⟩
    case rest =>
      obtain ⟨rfl, rfl, rfl, ⟨q, rfl⟩⟩ := hcut
      clear HD HE HR
      have hlead : 0 < nd → f < s.size := fun h => by omega
      have hbf : ∀ h : f < s.size, (s[f].toNat : Int) = bt s f := fun h => bt_at s f h
      have hn2 : b = false → n ≤ 9223372036854775808 := HBn.out
      by_cases hz : nd = 0
      · have HQ := Lib.hid (HQ1.out (by simp [rnFail, hz]))
        have t1 : ((f : Int) + (nd : Int) == (f : Int)) = true := by simp [hz]
        clear HQ1 HQ2 hn2 hz
        go_wp2_with fail
        go_ret3
        exact ⟨HQ.out, ⟨⟨_, rfl⟩⟩⟩
      · have t1 : ((f : Int) + (nd : Int) == (f : Int)) = false := by simp; omega
        have hfl : f < s.size := by omega
        cases t3 : (bt s f == 48) with
        | true =>
          by_cases h1 : 1 < nd
          · rw [t3] at HQ1 HQ2
            have HQ := Lib.hid (HQ1.out (by simp [rnFail, h1]))
            clear HQ1 HQ2 hn2
            go_wp2_with fail
            go_ret3
            exact ⟨HQ.out, ⟨⟨_, rfl⟩⟩⟩
          · rw [t3] at HQ1 HQ2
            cases b with
            | true =>
              have HQ := Lib.hid (HQ1.out (by simp [rnFail]))
              clear HQ1 HQ2 hn2
              go_wp2_with fail
              go_ret3
              exact ⟨HQ.out, ⟨⟨_, rfl⟩⟩⟩
            | false =>
              by_cases hn0 : n = 9223372036854775808
              · have t4 : ((n : Int) == 9223372036854775808) = true := by rw [beq_iff_eq]; omega
                have HQ := Lib.hid (HQ1.out (by simp [rnFail, hn0]))
                clear HQ1 HQ2 hn2 hn0
                go_wp2_with fail
                go_ret3
                exact ⟨HQ.out, ⟨⟨_, rfl⟩⟩⟩
              · have t4 : ((n : Int) == 9223372036854775808) = false := by rw [beq_eq_false_iff_ne]; omega
                have HQ := Lib.hid (HQ2.out (by simp [rnFail, hn0, hz]; omega))
                have hn3 := hn2 rfl
                have hn4 : n ≤ 9223372036854775807 := by omega
                clear HQ1 HQ2 hn2 hn0
                go_wp2_with fail
                go_ret3
                refine ⟨HQ.out _ ?_, ⟨⟨_, rfl⟩⟩⟩
                first
                  | rfl
                  | (simp only [if_true]; omega)
        | false =>
          rw [t3] at HQ1 HQ2
          by_cases h1 : 1 < nd
          ·
            cases b with
            | true =>
              have HQ := Lib.hid (HQ1.out (by simp [rnFail]))
              clear HQ1 HQ2 hn2
              go_wp2_with fail
              go_ret3
              exact ⟨HQ.out, ⟨⟨_, rfl⟩⟩⟩
            | false =>
              by_cases hn0 : n = 9223372036854775808
              · have t4 : ((n : Int) == 9223372036854775808) = true := by rw [beq_iff_eq]; omega
                have HQ := Lib.hid (HQ1.out (by simp [rnFail, hn0]))
                clear HQ1 HQ2 hn2 hn0
                go_wp2_with fail
                go_ret3
                exact ⟨HQ.out, ⟨⟨_, rfl⟩⟩⟩
              · have t4 : ((n : Int) == 9223372036854775808) = false := by rw [beq_eq_false_iff_ne]; omega
                have HQ := Lib.hid (HQ2.out (by simp [rnFail, hn0, hz]))
                have hn3 := hn2 rfl
                have hn4 : n ≤ 9223372036854775807 := by omega
                clear HQ1 HQ2 hn2 hn0
                go_wp2_with fail
                go_ret3
                refine ⟨HQ.out _ ?_, ⟨⟨_, rfl⟩⟩⟩
                first
                  | rfl
                  | (simp only [if_true]; omega)
          ·
            cases b with
            | true =>
              have HQ := Lib.hid (HQ1.out (by simp [rnFail]))
              clear HQ1 HQ2 hn2
              go_wp2_with fail
              go_ret3
              exact ⟨HQ.out, ⟨⟨_, rfl⟩⟩⟩
            | false =>
              by_cases hn0 : n = 9223372036854775808
              · have t4 : ((n : Int) == 9223372036854775808) = true := by rw [beq_iff_eq]; omega
                have HQ := Lib.hid (HQ1.out (by simp [rnFail, hn0]))
                clear HQ1 HQ2 hn2 hn0
                go_wp2_with fail
                go_ret3
                exact ⟨HQ.out, ⟨⟨_, rfl⟩⟩⟩
              · have t4 : ((n : Int) == 9223372036854775808) = false := by rw [beq_eq_false_iff_ne]; omega
                have HQ := Lib.hid (HQ2.out (by simp [rnFail, hn0, hz]))
                have hn3 := hn2 rfl
                have hn4 : n ≤ 9223372036854775807 := by omega
                clear HQ1 HQ2 hn2 hn0
                go_wp2_with fail
                go_ret3
                refine ⟨HQ.out _ ?_, ⟨⟨_, rfl⟩⟩⟩
                first
                  | rfl
                  | (simp only [if_true]; omega)
  ·
    simp only [Bool.false_eq_true, if_false, if_true] at hf
    have HQ1 := Lib.hid (fun h => refnum_fail (nd := nd) (lead := bt s f == 48) (mb := true) (f := f) (n := n) (b := b) h)
    have HQ2 := Lib.hid (fun h v hv => refnum_ok (nd := nd) (lead := bt s f == 48) (mb := true) (f := f) (n := n) (b := b) h v hv)
    generalize RefNum nd (bt s f == 48) true f n b = RN at *
    go_enter Tryd.func37, Tryd.ntmps37
    go_upto_block 0 with (fail)
    first
      | rw [show ((i : Int) + 1) = (f : Int) from by omega]
      | (rw [show (i : Int) = (f : Int) from by omega])
    have HF := Lib.hid hf
    clear hf
    go_cut [1, 9, 10] (fun s1 s9 s10 wx => s1 = .int .i64 ((f : Int) + (nd : Int)) ∧ s9 = .int .u64 (n : Int) ∧ s10 = .bool b ∧ Drawn0 w wx)
    case first =>
      go_wp2_with fail
      go_loopg [1, 9, 10] s.size (fun kq s1 s9 s10 wx => ∃ (m x : Nat) (y : Bool), s1 = .int .i64 ((f : Int) + (m : Int)) ∧ s9 = .int .u64 (x : Int) ∧ s10 = .bool y ∧ m ≤ nd ∧ s.size - (f + m) ≤ kq ∧ Hid (x < 18446744073709551616) ∧ Hid (refSt (ds.drop m) x y = (n, b)) ∧ Drawn0 w wx)
      case atStart => exact ⟨0, 0, false, by simp, by simp, rfl, by omega, by omega, (by show (0 : Nat) < 18446744073709551616; omega), HR, Drawn0.refl _⟩
      case round =>
        obtain ⟨m, x, y, rfl, rfl, rfl, hm, hk, HX, HY, ⟨q, rfl⟩⟩ := hrel
        by_cases hlt : m < nd
        · obtain ⟨c, hc1, hc2, hc3, hc4⟩ := HD.out m hlt
          have hcd : digB (c.toNat : Int) = true := by simp only [digB, decide_eq_true_eq]; omega
          have HC := Lib.hid (rdigit_pred (c.toNat : Int))
          rw [hcd] at HC
          have hcast : ((f + m : Nat) : Int) = (f : Int) + (m : Int) := by omega
          rw [hcast] at hc2
          have hbj : ∀ h : f + m < s.size, (s[f + m].toNat : Int) = (c.toNat : Int) := fun h => by
            rw [hc2, ← hcast]; exact bt_at s ((f + m : Nat) : Int) h
          have HY2 := Lib.hid HY.out
          rw [hc1] at HY2
          have HY3 := Lib.hid (show refSt (ds.drop (m + 1)) ((10 * x + (c.toNat - 48)) % 18446744073709551616) (y || decide (922337203685477580 < x) || (x == 922337203685477580 && decide (56 < c.toNat))) = (n, b) from HY2.out)
          have hltz : (f : Int) + (m : Int) < (s.size : Int) := by omega
          clear hc1 hc2 hcd hcast HY HY2 HD HE HR HBn
          go_wp2_with fail
          refine (HC.out _ (by omega) (by omega)).mono ?_
          rintro e w3 ⟨rfl, ⟨m3, rfl⟩⟩
          go_wp2_with fail
          all_goals
            go_roundg (s.size - (f + (m + 1)))
            case measure => omega
            case rel =>
              refine ⟨m + 1, _, _, ?_, ?_, ?_, by omega, Nat.le_refl _, ?_, HY3, ⟨⟨_, rfl⟩⟩⟩
              · simp; omega
              · refine congrArg (Value.int .u64) ?_
                first
                  | exact u64_step x c.toNat hc3
                  | omega
              · refine congrArg Value.bool ?_
                first
                  | (refine big1 _ _ _ ?_ <;> assumption)
                  | (refine big2 _ _ _ ?_ ?_ <;> assumption)
                  | (refine big2i _ _ _ ?_ ?_ <;> assumption)
                  | (refine big3 _ _ _ ?_ ?_ ?_ <;> assumption)
                  | (refine big3i _ _ _ ?_ ?_ ?_ <;> assumption)
                  | (refine big4 _ _ _ ?_ ?_ <;> assumption)
                  | (refine big4i _ _ _ ?_ ?_ <;> assumption)
              · exact Nat.mod_lt _ (by omega)
        · have hmn : m = nd := by omega
          have HY2 := HY.out
          rw [hmn, List.drop_of_length_le (by omega)] at HY2
          obtain ⟨rfl, rfl⟩ : x = n ∧ y = b := ⟨congrArg Prod.fst HY2, congrArg Prod.snd HY2⟩
          clear HY2 HY
          subst hmn
          by_cases hlt2 : f + m < s.size
          · have hq := HE.out hlt2
            have hrj := bt_range s ((f + m : Nat) : Int)
            have HC := Lib.hid (rdigit_pred (bt s ((f + m : Nat) : Int)))
            rw [hq] at HC
            have hcast : ((f + m : Nat) : Int) = (f : Int) + (m : Int) := by omega
            have hbj : ∀ h : f + m < s.size, (s[f + m].toNat : Int) = bt s ((f + m : Nat) : Int) := fun h => bt_at s ((f + m : Nat) : Int) h
            rw [hcast] at hbj HC hrj
            have hltz : (f : Int) + (m : Int) < (s.size : Int) := by omega
            clear hq HD HE HR HBn hcast
            go_wp2_with fail
            refine (HC.out _ hrj.1 hrj.2).mono ?_
            rintro e w3 ⟨rfl, ⟨m3, rfl⟩⟩
            go_wp2_with fail
            go_meet
            exact ⟨by simp, rfl, rfl, ⟨⟨_, rfl⟩⟩⟩
          · have hltz : ¬ (f : Int) + (m : Int) < (s.size : Int) := by omega
            clear HD HE HR HBn
            go_wp2_with fail
            go_meet
            exact ⟨by simp, rfl, rfl, ⟨⟨_, rfl⟩⟩⟩
    case rest =>
      obtain ⟨rfl, rfl, rfl, ⟨q, rfl⟩⟩ := hcut
      clear HD HE HR
      have hlead : 0 < nd → f < s.size := fun h => by omega
      have hbf : ∀ h : f < s.size, (s[f].toNat : Int) = bt s f := fun h => bt_at s f h
      have hn2 : b = false → n ≤ 9223372036854775808 := HBn.out
      by_cases hz : nd = 0
      · have HQ := Lib.hid (HQ1.out (by simp [rnFail, hz]))
        have t1 : ((f : Int) + (nd : Int) == (f : Int)) = true := by simp [hz]
        clear HQ1 HQ2 hn2 hz
        go_wp2_with fail
        go_ret3
        exact ⟨HQ.out, ⟨⟨_, rfl⟩⟩⟩
      · have t1 : ((f : Int) + (nd : Int) == (f : Int)) = false := by simp; omega
        have hfl : f < s.size := by omega
        cases t3 : (bt s f == 48) with
        | true =>
          by_cases h1 : 1 < nd
          · rw [t3] at HQ1 HQ2
            have HQ := Lib.hid (HQ1.out (by simp [rnFail, h1]))
            clear HQ1 HQ2 hn2
            go_wp2_with fail
            go_ret3
            exact ⟨HQ.out, ⟨⟨_, rfl⟩⟩⟩
          · rw [t3] at HQ1 HQ2
            cases b with
            | true =>
              have HQ := Lib.hid (HQ1.out (by simp [rnFail]))
              clear HQ1 HQ2 hn2
              go_wp2_with fail
              go_ret3
              exact ⟨HQ.out, ⟨⟨_, rfl⟩⟩⟩
            | false =>
              by_cases hn0 : n = 0
              · have t4 : ((n : Int) == 0) = true := by simp [hn0]
                have HQ := Lib.hid (HQ1.out (by simp [rnFail, hn0]))
                clear HQ1 HQ2 hn2 hn0
                go_wp2_with fail
                go_ret3
                exact ⟨HQ.out, ⟨⟨_, rfl⟩⟩⟩
              · have t4 : ((n : Int) == 0) = false := by simp; omega
                have HQ := Lib.hid (HQ2.out (by simp [rnFail, hn0, hz]; omega))
                have hn3 := hn2 rfl
                have hn4 : 1 ≤ n := by omega
                clear HQ1 HQ2 hn2 hn0
                go_wp2_with fail
                go_ret3
                refine ⟨HQ.out _ ?_, ⟨⟨_, rfl⟩⟩⟩
                first
                  | rfl
                  | (simp only [if_true]; omega)
        | false =>
          rw [t3] at HQ1 HQ2
          by_cases h1 : 1 < nd
          ·
            cases b with
            | true =>
              have HQ := Lib.hid (HQ1.out (by simp [rnFail]))
              clear HQ1 HQ2 hn2
              go_wp2_with fail
              go_ret3
              exact ⟨HQ.out, ⟨⟨_, rfl⟩⟩⟩
            | false =>
              by_cases hn0 : n = 0
              · have t4 : ((n : Int) == 0) = true := by simp [hn0]
                have HQ := Lib.hid (HQ1.out (by simp [rnFail, hn0]))
                clear HQ1 HQ2 hn2 hn0
                go_wp2_with fail
                go_ret3
                exact ⟨HQ.out, ⟨⟨_, rfl⟩⟩⟩
              · have t4 : ((n : Int) == 0) = false := by simp; omega
                have HQ := Lib.hid (HQ2.out (by simp [rnFail, hn0, hz]))
                have hn3 := hn2 rfl
                have hn4 : 1 ≤ n := by omega
                clear HQ1 HQ2 hn2 hn0
                go_wp2_with fail
                go_ret3
                refine ⟨HQ.out _ ?_, ⟨⟨_, rfl⟩⟩⟩
                first
                  | rfl
                  | (simp only [if_true]; omega)
          ·
            cases b with
            | true =>
              have HQ := Lib.hid (HQ1.out (by simp [rnFail]))
              clear HQ1 HQ2 hn2
              go_wp2_with fail
              go_ret3
              exact ⟨HQ.out, ⟨⟨_, rfl⟩⟩⟩
            | false =>
              by_cases hn0 : n = 0
              · have t4 : ((n : Int) == 0) = true := by simp [hn0]
                have HQ := Lib.hid (HQ1.out (by simp [rnFail, hn0]))
                clear HQ1 HQ2 hn2 hn0
                go_wp2_with fail
                go_ret3
                exact ⟨HQ.out, ⟨⟨_, rfl⟩⟩⟩
              · have t4 : ((n : Int) == 0) = false := by simp; omega
                have HQ := Lib.hid (HQ2.out (by simp [rnFail, hn0, hz]))
                have hn3 := hn2 rfl
                have hn4 : 1 ≤ n := by omega
                clear HQ1 HQ2 hn2 hn0
                go_wp2_with fail
                go_ret3
                refine ⟨HQ.out _ ?_, ⟨⟨_, rfl⟩⟩⟩
                first
                  | rfl
                  | (simp only [if_true]; omega)
end Go.Proofs.YtcpcoegoaciipaaDoor.Tok
