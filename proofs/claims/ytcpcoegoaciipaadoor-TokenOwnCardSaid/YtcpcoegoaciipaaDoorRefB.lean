/- The document's token at a place: a name. -/
import Derived.Test.YtcpcoegoaciipaaDoorRefA
namespace Go.Proofs.YtcpcoegoaciipaaDoor.Tok
open Go.RowKit Go.Proofs.YtcpcoegoaciipaaDoorW.PrintWords Go.Proofs.YtcpcoegoaciipaaDoorW.PrintLast Go.Proofs.YtcpcoegoaciipaaDoorW.PrintMore
open Go.Proofs.YtcpcoegoaciipaaDoor.PTokenCuts
set_option linter.unusedVariables false
set_option linter.unusedSimpArgs false

def S51of (t : S36) : S51 := ⟨t.f0, t.f1, t.f2, t.f3⟩
def zeroT2 : S51 := ⟨0, 0, 0, ⟨#[]⟩⟩
def rtokV (t : S51) : Value := .agg #[.int .i64 t.f0, .int .i64 t.f1, .int .i64 t.f2, .string t.f3]

/-- What the document's 'one' answers at a place: the token there, and where it ends, if there is one. -/
def RefOne (s : ByteArray) (i : Nat) (e : Ending) : Prop :=
  ∃ T q, e = .returned (.tuple #[rtokV T, .int .i64 q, .bool (oneN (s.extract i s.size) != 0)]) ∧
    (oneN (s.extract i s.size) ≠ 0 → T = S51of (tokAt (oneT (s.extract i s.size)) i) ∧ q = i + oneN (s.extract i s.size))

theorem words_iff (x : ByteArray) : Lib.containsS wordL x = (x.toList == [97, 110, 100] || x.toList == [111, 114] || x.toList == [110, 111, 116] || x.toList == [105, 110] || x.toList == [116, 114, 117, 101]) := by
  have e : ∀ (l : List UInt8), (x = ⟨l.toArray⟩) ↔ (x.toList == l) = true := by
    intro l
    rw [beq_iff_eq, ByteArray.toList_eq]
    constructor
    · rintro rfl; simp
    · intro h; apply ByteArray.ext; rw [← h]
  rw [Bool.eq_iff_iff, Lib.containsS_iff]
  simp only [wordL, List.mem_cons, List.not_mem_nil, or_false, Bool.or_eq_true]
  rw [e [97, 110, 100], e [111, 114], e [110, 111, 116], e [105, 110], e [116, 114, 117, 101]]
  simp only [or_assoc]

theorem rname_close {s : ByteArray} {i n : Nat} {T : S36} {ln : Int} {x : ByteArray}
    (HO : ∀ e, RefOne s i e = ∃ T' q, e = .returned (.tuple #[rtokV T', .int .i64 q, .bool (ln != 0)]) ∧ (ln ≠ 0 → T' = S51of (tokAt T i) ∧ q = i + ln))
    (HL : ln = if 20 < n then 0 else (n : Int)) (hn : 0 < n) (kk : Int) (HT : T = ⟨kk, 0, 0, x⟩) :
    RefOne s i (.returned (.tuple #[rtokV ⟨kk, i, 0, x⟩, .int .i64 ((i : Int) + (n : Int)), .bool (decide ((n : Int) ≤ 20))])) := by
  rw [HO]
  refine ⟨⟨kk, i, 0, x⟩, (i : Int) + n, ?_, ?_⟩
  · rw [HL]
    by_cases h : 20 < n
    · rw [if_pos h]; simp; omega
    · rw [if_neg h]
      have : ((n : Int) != 0) = decide ((n : Int) ≤ 20) := by
        rw [Bool.eq_iff_iff]; simp; omega
      rw [this]
  · intro h0
    rw [HL] at h0 ⊢
    by_cases h : 20 < n
    · rw [if_pos h] at h0; exact absurd rfl h0
    · rw [if_neg h]; exact ⟨by rw [HT]; rfl, rfl⟩

set_option maxHeartbeats 2000000 in
set_option maxRecDepth 100000 in
theorem rone_name (s : ByteArray) (hs : s.size ≤ 140737488351232) (i : Nat) (h0 : i < s.size) (hc : lowB (bt s i) = true) (w : World) :
    Calls Tryd.prog 18 #[.string s, .int .i64 i] w fun e w' => RefOne s i e ∧ Below w.heap.size w w' := by
  have hb1 : bt (s.extract i s.size) 0 = bt s i := bt_ext s i 0 (by omega)
  have HO0 : ∀ e, RefOne s i e = ∃ T q, e = .returned (.tuple #[rtokV T, .int .i64 q, .bool (nameLen (s.extract i s.size) != 0)]) ∧
    (nameLen (s.extract i s.size) ≠ 0 → T = S51of (tokAt (nameT (s.extract i s.size)) i) ∧ q = i + nameLen (s.extract i s.size)) := by
    intro e
    unfold RefOne oneN oneT
    rw [hb1, hc]
    rfl
  have HO := Lib.hid HO0
  clear HO0
  have hn := nameN_le (s.extract i s.size)
  have hsz : (s.extract i s.size).size = s.size - i := by simp
  rw [hsz] at hn
  have HX := Lib.hid (show (s.extract i s.size).extract 0 (nameN (s.extract i s.size)) = s.extract i (i + nameN (s.extract i s.size)) from ext_ext s i _ (by omega))
  have HT := Lib.hid (show nameT (s.extract i s.size) = ⟨if Lib.containsS wordL (s.extract i (i + nameN (s.extract i s.size))) then 2 else 1, 0, 0, s.extract i (i + nameN (s.extract i s.size))⟩ by
    unfold nameT; rw [HX.out])
  have HLn := Lib.hid (show nameLen (s.extract i s.size) = if 20 < nameN (s.extract i s.size) then 0 else (nameN (s.extract i s.size) : Int) from rfl)
  have HU := Lib.hid (show nameN (s.extract i s.size) = upLen wordB (s.extract i s.size).data.toList from rfl)
  have hnp : 0 < nameN (s.extract i s.size) := by
    rcases Nat.eq_zero_or_pos (nameN (s.extract i s.size)) with h | h
    · exfalso
      have := upLen_step wordB (s.extract i s.size) 0 (by omega) (by omega) (by show wordB (bt (s.extract i s.size) 0) = true; rw [hb1]; simp [wordB, hc])
      rw [← HU.out] at this
      omega
    · exact h
  have HS := Lib.hid (fun (m : Nat) (h : i + m < s.size) (hm : m ≤ nameN (s.extract i s.size)) (hp : wordB (bt s ((i + m : Nat) : Int)) = true) =>
    upLen_step wordB (s.extract i s.size) m (by omega) (by rw [HU.out] at hm; exact hm) (by rw [bt_ext s i m h]; exact hp))
  have HE := Lib.hid (fun (m : Nat) (h : i + m < s.size) (hm : m ≤ nameN (s.extract i s.size)) (hp : wordB (bt s ((i + m : Nat) : Int)) = false) =>
    upLen_stop wordB (s.extract i s.size) m (by omega) (by rw [HU.out] at hm; exact hm) (by rw [bt_ext s i m h]; exact hp))
  rw [← HU.out] at HS HE
  generalize nameN (s.extract i s.size) = n at *
  generalize nameT (s.extract i s.size) = T at *
  generalize nameLen (s.extract i s.size) = ln at *
  have HL := Lib.hid (rlow_pred (bt s i))
  rw [hc] at HL
  have HD := Lib.hid (rdigit_pred (bt s i))
  have hr := bt_range s i
  have hb0 : ∀ h : i < s.size, (s[i].toNat : Int) = bt s i := fun h => bt_at s i h
  have hi0 : (i : Int) < (s.size : Int) := by omega
  clear hc hb1 hsz HX HU
  go_enter Tryd.func18, Tryd.ntmps18
  go_wp2_with fail
  refine (HL.out _ hr.1 hr.2).mono ?_
  rintro e w1 ⟨rfl, ⟨m, rfl⟩⟩
  go_wp2_with fail
  refine (HD.out _ hr.1 hr.2).mono ?_
  rintro e w2 ⟨rfl, ⟨m2, rfl⟩⟩
  go_upto_block 0 with (fail)
  have hW : ∃ W, W = (w.alloc (Obj.cells #[Value.int IntKind.i64 0, Value.int IntKind.i64 0, Value.int IntKind.i64 0, Value.string ⟨#[]⟩] 51)).drewN (m + m2) := ⟨_, rfl⟩
  obtain ⟨W, hW⟩ := hW
  rw [← hW]
  have HB := Lib.hid (show Below w.heap.size w W by rw [hW]; exact pw_below_drewN ((Below.refl _ _).alloc (Nat.le_refl _) _) _)
  have hblk : W.heap[w.heap.size]? = some (.cells #[.int .i64 0, .int .i64 0, .int .i64 0, .string ⟨#[]⟩] 51 (0, 0)) := by rw [hW]; exact heap_last w _ _ rfl
  have HK := Lib.hid hblk
  clear hW hblk HL HD
  go_cut [8] (fun s8 wx => s8 = .int .i64 ((i : Int) + (n : Int)) ∧ Drawn0 W wx)
  case first =>
    go_wp2_with fail
    go_loopg [8] s.size (fun kq v8 w' => ∃ j : Nat, v8 = .int .i64 (i + j : Nat) ∧ j ≤ n ∧ i + j ≤ s.size ∧ s.size - (i + j) ≤ kq ∧ Drawn0 W w')
    case atStart => exact ⟨0, by simp, by omega, by omega, by omega, Drawn0.refl _⟩
    case round =>
      obtain ⟨j, rfl, hj, hji, hk, ⟨q, rfl⟩⟩ := hrel
      have hbj : ∀ h : i + j < s.size, (s[i + j].toNat : Int) = bt s ((i + j : Nat) : Int) := fun h => bt_at s ((i + j : Nat) : Int) h
      have HL := Lib.hid (rlow_pred (bt s ((i + j : Nat) : Int)))
      have HD := Lib.hid (rdigit_pred (bt s ((i + j : Nat) : Int)))
      have hrj := bt_range s ((i + j : Nat) : Int)
      by_cases hlt : i + j < s.size
      · have HSj := Lib.hid (HS.out j hlt hj)
        have HEj := Lib.hid (HE.out j hlt hj)
        have hcast : ((i + j : Nat) : Int) = (i : Int) + (j : Int) := by omega
        rw [hcast] at HL HD hrj HSj HEj hbj
        rw [hcast]
        have hltz : (i : Int) + (j : Int) < (s.size : Int) := by omega
        clear hcast
        cases hl : lowB (bt s ((i : Int) + (j : Int))) with
        | true =>
          rw [hl] at HL
          have HN := Lib.hid (HSj.out (by simp [wordB, hl]))
          clear hl HSj HEj HS HE
          go_wp2_with fail
          refine (HL.out _ hrj.1 hrj.2).mono ?_
          rintro e w3 ⟨rfl, ⟨m3, rfl⟩⟩
          go_wp2_with fail
          go_roundg (s.size - (i + (j + 1)))
          case measure => omega
          case rel => exact ⟨j + 1, by simp; omega, HN.out, by omega, Nat.le_refl _, ⟨⟨_, rfl⟩⟩⟩
        | false =>
          rw [hl] at HL
          cases hd : digB (bt s ((i : Int) + (j : Int))) with
          | true =>
            rw [hd] at HD
            have HN := Lib.hid (HSj.out (by simp [wordB, hd]))
            clear hl hd HSj HEj HS HE
            go_wp2_with fail
            refine (HL.out _ hrj.1 hrj.2).mono ?_
            rintro e w3 ⟨rfl, ⟨m3, rfl⟩⟩
            go_wp2_with fail
            refine (HD.out _ hrj.1 hrj.2).mono ?_
            rintro e w4 ⟨rfl, ⟨m4, rfl⟩⟩
            go_wp2_with fail
            go_roundg (s.size - (i + (j + 1)))
            case measure => omega
            case rel => exact ⟨j + 1, by simp; omega, HN.out, by omega, Nat.le_refl _, ⟨⟨_, rfl⟩⟩⟩
          | false =>
            rw [hd] at HD
            have hjn : j = n := HEj.out (by simp [wordB, hl, hd])
            clear hl hd HSj HEj HS HE
            subst hjn
            go_wp2_with fail
            refine (HL.out _ hrj.1 hrj.2).mono ?_
            rintro e w3 ⟨rfl, ⟨m3, rfl⟩⟩
            go_wp2_with fail
            refine (HD.out _ hrj.1 hrj.2).mono ?_
            rintro e w4 ⟨rfl, ⟨m4, rfl⟩⟩
            go_wp2_with fail
            go_meet
            exact ⟨by simp, ⟨⟨_, rfl⟩⟩⟩
      · have hjn : j = n := by omega
        subst hjn
        have hltz : ¬ (i : Int) + (j : Int) < (s.size : Int) := by omega
        clear HS HE
        go_wp2_with fail
        go_meet
        exact ⟨by simp, ⟨⟨_, rfl⟩⟩⟩
  case rest =>
    obtain ⟨rfl, ⟨q, rfl⟩⟩ := hcut
    have b1 : i ≤ i + n := by omega
    have b2 : i + n ≤ s.size := by omega
    clear HS HE
    have hblk2 : (W.drewN q).heap[w.heap.size]? = some (.cells #[.int .i64 0, .int .i64 0, .int .i64 0, .string ⟨#[]⟩] 51 (0, 0)) := HK.out
    have HB2 := Lib.hid (pw_below_drewN HB.out q)
    clear HK HB
    generalize W.drewN q = W2 at *
    obtain ⟨k0, k1, k2, k3, f0, f1, f2, f3⟩ := blk4 hblk2
    have hsz2 : w.heap.size < W2.heap.size := (Array.getElem?_eq_some_iff.1 hblk2).1
    clear hblk2
    go_wp2_with fail
    all_goals
      cases hcs : Lib.containsS wordL (s.extract i (i + n))
    all_goals first
      | (exfalso; rw [words_iff] at hcs; simp_all; done)
      | skip
    all_goals first
      | (refine bodyPost_ret (v := .tuple #[rtokV ⟨2, i, 0, s.extract i (i + n)⟩, .int .i64 ((i : Int) + (n : Int)), .bool (decide ((n : Int) ≤ 20))]) ?_ rfl ⟨rname_close HO.out HLn.out hnp 2 ?_, ?_⟩
         · (simp [results, Tryd.results18, go_sem, rtokV, k0, k1, k2, k3, f0, f1, f2, f3, hsz2]; omega)
         · rw [HT.out, hcs]; rfl
         · repeat (with_reducible first | exact HB2.out | apply below_drew | apply pw_below_drewN | apply below_alloc | (refine Below.setCell ?_ (by first | (simp; done) | (simp; omega)) _)))
      | (refine bodyPost_ret (v := .tuple #[rtokV ⟨1, i, 0, s.extract i (i + n)⟩, .int .i64 ((i : Int) + (n : Int)), .bool (decide ((n : Int) ≤ 20))]) ?_ rfl ⟨rname_close HO.out HLn.out hnp 1 ?_, ?_⟩
         · (simp [results, Tryd.results18, go_sem, rtokV, k0, k1, k2, k3, f0, f1, f2, f3, hsz2]; omega)
         · rw [HT.out, hcs]; rfl
         · repeat (with_reducible first | exact HB2.out | apply below_drew | apply pw_below_drewN | apply below_alloc | (refine Below.setCell ?_ (by first | (simp; done) | (simp; omega)) _)))
end Go.Proofs.YtcpcoegoaciipaaDoor.Tok
