/- The document's token at a place: a text. -/
import Derived.Test.YtcpcoegoaciipaaDoorRefC
import Derived.BigRegion
import Derived.RegionTactic
namespace Go.Proofs.YtcpcoegoaciipaaDoor.Tok
open Go.RowKit Go.Proofs.YtcpcoegoaciipaaDoorW.PrintWords Go.Proofs.YtcpcoegoaciipaaDoorW.PrintLast Go.Proofs.YtcpcoegoaciipaaDoorW.PrintMore
open Go.Proofs.YtcpcoegoaciipaaDoor.PTokenCuts
set_option linter.unusedVariables false
set_option linter.unusedSimpArgs false

theorem refone_text {s : ByteArray} {i n : Nat} (hi : i < s.size) (hc : bt (s.extract i s.size) 0 = 34) (hn : textN (s.extract i s.size) = n) (hle : i + 1 + n ≤ s.size) :
    (s.size = i + 1 + n ∨ 200 < n → ∀ q : Int, RefOne s i (.returned (.tuple #[.agg #[.int .i64 0, .int .i64 0, .int .i64 0, .string ⟨#[]⟩], .int .i64 q, .bool false]))) ∧
    (i + 1 + n < s.size → n ≤ 200 → RefOne s i (.returned (.tuple #[.agg #[.int .i64 4, .int .i64 i, .int .i64 0, .string (s.extract (i + 1) (i + 1 + n))], .int .i64 ((i : Int) + 1 + n + 1), .bool (bt s ((i : Int) + 1 + n) == 34)]))) := by
  have hl : lowB (bt (s.extract i s.size) 0) = false := by rw [hc]; decide
  have hd : (digB (bt (s.extract i s.size) 0) || bt (s.extract i s.size) 0 == 45) = false := by rw [hc]; decide
  have h34 : (bt (s.extract i s.size) 0 == 34) = true := by rw [hc]; rfl
  have hsz : (s.extract i s.size).size = s.size - i := by simp
  unfold RefOne oneN oneT
  simp only [hl, hd, h34, Bool.false_eq_true, if_false, if_true]
  unfold textLen textT
  rw [hn, hsz]
  constructor
  · intro h q
    have hF : 200 < n ∨ s.size - i ≤ n + 1 ∨ bt (s.extract i s.size) ((n + 1 : Nat) : Int) ≠ 34 := by omega
    simp only [if_pos hF]
    refine ⟨zeroT2, q, ?_, fun h0 => (h0 rfl).elim⟩
    simp [rtokV, zeroT2]
  · intro h1 h2
    have hb : bt (s.extract i s.size) ((n + 1 : Nat) : Int) = bt s ((i : Int) + 1 + n) := by
      rw [bt_ext s i (n + 1) (by omega), show ((i + (n + 1) : Nat) : Int) = (i : Int) + 1 + n from by omega]
    rw [hb]
    by_cases h3 : bt s ((i : Int) + 1 + n) = 34
    · have hF : ¬ (200 < n ∨ s.size - i ≤ n + 1 ∨ bt s ((i : Int) + 1 + n) ≠ 34) := by omega
      rw [if_neg hF, if_neg hF]
      refine ⟨⟨4, i, 0, s.extract (i + 1) (i + 1 + n)⟩, (i : Int) + 1 + n + 1, ?_, fun _ => ⟨?_, by omega⟩⟩
      · have e1 : (bt s ((i : Int) + 1 + n) == 34) = true := by rw [beq_iff_eq]; exact h3
        have e2 : ((n : Int) + 2 != 0) = true := by rw [bne_iff_ne]; omega
        rw [e1, e2, rtokV]
      · rw [ext_ext1 s i 1 (n + 1) (by omega)]; rw [show i + (n + 1) = i + 1 + n by omega]; rfl
    · have hF : 200 < n ∨ s.size - i ≤ n + 1 ∨ bt s ((i : Int) + 1 + n) ≠ 34 := Or.inr (Or.inr h3)
      simp only [if_pos hF]
      refine ⟨⟨4, i, 0, s.extract (i + 1) (i + 1 + n)⟩, (i : Int) + 1 + n + 1, ?_, fun h0 => (h0 rfl).elim⟩
      have e1 : (bt s ((i : Int) + 1 + n) == 34) = false := by rw [beq_eq_false_iff_ne]; exact h3
      rw [e1]; simp [rtokV]

set_option maxHeartbeats 2000000 in
set_option maxRecDepth 100000 in
theorem rone_text (s : ByteArray) (hs : s.size ≤ 140737488351232) (i : Nat) (h0 : i < s.size) (hc : bt s i = 34) (w : World) :
    Calls Tryd.prog 18 #[.string s, .int .i64 i] w fun e w' => RefOne s i e ∧ Below w.heap.size w w' := by
  have hb1 : bt (s.extract i s.size) 0 = bt s i := bt_ext s i 0 (by omega)
  have hsz : (s.extract i s.size).size = s.size - i := by simp
  have hsz1 : (s.extract (i + 1) s.size).size = s.size - (i + 1) := by simp
  have hn := textN_le (s.extract i s.size)
  rw [hsz] at hn
  have hx1 : (s.extract i s.size).extract 1 (s.extract i s.size).size = s.extract (i + 1) s.size := by
    rw [hsz, ext_ext1 s i 1 (s.size - i) (by omega)]; congr 1; omega
  have HU := Lib.hid (show textN (s.extract i s.size) = upLen textB (s.extract (i + 1) s.size).data.toList by unfold textN; rw [hx1])
  have HQ := Lib.hid (refone_text h0 (by rw [hb1]; exact hc) (n := textN (s.extract i s.size)) rfl (by omega))
  have HS := Lib.hid (fun (m : Nat) (h : i + 1 + m < s.size) (hm : m ≤ textN (s.extract i s.size)) (hp : textB (bt s ((i + 1 + m : Nat) : Int)) = true) =>
    upLen_step textB (s.extract (i + 1) s.size) m (by omega) (by rw [HU.out] at hm; exact hm) (by rw [bt_ext s (i + 1) m h]; exact hp))
  have HE := Lib.hid (fun (m : Nat) (h : i + 1 + m < s.size) (hm : m ≤ textN (s.extract i s.size)) (hp : textB (bt s ((i + 1 + m : Nat) : Int)) = false) =>
    upLen_stop textB (s.extract (i + 1) s.size) m (by omega) (by rw [HU.out] at hm; exact hm) (by rw [bt_ext s (i + 1) m h]; exact hp))
  rw [← HU.out] at HS HE
  generalize textN (s.extract i s.size) = n at *
  generalize RefOne s i = RO at *
  have hl : lowB (bt s i) = false := by rw [hc]; decide
  have hd : digB (bt s i) = false := by rw [hc]; decide
  have HL := Lib.hid (rlow_pred (bt s i))
  rw [hl] at HL
  have HD := Lib.hid (rdigit_pred (bt s i))
  rw [hd] at HD
  have hr := bt_range s i
  have hb0 : ∀ h : i < s.size, (s[i].toNat : Int) = bt s i := fun h => bt_at s i h
  have hi0 : (i : Int) < (s.size : Int) := by omega
  have x1 : (bt s i == 45) = false := by rw [hc]; rfl
  have x2 : (bt s i == 34) = true := by rw [hc]; rfl
  clear hc hb1 hl hd hsz hsz1 hx1 HU
  go_enter Tryd.func18, Tryd.ntmps18
  go_wp2_with fail
  refine (HL.out _ hr.1 hr.2).mono ?_
  rintro e w1 ⟨rfl, ⟨m, rfl⟩⟩
  go_wp2_with fail
  refine (HD.out _ hr.1 hr.2).mono ?_
  rintro e w2 ⟨rfl, ⟨m2, rfl⟩⟩
  go_upto_block 2 with (fail)
  have hW : ∃ W, W = (w.alloc (Obj.cells #[Value.int IntKind.i64 0, Value.int IntKind.i64 0, Value.int IntKind.i64 0, Value.string ⟨#[]⟩] 51)).drewN (m + m2) := ⟨_, rfl⟩
  obtain ⟨W, hW⟩ := hW
  rw [← hW]
  have HB := Lib.hid (show Below w.heap.size w W by rw [hW]; exact pw_below_drewN ((Below.refl _ _).alloc (Nat.le_refl _) _) _)
  have hblk : W.heap[w.heap.size]? = some (.cells #[.int .i64 0, .int .i64 0, .int .i64 0, .string ⟨#[]⟩] 51 (0, 0)) := by rw [hW]; exact heap_last w _ _ rfl
  have HK := Lib.hid hblk
  clear hW hblk HL HD
  go_cut [8] (fun s8 wx => s8 = .int .i64 ((i : Int) + 1 + (n : Int)) ∧ wx = W)
  case first =>
    go_wp2_with fail
    go_loopg [8] s.size (fun kq v8 w' => ∃ j : Nat, v8 = .int .i64 ((i : Int) + 1 + (j : Int)) ∧ j ≤ n ∧ i + 1 + j ≤ s.size ∧ s.size - (i + 1 + j) ≤ kq ∧ w' = W)
    case atStart => exact ⟨0, by simp, by omega, by omega, by omega, rfl⟩
    case round =>
      obtain ⟨j, rfl, hj, hji, hk, rfl⟩ := hrel
      have hbj : ∀ h : i + 1 + j < s.size, (s[i + 1 + j].toNat : Int) = bt s ((i + 1 + j : Nat) : Int) := fun h => bt_at s ((i + 1 + j : Nat) : Int) h
      have hcast : ((i + 1 + j : Nat) : Int) = (i : Int) + 1 + (j : Int) := by omega
      have hrj := bt_range s ((i + 1 + j : Nat) : Int)
      by_cases hlt : i + 1 + j < s.size
      · have HSj := Lib.hid (HS.out j hlt hj)
        have HEj := Lib.hid (HE.out j hlt hj)
        rw [hcast] at hrj HSj HEj hbj
        have hltz : (i : Int) + 1 + (j : Int) < (s.size : Int) := by omega
        clear hcast HS HE
        generalize bt s ((i : Int) + 1 + (j : Int)) = c at *
        by_cases c1 : 32 ≤ c
        · by_cases c2 : c ≤ 126
          · by_cases c3 : c = 34
            · have hjn : j = n := HEj.out (by simp [textB, c3])
              have c3b : (c != 34) = false := by simp [c3]
              clear HSj HEj c3
              subst hjn
              go_wp2_with fail
              go_meet
              exact ⟨rfl, rfl⟩
            · have HN := Lib.hid (HSj.out (by simp [textB, c1, c2, c3]))
              have c3b : (c != 34) = true := by simp [c3]
              clear HSj HEj c3
              go_wp2_with fail
              go_roundg (s.size - (i + 1 + (j + 1)))
              case measure => omega
              case rel => exact ⟨j + 1, by simp; omega, HN.out, by omega, Nat.le_refl _, rfl⟩
          · have hjn : j = n := HEj.out (by simp [textB]; omega)
            clear HSj HEj
            subst hjn
            go_wp2_with fail
            go_meet
            exact ⟨rfl, rfl⟩
        · have hjn : j = n := HEj.out (by simp [textB]; omega)
          clear HSj HEj
          subst hjn
          go_wp2_with fail
          go_meet
          exact ⟨rfl, rfl⟩
      · have hjn : j = n := by omega
        subst hjn
        have hltz : ¬ (i : Int) + 1 + (j : Int) < (s.size : Int) := by omega
        clear HS HE hbj hcast
        go_wp2_with fail
        go_meet
        exact ⟨rfl, rfl⟩
  case rest =>
    have hsz2 : w.heap.size < W.heap.size := (Array.getElem?_eq_some_iff.1 HK.out).1
    obtain ⟨rfl, rfl⟩ := hcut
    clear HS HE
    obtain ⟨k0, k1, k2, k3, f0, f1, f2, f3⟩ := blk4 HK.out
    clear HK
    by_cases d1 : s.size = i + 1 + n
    · have HR := Lib.hid (HQ.out.1 (Or.inl d1))
      have d1b : ((i : Int) + 1 + (n : Int) == (s.size : Int)) = true := by rw [beq_iff_eq]; omega
      clear HQ d1
      go_wp2_with fail
      refine bodyPost_ret (v := .tuple #[.agg #[.int .i64 0, .int .i64 0, .int .i64 0, .string ⟨#[]⟩], .int .i64 ((i : Int) + 1 + n), .bool false]) ?_ rfl ⟨HR.out _, ?_⟩
      · simp [results, Tryd.results18, go_sem, k0, k1, k2, k3, f0, f1, f2, f3, hsz2]
      · repeat (with_reducible first | exact HB.out | apply below_drew | apply pw_below_drewN | apply below_alloc | (refine Below.setCell ?_ (by simp) _))
    · have d1b : ((i : Int) + 1 + (n : Int) == (s.size : Int)) = false := by rw [beq_eq_false_iff_ne]; omega
      by_cases d2 : 200 < n
      · have HR := Lib.hid (HQ.out.1 (Or.inr d2))
        have d2z : 200 < (i : Int) + 1 + (n : Int) - (i : Int) - 1 := by omega
        clear HQ d1 d2
        go_wp2_with fail
        refine bodyPost_ret (v := .tuple #[.agg #[.int .i64 0, .int .i64 0, .int .i64 0, .string ⟨#[]⟩], .int .i64 ((i : Int) + 1 + n), .bool false]) ?_ rfl ⟨HR.out _, ?_⟩
        · simp [results, Tryd.results18, go_sem, k0, k1, k2, k3, f0, f1, f2, f3, hsz2]
        · repeat (with_reducible first | exact HB.out | apply below_drew | apply pw_below_drewN | apply below_alloc | (refine Below.setCell ?_ (by simp) _))
      · have HR := Lib.hid (HQ.out.2 (by omega) (by omega))
        have d2z : ¬ 200 < (i : Int) + 1 + (n : Int) - (i : Int) - 1 := by omega
        have d3 : i + 1 + n < s.size := by omega
        have d3z : (i : Int) + 1 + (n : Int) < (s.size : Int) := by omega
        have hbn : ∀ h : i + 1 + n < s.size, (s[i + 1 + n].toNat : Int) = bt s ((i : Int) + 1 + (n : Int)) := fun h => by
          have e : ((i + 1 + n : Nat) : Int) = (i : Int) + 1 + (n : Int) := by omega
          rw [← e]; exact bt_at s ((i + 1 + n : Nat) : Int) h
        have d4z : (0 : Int) ≤ (i : Int) + 1 + (n : Int) := by omega
        clear HQ d1 d2
        go_wp2_with fail
        go_region
        all_goals
          go_wp2_with fail
          refine bodyPost_ret (v := .tuple #[.agg #[.int .i64 4, .int .i64 i, .int .i64 0, .string (s.extract (i + 1) (i + 1 + n))], .int .i64 ((i : Int) + 1 + n + 1), .bool (bt s ((i : Int) + 1 + n) == 34)]) ?_ rfl ⟨HR.out, ?_⟩
          · simp [results, Tryd.results18, go_sem, k0, k1, k2, k3, f0, f1, f2, f3, hsz2]
          · repeat (with_reducible first | exact HB.out | apply below_drew | apply pw_below_drewN | apply below_alloc | (refine Below.setCell ?_ (by simp) _))
end Go.Proofs.YtcpcoegoaciipaaDoor.Tok
