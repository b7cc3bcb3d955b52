/- slices.Sort at uint64: pdqsortOrdered, Sort: the row holds the sorted numbers, some new blocks lie behind the heap, nothing else has turned. -/
import Derived.Test.YtcpcoegoaciipaaSrtI
import Derived.Sort.Walk13a
import Derived.Sort.AssemblyPlain
namespace Go.Proofs.Ytcpcoegoaciipaa.Srt
open Go.RowKit Go.Sort
set_option linter.unusedVariables false
set_option linter.unusedSimpArgs false

/-- A round's own values and what is known of them. -/
structure RdF (x : Array Int) (a b lim : Nat) (wb wp : Bool) (R : Array Int) (r : Rd Int) : Prop where
  s1 : r.d1.size = x.size
  s2 : r.d2.size = x.size
  s3 : r.pi.1.size = x.size
  pv : a ≤ r.pivot ∧ r.pivot < b
  limle : r.lim ≤ lim
  low : Below ltInt a b r.pi.1
  brk : wb = false → r.d1 = breakPatterns x a b ∧ r.lim = lim - 1
  bal : wb = true → r.d1 = x ∧ r.lim = lim
  c : r.c = choosePivot ltInt r.d1 a b
  dec : r.c.2 = .decreasing → r.d2 = reverseRange r.d1 a b ∧ r.pivot = (b - 1) - (r.c.1 - a) ∧ r.hint = .increasing
  ndec : r.c.2 ≠ .decreasing → r.d2 = r.d1 ∧ r.pivot = r.c.1 ∧ r.hint = r.c.2
  crange : a ≤ r.c.1 ∧ r.c.1 < b
  yes : (wb && wp && decide (r.hint = .increasing)) = true → r.pi = partialInsertionSort ltInt r.d2 a b
  no : (wb && wp && decide (r.hint = .increasing)) = false → r.pi = (r.d2, false)
  done : r.pi.2 = true → R = r.pi.1
  eq : r.pi.2 = false → (decide (a > 0) && !ltInt r.pi.1[a - 1]! r.pi.1[r.pivot]!) = true → ∀ mid y, partitionEqual ltInt r.pi.1 a b r.pivot = (mid, y) → a < mid ∧ mid ≤ b → R = pdq ltInt y mid b r.lim wb wp
  left : r.pi.2 = false → (decide (a > 0) && !ltInt r.pi.1[a - 1]! r.pi.1[r.pivot]!) = false → ∀ mid ap y, partition ltInt r.pi.1 a b r.pivot = (mid, ap, y) → a ≤ mid ∧ mid < b → mid - a < b - mid →
    R = pdq ltInt (pdq ltInt y a mid r.lim true true) (mid + 1) b r.lim (decide (mid - a ≥ (b - a) / 8)) ap
  right : r.pi.2 = false → (decide (a > 0) && !ltInt r.pi.1[a - 1]! r.pi.1[r.pivot]!) = false → ∀ mid ap y, partition ltInt r.pi.1 a b r.pivot = (mid, ap, y) → a ≤ mid ∧ mid < b → ¬ mid - a < b - mid →
    R = pdq ltInt (pdq ltInt y (mid + 1) b r.lim true true) a mid r.lim (decide (b - mid ≥ (b - a) / 8)) ap

theorem rdf (x : Array Int) (a b lim : Nat) (wb wp : Bool) (hab : a < b) (hb : b ≤ x.size) (hB : Below ltInt a b x) (h12 : ¬ b - a ≤ 12) (hl : ¬ lim = 0) :
    ∃ r, RdF x a b lim wb wp (pdq ltInt x a b lim wb wp) r := by
  obtain ⟨s1, _, hc, s2, _, hpv, s3, B3⟩ := rd_facts (limit := lim) (wb := wb) (wp := wp) swo_ltInt partialInsertionSort_holds reverseRange_holds hab hb hB
  refine ⟨rd ltInt x a b lim wb wp, s1, s2, s3, hpv, rd_lim_le, B3, ?_, ?_, rd_c, rd_dec, rd_not, hc, rd_pi_yes, rd_pi_no, fun h => pdq_done h12 hl h, ?_, ?_, ?_⟩
  · rintro rfl; exact rd_false
  · rintro rfl; exact rd_true
  · intro h1 h2 mid y hx hm
    rw [pdq_eq h12 hl h1 h2 (by rw [hx]; exact hm), hx]
  · intro h1 h2 mid ap y hx hm h4
    rw [pdq_left h12 hl h1 h2 (by rw [hx]; exact hm) (by rw [hx]; exact h4), hx]
  · intro h1 h2 mid ap y hx hm h4
    rw [pdq_right h12 hl h1 h2 (by rw [hx]; exact hm) (by rw [hx]; exact h4), hx]

theorem eighth {x y p q : Nat} (h1 : q ≤ p) (h2 : y ≤ x) : decide (((x : Int) - (y : Int)) / 8 ≤ (p : Int) - (q : Int)) = decide (p - q ≥ (x - y) / 8) :=
  decide_eq_decide.2 ⟨fun h => by omega, fun h => by omega⟩
theorem hint_two {h : Hint} (e : hintCode h = 2) : h = .decreasing := by cases h <;> simp [hintCode] at e ⊢

/-- What was sorted, and the world behind. -/
def Out (w : World) (g off : Nat) (d : Array Int) (W : World) : Prop := At U w g off d W

set_option maxHeartbeats 6400000 in
set_option maxRecDepth 1000000 in
theorem pdq_callsN (g off cap n : Nat) (hsz : n < 4611686018427387904) : ∀ (N a b lim : Nat) (d : Array Int) (w : World), b - a < N → d.size = n → Holds U w g off d → g < w.heap.size → a ≤ b → b ≤ n → lim < 4611686018427387904 → Below ltInt a b d →
    Calls Try.prog 36 #[.slice (some ⟨g, off, none⟩) n cap, .int .i64 a, .int .i64 b, .int .i64 lim] w fun e w' => e = .returned (.tuple #[]) ∧ At U w g off (pdq ltInt d a b lim true true) w' := by
  intro N
  induction N with
  | zero => intro _ _ _ _ _ h; exact absurd h (Nat.not_lt_zero _)
  | succ N ih =>
    intro a0 b0 lim0 d w hN hn hH hg hab hb hlim0 hB0
    have IH := Lib.hid ih
    have HH := Lib.hid hH
    have HN := Lib.hid hn
    have HB0 := Lib.hid hB0
    have HA0 := Lib.hid (At.refl hH)
    clear ih hH hn hB0
    go_enter Try.func36, Try.ntmps36
    go_wp2
    go_loopg [1, 2, 3, 8, 9] (b0 - a0) (fun kq s1 s2 s3 s8 s9 W => ∃ (a b lim : Nat) (wb wp : Bool) (x : Array Int), s1 = .int .i64 a ∧ s2 = .int .i64 b ∧ s3 = .int .i64 lim ∧ s8 = .bool wb ∧ s9 = .bool wp ∧
      a ≤ b ∧ b ≤ n ∧ b - a ≤ kq ∧ kq ≤ b0 - a0 ∧ lim ≤ lim0 ∧ Hid (x.size = n) ∧ Hid (Below ltInt a b x) ∧ Hid (At U w g off x W) ∧ Hid (pdq ltInt x a b lim wb wp = pdq ltInt d a0 b0 lim0 true true))
    case atStart => exact ⟨a0, b0, lim0, true, true, d, rfl, rfl, rfl, rfl, rfl, hab, hb, Nat.le_refl _, Nat.le_refl _, Nat.le_refl _, HN, HB0, HA0, rfl⟩
    case round =>
      obtain ⟨a, b, lim, wb, wp, x, rfl, rfl, rfl, rfl, rfl, hab', hb', hk, hkN, hlim, HX, HB, HA, HE⟩ := hrel
      have HXd := Lib.hid (HX.out.trans HN.out.symm)
      obtain ⟨hHx, hgx⟩ := HA.out.holds HH.out HXd.out hg
      have HHx := Lib.hid hHx
      clear hHx
      by_cases h12 : b - a ≤ 12
      · have h12z : (b : Int) - (a : Int) ≤ 12 := by omega
        have HC := Lib.hid (ins_at g off cap a b n x _ HX.out HHx.out hab' hb' hsz)
        go_wp2_with fail
        refine HC.out.mono ?_
        rintro e w1 ⟨rfl, hw1⟩
        have HW1 := Lib.hid hw1
        clear hw1
        go_wp2_with fail
        ((try simp only [Exit.inBlock, Exit.then]); first | refine bodyPost_end (results_none rfl _ _ _) rfl ?_ | refine bodyPost_ret (results_none rfl _ _ _) rfl ?_)
        refine ⟨rfl, ?_⟩
        rw [← HE.out, pdq_small h12]
        exact HA.out.step hg (insertionSort_holds swo_ltInt x a b hab' (by rw [HX.out]; exact hb')).1.1 HW1.out
      · have h12z : ¬ ((b : Int) - (a : Int) ≤ 12) := by omega
        by_cases hl0 : lim = 0
        · subst hl0
          have HC := Lib.hid (heap_calls g off cap a b n x _ HX.out HHx.out hab' hb' hsz)
          go_wp2_with fail
          refine HC.out.mono ?_
          rintro e w1 ⟨rfl, hw1⟩
          have HW1 := Lib.hid hw1
          clear hw1
          go_wp2_with fail
          ((try simp only [Exit.inBlock, Exit.then]); first | refine bodyPost_end (results_none rfl _ _ _) rfl ?_ | refine bodyPost_ret (results_none rfl _ _ _) rfl ?_)
          refine ⟨rfl, ?_⟩
          rw [← HE.out, pdq_heap h12 rfl]
          exact HA.out.step hg (heapSort_holds swo_ltInt x a b hab' (by rw [HX.out]; exact hb')).1.1 HW1.out
        · have hl0z : ¬ ((lim : Int) = 0) := by omega
          obtain ⟨r, hr⟩ := rdf x a b lim wb wp (by omega) (by rw [HX.out]; exact hb') HB.out h12 hl0
          have R := Lib.hid hr
          obtain ⟨p1, p2⟩ := hr.pv
          obtain ⟨c1, c2⟩ := hr.crange
          have plim := hr.limle
          have HR := Lib.hid (HE.out)
          generalize pdq ltInt x a b lim wb wp = res at *
          have hres : res = pdq ltInt d a0 b0 lim0 true true := HE.out
          have HRES := Lib.hid hres
          clear hr HE HR hres
          go_upto_if 35 with fail
          go_cut [3] from 19 (fun s3 wc => s3 = .int .i64 r.lim ∧ Hid (At U w g off r.d1 wc))
          case first =>
            cases wb with
            | false =>
              have HC := Lib.hid (break_calls g off cap a b n x _ HX.out HHx.out hgx hab' hb' hsz)
              obtain ⟨q1, q2⟩ := R.out.brk rfl
              have Q1 := Lib.hid q1
              have Q2 := Lib.hid q2
              clear q1 q2
              go_wp2_with fail
              refine HC.out.mono ?_
              rintro e w1 ⟨rfl, hw1⟩
              have HW1 := Lib.hid hw1
              clear hw1
              go_wp2_with fail
              go_meet
              case rel =>
                refine ⟨?_, ?_⟩
                · rw [Q2.out]; congr 1; omega
                · show At U w g off r.d1 _
                  rw [Q1.out]; exact HA.out.stepG hg (by rw [← Q1.out, R.out.s1]) HW1.out
            | true =>
              obtain ⟨q1, q2⟩ := R.out.bal rfl
              have Q1 := Lib.hid q1
              have Q2 := Lib.hid q2
              clear q1 q2
              go_wp2_with fail
              go_meet
              case rel => exact ⟨by rw [Q2.out], by rw [Q1.out]; exact HA⟩
          case rest =>
            obtain ⟨rfl, HA1⟩ := hcut
            have HS1 := Lib.hid (R.out.s1.trans HX.out)
            obtain ⟨hH1, hg1⟩ := HA1.out.holds HH.out (HS1.out.trans HN.out.symm) hg
            have HC17 := Lib.hid (show Calls Try.prog 41 #[.slice (some ⟨g, off, none⟩) n cap, .int .i64 a, .int .i64 b] wc fun e w' => e = .returned (.tuple #[.int .i64 r.c.1, .int .i64 (hintCode r.c.2)]) ∧ ∃ m os, w' = Sort.grow (Sort.ahead wc m) os by
              rw [R.out.c]; exact choose_calls g off cap a b n r.d1 wc HS1.out hH1 hg1 (by omega) hb' hsz)
            clear hH1 hg1 hgx HHx HA
            go_upto_if 50 with (go_at_call 41; refine HC17.out.mono ?_; rintro e w2 ⟨rfl, hw2⟩)
            have HA2 := Lib.hid (HA1.out.same HH.out (HS1.out.trans HN.out.symm) hg hw2)
            clear hw2 HC17 HA1
            obtain ⟨hH2, hg2⟩ := HA2.out.holds HH.out (HS1.out.trans HN.out.symm) hg
            have HC18 := Lib.hid (reverse_at g off cap a b n r.d1 _ HS1.out hH2 hab' hb' hsz)
            clear hH2 hg2
            go_cut [11, 12] from 19 (fun s11 s12 wc => s11 = .int .i64 r.pivot ∧ s12 = .int .i64 (hintCode r.hint) ∧ Hid (At U w g off r.d2 wc))
            case first =>
              by_cases hh : r.c.2 = .decreasing
              · have hcode : hintCode r.c.2 = 2 := by rw [hh]; rfl
                obtain ⟨q1, q2, q3⟩ := R.out.dec hh
                have Q1 := Lib.hid q1
                have Q2 := Lib.hid q2
                have Q3 := Lib.hid q3
                clear q1 q2 q3 hh
                go_wp2_with fail
                refine HC18.out.mono ?_
                rintro e w3 ⟨rfl, hw3⟩
                have HW3 := Lib.hid hw3
                clear hw3
                go_wp2_with fail
                go_meet
                case rel =>
                  refine ⟨?_, by rw [Q3.out]; rfl, ?_⟩
                  · rw [Q2.out]; congr 1; omega
                  · show At U w g off r.d2 _
                    rw [Q1.out]; exact HA2.out.step hg (by rw [← Q1.out, R.out.s2, R.out.s1]) HW3.out
              · have hcode : ¬ (hintCode r.c.2 = 2) := fun h => hh (hint_two h)
                obtain ⟨q1, q2, q3⟩ := R.out.ndec hh
                have Q1 := Lib.hid q1
                have Q2 := Lib.hid q2
                have Q3 := Lib.hid q3
                clear q1 q2 q3 hh
                go_wp2_with fail
                go_meet
                case rel => exact ⟨by rw [Q2.out], by rw [Q3.out], by rw [Q1.out]; exact HA2⟩
            case rest =>
              obtain ⟨rfl, rfl, HA3⟩ := hcut
              clear HA2 HC18
              have HS2 := Lib.hid (R.out.s2.trans HX.out)
              obtain ⟨hH3, hg3⟩ := HA3.out.holds HH.out (HS2.out.trans HN.out.symm) hg
              have HC19 := Lib.hid (fun h : a < b => (partial_calls g off cap a b r.d2 _ hH3 h (by rw [HS2.out]; exact hb') (by rw [HS2.out]; exact hsz)))
              have HC19' := Lib.hid (show ∀ h : a < b, Calls Try.prog 43 #[.slice (some ⟨g, off, none⟩) n cap, .int .i64 a, .int .i64 b] wc fun e w' => e = .returned (.bool (partialInsertionSort ltInt r.d2 a b).2) ∧ St wc g off (partialInsertionSort ltInt r.d2 a b).1 w' by
                have := HC19.out; rw [HS2.out] at this; exact this)
              clear hH3 hg3 HC19
              go_upto_region 15 with fail
              go_cut [12, 68] from 19 (fun s12 s68 wx => s12 = .int .i64 (hintCode r.hint) ∧ s68 = .bool (wb && wp && decide (r.hint = .increasing)) ∧ wx = wc)
              case first =>
                cases wb <;> cases wp <;> cases hh3 : r.hint <;>
                  (have hcode3 := congrArg hintCode hh3
                   simp only [hintCode] at hcode3
                   go_wp2_with fail
                   go_meet
                   exact ⟨by simp [hh3, hintCode], by simp [hh3, hintCode], rfl⟩)
              case rest =>
                obtain ⟨rfl, rfl, rfl⟩ := hcut
                go_upto_if 68 with fail
                go_cut [] from 19 (fun wx => Hid (r.pi.2 = false) ∧ Hid (At U w g off r.pi.1 wx))
                case first =>
                  cases h68 : (wb && wp && decide (r.hint = .increasing)) with
                  | false =>
                    have EP := Lib.hid (R.out.no h68)
                    go_wp2_with fail
                    go_meet
                    case rel => exact ⟨by rw [EP.out]; rfl, by rw [EP.out]; exact HA3⟩
                  | true =>
                    have EP := Lib.hid (R.out.yes h68)
                    have HC := Lib.hid (HC19'.out (by omega))
                    rw [← EP.out] at HC
                    go_wp2_with fail
                    refine HC.out.mono ?_
                    rintro e w4 ⟨rfl, hw4⟩
                    have HW4 := Lib.hid hw4
                    clear hw4
                    cases hp2 : r.pi.2 with
                    | true =>
                      have HV := Lib.hid (R.out.done hp2)
                      go_wp2_with fail
                      ((try simp only [Exit.inBlock, Exit.then]); first | refine bodyPost_end (results_none rfl _ _ _) rfl ?_ | refine bodyPost_ret (results_none rfl _ _ _) rfl ?_)
                      refine ⟨rfl, ?_⟩
                      rw [← HRES.out, HV.out]
                      exact HA3.out.step hg (by rw [R.out.s3, R.out.s2]) HW4.out
                    | false =>
                      have HP2 := Lib.hid hp2
                      clear hp2
                      go_wp2_with fail
                      go_meet
                      exact ⟨HP2, HA3.out.step hg (by rw [R.out.s3, R.out.s2]) HW4.out⟩
                case rest =>
                  obtain ⟨HP2, HA5⟩ := hcut
                  clear HA3 HC19' HS2 HS1
                  have HS3 := Lib.hid (R.out.s3.trans HX.out)
                  obtain ⟨hH5, hg5⟩ := HA5.out.holds HH.out (HS3.out.trans HN.out.symm) hg
                  obtain ⟨G, hG, hcw, hfw⟩ := (St.self hH5).family hH5 HS3.out HS3.out
                  have HG := Lib.hid hG
                  have R87 := Lib.hid (show (decide (a > 0) && !ltInt (G (a - 1)) (G r.pivot)) = (decide (a > 0) && !ltInt r.pi.1[a - 1]! r.pi.1[r.pivot]!) by rw [HG.out, HG.out])
                  clear hG HG hH5 hg5
                  go_upto_region 17 with fail
                  go_cut [87] from 19 (fun s87 wx => s87 = .bool (decide (a > 0) && !ltInt (G (a - 1)) (G r.pivot)) ∧ Hid (At U w g off r.pi.1 wx))
                  case first =>
                    rcases Nat.eq_zero_or_pos a with ha0 | ha0
                    · have ha0z : decide ((a : Int) > 0) = false := decide_eq_false (by omega)
                      have ha0n : decide (a > 0) = false := decide_eq_false (by omega)
                      clear ha0
                      go_quiet (first | (go_at_call 44; first | (refine Calls.quiet_of_same (less_calls _ _ _)) | exact (less_calls _ _ _).mono (fun e w' h => ⟨h.1, _, h.2⟩)))
                      go_wp2_with fail
                      go_meet
                      case rel => exact ⟨by simp [ha0n], HA5.out.ahead _⟩
                    · have ha0z : (a : Int) > 0 := by omega
                      have ha0n : decide (a > 0) = true := decide_eq_true (by omega)
                      go_quiet (first | (go_at_call 44; first | (refine Calls.quiet_of_same (less_calls _ _ _)) | exact (less_calls _ _ _).mono (fun e w' h => ⟨h.1, _, h.2⟩)))
                      go_wp2_with fail
                      go_meet
                      case rel => exact ⟨by simp [ha0n], HA5.out.ahead _⟩
                  case rest =>
                    obtain ⟨rfl, HA6⟩ := hcut
                    clear HA5 hcw hfw
                    rw [R87.out]
                    clear R87
                    obtain ⟨hH6, hg6⟩ := HA6.out.holds HH.out (HS3.out.trans HN.out.symm) hg
                    have HC22 := Lib.hid (part_calls g off cap a b r.pivot n r.pi.1 _ HS3.out hH6 p1 p2 hb' hsz)
                    have HC21 := Lib.hid (peq_calls g off cap a b r.pivot n r.pi.1 _ HS3.out hH6 p1 p2 hb' hsz)
                    clear hH6 hg6
                    cases h87 : (decide (a > 0) && !ltInt r.pi.1[a - 1]! r.pi.1[r.pivot]!) with
                    | false =>
                      obtain ⟨mid, ap, y, hx⟩ : ∃ mid ap y, partition ltInt r.pi.1 a b r.pivot = (mid, ap, y) := ⟨(partition ltInt r.pi.1 a b r.pivot).1, (partition ltInt r.pi.1 a b r.pivot).2.1, (partition ltInt r.pi.1 a b r.pivot).2.2, rfl⟩
                      obtain ⟨r1, r2, r3, r4, r5, r6, r7⟩ := round_part swo_ltInt (partition_holds ltInt) p1 p2 (show b ≤ r.pi.1.size by rw [HS3.out]; exact hb') R.out.low hx
                      have HLT := Lib.hid (R.out.left HP2.out h87 mid ap y hx ⟨r1, r2⟩)
                      have HRT := Lib.hid (R.out.right HP2.out h87 mid ap y hx ⟨r1, r2⟩)
                      rw [hx] at HC22
                      have HY := Lib.hid (r3.trans HS3.out)
                      have HYs := Lib.hid r3
                      have R4 := Lib.hid r4
                      have R5 := Lib.hid r5
                      have R6 := Lib.hid r6
                      have R7 := Lib.hid r7
                      clear hx h87 r3 r4 r5 r6 r7 HC21
                      go_upto_if 113 with (go_at_call 46; refine HC22.out.mono ?_; rintro e w7 ⟨rfl, hw7⟩)
                      have HA7 := Lib.hid (HA6.out.step hg HYs.out hw7)
                      clear hw7 HA6 HC22
                      obtain ⟨hH7, hg7⟩ := HA7.out.holds HH.out (HY.out.trans HN.out.symm) hg
                      by_cases h4 : mid - a < b - mid
                      · have h4z : (mid : Int) - (a : Int) < (b : Int) - (mid : Int) := by omega
                        have HC := Lib.hid (IH.out a mid r.lim y w7 (by omega) HY.out hH7 hg7 r1 (by omega) (by omega) R4.out)
                        obtain ⟨pL, sL⟩ := pdq_sorts ltInt swo_ltInt y a mid r.lim true true r1 (by rw [HY.out]; omega) R4.out
                        have HV := Lib.hid (HLT.out h4)
                        have HZ := Lib.hid (pL.1)
                        have HB9 := Lib.hid (R6.out _ pL sL).1
                        generalize pdq ltInt y a mid r.lim true true = z at *
                        clear pL sL hH7 hg7
                        go_wp2_with fail
                        refine HC.out.mono ?_
                        rintro e w8 ⟨rfl, hw8⟩
                        have HW8 := Lib.hid hw8
                        clear hw8
                        go_wp2_with fail
                        go_roundg (b - (mid + 1))
                        case measure => omega
                        case rel =>
                          refine ⟨mid + 1, b, r.lim, decide (mid - a ≥ (b - a) / 8), ap, z, by simp, rfl, rfl, ?_, rfl, by omega, hb', Nat.le_refl _, by omega, by omega, HZ.out.trans HY.out, HB9, ?_, ?_⟩
                          · exact congrArg Value.bool (eighth (by omega) (by omega))
                          · obtain ⟨m, os, h8⟩ := HW8.out
                            exact HA7.out.stepG hg HZ.out ⟨m, os, h8⟩
                          · show _ = _
                            rw [← HRES.out, HV.out]
                      · have h4z : ¬ ((mid : Int) - (a : Int) < (b : Int) - (mid : Int)) := by omega
                        have HC := Lib.hid (IH.out (mid + 1) b r.lim y w7 (by omega) HY.out hH7 hg7 (by omega) hb' (by omega) R5.out)
                        obtain ⟨pL, sL⟩ := pdq_sorts ltInt swo_ltInt y (mid + 1) b r.lim true true (by omega) (by rw [HY.out]; exact hb') R5.out
                        have HV := Lib.hid (HRT.out h4)
                        have HZ := Lib.hid (pL.1)
                        have HB9 := Lib.hid (R7.out _ pL sL).1
                        generalize pdq ltInt y (mid + 1) b r.lim true true = z at *
                        clear pL sL hH7 hg7
                        go_wp2_with fail
                        refine HC.out.mono ?_
                        rintro e w8 ⟨rfl, hw8⟩
                        have HW8 := Lib.hid hw8
                        clear hw8
                        go_wp2_with fail
                        go_roundg (mid - a)
                        case measure => omega
                        case rel =>
                          refine ⟨a, mid, r.lim, decide (b - mid ≥ (b - a) / 8), ap, z, rfl, rfl, rfl, ?_, rfl, r1, by omega, Nat.le_refl _, by omega, by omega, HZ.out.trans HY.out, HB9, ?_, ?_⟩
                          · exact congrArg Value.bool (eighth (by omega) (by omega))
                          · obtain ⟨m, os, h8⟩ := HW8.out
                            exact HA7.out.stepG hg HZ.out ⟨m, os, h8⟩
                          · show _ = _
                            rw [← HRES.out, HV.out]
                    | true =>
                      have h87' := h87
                      simp only [Bool.and_eq_true, decide_eq_true_eq, Bool.not_eq_true'] at h87'
                      obtain ⟨mid, y, hx⟩ : ∃ mid y, partitionEqual ltInt r.pi.1 a b r.pivot = (mid, y) := ⟨(partitionEqual ltInt r.pi.1 a b r.pivot).1, (partitionEqual ltInt r.pi.1 a b r.pivot).2, rfl⟩
                      obtain ⟨r1, r2, r3, r4, _⟩ := round_eq swo_ltInt (partitionEqual_holds ltInt) h87'.1 p1 p2 (show b ≤ r.pi.1.size by rw [HS3.out]; exact hb') R.out.low h87'.2 hx
                      have HV := Lib.hid (R.out.eq HP2.out h87 mid y hx ⟨r1, r2⟩)
                      rw [hx] at HC21
                      have HY := Lib.hid (r3.trans HS3.out)
                      have HYs := Lib.hid r3
                      have R4 := Lib.hid r4
                      clear hx h87 h87' r3 r4 HC22
                      go_wp2_with fail
                      refine HC21.out.mono ?_
                      rintro e w7 ⟨rfl, hw7⟩
                      have HW7 := Lib.hid hw7
                      clear hw7
                      go_wp2_with fail
                      go_roundg (b - mid)
                      case measure => omega
                      case rel =>
                        exact ⟨mid, b, r.lim, wb, wp, y, rfl, rfl, rfl, rfl, rfl, r2, hb', Nat.le_refl _, by omega, by omega, HY, R4, HA6.out.step hg HYs.out HW7.out, show _ = _ by rw [← HRES.out, HV.out]⟩

/-- slices.Sort. -/
theorem sort_calls (g off cap n : Nat) (d : Array Int) (w : World) (hn : d.size = n) (hH : Holds U w g off d) (hg : g < w.heap.size) (hsz : n < 4611686018427387904) :
    Calls Try.prog 30 #[.slice (some ⟨g, off, none⟩) n cap] w fun e w' => e = .returned (.tuple #[]) ∧ At U w g off (Sort.sort ltInt d) w' := by
  have HP := Lib.hid (fun lim hl => pdq_callsN g off cap n hsz (n + 1) 0 n lim d w (by omega) hn hH hg (Nat.zero_le _) (Nat.le_refl _) hl (Or.inl rfl))
  have HE := Lib.hid (show Sort.sort ltInt d = pdq ltInt d 0 n (bitsLen n) true true by unfold Sort.sort; rw [hn])
  have hk : bitsLen n ≤ 62 := (bitsLen_le_iff n 62).2 (by omega)
  have HL := Lib.hid (fun w => blen_calls n hsz w)
  clear hH hn
  generalize bitsLen n = L at *
  have HQ := Lib.hid (HP.out L (by omega))
  go_enter Try.func30, Try.ntmps30
  go_wp2_with (first
    | (go_at_call 37; refine (HL.out _).mono ?_; rintro e w' ⟨rfl, rfl⟩)
    | (go_at_call 36; refine HQ.out.mono ?_; rintro e w' ⟨rfl, hw⟩))
  go_end0
  exact ⟨rfl, by rw [HE.out]; exact hw⟩
end Go.Proofs.Ytcpcoegoaciipaa.Srt
