/- ploverlaw06.TokenOwn answers true. -/
import Derived.Test.YtcpcoegoaciipaaDoorOwnLaw
namespace Go.Proofs.YtcpcoegoaciipaaDoor.Tok
open Go.RowKit Go.Proofs.YtcpcoegoaciipaaDoorW.PrintWords Go.Proofs.YtcpcoegoaciipaaDoorW.PrintLast Go.Proofs.YtcpcoegoaciipaaDoorW.PrintMore
open Go.Proofs.YtcpcoegoaciipaaDoor.PTokenCuts
set_option linter.unusedVariables false
set_option linter.unusedSimpArgs false

theorem cutP_bad (s : ByteArray) (h : (cutP s).2 ≠ 0) : (cutP s).1 = [] := by
  unfold cutP at h ⊢
  split
  · rfl
  · split
    · next h1 => rw [if_neg (by assumption)] at h; rw [h1] at h; simp at h
    · rfl

set_option maxHeartbeats 1000000 in
set_option maxRecDepth 100000 in
theorem owns_long (s : ByteArray) (hl : 2000 < s.size) (hs : s.size ≤ 140737488351232) (w : World) (hE : Errs w) :
    Calls Tryd.prog 4 #[.string s] w fun e w' => e = .returned (.bool true) ∧ Below w.heap.size w w' := by
  have HE := Lib.hid hE
  clear hE
  have hlz : (2000 : Int) < (s.size : Int) := by omega
  clear hl
  go_enter Tryd.func4, Tryd.ntmps4
  go_wp2_with fail
  refine (up_calls _ HE.out).mono ?_
  rintro e w1 ⟨rfl, hb1⟩
  have HB1 := Lib.hid hb1
  clear hb1
  go_wp2_with fail
  go_ret
  exact ⟨rfl, by repeat (with_reducible first | exact HB1.out | apply below_drew | apply pw_below_drewN | apply below_alloc)⟩

set_option maxHeartbeats 1000000 in
set_option maxRecDepth 100000 in
theorem owns_bad (s : ByteArray) (hl : ¬ 2000 < s.size) (hs : s.size ≤ 140737488351232) (hbad : (cutP s).2 ≠ 0) (w : World) (hE : Errs w) :
    Calls Tryd.prog 4 #[.string s] w fun e w' => e = .returned (.bool true) ∧ Below w.heap.size w w' := by
  have HE := Lib.hid hE
  have HO := Lib.hid (fun W hW => cut_calls s hs W hW)
  rw [cutP_bad s hbad, show errV (cutP s).2 = .iface 47 (.int .i64 (cutP s).2) by unfold errV; rw [if_neg hbad]] at HO
  generalize (cutP s).2 = c at *
  clear hE hbad
  have hlz : ¬ (2000 : Int) < (s.size : Int) := by omega
  clear hl
  go_enter Tryd.func4, Tryd.ntmps4
  go_wp2_with fail
  refine (up_calls _ HE.out).mono ?_
  rintro e w1 ⟨rfl, hb1⟩
  have HB1 := Lib.hid hb1
  clear hb1
  go_wp2_with fail
  refine (HO.out _ (HE.out.below HB1.out)).mono ?_
  rintro e w2 ⟨v1, rfl, hr1, hb2⟩
  obtain ⟨A, cc, rfl, hc, hC⟩ := Kd.R_reads hr1
  have HB2 := Lib.hid (below_then HB1.out HB1.out.size hb2)
  clear hb2 hC hr1 hc HB1 HO
  rw [show (List.nil : List S36).length = 0 from rfl]
  go_wp2_with fail
  go_ret
  exact ⟨rfl, by repeat (with_reducible first | exact HB2.out | apply below_drew | apply pw_below_drewN | apply below_alloc)⟩
set_option maxHeartbeats 2000000 in
set_option maxRecDepth 100000 in
theorem owns_good (s : ByteArray) (hl : ¬ 2000 < s.size) (hs : s.size ≤ 140737488351232) (hgood : (cutP s).2 = 0) (w : World) (hE : Errs w) :
    Calls Tryd.prog 4 #[.string s] w fun e w' => e = .returned (.bool true) ∧ Below w.heap.size w w' := by
  have HE := Lib.hid hE
  have HO := Lib.hid (fun W hW => cut_calls s hs W hW)
  have HX := Lib.hid (fun a b (h : b ≤ s.size) W hW => cut_calls (s.extract a b) (by simp; omega) W hW)
  have HL := Lib.hid (own_law s (cutP s).1 (Prod.ext rfl hgood))
  have hlen := cutP_len s
  rw [hgood, show errV (0 : Int) = .nilIface from rfl] at HO
  generalize (cutP s).1 = l at *
  clear hE hgood
  have hlz : ¬ (2000 : Int) < (s.size : Int) := by omega
  have hsz : s.size ≤ 2000 := by omega
  clear hl
  go_enter Tryd.func4, Tryd.ntmps4
  go_wp2_with fail
  refine (up_calls _ HE.out).mono ?_
  rintro e w1 ⟨rfl, hb1⟩
  have HB1 := Lib.hid hb1
  clear hb1
  go_wp2_with fail
  refine (HO.out _ (HE.out.below HB1.out)).mono ?_
  rintro e w2 ⟨v1, rfl, hr1, hb2⟩
  obtain ⟨A, cc, rfl, hc, hC⟩ := Kd.R_reads hr1
  have HB2 := Lib.hid (below_then HB1.out HB1.out.size hb2)
  have HC := Lib.hid hC
  clear hb2 hC hr1 hc HB1 HO
  go_wp2_with fail
  go_loopg [6] (l.length + 1) (fun kq v6 w' => ∃ (j : Nat), v6 = .int .i64 j ∧ j ≤ l.length ∧ l.length - j < kq ∧ Hid (Below w.heap.size w w') ∧ Hid (Below w2.heap.size w2 w'))
  case atStart => exact ⟨0, rfl, by omega, by omega, HB2.out, Below.refl _ _⟩
  case round =>
    obtain ⟨j, rfl, hj, hk, HB, HBB⟩ := hrel
    cases gk with
    | zero => omega
    | succ k =>
    by_cases hlt : j < l.length
    · have hltz : (j : Int) < (l.length : Int) := by omega
      obtain ⟨ad, e1, c0, c1, c2, c3⟩ := at_T36 HC.out (j : Int) (by omega) (by omega)
      cases e1
      replace c0 := (HBB.out.cell (World.block_lt_of_cell? _ _ c0)).trans c0
      replace c1 := (HBB.out.cell (World.block_lt_of_cell? _ _ c1)).trans c1
      replace c2 := (HBB.out.cell (World.block_lt_of_cell? _ _ c2)).trans c2
      replace c3 := (HBB.out.cell (World.block_lt_of_cell? _ _ c3)).trans c3
      obtain ⟨a, b, ha, hab, hbs, hn1, hn2, hp⟩ := HL.out j hlt
      rw [ha] at c1
      generalize hf0 : (rd_T36 l (j : Int)).f0 = f0 at *
      generalize hf2 : (rd_T36 l (j : Int)).f2 = f2 at *
      generalize hf3 : (rd_T36 l (j : Int)).f3 = f3 at *
      have HP := Lib.hid (HX.out a b hbs)
      rw [hp] at HP
      clear hf0 hf2 hf3 ha hp
      replace c0 : wr.cell? (ad.add (j * 4)) = some (.int .i64 f0) := c0
      replace c1 : wr.cell? ⟨(ad.add (j * 4)).block, (ad.add (j * 4)).off + 1, none⟩ = some (.int .i64 a) := c1
      replace c2 : wr.cell? ⟨(ad.add (j * 4)).block, (ad.add (j * 4)).off + 2, none⟩ = some (.int .i64 f2) := c2
      replace c3 : wr.cell? ⟨(ad.add (j * 4)).block, (ad.add (j * 4)).off + 3, none⟩ = some (.string f3) := c3
      have habz : (a : Int) < (b : Int) := by omega
      by_cases hnx : j + 1 < l.length
      have hnz : (j : Int) + 1 < (l.length : Int) := by omega
      obtain ⟨ad', e2, _, d1, _, _⟩ := at_T36 HC.out ((j : Int) + 1) (by omega) (by omega)
      obtain rfl : ad = ad' := by injection e2
      replace d1 := (HBB.out.cell (World.block_lt_of_cell? _ _ d1)).trans d1
      rw [hn1 hnx] at d1
      replace d1 : wr.cell? ⟨(ad.add ((j + 1) * 4)).block, (ad.add ((j + 1) * 4)).off + 1, none⟩ = some (.int .i64 b) := d1
      clear hn1 hn2 e2
      go_wp2_with fail
      rotate_left
      have hnz : ¬ (j : Int) + 1 < (l.length : Int) := by omega
      obtain rfl := hn2 hnx
      clear hn1 hn2
      go_wp2_with fail
      all_goals
        refine (HP.out _ (HE.out.below HB.out)).mono ?_
        rintro e w3 ⟨v2, rfl, hr3, hb3⟩
        obtain ⟨A2, cc2, rfl, hc3, hC3⟩ := Kd.R_reads hr3
        obtain ⟨ad2, e3, x0, x1, x2, x3⟩ := at_T36 hC3 0 (by simp) (by simp)
        cases e3
        replace x0 : w3.cell? ad2 = some (.int .i64 f0) := x0
        replace x1 : w3.cell? ⟨ad2.block, ad2.off + 1, none⟩ = some (.int .i64 0) := x1
        replace x2 : w3.cell? ⟨ad2.block, ad2.off + 2, none⟩ = some (.int .i64 f2) := x2
        replace x3 : w3.cell? ⟨ad2.block, ad2.off + 3, none⟩ = some (.string f3) := x3
        have HB3 := Lib.hid (below_then HB.out HB.out.size hb3)
        have HBB3 := Lib.hid (below_then HBB.out HBB.out.size hb3)
        replace c0 := (hb3.cell (World.block_lt_of_cell? _ _ c0)).trans c0
        replace c2 := (hb3.cell (World.block_lt_of_cell? _ _ c2)).trans c2
        replace c3 := (hb3.cell (World.block_lt_of_cell? _ _ c3)).trans c3
        rw [show errV (0 : Int) = .nilIface from rfl, List.length_singleton]
        clear hr3 hb3 hc3 hC3 HB HBB HP c1
        go_wp2_with fail
        go_quiet (fail)
        go_wp2_with fail
        go_roundg k
        case measure => omega
        case rel => exact ⟨j + 1, by simp, by omega, by omega, pw_below_drewN HB3.out _, pw_below_drewN HBB3.out _⟩
    · have hltz : ¬ (j : Int) < (l.length : Int) := by omega
      go_wp2_with fail
      go_ret
      exact ⟨rfl, by repeat (with_reducible first | exact HB.out | apply below_drew | apply pw_below_drewN | apply below_alloc)⟩

theorem owns_calls (s : ByteArray) (hs : s.size ≤ 140737488351232) (w : World) (hE : Errs w) :
    Calls Tryd.prog 4 #[.string s] w fun e w' => e = .returned (.bool true) ∧ Below w.heap.size w w' := by
  by_cases hl : 2000 < s.size
  · exact owns_long s hl hs w hE
  · by_cases h : (cutP s).2 = 0
    · exact owns_good s hl hs h w hE
    · exact owns_bad s hl hs h w hE
end Go.Proofs.YtcpcoegoaciipaaDoor.Tok
