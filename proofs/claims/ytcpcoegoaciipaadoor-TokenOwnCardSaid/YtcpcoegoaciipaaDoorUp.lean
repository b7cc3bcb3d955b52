/- ploverlaw06.up: the document's example holds. -/
import Derived.Test.YtcpcoegoaciipaaDoorCode
import Derived.KernelRfl
namespace Go.Proofs.YtcpcoegoaciipaaDoor.Tok
open Go.RowKit Go.Proofs.YtcpcoegoaciipaaDoorW.PrintWords Go.Proofs.YtcpcoegoaciipaaDoorW.PrintLast Go.Proofs.YtcpcoegoaciipaaDoorW.PrintMore
open Go.Proofs.YtcpcoegoaciipaaDoor.PTokenCuts
set_option linter.unusedVariables false
set_option linter.unusedSimpArgs false

def upL : List S36 := [⟨1, 0, 0, ⟨#[97]⟩⟩, ⟨5, 1, 0, ⟨#[62, 61]⟩⟩, ⟨3, 3, -5, ⟨#[]⟩⟩]
set_option maxRecDepth 100000 in
theorem up_one : cutP ⟨#[97, 62, 61, 45, 53]⟩ = (upL, 0) := by kernel_rfl
set_option maxRecDepth 100000 in
theorem up_two : cutP ⟨#[36]⟩ = ([], 2) := by kernel_rfl

set_option maxHeartbeats 1000000 in
set_option maxRecDepth 100000 in
theorem up_calls (w : World) (hE : Errs w) :
    Calls Tryd.prog 6 #[] w fun e w' => e = .returned (.bool true) ∧ Below w.heap.size w w' := by
  have HE := Lib.hid hE
  have HO := Lib.hid (fun W hW => cut_calls ⟨#[97, 62, 61, 45, 53]⟩ (by decide) W hW)
  have HT := Lib.hid (fun W hW => cut_calls ⟨#[36]⟩ (by decide) W hW)
  rw [up_one] at HO
  rw [up_two] at HT
  clear hE
  go_enter Tryd.func6, Tryd.ntmps6
  go_wp2_with fail
  refine (HO.out _ HE.out).mono ?_
  rintro e w1 ⟨v1, rfl, hr1, hb1⟩
  obtain ⟨A, c, rfl, hc, hC⟩ := Kd.R_reads hr1
  have HR1 := Lib.hid hC
  have HB1 := Lib.hid hb1
  clear hC hr1 hb1 HO
  go_wp2_with fail
  refine (HT.out _ (HE.out.below HB1.out)).mono ?_
  rintro e w2 ⟨v2, rfl, hr2, hb2⟩
  have HB2 := Lib.hid (below_then HB1.out HB1.out.size hb2)
  clear HT
  obtain ⟨ad, e1, h10, h11, h12, h13⟩ := at_T36 HR1.out 1 (by decide) (by decide)
  obtain ⟨ad', e2, h20, h21, h22, h23⟩ := at_T36 HR1.out 2 (by decide) (by decide)
  cases e1
  obtain rfl : ad = ad' := by injection e2
  rw [show rd_T36 upL 1 = ⟨5, 1, 0, ⟨#[62, 61]⟩⟩ from rfl] at h13
  rw [show rd_T36 upL 2 = ⟨3, 3, -5, ⟨#[]⟩⟩ from rfl] at h22
  replace h13 := (hb2.cell (World.block_lt_of_cell? _ _ h13)).trans h13
  replace h22 := (hb2.cell (World.block_lt_of_cell? _ _ h22)).trans h22
  rw [show upL.length = 3 from rfl]
  have he := fun w => code_eq w 2 2
  replace h13 : w2.cell? ⟨ad.block, ad.off + 4 + 3, none⟩ = some (.string ⟨#[62, 61]⟩) := h13
  replace h22 : w2.cell? ⟨ad.block, ad.off + 8 + 2, none⟩ = some (.int .i64 (-5)) := h22
  clear h10 h11 h12 h20 h21 h23 hb2 hr2 hc HR1 HB1 HE e2
  rw [show errV ((0 : Int)) = .nilIface from rfl]
  rw [show errV ((2 : Int)) = .iface 47 (.int .i64 2) from rfl]
  go_wp2_with fail
  go_ret
  exact ⟨rfl, by repeat (with_reducible first | exact HB2.out | apply below_drew | apply pw_below_drewN | apply below_alloc)⟩
end Go.Proofs.YtcpcoegoaciipaaDoor.Tok
