/- slices.Sort at uint64: order2Ordered, medianOrdered, medianAdjacentOrdered, choosePivotOrdered. -/
import Derived.Test.YtcpcoegoaciipaaSrtF
import Derived.Sort.WalkD1
import Derived.Sort.Walk11
import Derived.Sort.LotD1
import Derived.Sort.LotD4
namespace Go.Proofs.Ytcpcoegoaciipaa.Srt
open Go.RowKit Go.Sort
set_option linter.unusedVariables false
set_option linter.unusedSimpArgs false

/-- The world with the counter's cell holding s, some draws on. -/
def Cn (w : World) (sb s : Nat) (W : World) : Prop := ∃ m, W = putRow (Value.int .i64) (Sort.ahead w m) sb 0 (one s)
theorem Cn.self {w : World} {sb s : Nat} (h : Holds (Value.int .i64) w sb 0 (one s)) : Cn w sb s w := ⟨0, (putRow_self _ _ _ _ _ h).symm⟩
theorem Cn.drew {w W : World} {sb s : Nat} (h : Cn w sb s W) (q : Nat) : Cn w sb s (W.drewN q) := by
  obtain ⟨m, rfl⟩ := h
  exact ⟨m + q, Go.Proofs.putRow_drewN _ _ _ _ _ _ _⟩
theorem Cn.row {w W : World} {sb s s0 : Nat} (h : Cn w sb s W) (h0 : Holds (Value.int .i64) w sb 0 (one s0)) : Holds (Value.int .i64) W sb 0 (one s) := by
  obtain ⟨m, rfl⟩ := h
  exact holds_one h0
theorem Cn.put {w W : World} {sb s s0 : Nat} (h : Cn w sb s W) (h0 : Holds (Value.int .i64) w sb 0 (one s0)) (t : Nat) : Cn w sb t (W.setCell ⟨sb, 0, none⟩ (.int .i64 t)) := by
  have hr := h.row h0
  obtain ⟨m, rfl⟩ := h
  rw [one_set hr t]
  refine ⟨m + 0, ?_⟩
  have := one_one w m 0 sb 0 s t
  rw [← this]; rfl
theorem Cn.aside {w W : World} {g off sb s : Nat} {d : Array Int} (h : Cn w sb s W) (hH : Holds U w g off d) (hne : sb ≠ g) : Holds U W g off d := by
  obtain ⟨m, rfl⟩ := h
  exact fun j hj => ⟨by rw [cell?_putRow_other _ _ _ _ _ _ (Or.inl (Ne.symm hne))]; exact (hH j hj).1, by rw [frozen?_putRow]; exact (hH j hj).2⟩

set_option maxHeartbeats 1000000 in
theorem order2_calls (g off cap sb n s0 : Nat) (d : Array Int) (w : World) (hn : d.size = n) (hH : Holds U w g off d) (hS : Holds (Value.int .i64) w sb 0 (one s0)) (hne : sb ≠ g) (hsz : n < 4611686018427387904)
    (a b s : Nat) (W : World) (hW : Cn w sb s W) (ha : a < n) (hb : b < n) (hs : s ≤ 100) :
    Calls Try.prog 55 #[.slice (some ⟨g, off, none⟩) n cap, .int .i64 a, .int .i64 b, .pointer (some ⟨sb, 0, none⟩)] W fun e w' =>
      e = .returned (.tuple #[.int .i64 (order2 ltInt d a b s).1, .int .i64 (order2 ltInt d a b s).2.1]) ∧ Cn w sb (order2 ltInt d a b s).2.2 w' := by
  have hh := hW.aside hH hne
  obtain ⟨G, hG, hcw, hfw⟩ := (St.self hh).family hh hn hn
  obtain ⟨cs, fs⟩ := one_cell (hW.row hS)
  have HG := Lib.hid hG
  have HW := Lib.hid hW
  have HS := Lib.hid hS
  have HSP := Lib.hid (fun q (t : Nat) => (hW.drew q).put hS t)
  clear hG hh hW hH hS hn
  have HET := Lib.hid (show ltInt (G b) (G a) = true → order2 ltInt d a b s = (b, a, s + 1) from fun hl => by unfold order2; rw [if_pos (by rw [← HG.out, ← HG.out]; exact hl)])
  have HEF := Lib.hid (show ltInt (G b) (G a) = false → order2 ltInt d a b s = (a, b, s) from fun hl => by unfold order2; rw [if_neg (by rw [← HG.out, ← HG.out, hl]; simp)])
  generalize order2 ltInt d a b s = r at *
  clear HG
  go_enter Try.func55, Try.ntmps55
  go_wp2_with fail
  go_quiet (first | (go_at_call 44; first | (refine Calls.quiet_of_same (less_calls _ _ _)) | exact (less_calls _ _ _).mono (fun e w' h => ⟨h.1, _, h.2⟩)))
  go_wp2_with fail
  · have hl : ltInt (G b) (G a) = true := by assumption
    have HE := Lib.hid (HET.out hl)
    go_ret2
    refine ⟨by rw [HE.out]; rfl, ?_⟩
    rw [HE.out]
    exact HSP.out _ (s + 1)
  · have hl : ltInt (G b) (G a) = false := by assumption
    have HE := Lib.hid (HEF.out hl)
    go_ret2
    refine ⟨by rw [HE.out]; rfl, ?_⟩
    rw [HE.out]
    exact HW.out.drew _

set_option maxHeartbeats 1000000 in
theorem median_calls (g off cap sb n s0 : Nat) (d : Array Int) (w : World) (hn : d.size = n) (hH : Holds U w g off d) (hS : Holds (Value.int .i64) w sb 0 (one s0)) (hne : sb ≠ g) (hsz : n < 4611686018427387904)
    (a b c s : Nat) (W : World) (hW : Cn w sb s W) (ha : a < n) (hb : b < n) (hc : c < n) (hs : s ≤ 90) :
    Calls Try.prog 53 #[.slice (some ⟨g, off, none⟩) n cap, .int .i64 a, .int .i64 b, .int .i64 c, .pointer (some ⟨sb, 0, none⟩)] W fun e w' =>
      e = .returned (.int .i64 (median ltInt d a b c s).1) ∧ Cn w sb (median ltInt d a b c s).2 w' := by
  have O := order2_calls g off cap sb n s0 d w hn hH hS hne hsz
  have l1 := order2_lt d s ha hb
  have k1 := order2_swaps d a b s
  have O1 := O a b s W hW ha hb (by omega)
  have HE : median ltInt d a b c s = ((order2 ltInt d (order2 ltInt d a b s).1 (order2 ltInt d (order2 ltInt d a b s).2.1 c (order2 ltInt d a b s).2.2).1 (order2 ltInt d (order2 ltInt d a b s).2.1 c (order2 ltInt d a b s).2.2).2.2).2.1, (order2 ltInt d (order2 ltInt d a b s).1 (order2 ltInt d (order2 ltInt d a b s).2.1 c (order2 ltInt d a b s).2.2).1 (order2 ltInt d (order2 ltInt d a b s).2.1 c (order2 ltInt d a b s).2.2).2.2).2.2) := rfl
  generalize median ltInt d a b c s = r at *
  generalize order2 ltInt d a b s = r1 at *
  obtain ⟨a1, b1, s1⟩ := r1
  simp only at l1 k1 O1 HE
  have l2 := order2_lt d s1 l1.2 hc
  have k2 := order2_swaps d b1 c s1
  have O2 := fun W2 h => O b1 c s1 W2 h l1.2 hc (by omega)
  generalize order2 ltInt d b1 c s1 = r2 at *
  obtain ⟨b2, c2, s2⟩ := r2
  simp only at l2 k2 O2 HE
  have O3 := fun W2 h => O a1 b2 s2 W2 h l1.1 l2.1 (by omega)
  generalize order2 ltInt d a1 b2 s2 = r3 at *
  obtain ⟨a3, b3, s3⟩ := r3
  simp only at O3 HE
  have H1 := Lib.hid O1
  have H2 := Lib.hid O2
  have H3 := Lib.hid O3
  clear O O1 O2 O3 l1 l2 k1 k2 hH hS hn hW
  have HE' := Lib.hid HE
  clear HE
  go_enter Try.func53, Try.ntmps53
  go_wp2_with fail
  refine H1.out.mono ?_
  rintro e w1 ⟨rfl, h1⟩
  have C1 := Lib.hid h1
  clear h1
  go_wp2_with fail
  refine (H2.out _ C1.out).mono ?_
  rintro e w2 ⟨rfl, h2⟩
  have C2 := Lib.hid h2
  clear h2
  go_wp2_with fail
  refine (H3.out _ C2.out).mono ?_
  rintro e w3 ⟨rfl, h3⟩
  have C3 := Lib.hid h3
  clear h3
  go_wp2_with fail
  go_ret
  exact ⟨by rw [HE'.out]; rfl, by rw [HE'.out]; exact C3.out⟩

set_option maxHeartbeats 1000000 in
theorem madj_calls (g off cap sb n s0 : Nat) (d : Array Int) (w : World) (hn : d.size = n) (hH : Holds U w g off d) (hS : Holds (Value.int .i64) w sb 0 (one s0)) (hne : sb ≠ g) (hsz : n < 4611686018427387904)
    (a s : Nat) (W : World) (hW : Cn w sb s W) (ha0 : 1 ≤ a) (ha : a + 1 < n) (hs : s ≤ 90) :
    Calls Try.prog 52 #[.slice (some ⟨g, off, none⟩) n cap, .int .i64 a, .pointer (some ⟨sb, 0, none⟩)] W fun e w' =>
      e = .returned (.int .i64 (medianAdjacent ltInt d a s).1) ∧ Cn w sb (medianAdjacent ltInt d a s).2 w' := by
  have O := median_calls g off cap sb n s0 d w hn hH hS hne hsz (a - 1) a (a + 1) s W hW (by omega) (by omega) ha hs
  have e1 : ((a - 1 : Nat) : Int) = (a : Int) - 1 := by omega
  have e2 : ((a + 1 : Nat) : Int) = (a : Int) + 1 := by omega
  rw [e1, e2] at O
  have H1 := Lib.hid O
  clear O e1 e2 hH hS hn hW
  show Calls _ _ _ _ fun e w' => e = .returned (.int .i64 (median ltInt d (a - 1) a (a + 1) s).1) ∧ Cn w sb (median ltInt d (a - 1) a (a + 1) s).2 w'
  generalize median ltInt d (a - 1) a (a + 1) s = r at *
  go_enter Try.func52, Try.ntmps52
  go_wp2_with fail
  refine H1.out.mono ?_
  rintro e w1 ⟨rfl, h1⟩
  have C1 := Lib.hid h1
  clear h1
  go_wp2_with fail
  go_ret
  exact ⟨rfl, C1.out⟩
end Go.Proofs.Ytcpcoegoaciipaa.Srt
