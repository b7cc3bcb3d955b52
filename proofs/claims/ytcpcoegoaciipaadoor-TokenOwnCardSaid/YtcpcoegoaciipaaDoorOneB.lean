/- token.one: a name, or a word. -/
import Derived.Test.YtcpcoegoaciipaaDoorOneA
import Derived.Deep.RegionWith
namespace Go.Proofs.YtcpcoegoaciipaaDoor.Tok
open Go.RowKit Go.Proofs.YtcpcoegoaciipaaDoorW.PrintWords Go.Proofs.YtcpcoegoaciipaaDoorW.PrintLast Go.Proofs.YtcpcoegoaciipaaDoorW.PrintMore
open Go.Proofs.YtcpcoegoaciipaaDoor.PTokenCuts
set_option linter.unusedVariables false
set_option linter.unusedSimpArgs false

/-- A token as its cells, and how many bytes. -/
def tokV (t : S36) (n : Int) : Value := .tuple #[.agg #[.int .i64 t.f0, .int .i64 t.f1, .int .i64 t.f2, .string t.f3], .int .i64 n]

def nameN (s : ByteArray) : Nat := upLen wordB s.data.toList
def nameT (s : ByteArray) : S36 := ⟨if Lib.containsS wordL (s.extract 0 (nameN s)) then 2 else 1, 0, 0, s.extract 0 (nameN s)⟩
def nameLen (s : ByteArray) : Int := if 20 < nameN s then 0 else nameN s

theorem nameN_le (s : ByteArray) : nameN s ≤ s.size := by
  have := upLen_le wordB s.data.toList
  rw [Array.length_toList, ByteArray.size_data] at this
  exact this

theorem heap_last (W : World) (o : Obj) (b : Nat) (h : b = W.heap.size) : (W.alloc o).heap[b]? = some o := by
  subst h; show (W.heap.push o)[W.heap.size]? = some o; simp
theorem heap_last_drew (W : World) (o : Obj) (b : Nat) (h : b = W.heap.size) : (W.alloc o).drew.heap[b]? = some o := heap_last W o b h

set_option maxHeartbeats 1000000 in
set_option maxRecDepth 100000 in
theorem one_name (s : ByteArray) (hs : s.size ≤ 140737488351232) (h0 : 0 < s.size) (hc : lowB (bt s 0) = true) (w : World) :
    Calls Tryd.prog 17 #[.string s] w fun e w' => e = .returned (tokV (nameT s) (nameLen s)) ∧ Below w.heap.size w w' := by
  have hn := nameN_le s
  have HL := Lib.hid (lower_pred (bt s 0))
  rw [hc] at HL
  have hr := bt_range s 0
  have hb0 : ∀ h : 0 < s.size, (s[0].toNat : Int) = bt s 0 := fun h => bt_at s 0 h
  have HN := Lib.hid (show upLen wordB s.data.toList = nameN s from rfl)
  have HT := Lib.hid (show tokV (nameT s) (nameLen s) = tokV ⟨if Lib.containsS wordL (s.extract 0 (nameN s)) then 2 else 1, 0, 0, s.extract 0 (nameN s)⟩ (if 20 < nameN s then 0 else (nameN s : Int)) from rfl)
  generalize hv : tokV (nameT s) (nameLen s) = v at *
  generalize hnn : nameN s = n at *
  clear hv hnn hc
  go_enter Tryd.func17, Tryd.ntmps17
  go_wp2_with fail
  refine (HL.out _ hr.1 hr.2).mono ?_
  rintro e w1 ⟨rfl, ⟨m, rfl⟩⟩
  go_wp2_with fail
  refine (upto_calls _ wordB word_pred word_enters s (by omega) _).mono ?_
  rintro e w2 ⟨rfl, ⟨m2, rfl⟩⟩
  rw [HN.out]
  go_wp2_with fail
  go_region_with (first
    | (go_at_call 30; refine (words_calls _).mono ?_; rintro e w' ⟨rfl, rfl⟩)
    | (go_at_call 29; refine (among_calls _ _ _ (heap_last_drew _ _ _ (by simp))).mono ?_; rintro e w' ⟨rfl, rfl⟩))
  all_goals
    cases hq : Lib.containsS wordL (s.extract 0 n)
  all_goals
    go_wp2_with fail
  all_goals
    refine bodyPost_ret (v := v) ?_ rfl ⟨rfl, ?_⟩
    · rw [HT.out, hq]
      first
        | (rw [if_pos (show 20 < n by omega)]; simp [results, Tryd.results17, go_sem, tokV]; done)
        | (rw [if_neg (show ¬ 20 < n by omega)]; simp [results, Tryd.results17, go_sem, tokV]; done)
    · repeat (with_reducible first | exact Below.refl _ _ | apply below_drew | apply pw_below_drewN | apply below_alloc | (refine Below.setCell ?_ (by simp) _))
end Go.Proofs.YtcpcoegoaciipaaDoor.Tok
