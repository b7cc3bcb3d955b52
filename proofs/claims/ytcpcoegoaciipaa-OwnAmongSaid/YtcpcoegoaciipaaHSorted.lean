/- ploverref01.Sorted: the numbers, rising: by halves. -/
import Derived.Test.YtcpcoegoaciipaaPx0
import Derived.Test.YtcpcoegoaciipaaWKept
import Derived.Lib.Hide
import Derived.Outline
namespace Go.Proofs.Ytcpcoegoaciipaa.P
open Go.RowKit Go.Proofs.YtcpcoegoaciipaaW.PrintWords Go.Proofs.YtcpcoegoaciipaaW.PrintLast Go.Proofs.YtcpcoegoaciipaaW.PrintMore
set_option linter.unusedVariables false
set_option linter.unusedSimpArgs false

def leI (x y : Int) : Bool := decide (x ≤ y)
theorem leI_trans (a b c : Int) : leI a b = true → leI b c = true → leI a c = true := by simp [leI]; omega
theorem leI_total (a b : Int) : (leI a b || leI b a) = true := by simp [leI]; omega
theorem sort_unique (l m : List Int) (h : l.Perm m) (hs : l.Pairwise (fun a b => leI a b = true)) : l = m.mergeSort leI :=
  List.Perm.eq_of_pairwise (fun a b _ _ h1 h2 => by simp [leI] at h1 h2; omega) hs (List.pairwise_mergeSort leI_trans leI_total m) (h.trans (List.mergeSort_perm m leI).symm)
theorem sort_short (l : List Int) (h : l.length < 2) : l.mergeSort leI = l := by
  match l, h with
  | [], _ => simp
  | [a], _ => simp
theorem sort_halves (l : List Int) (k : Nat) : ((l.take k).mergeSort leI).merge ((l.drop k).mergeSort leI) leI = l.mergeSort leI := by
  apply sort_unique
  · refine (List.merge_perm_append (xs := (l.take k).mergeSort leI) (ys := (l.drop k).mergeSort leI) leI).trans ?_
    refine ((List.mergeSort_perm _ _).append (List.mergeSort_perm _ _)).trans ?_
    rw [List.take_append_drop]
  · exact List.pairwise_merge leI_trans leI_total _ _ (List.pairwise_mergeSort leI_trans leI_total _) (List.pairwise_mergeSort leI_trans leI_total _)
theorem merge_left (a b : Int) (l m : List Int) (h : a ≤ b) : (a :: l).merge (b :: m) leI = a :: l.merge (b :: m) leI := by
  rw [List.cons_merge_cons, if_pos (by simp [leI, h])]
theorem merge_right (a b : Int) (l m : List Int) (h : ¬ a ≤ b) : (a :: l).merge (b :: m) leI = b :: (a :: l).merge m leI := by
  rw [List.cons_merge_cons, if_neg (by simp [leI, h])]

abbrev RI (w : World) (A : Option Addr) (xs : List Int) : Prop := ReadsInt w .u64 A xs.length xs

theorem infoU : (Try.prog.info? 44).map (fun i => (i.zero, i.size, i.bytes)) = some (some (.int .u64 0), 1, 8) := by kernel_rfl

/-- A list's front cut off: where it lies, what it reads. -/
theorem cut_one (A : Option Addr) (a : Int) (l : List Int) (c : Nat) (hc : (a :: l).length ≤ c) :
    ∃ A' : Option Addr, (∀ W : World, (Instr.slice 49 (.slice A (a :: l).length c) (some (.int .i64 1)) none none).run Try.prog W = .ok (.slice A' l.length (c - 1)) W) ∧ ∀ w, RI w A (a :: l) → RI w A' l := by
  obtain ⟨i0, hi, hzz⟩ := Option.map_eq_some_iff.1 infoU
  simp only [Prod.mk.injEq] at hzz
  obtain ⟨A', h1, h2⟩ := print_cut 49 44 .i64 Try.underlying49 hi hzz.2.1 A (a :: l).length c 1 (by simp)
  refine ⟨A', fun W => ?_, fun w h => ?_⟩
  · have := h1 W; simpa using this
  · have := h2 w .u64 (a :: l) hc h; simpa using this

set_option maxHeartbeats 2000000 in
set_option maxRecDepth 100000 in
theorem sorted_calls : ∀ (N : Nat) (A : Option Addr) (c : Nat) (xs : List Int) (w : World), xs.length ≤ N → xs.length ≤ c → xs.length < 17592186044416 → RI w A xs →
    Calls Try.prog 33 #[.slice A xs.length c] w fun e w' => ∃ v, e = .returned v ∧ (xs.length < 2 → v = .slice A xs.length c) ∧
      (2 ≤ xs.length → w'.ownsRow w.heap.size 44 1 v xs.length (nums .u64 (xs.mergeSort leI))) ∧ Below w.heap.size w w' ∧
      ∃ A' c', v = .slice A' xs.length c' ∧ xs.length ≤ c' ∧ ReadsInt w' .u64 A' xs.length (xs.mergeSort leI) := by
  intro N
  induction N with
  | zero =>
    intro A c xs w hN hc hl hR
    have hx : xs = [] := List.length_eq_zero_iff.1 (by omega)
    subst hx
    have HR := Lib.hid hR
    clear hR
    simp only [List.length_nil]
    go_enter Try.func33, Try.ntmps33
    go_wp2_with fail
    go_ret
    exact ⟨_, rfl, fun _ => rfl, fun h => absurd h (by decide), Below.refl _ _, A, c, rfl, Nat.zero_le _, by rw [show ([] : List Int).mergeSort leI = [] by simp]; exact HR.out⟩
  | succ N ih =>
    intro A c xs w hN hc hl hR
    have HR := Lib.hid hR
    have IH := Lib.hid ih
    clear hR ih
    by_cases h2 : xs.length < 2
    · have hlz : (xs.length : Int) < 2 := by omega
      have HS := Lib.hid (sort_short xs h2)
      go_enter Try.func33, Try.ntmps33
      go_wp2_with fail
      go_ret
      exact ⟨_, rfl, fun _ => rfl, fun h => absurd h2 (by omega), Below.refl _ _, A, c, rfl, hc, by rw [HS.out]; exact HR.out⟩
    · have hlz : ¬ (xs.length : Int) < 2 := by omega
      obtain ⟨h, hh⟩ : ∃ h, h = xs.length / 2 := ⟨_, rfl⟩
      have hh1 : 1 ≤ h := by omega
      have hh2 : h < xs.length := by omega
      have ez : (xs.length : Int) / 2 = (h : Int) := by omega
      have e1 : (xs.take h).length = h := by rw [List.length_take]; omega
      have e2 : (xs.drop h).length = xs.length - h := List.length_drop
      obtain ⟨i0, hi, hzz⟩ := Option.map_eq_some_iff.1 infoU
      simp only [Prod.mk.injEq] at hzz
      obtain ⟨A2, hcut, hread⟩ := print_cut 49 44 .i64 Try.underlying49 hi hzz.2.1 A xs.length c h (by omega)
      have hR2 := hread w .u64 xs hc HR.out
      have hR1 := ReadsInt.take_ HR.out h (by omega)
      have C1 := Lib.hid (fun W (hb : Below w.heap.size w W) => IH.out A c (xs.take h) W (by rw [e1]; omega) (by rw [e1]; omega) (by rw [e1]; omega) (by rw [RI, e1]; exact ReadsInt.below hR1 hb))
      have C2 := Lib.hid (fun W (hb : Below w.heap.size w W) => IH.out A2 (c - h) (xs.drop h) W (by rw [e2]; omega) (by rw [e2]; omega) (by rw [e2]; omega) (by rw [RI, e2]; exact ReadsInt.below hR2 hb))
      have HM := Lib.hid (sort_halves xs h)
      rw [e1] at C1
      rw [e2] at C2
      have hfront : ∀ W : World, (Instr.slice 49 (.slice A xs.length c) none (some (.int .i64 (h : Int))) none).run Try.prog W = .ok (.slice A h c) W := by
        intro W
        have hel : Try.prog.elem 49 = 44 := by simp [Program.elem, Try.underlying49]
        have hu : Try.prog.underlying 49 = some (.slice (Try.prog.elem 49)) := by rw [hel]; exact Try.underlying49
        rw [run_slice_h W 49 A xs.length c hu .i64 (h : Int) (by omega) (by omega), hel]
        simp [sizeOf, typeInfo, hi, hzz.2.1, sliced, Result.andThen]
        intro _
        cases A <;> simp [Addr.add]
      have l1 : ((xs.take h).mergeSort leI).length = h := by rw [List.length_mergeSort]; exact e1
      have l2 : ((xs.drop h).mergeSort leI).length = xs.length - h := by rw [List.length_mergeSort]; exact e2
      have HSL := Lib.hid (show (xs.mergeSort leI).length = xs.length from List.length_mergeSort _)
      generalize (xs.take h).mergeSort leI = la at *
      generalize (xs.drop h).mergeSort leI = lb at *
      generalize xs.mergeSort leI = ms at *
      have L1 := Lib.hid l1
      have L2 := Lib.hid l2
      clear e1 e2 hR1 hR2 hread hh l1 l2 hi hzz
      go_enter Try.func33, Try.ntmps33
      go_wp2_with fail
      refine (C1.out _ (Below.refl _ _)).mono ?_
      rintro e w1 ⟨v1, rfl, _, _, hb1, A1', c1', rfl, hc1, hr1⟩
      have HB1 := Lib.hid hb1
      have HR1 := Lib.hid hr1
      clear hb1 hr1 hfront
      go_wp2_with fail
      refine (C2.out _ HB1.out).mono ?_
      rintro e w2 ⟨v2, rfl, _, _, hb2, A2', c2', rfl, hc2, hr2⟩
      have HB2 := Lib.hid (below_then HB1.out HB1.out.size hb2)
      have HR1' := Lib.hid (show ReadsInt w2 .u64 A1' h la from ReadsInt.below HR1.out hb2)
      have HR2 := Lib.hid hr2
      clear hb2 hr2 hcut C1 C2 HB1 HR1
      go_wp2_with fail
      go_loopg [3, 4, 5] (xs.length + 1) (fun kq v3 v4 v5 W => ∃ (A3 : Option Addr) (c3 : Nat) (l3 : List Int) (A4 : Option Addr) (c4 : Nat) (l4 out : List Int), v3 = .slice A3 l3.length c3 ∧ v4 = .slice A4 l4.length c4 ∧ l3.length ≤ c3 ∧ l4.length ≤ c4 ∧
        l3.length + l4.length < kq ∧ out.length + l3.length + l4.length = xs.length ∧ Hid (RI w2 A3 l3) ∧ Hid (RI w2 A4 l4) ∧ Hid (out ++ l3.merge l4 leI = ms) ∧ Hid (W.ownsRow w2.heap.size 44 1 v5 out.length (nums .u64 out)) ∧ Hid (Below w2.heap.size w2 W))
      case atStart =>
        refine ⟨A1', c1', la, A2', c2', lb, [], by rw [L1.out], by rw [L2.out], by rw [L1.out]; exact hc1, by rw [L2.out]; exact hc2, by rw [L1.out, L2.out]; omega, by rw [L1.out, L2.out]; simp; omega, ?_, ?_, ?_, own_nil _ _ _ _, Below.refl _ _⟩
        · show RI w2 A1' la; rw [RI, L1.out]; exact HR1'.out
        · show RI w2 A2' lb; rw [RI, L2.out]; exact HR2.out
        · show _ = _; rw [List.nil_append]; exact HM.out
      case round =>
        obtain ⟨A3, c3, l3, A4, c4, l4, out, rfl, rfl, q3, q4, hk, hsum, HR3, HR4, HE, HO, HB⟩ := hrel
        cases gk with
        | zero => omega
        | succ k =>
        match l3, l4, q3, q4, hk, hsum, HR3, HR4, HE with
        | a :: l3, b :: l4, q3, q4, hk, hsum, HR3, HR4, HE =>
          obtain ⟨A3', hcut3, hrd3⟩ := cut_one A3 a l3 c3 q3
          obtain ⟨A4', hcut4, hrd4⟩ := cut_one A4 b l4 c4 q4
          have HR3' := Lib.hid (hrd3 _ HR3.out)
          have HR4' := Lib.hid (hrd4 _ HR4.out)
          obtain ⟨ad3, rfl, hca⟩ := ReadsInt.at_ (ReadsInt.below HR3.out HB.out) 0 (by omega) (by simp)
          obtain ⟨ad4, rfl, hcb⟩ := ReadsInt.at_ (ReadsInt.below HR4.out HB.out) 0 (by omega) (by simp)
          replace hca : wr.cell? (ad3.add 0) = some (.int .u64 a) := hca
          replace hcb : wr.cell? (ad4.add 0) = some (.int .u64 b) := hcb
          simp only [Addr.add, if_true] at hca hcb
          simp only [List.length_cons] at q3 q4 hk hsum hcut3 hcut4 ⊢
          clear hrd3 hrd4
          by_cases hab : a ≤ b
          · have HE2 := Lib.hid (show (out ++ [a]) ++ l3.merge (b :: l4) leI = ms by rw [← HE.out, merge_left _ _ _ _ hab]; simp)
            clear HE
            go_wp2_with fail
            go_quiet (fail)
            go_wp2_with (at_builtin; refine print_append_num (w0 := w2) w2.heap.size (by rfl) (.tmp 37) (.tmp 41) 49 44 .u64 8 rfl Try.underlying49 infoU (by decide) _ out a rfl (by rfl) ?aO ?aB ?aS ?aL ?_)
            case aO => exact pw_own_below HO.out (by repeat (with_reducible first | exact Below.refl _ _ | apply below_alloc | apply pw_below_drewN | apply below_drew))
            case aB => repeat (with_reducible first | exact HB.out | apply below_alloc | apply pw_below_drewN | apply below_drew)
            case aS => exact HB.out.size
            case aL => omega
            intro v1 w6 ho6 hb6 _ _
            have HO6 := Lib.hid ho6
            have HB6 := Lib.hid hb6
            clear ho6 hb6
            go_wp2_with fail
            go_roundg k
            case measure => omega
            case rel => exact ⟨A3', c3 - 1, l3, some ad4, c4, b :: l4, out ++ [a], rfl, rfl, by omega, by simp; omega, by simp; omega, by simp; omega, HR3', HR4, HE2, by rw [show (out ++ [a]).length = out.length + 1 by simp]; exact HO6, HB6⟩
          · have HE2 := Lib.hid (show (out ++ [b]) ++ (a :: l3).merge l4 leI = ms by rw [← HE.out, merge_right _ _ _ _ hab]; simp)
            clear HE
            go_wp2_with fail
            go_quiet (fail)
            go_wp2_with (at_builtin; refine print_append_num (w0 := w2) w2.heap.size (by rfl) (.tmp 45) (.tmp 49) 49 44 .u64 8 rfl Try.underlying49 infoU (by decide) _ out b rfl (by rfl) ?aO ?aB ?aS ?aL ?_)
            case aO => exact pw_own_below HO.out (by repeat (with_reducible first | exact Below.refl _ _ | apply below_alloc | apply pw_below_drewN | apply below_drew))
            case aB => repeat (with_reducible first | exact HB.out | apply below_alloc | apply pw_below_drewN | apply below_drew)
            case aS => exact HB.out.size
            case aL => omega
            intro v1 w6 ho6 hb6 _ _
            have HO6 := Lib.hid ho6
            have HB6 := Lib.hid hb6
            clear ho6 hb6
            go_wp2_with fail
            go_roundg k
            case measure => omega
            case rel => exact ⟨some ad3, c3, a :: l3, A4', c4 - 1, l4, out ++ [b], rfl, rfl, by simp; omega, by omega, by simp; omega, by simp; omega, HR3, HR4', HE2, by rw [show (out ++ [b]).length = out.length + 1 by simp]; exact HO6, HB6⟩
        | [], l4, q3, q4, hk, hsum, HR3, HR4, HE =>
          simp only [List.length_nil, List.length_cons] at q3 q4 hk hsum ⊢
          skip
          have HF := Lib.hid (show out ++ l4 = ms by rw [← HE.out]; simp)
          have HR3' := Lib.hid HR3.out
          have HR4' := Lib.hid HR4.out
          clear HE HR3 HR4
          go_wp2_with (at_builtin; refine print_append_row (w0 := w2) w2.heap.size (by rfl) (.tmp 53) (.tmp 54) 49 44 .u64 8 rfl Try.underlying49 infoU (by decide) _ out ([] : List Int) _ _ _ rfl (by rfl) ?aO ?aR ?aB ?aS ?aL ?_)
          case aO => exact pw_own_below HO.out (by repeat (with_reducible first | exact Below.refl _ _ | apply below_alloc | apply pw_below_drewN | apply below_drew))
          case aR => exact ReadsInt.below HR3'.out (by repeat (with_reducible first | exact HB.out | apply below_alloc | apply pw_below_drewN | apply below_drew))
          case aB => repeat (with_reducible first | exact HB.out | apply below_alloc | apply pw_below_drewN | apply below_drew)
          case aS => exact HB.out.size
          case aL => first | omega | (simp; omega)
          intro v1 w6 ho6 hb6 _ _
          have HO6 := Lib.hid (show w6.ownsRow w2.heap.size 44 1 v1 (out).length (nums .u64 (out)) by simpa using ho6)
          have HB6 := Lib.hid hb6
          clear ho6 hb6
          go_wp2_with (at_builtin; refine print_append_row (w0 := w2) w2.heap.size (by rfl) (.tmp 55) (.tmp 56) 49 44 .u64 8 rfl Try.underlying49 infoU (by decide) v1 (out) l4 _ _ _ rfl (by rfl) ?aO ?aR ?aB ?aS ?aL ?_)
          case aO => exact HO6.out
          case aR => exact ReadsInt.below HR4'.out HB6.out
          case aB => exact HB6.out
          case aS => exact HB6.out.size
          case aL => first | omega | (simp; omega)
          intro v2 w7 ho7 hb7 _ _
          have HO7 := Lib.hid (show w7.ownsRow w2.heap.size 44 1 v2 xs.length (nums .u64 ms) by
            have e : (out ++ l4).length = xs.length := by rw [HF.out, HSL.out]
            rw [← e, ← HF.out]; simpa using ho7)
          have HB7 := Lib.hid (below_then HB2.out HB2.out.size hb7)
          clear ho7 hb7
          go_wp2_with fail
          go_ret
          obtain ⟨A', c', rfl, hrd⟩ := own_reads HO7.out
          exact ⟨_, rfl, fun h => absurd h h2, fun _ => own_weaken HO7.out HB2.out.size, HB7.out, A', c', rfl, own_le HO7.out, hrd⟩
        | a :: l3, [], q3, q4, hk, hsum, HR3, HR4, HE =>
          simp only [List.length_nil, List.length_cons] at q3 q4 hk hsum ⊢
          have hgz : (0 : Int) < (l3.length : Int) + 1 := by omega
          have HF := Lib.hid (show out ++ a :: l3 = ms by rw [← HE.out]; simp)
          have HR3' := Lib.hid HR3.out
          have HR4' := Lib.hid HR4.out
          clear HE HR3 HR4
          go_wp2_with (at_builtin; refine print_append_row (w0 := w2) w2.heap.size (by rfl) (.tmp 53) (.tmp 54) 49 44 .u64 8 rfl Try.underlying49 infoU (by decide) _ out (a :: l3) _ _ _ rfl (by rfl) ?aO ?aR ?aB ?aS ?aL ?_)
          case aO => exact pw_own_below HO.out (by repeat (with_reducible first | exact Below.refl _ _ | apply below_alloc | apply pw_below_drewN | apply below_drew))
          case aR => exact ReadsInt.below HR3'.out (by repeat (with_reducible first | exact HB.out | apply below_alloc | apply pw_below_drewN | apply below_drew))
          case aB => repeat (with_reducible first | exact HB.out | apply below_alloc | apply pw_below_drewN | apply below_drew)
          case aS => exact HB.out.size
          case aL => first | omega | (simp; omega)
          intro v1 w6 ho6 hb6 _ _
          have HO6 := Lib.hid (show w6.ownsRow w2.heap.size 44 1 v1 (out ++ a :: l3).length (nums .u64 (out ++ a :: l3)) by simpa using ho6)
          have HB6 := Lib.hid hb6
          clear ho6 hb6
          go_wp2_with (at_builtin; refine print_append_row (w0 := w2) w2.heap.size (by rfl) (.tmp 55) (.tmp 56) 49 44 .u64 8 rfl Try.underlying49 infoU (by decide) v1 (out ++ a :: l3) ([] : List Int) _ _ _ rfl (by rfl) ?aO ?aR ?aB ?aS ?aL ?_)
          case aO => exact HO6.out
          case aR => exact ReadsInt.below HR4'.out HB6.out
          case aB => exact HB6.out
          case aS => exact HB6.out.size
          case aL => first | omega | (simp; omega)
          intro v2 w7 ho7 hb7 _ _
          have HO7 := Lib.hid (show w7.ownsRow w2.heap.size 44 1 v2 xs.length (nums .u64 ms) by
            have e : (out ++ a :: l3).length = xs.length := by rw [HF.out, HSL.out]
            rw [← e, ← HF.out]; simpa using ho7)
          have HB7 := Lib.hid (below_then HB2.out HB2.out.size hb7)
          clear ho7 hb7
          go_wp2_with fail
          go_ret
          obtain ⟨A', c', rfl, hrd⟩ := own_reads HO7.out
          exact ⟨_, rfl, fun h => absurd h h2, fun _ => own_weaken HO7.out HB2.out.size, HB7.out, A', c', rfl, own_le HO7.out, hrd⟩

def ploverref01_Sorted.f (a0 : List Int) : Option (List Int) := if a0.length < 17592186044416 then some (a0.mergeSort leI) else none

theorem ploverref01_Sorted.calls (P0_ : Nat → Prop) (u9000_ : Value) (l0 : List Int) (r : List Int) (w0 w : World) (hB : Below w0.heap.size w0 w) (ho0 : Kd.R (Kd.int .u64) 44 w w0.heap.size P0_ u9000_ l0) (h : ploverref01_Sorted.f l0 = some r) :
    Calls Try.prog 33 #[u9000_] w fun e w' => ∃ v0_ : Value, e = .returned (v0_) ∧ Kd.R (Kd.int .u64) 44 w' w0.heap.size (fun k_ => (P0_ k_ ∨ w.heap.size ≤ k_)) v0_ r ∧ Below w0.heap.size w0 w' ∧ Kept w w' (fun k_ => P0_ k_) := by
  unfold ploverref01_Sorted.f at h
  split at h
  case isFalse => cases h
  case isTrue hl =>
  simp only [Option.some.injEq] at h
  obtain ⟨A, c, rfl, hR⟩ := own_reads (xs := l0) (Kd.own_of_R ho0)
  have hc := own_le (Kd.own_of_R ho0)
  refine (sorted_calls l0.length A c l0 w (Nat.le_refl _) hc hl hR).mono ?_
  rintro e w' ⟨v, rfl, h1, h2, hb, _⟩
  refine ⟨v, rfl, ?_, below_then hB hB.size hb, ⟨hb.size, fun i hi _ => hb.block i hi⟩⟩
  by_cases hn : l0.length < 2
  · rw [h1 hn, ← h, sort_short l0 hn]
    exact Kd.R_mono (Kd.R_below ho0 hb) (fun k hk => Or.inl hk)
  · have ho := h2 (by omega)
    have hrl : r.length = l0.length := by rw [← h, List.length_mergeSort]
    rw [← hrl, h] at ho
    have hb2 : ∀ k, v.ownBlock = some k → w.heap.size ≤ k := fun k hk => own_base ho k hk
    exact Kd.R_of_own (own_weaken ho hB.size) (fun k hk => Or.inr (hb2 k hk))
end Go.Proofs.Ytcpcoegoaciipaa.P
