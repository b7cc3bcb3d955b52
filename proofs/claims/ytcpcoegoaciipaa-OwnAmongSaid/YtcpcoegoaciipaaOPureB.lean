/- The owners of cells, points and covers, as the printed functions tell them. -/
import Derived.Test.YtcpcoegoaciipaaOPure
namespace Go.Proofs.Ytcpcoegoaciipaa.Own
open Go.RowKit Go.Proofs.YtcpcoegoaciipaaW.PrintWords Go.Proofs.YtcpcoegoaciipaaW.PrintLast Go.Proofs.YtcpcoegoaciipaaW.PrintMore Go.Proofs.Ytcpcoegoaciipaa.P

set_option linter.unusedVariables false

/-! ### Points and rectangles that may be -/
instance (n : Int) : Decidable (Co n) := by unfold Co; infer_instance
theorem pfar (n : Int) : point_far.f n = some (!decide (Co n)) := by
  unfold point_far.f
  by_cases h : n < -1073741824
  · rw [if_pos h, decide_eq_false (by unfold Co; omega)]; rfl
  · rw [if_neg h]
    by_cases h2 : n > 1073741824
    · rw [decide_eq_true h2, decide_eq_false (by unfold Co; omega)]; rfl
    · rw [decide_eq_false h2, decide_eq_true (by unfold Co; omega)]; rfl
theorem rpfar (n : Int) : ploverref01_far.f n = some (!decide (Co n)) := by
  unfold ploverref01_far.f
  by_cases h : n < -1073741824
  · rw [if_pos h, decide_eq_false (by unfold Co; omega)]; rfl
  · rw [if_neg h]
    by_cases h2 : n > 1073741824
    · rw [decide_eq_true h2, decide_eq_false (by unfold Co; omega)]; rfl
    · rw [decide_eq_false h2, decide_eq_true (by unfold Co; omega)]; rfl
def Pt (x y : Int) : Prop := Co x ∧ Co y
instance (x y : Int) : Decidable (Pt x y) := by unfold Pt; infer_instance
theorem pmay (x y : Int) : point_May.f x y = some (decide (Pt x y)) := by
  unfold point_May.f Pt
  rw [pfar, pfar]
  by_cases h : Co x <;> by_cases h2 : Co y <;> simp [h, h2]
theorem rpmay (x y : Int) : ploverref01_May.f x y = some (decide (Pt x y)) := by
  unfold ploverref01_May.f Pt
  rw [rpfar, rpfar]
  by_cases h : Co x <;> by_cases h2 : Co y <;> simp [h, h2]
def Rc (a b c d : Int) : Prop := Pt a b ∧ Pt c d ∧ a ≤ c ∧ b ≤ d
instance (a b c d : Int) : Decidable (Rc a b c d) := by unfold Rc; infer_instance
theorem rmay (a b c d : Int) : rect_May.f a b c d = some (decide (Rc a b c d)) := by
  unfold rect_May.f Rc
  rw [pmay, pmay]
  by_cases h : Pt a b <;> by_cases h2 : Pt c d <;> by_cases h3 : a ≤ c <;> simp [h, h2, h3]
theorem rrmay (a b c d : Int) : ploverref01_Rect.f a b c d = some (decide (Rc a b c d)) := by
  unfold ploverref01_Rect.f Rc
  rw [rpmay, rpmay]
  by_cases h : Pt a b <;> by_cases h2 : Pt c d <;> by_cases h3 : a ≤ c <;> simp [h, h2, h3]

/-! ### Cells of points, spans -/
theorem mcell_yes {s x y : Int} (h : Sh s) (hp : Pt x y) : morton_Cell.f s x y = some ((cell s x : Int), (cell s y : Int), none) := by
  unfold morton_Cell.f
  rw [may_yes h, pmay]
  simp only [Option.bind_some, if_true, hp, decide_true]
  rw [if_pos (by unfold Sh at h; omega), cell_shr h hp.1, cell_shr h hp.2]
theorem mcell_far {s x y : Int} (h : Sh s) (hp : ¬ Pt x y) : morton_Cell.f s x y = some (0, 0, some 11) := by
  unfold morton_Cell.f
  rw [may_yes h, pmay]
  simp [hp]
theorem mcell_no {s x y : Int} (h : ¬ Sh s) : morton_Cell.f s x y = some (0, 0, some 1) := by
  unfold morton_Cell.f
  rw [may_no h]
  simp
theorem span_yes {s a b c d : Int} (h : Sh s) (hr : Rc a b c d) : cover_span.f s a b c d = some ((cell s a : Int), (cell s b : Int), (cell s c : Int), (cell s d : Int), none) := by
  unfold cover_span.f
  rw [rmay, mcell_yes h hr.1, mcell_yes h hr.2.1]
  simp [hr]
theorem span_no {s a b c d : Int} (h : ¬ (Sh s ∧ Rc a b c d)) : cover_span.f s a b c d = some (0, 0, 0, 0, some 1) := by
  unfold cover_span.f
  rw [rmay]
  by_cases hr : Rc a b c d
  · have hs : ¬ Sh s := fun hs => h ⟨hs, hr⟩
    rw [mcell_no hs]
    simp [hr]
  · simp [hr]

/-! ### Owners -/
def last (s : Int) : Nat := code (top s) (top s)
theorem last_le {s : Int} (h : Sh s) : last s ≤ 49152 := code_small (top_le h).2 (top_le h).2
/-- Brokers that may be. -/
def Br (b : Int) : Prop := 1 ≤ b ∧ b ≤ 64
def own (s b v : Int) : Int := (owner (last s) b.toNat v.toNat : Int)
theorem own_range {s b v : Int} (h : Sh s) (hb : Br b) (hv : v.toNat ≤ last s) : 0 ≤ own s b v ∧ own s b v < b := by
  unfold own Br at *
  have := owner_lt (last := last s) (brokers := b.toNat) (code := v.toNat) (by omega) hv
  omega
theorem own_mono {s b v u : Int} (h : v ≤ u) : own s b v ≤ own s b u := by
  unfold own
  have := owner_le (last := last s) (brokers := b.toNat) (show v.toNat ≤ u.toNat by omega)
  omega
theorem own_div {s b v : Int} (h : Sh s) (hb : Br b) (h0 : 0 ≤ v) (hv : v ≤ 49152) :
    wrap64 (IntKind.u64.wrap (Int.tdiv (IntKind.u64.wrap (v * (IntKind.u64.wrap (b)))) (IntKind.u64.wrap ((last s : Int) + 1)))) = own s b v := by
  have hl := last_le h
  unfold Br at hb
  obtain ⟨m, rfl⟩ := Int.eq_ofNat_of_zero_le h0
  obtain ⟨n, rfl⟩ := Int.eq_ofNat_of_zero_le (show 0 ≤ b by omega)
  have hmn : m * n ≤ 49152 * 64 := Nat.mul_le_mul (by omega) (by omega)
  have e1 : ((m : Int) * (n : Int)) = ((m * n : Nat) : Int) := by simp
  have ho : owner (last s) n m ≤ m * n := Nat.div_le_self _ _
  rw [wu (n : Int) (by omega) (by omega), e1, wu ((m * n : Nat) : Int) (by omega) (by omega), wu ((last s : Int) + 1) (by omega) (by omega), Int.tdiv_eq_ediv_of_nonneg (by omega)]
  have e2 : ((m * n : Nat) : Int) / ((last s : Int) + 1) = (owner (last s) n m : Int) := by
    unfold owner; rw [← Int.natCast_succ, ← Int.natCast_ediv]
  rw [e2, wu _ (by omega) (by omega), w64 _ (by omega)]
  simp [own]
theorem of_yes {s b v : Int} (h : Sh s) (hb : Br b) (h0 : 0 ≤ v) (hv : v ≤ 49152) : own_of.f s b v = some (own s b v, none) := by
  have ht := top_le h
  have hl := last_le h
  have hbr := hb
  unfold Br at hbr
  unfold own_of.f
  rw [side_yes h]
  simp only [Option.bind_some]
  rw [show wrap64 ((top s : Int) + 1 - 1) = (top s : Int) by rw [w64 _ (by omega)]; omega, code_f _ _ ht.2 ht.2]
  simp only [Option.bind_some, Option.isNone_none, if_true]
  show (if b < 1 then _ else if b > 64 then _ else if IntKind.u64.wrap ((last s : Int) + 1) = 0 then _ else some (wrap64 (IntKind.u64.wrap (Int.tdiv (IntKind.u64.wrap (v * (IntKind.u64.wrap (b)))) (IntKind.u64.wrap ((last s : Int) + 1)))), none)) = _
  rw [if_neg (by omega), if_neg (by omega), if_neg (by rw [wu _ (by omega) (by omega)]; omega), own_div h hb h0 hv]
theorem of_no {s b v : Int} (h : ¬ (Sh s ∧ Br b)) : own_of.f s b v = some (0, some 1) := by
  unfold own_of.f
  by_cases hs : Sh s
  · have hb : ¬ Br b := fun hb => h ⟨hs, hb⟩
    have ht := top_le hs
    unfold Br at hb
    rw [side_yes hs]
    simp only [Option.bind_some]
    rw [show wrap64 ((top s : Int) + 1 - 1) = (top s : Int) by rw [w64 _ (by omega)]; omega, code_f _ _ ht.2 ht.2]
    simp only [Option.bind_some, Option.isNone_none, if_true]
    by_cases h1 : b < 1
    · rw [if_pos h1]
    · rw [if_neg h1, if_pos (by omega)]
  · rw [side_no hs]
    have e : wrap64 (0 - 1) = -1 := by rw [w64 _ (by decide)]; rfl
    have c : morton_Code.f (-1) (-1) = some (0, some 1) := by unfold morton_Code.f; rw [if_pos (by decide)]
    simp only [Option.bind_some, e, c]
    rfl
theorem Of_no {s b x y : Int} (h : ¬ (Sh s ∧ Br b)) : own_Of.f s b x y = some (0, some 1) := by
  unfold own_Of.f
  rw [of_no h]; rfl
theorem Of_far {s b x y : Int} (h : Sh s) (hb : Br b) (hp : ¬ Pt x y) : own_Of.f s b x y = some (0, some 11) := by
  unfold own_Of.f
  rw [of_yes h hb (by decide) (by decide), mcell_far h hp]; rfl
/-- A point's code. -/
def at_ (s x y : Int) : Int := (code (cell s x) (cell s y) : Int)
theorem at_range {s x y : Int} (h : Sh s) (hp : Pt x y) : 0 ≤ at_ s x y ∧ at_ s x y ≤ 49152 ∧ (at_ s x y).toNat ≤ last s := by
  have h1 := cell_le h hp.1
  have h2 := cell_le h hp.2
  have ht := top_le h
  have := code_small (c := cell s x) (r := cell s y) (by omega) (by omega)
  have h3 : code (cell s x) (cell s y) ≤ last s := code_le h1 h2
  unfold at_
  omega
theorem Of_yes {s b x y : Int} (h : Sh s) (hb : Br b) (hp : Pt x y) : own_Of.f s b x y = some (own s b (at_ s x y), none) := by
  have h1 := cell_le h hp.1
  have h2 := cell_le h hp.2
  have ht := top_le h
  have ha := at_range h hp
  unfold own_Of.f
  rw [of_yes h hb (by decide) (by decide), mcell_yes h hp]
  simp only [Option.bind_some, Option.isNone_none, if_true]
  rw [code_f _ _ (by omega) (by omega)]
  simp only [Option.bind_some, Option.isNone_none, if_true]
  show (own_of.f s b (at_ s x y)).bind _ = _
  rw [of_yes h hb ha.1 ha.2.1]
  rfl
theorem rowner {k : Nat} {s b v : Int} (h : Sh s) (hb : Br b) (h0 : 0 ≤ v) (hv : v ≤ 49152) (hk : 40 ≤ k) : ploverref15_Owner.f k s b v = some (own s b v) := by
  have ht := top_le h
  have hl := last_le h
  unfold ploverref15_Owner.f
  rw [rside h hk]
  simp only [Option.bind_some]
  rw [show wrap64 ((top s : Int) + 1 - 1) = (top s : Int) by rw [w64 _ (by omega)]; omega, rcode_at k _ _ (by omega) ht.2 ht.2]
  simp only [Option.bind_some]
  show (if IntKind.u64.wrap ((last s : Int) + 1) = 0 then _ else some (wrap64 (IntKind.u64.wrap (Int.tdiv (IntKind.u64.wrap (v * (IntKind.u64.wrap (b)))) (IntKind.u64.wrap ((last s : Int) + 1)))))) = _
  rw [if_neg (by rw [wu _ (by omega) (by omega)]; omega), own_div h hb h0 hv]
theorem rOf {k : Nat} {s b x y : Int} (h : Sh s) (hb : Br b) (hp : Pt x y) (hk : 40 ≤ k) : ploverref15_Of.f k s b x y = some (own s b (at_ s x y)) := by
  have h1 := cell_le h hp.1
  have h2 := cell_le h hp.2
  have ht := top_le h
  have ha := at_range h hp
  unfold ploverref15_Of.f
  rw [rcell h hp.1 hk, rcell h hp.2 hk]
  simp only [Option.bind_some]
  rw [rcode_at k _ _ (by omega) (by omega) (by omega)]
  simp only [Option.bind_some]
  show (ploverref15_Owner.f k s b (at_ s x y)).bind _ = _
  rw [rowner h hb ha.1 ha.2.1 hk]
  rfl

/-! ### A cover's cells -/
def rowL (c : Nat) : Nat → Nat → List Int
  | _, 0 => []
  | y, d + 1 => (code c y : Int) :: rowL c (y + 1) d
def colL (y m : Nat) : Nat → Nat → List Int
  | _, 0 => []
  | c, d + 1 => rowL c y m ++ colL y m (c + 1) d
theorem rowL_len (c : Nat) : ∀ d y, (rowL c y d).length = d
  | 0, y => rfl
  | d + 1, y => by simp [rowL, rowL_len c d]
theorem colL_len (y m : Nat) : ∀ d c, (colL y m c d).length = d * m
  | 0, c => by simp [colL]
  | d + 1, c => by simp [colL, colL_len y m d, rowL_len, Nat.succ_mul]; omega
theorem rowL_mem (c : Nat) (v : Int) : ∀ d y, v ∈ rowL c y d ↔ ∃ j, y ≤ j ∧ j < y + d ∧ v = (code c j : Int)
  | 0, y => by simp [rowL]; omega
  | d + 1, y => by
    simp only [rowL, List.mem_cons, rowL_mem c v d (y + 1)]
    constructor
    · rintro (h | ⟨j, h1, h2, h3⟩)
      · exact ⟨y, Nat.le_refl _, by omega, h⟩
      · exact ⟨j, by omega, by omega, h3⟩
    · rintro ⟨j, h1, h2, h3⟩
      rcases Nat.eq_or_lt_of_le h1 with h | h
      · subst h; exact Or.inl h3
      · exact Or.inr ⟨j, by omega, by omega, h3⟩
theorem colL_mem (y m : Nat) (v : Int) : ∀ d c, v ∈ colL y m c d ↔ ∃ i j, c ≤ i ∧ i < c + d ∧ y ≤ j ∧ j < y + m ∧ v = (code i j : Int)
  | 0, c => by simp [colL]; omega
  | d + 1, c => by
    simp only [colL, List.mem_append, rowL_mem, colL_mem y m v d (c + 1)]
    constructor
    · rintro (⟨j, h1, h2, h3⟩ | ⟨i, j, h1, h2, h3⟩)
      · exact ⟨c, j, Nat.le_refl _, by omega, h1, h2, h3⟩
      · exact ⟨i, j, by omega, by omega, h3⟩
    · rintro ⟨i, j, h1, h2, h3⟩
      rcases Nat.eq_or_lt_of_le h1 with h | h
      · subst h; exact Or.inl ⟨j, h3⟩
      · exact Or.inr ⟨i, j, by omega, by omega, h3⟩

theorem cc_l1 (x1 y1 x2 y2 : Nat) (hx : x2 ≤ 128) (hy : y2 ≤ 128) (r : List Int × Option Int) (K : Nat) : ∀ (d y col : Nat) (acc : List Int) (k : Nat), y2 + 1 - y = d → y ≤ y2 + 1 → col ≤ x2 → K + d < k → acc.length + d < 17592186044416 →
    (∀ k', K ≤ k' → cover_Cells.l0 k' (acc ++ rowL col y d) ((col + 1 : Nat) : Int) (x1 : Int) (y1 : Int) (x2 : Int) (y2 : Int) = some r) → cover_Cells.l1 k acc (col : Int) (y : Int) (x1 : Int) (y1 : Int) (x2 : Int) (y2 : Int) = some r
  | d, y, col, acc, 0, _, _, _, h, _, _ => by omega
  | 0, y, col, acc, k + 1, hd, hyy, hc, hk, ha, hl => by
    unfold cover_Cells.l1
    rw [if_neg (by omega), w64 _ (by omega)]
    have := hl k (by omega)
    rw [rowL, List.append_nil] at this
    exact this
  | d + 1, y, col, acc, k + 1, hd, hyy, hc, hk, ha, hl => by
    unfold cover_Cells.l1
    rw [if_pos (by omega), code_f col y (by omega) (by omega)]
    simp only [Option.bind_some, Option.isNone_none, if_true]
    rw [if_pos (by omega), w64 _ (by omega)]
    refine cc_l1 x1 y1 x2 y2 hx hy r K d (y + 1) col (acc ++ [(code col y : Int)]) k (by omega) (by omega) hc (by omega) (by simp; omega) (fun k' hk' => ?_)
    have := hl k' hk'
    rw [rowL] at this
    rw [List.append_assoc]; exact this
theorem cc_l0 (x1 y1 x2 y2 : Nat) (hx : x2 ≤ 128) (hy : y2 ≤ 128) (hy1 : y1 ≤ y2) : ∀ (d col : Nat) (acc : List Int) (k : Nat), x2 + 1 - col = d → col ≤ x2 + 1 → d * (y2 + 3 - y1) + 1 < k → acc.length + d * (y2 + 1 - y1) < 1000000 →
    cover_Cells.l0 k acc (col : Int) (x1 : Int) (y1 : Int) (x2 : Int) (y2 : Int) = some ((acc ++ colL y1 (y2 + 1 - y1) col d).mergeSort leI, none)
  | d, col, acc, 0, _, _, h, _ => by omega
  | 0, col, acc, k + 1, hd, hc, hk, ha => by
    unfold cover_Cells.l0
    rw [if_neg (by omega), colL, List.append_nil]
    unfold slices_Sort_uint64_uint64.f
    rw [if_pos (by omega)]
    rfl
  | d + 1, col, acc, k + 1, hd, hc, hk, ha => by
    unfold cover_Cells.l0
    rw [if_pos (by omega)]
    rw [Nat.succ_mul] at hk ha
    refine cc_l1 x1 y1 x2 y2 hx hy _ (d * (y2 + 3 - y1) + 2) (y2 + 1 - y1) y1 col acc k rfl (by omega) (by omega) (by omega) (by omega) (fun k' hk' => ?_)
    rw [cc_l0 x1 y1 x2 y2 hx hy hy1 d (col + 1) _ k' (by omega) (by omega) (by omega) (by rw [List.length_append, rowL_len]; omega), colL, List.append_assoc]

/-- A cover's cells, rising. -/
def cells (s a b c d : Int) : List Int := (colL (cell s b) (cell s d + 1 - cell s b) (cell s a) (cell s c + 1 - cell s a)).mergeSort leI
theorem Cells_yes {k : Nat} {s a b c d : Int} (h : Sh s) (hr : Rc a b c d) (hk : 20000 ≤ k) : cover_Cells.f k s a b c d = some (cells s a b c d, none) := by
  have ht := top_le h
  have h1 := cell_le h hr.1.1
  have h2 := cell_le h hr.1.2
  have h3 := cell_le h hr.2.1.1
  have h4 := cell_le h hr.2.1.2
  have h5 := cell_mono (s := s) hr.2.2.2
  unfold cover_Cells.f
  rw [span_yes h hr]
  simp only [Option.bind_some, Option.isNone_none, if_true]
  have hm : (cell s c + 1 - cell s a) * (cell s d + 3 - cell s b) ≤ 129 * 131 := Nat.mul_le_mul (by omega) (by omega)
  have hm2 : (cell s c + 1 - cell s a) * (cell s d + 1 - cell s b) ≤ 129 * 131 := Nat.mul_le_mul (by omega) (by omega)
  rw [cc_l0 _ _ _ _ (by omega) (by omega) h5 (cell s c + 1 - cell s a) (cell s a) [] k rfl (by have := cell_mono (s := s) hr.2.2.1; omega) (by omega) (by simp; omega)]
  rfl
theorem Cells_no {k : Nat} {s a b c d : Int} (h : ¬ (Sh s ∧ Rc a b c d)) : cover_Cells.f k s a b c d = some ([], some 1) := by
  unfold cover_Cells.f
  rw [span_no h]
  rfl

theorem rc_l1 {s a b c d : Int} (h : Sh s) (hr : Rc a b c d) (r : List Int) (K : Nat) (hK : 40 ≤ K) : ∀ (n y col : Nat) (acc : List Int) (k : Nat), cell s d + 1 - y = n → y ≤ cell s d + 1 → col ≤ cell s c → K + n < k → acc.length + n < 17592186044416 →
    (∀ k', K ≤ k' → ploverref01_Cells.l0 k' s (acc ++ rowL col y n) ((col + 1 : Nat) : Int) a b c d = some r) → ploverref01_Cells.l1 k s acc (col : Int) (y : Int) a b c d = some r
  | n, y, col, acc, 0, _, _, _, h, _, _ => by omega
  | 0, y, col, acc, k + 1, hd, hyy, hc, hk, ha, hl => by
    have ht := top_le h
    have h3 := cell_le h hr.2.1.1
    unfold ploverref01_Cells.l1
    rw [rcell h hr.2.1.2 (by omega)]
    simp only [Option.bind_some]
    rw [if_neg (by omega), w64 _ (by omega)]
    have := hl k (by omega)
    rw [rowL, List.append_nil] at this
    exact this
  | n + 1, y, col, acc, k + 1, hd, hyy, hc, hk, ha, hl => by
    have ht := top_le h
    have h3 := cell_le h hr.2.1.1
    have h4 := cell_le h hr.2.1.2
    unfold ploverref01_Cells.l1
    rw [rcell h hr.2.1.2 (by omega)]
    simp only [Option.bind_some]
    rw [if_pos (by omega), rcode_at k col y (by omega) (by omega) (by omega)]
    simp only [Option.bind_some]
    rw [if_pos (by omega), w64 _ (by omega)]
    refine rc_l1 h hr r K hK n (y + 1) col (acc ++ [(code col y : Int)]) k (by omega) (by omega) hc (by omega) (by simp; omega) (fun k' hk' => ?_)
    have := hl k' hk'
    rw [rowL] at this
    rw [List.append_assoc]; exact this
theorem rc_l0 {s a b c d : Int} (h : Sh s) (hr : Rc a b c d) : ∀ (n col : Nat) (acc : List Int) (k : Nat), cell s c + 1 - col = n → col ≤ cell s c + 1 → n * (cell s d + 3 - cell s b) + 41 < k → acc.length + n * (cell s d + 1 - cell s b) < 1000000 →
    ploverref01_Cells.l0 k s acc (col : Int) a b c d = some ((acc ++ colL (cell s b) (cell s d + 1 - cell s b) col n).mergeSort leI)
  | n, col, acc, 0, _, _, h, _ => by omega
  | 0, col, acc, k + 1, hd, hc, hk, ha => by
    unfold ploverref01_Cells.l0
    rw [rcell h hr.2.1.1 (by omega)]
    simp only [Option.bind_some]
    rw [if_neg (by omega), colL, List.append_nil]
    unfold ploverref01_Sorted.f
    rw [if_pos (by omega)]
    rfl
  | n + 1, col, acc, k + 1, hd, hc, hk, ha => by
    have h5 := cell_mono (s := s) hr.2.2.2
    unfold ploverref01_Cells.l0
    rw [rcell h hr.2.1.1 (by omega), rcell h hr.1.2 (by omega)]
    simp only [Option.bind_some]
    rw [if_pos (by omega)]
    rw [Nat.succ_mul] at hk ha
    refine rc_l1 h hr _ (n * (cell s d + 3 - cell s b) + 42) (by omega) (cell s d + 1 - cell s b) (cell s b) col acc k rfl (by omega) (by omega) (by omega) (by omega) (fun k' hk' => ?_)
    rw [rc_l0 h hr n (col + 1) _ k' (by omega) (by omega) (by omega) (by rw [List.length_append, rowL_len]; omega), colL, List.append_assoc]
theorem rCells {k : Nat} {s a b c d : Int} (h : Sh s) (hr : Rc a b c d) (hk : 20000 ≤ k) : ploverref01_Cells.f k s a b c d = some (cells s a b c d) := by
  have ht := top_le h
  have h1 := cell_le h hr.1.1
  have h2 := cell_le h hr.1.2
  have h3 := cell_le h hr.2.1.1
  have h4 := cell_le h hr.2.1.2
  have h5 := cell_mono (s := s) hr.2.2.1
  unfold ploverref01_Cells.f
  rw [rcell h hr.1.1 (by omega)]
  simp only [Option.bind_some]
  have hm : (cell s c + 1 - cell s a) * (cell s d + 3 - cell s b) ≤ 129 * 131 := Nat.mul_le_mul (by omega) (by omega)
  have hm2 : (cell s c + 1 - cell s a) * (cell s d + 1 - cell s b) ≤ 129 * 131 := Nat.mul_le_mul (by omega) (by omega)
  rw [rc_l0 h hr (cell s c + 1 - cell s a) (cell s a) [] k rfl (by omega) (by omega) (by simp; omega)]
  rfl
end Go.Proofs.Ytcpcoegoaciipaa.Own
