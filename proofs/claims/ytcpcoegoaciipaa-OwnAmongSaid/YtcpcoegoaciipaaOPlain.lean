/- Cells and owners, in plain numbers and lists: codes rise with columns and rows, owners with codes; what is left of sorted owners is each once. -/
import Derived.Test.YtcpcoegoaciipaaProg
namespace Go.Proofs.Ytcpcoegoaciipaa.Own

/-- A 0 behind each bit. -/
def sp (n : Nat) : Nat := if n = 0 then 0 else 4 * sp (n / 2) + n % 2
termination_by n
decreasing_by omega

theorem sp_zero : sp 0 = 0 := by rw [sp, if_pos rfl]
theorem sp_eq (n : Nat) : sp n = 4 * sp (n / 2) + n % 2 := by
  by_cases h : n = 0
  · subst h; simp [sp_zero]
  · rw [sp, if_neg h]

theorem sp_lt : ∀ (m n : Nat), n < m → sp n < sp m := by
  intro m
  induction m using Nat.strongRecOn with
  | ind m ih =>
    intro n h
    rw [sp_eq n, sp_eq m]
    by_cases e : n / 2 = m / 2
    · rw [e]; omega
    · have := ih (m / 2) (by omega) (n / 2) (by omega)
      omega

theorem sp_le {n m : Nat} (h : n ≤ m) : sp n ≤ sp m := by
  rcases Nat.lt_or_eq_of_le h with h | h
  · exact Nat.le_of_lt (sp_lt m n h)
  · rw [h]; exact Nat.le_refl _

theorem sp_bound : ∀ (k n : Nat), n < 2 ^ k → 3 * sp n + 1 ≤ 4 ^ k
  | 0, n, h => by
    have : n = 0 := by simpa using h
    subst this; simp [sp_zero]
  | k + 1, n, h => by
    have := sp_bound k (n / 2) (by rw [Nat.pow_succ] at h; omega)
    rw [sp_eq n, Nat.pow_succ]
    omega

/-- A cell's number. -/
def code (c r : Nat) : Nat := sp c + 2 * sp r

theorem code_eq (c r : Nat) : code c r = 4 * code (c / 2) (r / 2) + c % 2 + 2 * (r % 2) := by
  unfold code
  rw [sp_eq c, sp_eq r]; omega

theorem code_zero : code 0 0 = 0 := by simp [code, sp_zero]

theorem code_le {c r c2 r2 : Nat} (h : c ≤ c2) (h2 : r ≤ r2) : code c r ≤ code c2 r2 := by
  unfold code
  have := sp_le h
  have := sp_le h2
  omega

theorem code_small {c r : Nat} (h : c ≤ 128) (h2 : r ≤ 128) : code c r ≤ 49152 := by
  have e : code 128 128 = 49152 := by
    unfold code
    iterate 8 (rw [sp_eq]; try simp only [Nat.reduceDiv, Nat.reduceMod])
    simp [sp_zero]
  rw [← e]
  exact code_le h h2

/-- Whose a code is. -/
def owner (last brokers code : Nat) : Nat := code * brokers / (last + 1)

theorem owner_lt {last brokers code : Nat} (hb : 1 ≤ brokers) (h : code ≤ last) : owner last brokers code < brokers := by
  unfold owner
  rw [Nat.div_lt_iff_lt_mul (by omega)]
  have : code * brokers ≤ last * brokers := Nat.mul_le_mul_right _ h
  rw [Nat.mul_comm brokers (last + 1), Nat.succ_mul]
  omega

theorem owner_le {last brokers c d : Nat} (h : c ≤ d) : owner last brokers c ≤ owner last brokers d :=
  Nat.div_le_div_right (Nat.mul_le_mul_right _ h)

/-- Each once: of neighbours that are the same one is left. -/
def once : List Int → List Int
  | [] => []
  | [a] => [a]
  | a :: b :: l => if a = b then once (b :: l) else a :: once (b :: l)

theorem once_head (a : Int) (l : List Int) : ∃ t, once (a :: l) = a :: t := by
  induction l generalizing a with
  | nil => exact ⟨[], rfl⟩
  | cons b l ih =>
    unfold once
    split
    · next h => subst h; exact ih a
    · exact ⟨_, rfl⟩

theorem once_mem (l : List Int) (x : Int) : x ∈ once l ↔ x ∈ l := by
  induction l with
  | nil => simp [once]
  | cons a l ih =>
    cases l with
    | nil => simp [once]
    | cons b l =>
      unfold once
      split
      · next h => subst h; rw [ih]; simp
      · rw [List.mem_cons, ih]; simp

theorem once_rises (l : List Int) (h : l.Pairwise (· ≤ ·)) : (once l).Pairwise (· < ·) := by
  induction l with
  | nil => simp [once]
  | cons a l ih =>
    cases l with
    | nil => simp [once]
    | cons b l =>
      have hr := ih (List.pairwise_cons.1 h).2
      have ha := (List.pairwise_cons.1 h).1
      unfold once
      split
      · exact hr
      · next hab =>
        refine List.pairwise_cons.2 ⟨fun x hx => ?_, hr⟩
        obtain ⟨t, ht⟩ := once_head b l
        have hab' : a < b := by have := ha b (by simp); omega
        rw [ht] at hx hr
        rcases List.mem_cons.1 hx with rfl | hx
        · exact hab'
        · have := (List.pairwise_cons.1 hr).1 x hx; omega

/-- Two rising lists with the same members are the same. -/
theorem rising_eq (l m : List Int) (hl : l.Pairwise (· < ·)) (hm : m.Pairwise (· < ·)) (h : ∀ x, x ∈ l ↔ x ∈ m) : l = m := by
  induction l generalizing m with
  | nil =>
    cases m with
    | nil => rfl
    | cons b m => exact absurd ((h b).2 (by simp)) (by simp)
  | cons a l ih =>
    cases m with
    | nil => exact absurd ((h a).1 (by simp)) (by simp)
    | cons b m =>
      have la := (List.pairwise_cons.1 hl).1
      have mb := (List.pairwise_cons.1 hm).1
      have e : a = b := by
        rcases List.mem_cons.1 ((h a).1 (by simp)) with e | e
        · exact e
        · rcases List.mem_cons.1 ((h b).2 (by simp)) with e2 | e2
          · exact e2.symm
          · have := la b e2; have := mb a e; omega
      subst e
      rw [ih m (List.pairwise_cons.1 hl).2 (List.pairwise_cons.1 hm).2]
      intro x
      constructor
      · intro hx
        rcases List.mem_cons.1 ((h x).1 (List.mem_cons_of_mem _ hx)) with e | e
        · have := la x hx; omega
        · exact e
      · intro hx
        rcases List.mem_cons.1 ((h x).2 (List.mem_cons_of_mem _ hx)) with e | e
        · have := mb x hx; omega
        · exact e

/-- Sorted numbers with the same ones are the same. -/
theorem sorted_eq (l m : List Int) (h : l.Perm m) (hl : l.Pairwise (· ≤ ·)) (hm : m.Pairwise (· ≤ ·)) : l = m :=
  List.Perm.eq_of_pairwise (fun _ _ _ _ h1 h2 => Int.le_antisymm h1 h2) hl hm h
end Go.Proofs.Ytcpcoegoaciipaa.Own
