/- Cells in groups of one length. No program is named here. -/
import Derived.Test.YtjhebnjajnjhhaaDoorBase
namespace Go.Proofs.YtjhebnjajnjhhaaDoor
open Go Go.RowKit

theorem flat_length {α : Type} (f : α → List Value) (C : Nat) (l : List α) (h : ∀ x ∈ l, (f x).length = C) : (l.flatMap f).length = l.length * C := by
  induction l with
  | nil => simp
  | cons a l ih =>
    rw [List.flatMap_cons, List.length_append, ih (fun x hx => h x (List.mem_cons_of_mem _ hx)), h a List.mem_cons_self, List.length_cons, Nat.succ_mul]
    omega

theorem flat_take {α : Type} (f : α → List Value) (C : Nat) : ∀ (l : List α), (∀ x ∈ l, (f x).length = C) → ∀ (i : Nat) (hi : i < l.length), ((l.flatMap f).drop (i * C)).take C = f l[i] := by
  intro l
  induction l with
  | nil => intro _ i hi; simp at hi
  | cons a l ih =>
    intro h i hi
    have ha := h a List.mem_cons_self
    rw [List.flatMap_cons]
    rcases i with _ | i
    · simp only [Nat.zero_mul, List.drop_zero, List.getElem_cons_zero]
      rw [List.take_append_of_le_length (by omega), ← ha, List.take_length]
    · simp only [List.getElem_cons_succ]
      rw [Nat.succ_mul, Nat.add_comm (i * C) C, ← List.drop_drop, List.drop_append_of_le_length (by omega), ← ha, List.drop_length, List.nil_append, ha]
      exact ih (fun x hx => h x (List.mem_cons_of_mem _ hx)) i (by simpa using hi)

theorem flat_at {α : Type} (f : α → List Value) (C : Nat) (l : List α) (h : ∀ x ∈ l, (f x).length = C) (i : Nat) (hi : i < l.length) (j : Nat) (hj : j < C) : (l.flatMap f)[i * C + j]? = (f l[i])[j]? := by
  rw [← flat_take f C l h i hi, List.getElem?_take, if_pos hj, List.getElem?_drop]

theorem flat_of {α : Type} (f : α → List Value) (C : Nat) (p : α → Prop) : ∀ (n : Nat) (cells : List Value), cells.length = n * C → (∀ i, i < n → ∃ x, p x ∧ (cells.drop (i * C)).take C = f x) →
    ∃ xs : List α, xs.length = n ∧ cells = xs.flatMap f ∧ ∀ x ∈ xs, p x := by
  intro n
  induction n with
  | zero =>
    intro cells hl _
    have : cells = [] := by cases cells with
      | nil => rfl
      | cons a l => simp at hl
    subst this
    exact ⟨[], rfl, rfl, by simp⟩
  | succ n ih =>
    intro cells hl h
    obtain ⟨x, px, hx⟩ := h 0 (by omega)
    rw [Nat.succ_mul] at hl
    obtain ⟨xs, h1, h2, h3⟩ := ih (cells.drop C) (by rw [List.length_drop]; omega) (fun i hi => by
      obtain ⟨y, py, hy⟩ := h (i + 1) (by omega)
      rw [Nat.succ_mul, Nat.add_comm, ← List.drop_drop] at hy
      exact ⟨y, py, hy⟩)
    refine ⟨x :: xs, by simp [h1], ?_, ?_⟩
    · rw [List.flatMap_cons, ← hx, ← h2]
      simp
    · intro y hy
      rcases List.mem_cons.1 hy with rfl | hy
      · exact px
      · exact h3 y hy
end Go.Proofs.YtjhebnjajnjhhaaDoor
