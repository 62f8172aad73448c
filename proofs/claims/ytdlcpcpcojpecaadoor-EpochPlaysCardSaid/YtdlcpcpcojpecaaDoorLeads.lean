/- Plain: epochs that begin one behind the other. No program in sight. -/
import Derived.Test.YtdlcpcpcojpecaaDoorPlain
namespace Go.Proofs.YtdlcpcpcojpecaaDoor.Epo

/-- The last one is of this epoch, and began not behind a place; pairs rise. -/
def Good (l : List Pr) (last at' : Int) : Prop := up l = true ∧ ∃ q, l.getLast? = some q ∧ q.ep = last ∧ q.st ≤ at' ∧ 0 ≤ last
def Inv (l : List Pr) (last at' : Int) : Prop := (l = [] ∧ last = -1) ∨ Good l last at'

theorem Good.later {l : List Pr} {last a b : Int} (h : Good l last a) (hab : a ≤ b) : Good l last b := by
  obtain ⟨hu, q, h1, h2, h3, h4⟩ := h
  exact ⟨hu, q, h1, h2, by omega, h4⟩
theorem Inv.later {l : List Pr} {last a b : Int} (h : Inv l last a) (hab : a ≤ b) : Inv l last b := by
  rcases h with h | h
  · exact .inl h
  · exact .inr (h.later hab)

theorem up_snoc (l : List Pr) (p : Pr) (h : up l = true) (hl : ∀ q, l.getLast? = some q → q.ep < p.ep ∧ q.st < p.st) : up (l ++ [p]) = true := by
  apply up_of_next
  intro i h1
  rw [List.length_append, List.length_singleton] at h1
  by_cases e : i + 1 < l.length
  · rw [List.getElem_append_left (by omega), List.getElem_append_left e]
    exact up_next l h i e
  · have e2 : i + 1 = l.length := by omega
    rw [List.getElem_append_left (by omega), List.getElem_append_right (by omega)]
    have := hl l[i] (by rw [List.getLast?_eq_getElem?, show l.length - 1 = i by omega, List.getElem?_eq_getElem (by omega)])
    simpa using this

theorem up_front (xs : List Pr) (q : Pr) (h : up (xs ++ [q]) = true) : up xs = true ∧ ∀ y, xs.getLast? = some y → y.ep < q.ep ∧ y.st < q.st := by
  constructor
  · apply up_of_next
    intro i h1
    have := up_next _ h i (by rw [List.length_append]; omega)
    rwa [List.getElem_append_left (by omega), List.getElem_append_left h1] at this
  · intro y hy
    obtain ⟨ys, rfl⟩ := List.getLast?_eq_some_iff.1 hy
    have := up_next _ h ys.length (by simp)
    simpa using this

theorem up_put (l : List Pr) (q : Pr) (ep : Int) (h : up l = true) (hgl : l.getLast? = some q) (hq : q.ep < ep) : up (l.dropLast ++ [⟨ep, q.st⟩]) = true := by
  obtain ⟨xs, rfl⟩ := List.getLast?_eq_some_iff.1 hgl
  rw [List.dropLast_concat]
  obtain ⟨h1, h2⟩ := up_front xs q h
  refine up_snoc xs _ h1 fun y hy => ?_
  have := h2 y hy
  exact ⟨by show y.ep < ep; omega, this.2⟩

/-- All began not behind the last one's place: it is the last one's. -/
theorem lastK_top (l : List Pr) (q : Pr) (a : Int) (hgl : l.getLast? = some q) (hq : q.st ≤ a) : ∃ k, ∃ hk : k < l.length, lastK (·.st) a l l.length = (k : Int) ∧ l[k].ep = q.ep := by
  obtain ⟨xs, rfl⟩ := List.getLast?_eq_some_iff.1 hgl
  refine ⟨xs.length, by simp, ?_, by simp⟩
  have h1 := lastK_max (·.st) a (xs ++ [q]) (xs ++ [q]).length xs.length (by simp) (by simp) (by simpa using hq)
  have h2 := lastK_bd (·.st) a (xs ++ [q]) (xs ++ [q]).length
  simp only [List.length_append, List.length_singleton] at h1 h2 ⊢
  omega
end Go.Proofs.YtdlcpcpcojpecaaDoor.Epo
