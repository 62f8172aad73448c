/- Plain: which epoch has an offset, of a lineage and of one that was cut. No program in sight. -/
import Derived.Test.YtdlcpcpcojpecaaDoorPlain
namespace Go.Proofs.YtdlcpcpcojpecaaDoor.Epo

/-- The epoch that has an offset. -/
def atO (l : List Pr) (o : Int) : Option Int := ((l.filter fun p => decide (p.st ≤ o)).map Pr.ep).getLast?
def atX (l : List Pr) (o : Int) : Int := (atO l o).getD 0
def atB (l : List Pr) (o : Int) : Bool := (atO l o).isSome

theorem lastK_filter (o : Int) (l : List Pr) : ∀ i, i ≤ l.length →
    (lastK (·.st) o l i = -1 ∧ (l.take i).filter (fun p => decide (p.st ≤ o)) = []) ∨
    ∃ k, ∃ hk : k < l.length, lastK (·.st) o l i = (k : Int) ∧ ((l.take i).filter (fun p => decide (p.st ≤ o))).getLast? = some l[k] := by
  intro i
  induction i with
  | zero => intro _; exact .inl ⟨rfl, by simp⟩
  | succ i ih =>
    intro hi
    have hlt : i < l.length := by omega
    rw [List.take_succ_eq_append_getElem hlt, List.filter_append]
    by_cases h : l[i].st ≤ o
    · refine .inr ⟨i, hlt, ?_, ?_⟩
      · unfold lastK; rw [List.getElem?_eq_getElem hlt]; simp [h]
      · rw [List.filter_cons_of_pos (by simpa using h)]
        simp
    · have e1 : lastK (·.st) o l (i + 1) = lastK (·.st) o l i := by
        conv => lhs; unfold lastK
        rw [List.getElem?_eq_getElem hlt]; simp [h]
      have e2 : ([l[i]] : List Pr).filter (fun p => decide (p.st ≤ o)) = [] := by simp [h]
      rw [e1, e2, List.append_nil]
      exact ih (by omega)

theorem atO_at (l : List Pr) (o : Int) :
    (lastK (·.st) o l l.length = -1 ∧ atO l o = none) ∨ ∃ k, ∃ hk : k < l.length, lastK (·.st) o l l.length = (k : Int) ∧ atO l o = some l[k].ep := by
  have h := lastK_filter o l l.length (Nat.le_refl _)
  rw [List.take_of_length_le (Nat.le_refl _)] at h
  rcases h with ⟨h1, h2⟩ | ⟨k, hk, h1, h2⟩
  · exact .inl ⟨h1, by unfold atO; rw [h2]; rfl⟩
  · exact .inr ⟨k, hk, h1, by unfold atO; rw [List.getLast?_map, h2]; rfl⟩

def cutE (a : Int) (l : List Pr) : List Pr := l.filter fun p => decide (p.st < a)

theorem atO_cutE {a o : Int} (h : o < a) (l : List Pr) : atO (cutE a l) o = atO l o := by
  unfold atO cutE
  rw [List.filter_filter]
  congr 2
  apply List.filter_congr
  intro p _
  rw [Bool.eq_iff_iff]; simp; omega

/-- Without the pairs that end at a place, or ahead. -/
def dropS (a : Int) : List Pr → List Pr
  | p :: q :: l => if q.st ≤ a then dropS a (q :: l) else p :: q :: l
  | l => l
def cutS (a : Int) (l : List Pr) : List Pr := match dropS a l with
  | [] => []
  | p :: r => ⟨p.ep, max p.st (min a 1099511627776)⟩ :: r

theorem dropS_go {a : Int} {p q : Pr} {l : List Pr} (h : q.st ≤ a) : dropS a (p :: q :: l) = dropS a (q :: l) := by
  conv => lhs; unfold dropS
  rw [if_pos h]
theorem dropS_stop {a : Int} {p q : Pr} {l : List Pr} (h : ¬ q.st ≤ a) : dropS a (p :: q :: l) = p :: q :: l := by
  conv => lhs; unfold dropS
  rw [if_neg h]

theorem atO_dropS {a o : Int} (h : a ≤ o) : ∀ l : List Pr, atO (dropS a l) o = atO l o
  | [] => rfl
  | [p] => rfl
  | p :: q :: l => by
    by_cases hq : q.st ≤ a
    · rw [dropS_go hq, atO_dropS h (q :: l)]
      unfold atO
      by_cases hp : p.st ≤ o
      · rw [List.filter_cons_of_pos (l := q :: l) (a := p) (by simpa using hp), List.filter_cons_of_pos (l := l) (a := q) (by simp; omega)]
        simp only [List.map_cons, List.getLast?_cons_cons]
      · rw [List.filter_cons_of_neg (l := q :: l) (a := p) (by simpa using hp)]
    · rw [dropS_stop hq]

theorem atO_cutS {a o : Int} (h : a ≤ o) (l : List Pr) : atO (cutS a l) o = atO l o := by
  rw [← atO_dropS h l]
  unfold cutS
  cases dropS a l with
  | nil => rfl
  | cons p r =>
    unfold atO
    simp only
    by_cases hp : p.st ≤ o
    · rw [List.filter_cons_of_pos (l := r) (a := p) (by simpa using hp), List.filter_cons_of_pos (by simp; omega)]
      rfl
    · rw [List.filter_cons_of_neg (l := r) (a := p) (by simpa using hp), List.filter_cons_of_neg (by simp; omega)]

theorem dropS_nil (a : Int) : ∀ l : List Pr, dropS a l = [] ↔ l = []
  | [] => by simp [dropS]
  | [p] => by simp [dropS]
  | p :: q :: l => by
    by_cases hq : q.st ≤ a
    · rw [dropS_go hq, dropS_nil a (q :: l)]; simp
    · rw [dropS_stop hq]

theorem cutS_nil (a : Int) (l : List Pr) : cutS a l = [] ↔ l = [] := by
  rw [← dropS_nil a l]
  unfold cutS
  cases dropS a l <;> simp

theorem dropS_len (a : Int) : ∀ l : List Pr, (dropS a l).length ≤ l.length
  | [] => by simp [dropS]
  | [p] => by simp [dropS]
  | p :: q :: l => by
    by_cases hq : q.st ≤ a
    · rw [dropS_go hq]; have := dropS_len a (q :: l); simp only [List.length_cons] at this ⊢; omega
    · rw [dropS_stop hq]; exact Nat.le_refl _
theorem cutS_len (a : Int) (l : List Pr) : (cutS a l).length ≤ l.length := by
  have := dropS_len a l
  unfold cutS
  cases h : dropS a l with
  | nil => simp
  | cons p r => rw [h] at this; simpa using this
theorem cutE_len (a : Int) (l : List Pr) : (cutE a l).length ≤ l.length := List.length_filter_le _ _
theorem cutE_mem {a : Int} {l : List Pr} {p : Pr} (h : p ∈ cutE a l) : p.st < a := by
  unfold cutE at h
  have := (List.mem_filter.1 h).2
  simpa using this
end Go.Proofs.YtdlcpcpcojpecaaDoor.Epo
