/- Plain, for EpochPlays: the document's lineage and the program's tell the same. No program in sight. -/
import Derived.Test.YtdlcpcpcojpecaaDoorSpansMath
import Derived.Test.YtdlcpcpcojpecaaDoorLeads
namespace Go.Proofs.YtdlcpcpcojpecaaDoor.Epo

/-! ### Which epoch has an offset -/
theorem atO_next {l : List Pr} {i : Nat} (hi : i < l.length) (o : Int) : atO (l.take (i + 1)) o = if l[i].st ≤ o then some l[i].ep else atO (l.take i) o := by
  unfold atO
  rw [List.take_succ_eq_append_getElem hi, List.filter_append, List.map_append]
  by_cases h : l[i].st ≤ o
  · rw [if_pos h, List.filter_cons_of_pos (by simpa using h)]
    simp
  · rw [if_neg h, List.filter_cons_of_neg (by simpa using h)]
    simp

/-! ### Cut at its start -/
theorem dropS_is (a : Int) : ∀ l : List Pr, l ≠ [] → ∃ m, m < l.length ∧ dropS a l = l.drop m ∧ (∀ j (h : j + 1 < l.length), j < m → l[j + 1].st ≤ a) ∧ ∀ h : m + 1 < l.length, ¬ l[m + 1].st ≤ a := by
  intro l
  induction l with
  | nil => intro h; exact absurd rfl h
  | cons p l ih =>
    intro _
    cases l with
    | nil => exact ⟨0, by simp, rfl, fun j h hj => by omega, fun h => by simp at h⟩
    | cons q l =>
      by_cases h : q.st ≤ a
      · obtain ⟨m, h1, h2, h3, h4⟩ := ih (by simp)
        refine ⟨m + 1, by simpa using h1, by rw [dropS_go h, h2]; rfl, fun j hj hjm => ?_, fun hm => ?_⟩
        · cases j with
          | zero => exact h
          | succ j => exact h3 j (by simpa using hj) (by omega)
        · exact h4 (by simpa using hm)
      · exact ⟨0, by simp, by rw [dropS_stop h]; rfl, fun j hj hjm => by omega, fun _ => h⟩
theorem cutS_is {a : Int} {l : List Pr} (hne : l ≠ []) (hr : l.all right = true) (hu : up l = true) : ∃ m, ∃ hm : m < l.length, cutS a l = ⟨l[m].ep, if l[m].st < a then min a 1099511627776 else l[m].st⟩ :: l.drop (m + 1) ∧
    (∀ j (h : j + 1 < l.length), j < m → l[j + 1].st ≤ a) ∧ ∀ j (h : j + 1 < l.length), m ≤ j → ¬ l[j + 1].st ≤ a := by
  obtain ⟨m, hm, h2, h3, h4⟩ := dropS_is a l hne
  refine ⟨m, hm, ?_, h3, fun j h hmj hle => ?_⟩
  · unfold cutS
    rw [h2, List.drop_eq_getElem_cons hm]
    simp only
    have hst : l[m].st ≤ 1099511627776 := by
      have := List.all_eq_true.1 hr l[m] (List.getElem_mem hm)
      unfold right at this
      rw [decide_eq_true_eq] at this
      exact this.2.2.2
    congr 2
    by_cases h : l[m].st < a
    · rw [if_pos h]; omega
    · rw [if_neg h]; omega
  · rcases Nat.eq_or_lt_of_le hmj with e | e
    · subst e; exact h4 h hle
    · have hm1 : m + 1 < l.length := by omega
      have := up_lt l hu (m + 1) (j + 1) (by omega) h
      exact h4 hm1 (by omega)

/-! ### Spans -/
theorem span_none {f t : Int} (h : t ≤ f) : ∀ l : List Pr, span f t l = [] := by
  intro l
  induction l with
  | nil => rfl
  | cons p l ih =>
    unfold span
    have h2 : ends t l ≤ t := by cases l <;> simp [ends]; omega
    rw [if_neg (by omega)]
    exact ih
theorem span_cond {f t : Int} {l : List Pr} (hu : up l = true) (hft : f < t) (i : Nat) (hi : i < l.length) :
    (max l[i].st f < ends t (l.drop (i + 1))) ↔ (l[i].st < t ∧ ∀ h : i + 1 < l.length, f < l[i + 1].st) := by
  by_cases h1 : i + 1 < l.length
  · have e : ends t (l.drop (i + 1)) = min t l[i + 1].st := by rw [List.drop_eq_getElem_cons h1]; rfl
    have := (up_next l hu i h1).2
    rw [e]
    constructor
    · intro h; exact ⟨by omega, fun _ => by omega⟩
    · rintro ⟨h2, h3⟩; have := h3 h1; omega
  · have e : ends t (l.drop (i + 1)) = t := by rw [List.drop_eq_nil_of_le (by omega)]; rfl
    rw [e]
    constructor
    · intro h; exact ⟨by omega, fun h => absurd h h1⟩
    · rintro ⟨h2, -⟩; omega

/-! ### A part of a log -/
def OkRef (e : List Pr) (p : Pr) (t : Int) : Prop := ∃ k, ∃ hk : k < e.length, e[k].ep = p.ep ∧ e[k].st ≤ p.st ∧ ∀ h : k + 1 < e.length, t ≤ e[k + 1].st
theorem okRef_iff {e : List Pr} (hu : up e = true) {p : Pr} {t : Int} (hp : p.st < t) : OkAt e p t ↔ OkRef e p t := by
  constructor
  · rintro ⟨k, hk, h1, h2, h3⟩
    have := lastK_at (·.st) p.st e e.length (Nat.le_refl _) k h1
    obtain ⟨g1, -, g3⟩ := this
    exact ⟨k, hk, h2, g3, h3⟩
  · rintro ⟨k, hk, h1, h2, h3⟩
    exact ⟨k, hk, lastK_is hu k hk p.st h2 (fun h => by have := h3 h; omega), h1, h3⟩
theorem toAt_lt {l : List Pr} (hu : up l = true) {en : Int} (hl : ∃ q, l.getLast? = some q ∧ q.st < en) (i : Nat) (hi : i < l.length) : l[i].st < toAt en l i := by
  unfold toAt
  by_cases h : i + 1 < l.length
  · rw [List.getElem?_eq_getElem h]
    exact (up_next l hu i h).2
  · rw [List.getElem?_eq_none (by omega)]
    obtain ⟨q, h1, h2⟩ := hl
    rw [List.getLast?_eq_getElem?, show l.length - 1 = i by omega, List.getElem?_eq_getElem hi] at h1
    simp only [Option.some.injEq] at h1
    rw [h1]; exact h2

/-! ### What begins -/
/-- What an epoch's beginning comes to: what is amiss (0: nothing), and the pairs then. -/
def beginR (l : List Pr) (p : Pr) : Nat × List Pr :=
  if right p = false then (105, l)
  else match l.getLast? with
    | none => (0, l ++ [p])
    | some q => if p.ep < q.ep then (114, l) else if p.ep = q.ep then (0, l) else if p.st < q.st then (103, l) else if 256 ≤ l.length then (104, l) else if p.st = q.st then (0, l.dropLast ++ [p]) else (0, l ++ [p])
theorem right_snoc {l : List Pr} {p : Pr} (h : l.all right = true) (hp : right p = true) : (l ++ [p]).all right = true := by rw [List.all_append, h]; simp [hp]
theorem beginR_valid {l : List Pr} (h : valid l = 0) (p : Pr) : valid (beginR l p).2 = 0 := by
  obtain ⟨h1, h2, h3⟩ := (valid_iff l).1 h
  unfold beginR
  split
  · exact h
  next hr =>
  have hr' : right p = true := by simpa using hr
  split
  · next hl =>
    have hl0 : l = [] := by simpa using hl
    subst hl0
    rw [valid_iff]
    exact ⟨by simp, right_snoc h2 hr', rfl⟩
  · next q hq =>
    split
    · exact h
    split
    · exact h
    split
    · exact h
    split
    · exact h
    have hdl : l.dropLast.length ≤ l.length := by rw [List.length_dropLast]; omega
    have hne : l ≠ [] := by rintro rfl; simp at hq
    split
    · next hs =>
      rw [valid_iff]
      refine ⟨by rw [List.length_append, List.length_dropLast]; simp; omega, right_snoc (List.all_eq_true.2 fun x hx => List.all_eq_true.1 h2 x (List.dropLast_subset _ hx)) hr', ?_⟩
      have := up_put l q p.ep h3 hq (by omega)
      rw [← hs] at this
      exact this
    · rw [valid_iff]
      refine ⟨by rw [List.length_append]; simp; omega, right_snoc h2 hr', up_snoc l p h3 (fun q' hq' => ?_)⟩
      rw [hq] at hq'
      simp only [Option.some.injEq] at hq'
      subst hq'
      omega
theorem cutE_valid {l : List Pr} (h : valid l = 0) (a : Int) : valid (cutE a l) = 0 := by
  obtain ⟨h1, h2, h3⟩ := (valid_iff l).1 h
  rw [valid_iff]
  refine ⟨Nat.le_trans (cutE_len a l) h1, List.all_eq_true.2 fun x hx => List.all_eq_true.1 h2 x (List.mem_filter.1 hx).1, ?_⟩
  have hp : l.Pairwise (fun x y => x.ep < y.ep ∧ x.st < y.st) := List.pairwise_iff_getElem.2 (fun i j hi hj hij => up_lt l h3 i j hij hj)
  have hp2 := List.Pairwise.filter (p := fun p : Pr => decide (p.st < a)) hp
  exact up_of_next (cutE a l) (fun i h => List.pairwise_iff_getElem.1 hp2 i (i + 1) (Nat.lt_of_succ_lt h) h (by omega))
theorem cutS_valid {l : List Pr} (h : valid l = 0) (a : Int) : valid (cutS a l) = 0 := by
  obtain ⟨h1, h2, h3⟩ := (valid_iff l).1 h
  by_cases hne : l = []
  · subst hne; rfl
  obtain ⟨m, hm, he, h4, h5⟩ := cutS_is (a := a) hne h2 h3
  have hrm := List.all_eq_true.1 h2 l[m] (List.getElem_mem hm)
  unfold right at hrm
  rw [decide_eq_true_eq] at hrm
  rw [valid_iff, he]
  refine ⟨by rw [List.length_cons, List.length_drop]; omega, ?_, ?_⟩
  · rw [List.all_cons, Bool.and_eq_true]
    refine ⟨?_, List.all_eq_true.2 fun x hx => List.all_eq_true.1 h2 x (List.mem_of_mem_drop hx)⟩
    unfold right
    rw [decide_eq_true_eq]
    simp only
    split <;> omega
  · have hup : up (l.drop (m + 1)) = true := up_of_next _ (fun i hi => by
      rw [List.length_drop] at hi
      rw [List.getElem_drop, List.getElem_drop]
      exact up_lt l h3 (m + 1 + i) (m + 1 + (i + 1)) (by omega) (by omega))
    refine up_cons hup (fun q hq => ?_)
    rw [List.head?_drop, List.getElem?_eq_some_iff] at hq
    obtain ⟨hq1, hq2⟩ := hq
    have g1 := up_lt l h3 m (m + 1) (by omega) hq1
    have g2 := h5 m hq1 (Nat.le_refl _)
    have g3 := List.all_eq_true.1 h2 l[m + 1] (List.getElem_mem hq1)
    unfold right at g3
    rw [decide_eq_true_eq] at g3
    rw [hq2] at g1 g2 g3
    simp only
    refine ⟨g1.1, ?_⟩
    split <;> omega
end Go.Proofs.YtdlcpcpcojpecaaDoor.Epo
