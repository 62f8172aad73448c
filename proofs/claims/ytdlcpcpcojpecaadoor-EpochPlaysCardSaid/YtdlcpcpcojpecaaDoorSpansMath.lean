/- Plain: a span of a lineage is one of it; and of none that was cut ahead of its end. No program in sight. -/
import Derived.Test.YtdlcpcpcojpecaaDoorHasMath
namespace Go.Proofs.YtdlcpcpcojpecaaDoor.Epo

/-- Which pair has an offset, in a lineage. -/
theorem lastK_is {e : List Pr} (h : up e = true) (k : Nat) (hk : k < e.length) (s : Int) (h1 : e[k].st ≤ s) (h2 : ∀ hk1 : k + 1 < e.length, s < e[k + 1].st) : lastK (·.st) s e e.length = (k : Int) := by
  have a1 := lastK_max (·.st) s e e.length k hk hk h1
  have hb := lastK_bd (·.st) s e e.length
  obtain ⟨j, hj⟩ : ∃ j : Nat, lastK (·.st) s e e.length = j := ⟨(lastK (·.st) s e e.length).toNat, by omega⟩
  obtain ⟨b1, _, b2⟩ := lastK_at _ _ _ _ (Nat.le_refl _) j hj
  rw [hj] at a1 ⊢
  by_cases e1 : j = k
  · rw [e1]
  · have hkj : k + 1 ≤ j := by omega
    have h3 := h2 (by omega)
    by_cases e2 : j = k + 1
    · subst e2; omega
    · have := up_lt e h (k + 1) j (by omega) b1
      omega

theorem up_append_tail {a b : List Pr} (h : up (a ++ b) = true) : up b = true := by
  induction a with
  | nil => exact h
  | cons x a ih => exact ih (up_tail h)

theorem span_len (f t : Int) (l : List Pr) : (span f t l).length ≤ l.length := by
  induction l with
  | nil => exact Nat.le_refl _
  | cons p l ih =>
    unfold span
    split
    · simp only [List.length_cons]; omega
    · simp only [List.length_cons]; omega

theorem span_lt (f t : Int) (l : List Pr) : ∀ q ∈ span f t l, q.st < t := by
  induction l with
  | nil => intro q hq; simp [span] at hq
  | cons p l ih =>
    intro q hq
    have he : ends t l ≤ t := by cases l <;> simp [ends]; omega
    unfold span at hq
    split at hq
    · rcases List.mem_cons.1 hq with rfl | hq
      · simp only; omega
      · exact ih q hq
    · exact ih q hq

theorem up_cons {p : Pr} {l : List Pr} (h : up l = true) (h1 : ∀ q, l.head? = some q → p.ep < q.ep ∧ p.st < q.st) : up (p :: l) = true := by
  cases l with
  | nil => rfl
  | cons q l =>
    simp only [up, Bool.and_eq_true, decide_eq_true_eq]
    exact ⟨h1 q rfl, h⟩

theorem up_span (f t : Int) (l : List Pr) (h : up l = true) : up (span f t l) = true := by
  induction l with
  | nil => rfl
  | cons p l ih =>
    have hl := up_tail h
    have hh := up_head h
    unfold span
    split
    · rename_i hi
      refine up_cons (ih hl) fun q hq => ?_
      obtain ⟨r, hr, h1, h2⟩ := span_mem_ep f t l q (List.mem_of_head? hq)
      have h3 := hh r hr
      refine ⟨by simp only; omega, ?_⟩
      simp only
      cases l with
      | nil => simp at hr
      | cons x l =>
        have h4 : x.st ≤ r.st := by
          rcases List.mem_cons.1 hr with rfl | h5
          · omega
          · have := up_head hl r h5; omega
        simp only [ends] at hi
        omega
    · exact ih hl

theorem span_next {f t : Int} {p : Pr} {l : List Pr} (hl : up l = true) (hi : max p.st f < ends t l) : ∀ q r, l = q :: r → toAt t (⟨p.ep, max p.st f⟩ :: span f t l) 0 ≤ q.st := by
  rintro q r rfl
  simp only [ends] at hi
  have hh := up_head hl
  show (match (span f t (q :: r))[0]? with | some q => q.st | none => t) ≤ q.st
  by_cases h : q.st < t
  · have : span f t (q :: r) = ⟨q.ep, max q.st f⟩ :: span f t r := by
      conv => lhs; unfold span
      rw [if_pos]
      cases r with
      | nil => simp only [ends]; omega
      | cons x r => have := hh x List.mem_cons_self; simp only [ends]; omega
    rw [this]
    show max q.st f ≤ q.st
    omega
  · rw [span_beyond f t (q :: r) (fun x hx => by
      rcases List.mem_cons.1 hx with rfl | hx
      · omega
      · have := hh x hx; omega)]
    simp only [List.getElem?_nil]
    omega

theorem span_ok (f t : Int) (e : List Pr) (h : up e = true) : ∀ (l pre : List Pr), e = pre ++ l → ∀ i (hi : i < (span f t l).length), OkAt e (span f t l)[i] (toAt t (span f t l) i) := by
  intro l
  induction l with
  | nil => intro pre _ i hi; simp [span] at hi
  | cons p l ih =>
    intro pre he i hi
    have hpl : up (p :: l) = true := up_append_tail (by rw [← he]; exact h)
    have hl := up_tail hpl
    have he2 : e = (pre ++ [p]) ++ l := by rw [he]; simp
    by_cases hin : max p.st f < ends t l
    · have hs : span f t (p :: l) = ⟨p.ep, max p.st f⟩ :: span f t l := by
        conv => lhs; unfold span
        rw [if_pos hin]
      simp only [hs] at hi ⊢
      rcases i with _ | i
      · simp only [List.getElem_cons_zero]
        have hk : pre.length < e.length := by rw [he]; simp
        have hek : e[pre.length] = p := by simp only [he]; rw [List.getElem_append_right (Nat.le_refl _)]; simp
        have hek1 : ∀ hk1 : pre.length + 1 < e.length, ∃ q r, l = q :: r ∧ e[pre.length + 1] = q := by
          intro hk1
          cases l with
          | nil => rw [he] at hk1; simp at hk1
          | cons q r => exact ⟨q, r, rfl, by simp only [he]; rw [List.getElem_append_right (by omega)]; simp⟩
        refine ⟨pre.length, hk, lastK_is h _ hk _ (by rw [hek]; simp only; omega) (fun hk1 => ?_), by rw [hek], fun hk1 => ?_⟩
        · obtain ⟨q, r, rfl, hq⟩ := hek1 hk1
          rw [hq]; simp only [ends] at hin; simp only; omega
        · obtain ⟨q, r, hqr, hq⟩ := hek1 hk1
          rw [hq]
          exact span_next hl hin q r hqr
      · simp only [List.getElem_cons_succ]
        have := ih (pre ++ [p]) he2 i (by simpa using hi)
        exact this
    · have hs : span f t (p :: l) = span f t l := by
        conv => lhs; unfold span
        rw [if_neg hin]
      simp only [hs] at hi ⊢
      exact ih (pre ++ [p]) he2 i hi

theorem span_has {l : List Pr} (hv : valid l = 0) (f t w : Int) (hf : 0 ≤ f) (hf2 : f ≤ 1099511627776) (hw : t ≤ w) (hne : span f t l ≠ []) : HasP l (span f t l) t w := by
  obtain ⟨h1, h2, h3⟩ := (valid_iff l).1 hv
  refine ⟨(valid_iff _).2 ⟨by have := span_len f t l; omega, ?_, up_span f t l h3⟩, ?_, hw, span_ok f t l h3 l [] rfl⟩
  · rw [List.all_eq_true]
    intro q hq
    obtain ⟨p, hp, e1, e2⟩ := span_mem_ep f t l q hq
    have := List.all_eq_true.1 h2 p hp
    unfold right at this ⊢
    rw [decide_eq_true_eq] at this ⊢
    omega
  · refine ⟨(span f t l).getLast hne, List.getLast?_eq_some_getLast hne, span_lt f t l _ (List.getLast_mem hne)⟩

/-- With a new leader from within it on it is none of the lineage any more. -/
theorem span_not {l : List Pr} (f t : Int) (hne : span f t l ≠ []) (n : Int) (hn : ∀ p ∈ l, p.ep ≤ n) (w : Int) :
    ¬ HasP (l.filter (fun (p : Pr) => decide (p.st < t - 1)) ++ [(⟨n + 1, t - 1⟩ : Pr)]) (span f t l) t w := by
  rintro ⟨_, _, _, h⟩
  have hpos : 0 < (span f t l).length := List.length_pos_iff.2 hne
  have hi : (span f t l).length - 1 < (span f t l).length := by omega
  have h1 := h ((span f t l).length - 1) hi
  have hto : toAt t (span f t l) ((span f t l).length - 1) = t := by unfold toAt; rw [List.getElem?_eq_none (by omega)]
  rw [hto] at h1
  have hmem := List.getElem_mem hi
  have hlt := span_lt f t l _ hmem
  obtain ⟨p, hp, e1, e2⟩ := span_mem_ep f t l _ hmem
  generalize (span f t l)[(span f t l).length - 1] = q at *
  obtain ⟨k, hk, h2, h3, h4⟩ := h1
  have hall : ∀ x ∈ l.filter (fun (p : Pr) => decide (p.st < t - 1)) ++ [(⟨n + 1, t - 1⟩ : Pr)], x.st ≤ t - 1 := by
    intro x hx
    rcases List.mem_append.1 hx with hx | hx
    · have := (List.mem_filter.1 hx).2
      simp at this; omega
    · simp only [List.mem_singleton] at hx; subst hx; exact Int.le_refl _
  by_cases hl : k + 1 < (l.filter (fun (p : Pr) => decide (p.st < t - 1)) ++ [(⟨n + 1, t - 1⟩ : Pr)]).length
  · have h5 := h4 hl
    have h6 := hall _ (List.getElem_mem hl)
    omega
  · have hke : k = (l.filter (fun p => decide (p.st < t - 1))).length := by
      rw [List.length_append, List.length_singleton] at hl hk; omega
    have h7 : (l.filter (fun (p : Pr) => decide (p.st < t - 1)) ++ [(⟨n + 1, t - 1⟩ : Pr)])[k] = ⟨n + 1, t - 1⟩ := by
      simp only [hke]; rw [List.getElem_append_right (Nat.le_refl _)]; simp
    rw [h7] at h3
    have h8 := hn p hp
    simp only at h3
    omega
end Go.Proofs.YtdlcpcpcojpecaaDoor.Epo
