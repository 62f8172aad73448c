/- Plain facts on lineages: pairs of an epoch and the offset at which it begins. No program in sight. -/
namespace Go.Proofs.YtjhebnjajnjhhaaDoor.Epo

structure Pr where
  ep : Int
  st : Int
deriving DecidableEq

def right (p : Pr) : Bool := decide (0 ≤ p.ep ∧ p.ep ≤ 1073741824 ∧ 0 ≤ p.st ∧ p.st ≤ 1099511627776)

/-- Do pairs rise? -/
def up : List Pr → Bool
  | a :: b :: l => decide (a.ep < b.ep ∧ a.st < b.st) && up (b :: l)
  | _ => true

/-- What is amiss with pairs: 0: nothing; 104: too many; 105: out of range; 103: not as they have to be. -/
def valid (l : List Pr) : Nat :=
  if 256 < l.length then 104
  else if l.all right = false then 105
  else if up l = false then 103
  else 0

theorem valid_iff (l : List Pr) : valid l = 0 ↔ l.length ≤ 256 ∧ l.all right = true ∧ up l = true := by
  unfold valid
  by_cases h1 : 256 < l.length
  · rw [if_pos h1]; constructor
    · intro h; cases h
    · intro h; omega
  · rw [if_neg h1]
    cases h2 : l.all right
    · simp
    · cases h3 : up l
      · simp
      · simp; omega

theorem up_next (l : List Pr) (h : up l = true) : ∀ i (h1 : i + 1 < l.length), l[i].ep < l[i + 1].ep ∧ l[i].st < l[i + 1].st := by
  induction l with
  | nil => intro i h1; simp at h1
  | cons a l ih =>
    intro i h1
    cases l with
    | nil => simp at h1
    | cons b l =>
      simp only [up, Bool.and_eq_true, decide_eq_true_eq] at h
      rcases i with _ | i
      · exact h.1
      · exact ih h.2 i (by simpa using h1)

theorem up_of_next (l : List Pr) (h : ∀ i (h1 : i + 1 < l.length), l[i].ep < l[i + 1].ep ∧ l[i].st < l[i + 1].st) : up l = true := by
  induction l with
  | nil => rfl
  | cons a l ih =>
    cases l with
    | nil => rfl
    | cons b l =>
      simp only [up, Bool.and_eq_true, decide_eq_true_eq]
      refine ⟨h 0 (by simp), ih fun i h1 => ?_⟩
      have := h (i + 1) (by simpa using h1)
      simpa using this

theorem up_lt (l : List Pr) (h : up l = true) (i j : Nat) (hij : i < j) (hj : j < l.length) : l[i].ep < l[j].ep ∧ l[i].st < l[j].st := by
  induction j with
  | zero => omega
  | succ j ih =>
    have hn := up_next l h j hj
    by_cases e : i = j
    · subst e; exact hn
    · have := ih (by omega) (by omega)
      omega

theorem up_inj (l : List Pr) (h : up l = true) (i j : Nat) (hi : i < l.length) (hj : j < l.length) (he : l[i].ep = l[j].ep) : i = j := by
  rcases Nat.lt_trichotomy i j with h1 | h1 | h1
  · have := up_lt l h i j h1 hj; omega
  · exact h1
  · have := up_lt l h j i h1 hi; omega

/-- The last one of the first i whose number is at most n; -1: none. -/
def lastK (f : Pr → Int) (n : Int) (l : List Pr) : Nat → Int
  | 0 => -1
  | i + 1 => match l[i]? with
    | some p => if f p ≤ n then (i : Int) else lastK f n l i
    | none => lastK f n l i

theorem lastK_bd (f : Pr → Int) (n : Int) (l : List Pr) (i : Nat) : -1 ≤ lastK f n l i ∧ lastK f n l i < i := by
  induction i with
  | zero => simp [lastK]
  | succ i ih =>
    unfold lastK
    split
    · split <;> omega
    · omega

theorem lastK_at (f : Pr → Int) (n : Int) (l : List Pr) (i : Nat) (hi : i ≤ l.length) (k : Nat) (h : lastK f n l i = k) : ∃ (hk : k < l.length), k < i ∧ f l[k] ≤ n := by
  induction i with
  | zero => simp [lastK] at h
  | succ i ih =>
    unfold lastK at h
    rw [List.getElem?_eq_getElem (by omega)] at h
    simp only at h
    split at h
    · rename_i hf
      have : k = i := by omega
      subst this
      exact ⟨by omega, by omega, hf⟩
    · obtain ⟨h1, h2, h3⟩ := ih (by omega) h
      exact ⟨h1, by omega, h3⟩

theorem lastK_max (f : Pr → Int) (n : Int) (l : List Pr) (i : Nat) (j : Nat) (hj : j < i) (hl : j < l.length) (h : f l[j] ≤ n) : (j : Int) ≤ lastK f n l i := by
  induction i with
  | zero => omega
  | succ i ih =>
    unfold lastK
    by_cases e : j = i
    · subst e
      rw [List.getElem?_eq_getElem hl]
      simp [h]
    · have := ih (by omega)
      split
      · split
        · omega
        · exact this
      · exact this

/-- Where a number is one of rising numbers it is its own last one. -/
theorem lastK_self (l : List Pr) (h : up l = true) (i : Nat) (hi : i < l.length) : lastK (·.ep) l[i].ep l l.length = i := by
  have h1 := lastK_max (·.ep) l[i].ep l l.length i hi hi (Int.le_refl _)
  have hb := lastK_bd (·.ep) l[i].ep l l.length
  obtain ⟨k, hk⟩ : ∃ k : Nat, lastK (·.ep) l[i].ep l l.length = k := ⟨(lastK (·.ep) l[i].ep l l.length).toNat, by omega⟩
  obtain ⟨h2, _, h3⟩ := lastK_at _ _ _ _ (Nat.le_refl _) k hk
  rw [hk] at h1 ⊢
  by_cases e : k = i
  · rw [e]
  · have := up_lt l h i k (by omega) h2
    omega

/-! ### Spans -/

/-- Where the first pair of a lineage ends, within a part that ends at t. -/
def ends (t : Int) : List Pr → Int
  | [] => t
  | q :: _ => min t q.st

/-- The pairs that have offsets of a part. -/
def span (f t : Int) : List Pr → List Pr
  | [] => []
  | p :: l => if max p.st f < ends t l then ⟨p.ep, max p.st f⟩ :: span f t l else span f t l

theorem up_tail {p : Pr} {l : List Pr} (h : up (p :: l) = true) : up l = true := by
  cases l with
  | nil => rfl
  | cons q l => simp only [up, Bool.and_eq_true] at h; exact h.2

theorem up_head {p : Pr} {l : List Pr} (h : up (p :: l) = true) : ∀ q ∈ l, p.ep < q.ep ∧ p.st < q.st := by
  intro q hq
  obtain ⟨i, hi, rfl⟩ := List.getElem_of_mem hq
  have := up_lt (p :: l) h 0 (i + 1) (by omega) (by simpa using hi)
  simpa using this

/-- From beyond its end on nothing of a part is there. -/
theorem span_beyond (f t : Int) (l : List Pr) (h : ∀ q ∈ l, t ≤ q.st) : span f t l = [] := by
  induction l with
  | nil => rfl
  | cons p l ih =>
    unfold span
    have h1 := h p (List.mem_cons_self)
    have h2 : ends t l ≤ t := by cases l <;> simp [ends]; omega
    rw [if_neg (by omega)]
    exact ih fun q hq => h q (List.mem_cons_of_mem _ hq)

/-- Where all begin at a place or behind it, it does not matter which lesser place a part begins at. -/
theorem span_from (f g t : Int) (l : List Pr) (hf : ∀ q ∈ l, f ≤ q.st) (hg : ∀ q ∈ l, g ≤ q.st) : span f t l = span g t l := by
  induction l with
  | nil => rfl
  | cons p l ih =>
    unfold span
    have h1 := hf p (List.mem_cons_self)
    have h2 := hg p (List.mem_cons_self)
    rw [show max p.st f = p.st by omega, show max p.st g = p.st by omega, ih (fun q hq => hf q (List.mem_cons_of_mem _ hq)) (fun q hq => hg q (List.mem_cons_of_mem _ hq))]

theorem span_mem_ep (f t : Int) (l : List Pr) : ∀ q ∈ span f t l, ∃ p ∈ l, q.ep = p.ep ∧ q.st = max p.st f := by
  induction l with
  | nil => intro q hq; simp [span] at hq
  | cons p l ih =>
    intro q hq
    unfold span at hq
    split at hq
    · rcases List.mem_cons.1 hq with rfl | hq
      · exact ⟨p, List.mem_cons_self, rfl, rfl⟩
      · obtain ⟨r, hr, h⟩ := ih q hq
        exact ⟨r, List.mem_cons_of_mem _ hr, h⟩
    · obtain ⟨r, hr, h⟩ := ih q hq
      exact ⟨r, List.mem_cons_of_mem _ hr, h⟩

/-- Two spans that meet are one span. -/
theorem span_meet (f m t : Int) (hfm : f < m) (hmt : m < t) (l : List Pr) (h : up l = true) :
    ∃ b, span f m l ++ b = span f t l ∧
      (span m t l = b ∧ (∀ x y, (span f m l).getLast? = some x → b.head? = some y → x.ep ≠ y.ep) ∨
       ∃ x y, (span f m l).getLast? = some x ∧ span m t l = y :: b ∧ x.ep = y.ep) := by
  induction l with
  | nil => exact ⟨[], rfl, .inl ⟨rfl, by simp [span]⟩⟩
  | cons p l ih =>
    have hl := up_tail h
    have hh := up_head h
    by_cases h1 : m ≤ p.st
    · -- all from m on
      have ha : span f m (p :: l) = [] := span_beyond f m _ (fun q hq => by
        rcases List.mem_cons.1 hq with rfl | hq
        · exact h1
        · have := hh q hq; omega)
      have hb : span f t (p :: l) = span m t (p :: l) := span_from f m t _ (fun q hq => by
        rcases List.mem_cons.1 hq with rfl | hq
        · omega
        · have := hh q hq; omega) (fun q hq => by
        rcases List.mem_cons.1 hq with rfl | hq
        · exact h1
        · have := hh q hq; omega)
      exact ⟨span m t (p :: l), by rw [ha, hb]; rfl, .inl ⟨rfl, by rw [ha]; simp⟩⟩
    · cases l with
      | nil =>
        -- the last one goes on behind m
        have e1 : ∀ f t : Int, max p.st f < t → span f t [p] = [⟨p.ep, max p.st f⟩] := fun f t h => by
          unfold span
          rw [if_pos (show max p.st f < ends t [] from h)]
          rfl
        refine ⟨[], ?_, .inr ⟨⟨p.ep, max p.st f⟩, ⟨p.ep, m⟩, ?_, ?_, rfl⟩⟩
        · rw [e1 f m (by omega), e1 f t (by omega)]; rfl
        · rw [e1 f m (by omega)]; rfl
        · rw [e1 m t (by omega), show max p.st m = m by omega]
      | cons q l =>
        have hpq := hh q (List.mem_cons_self)
        by_cases h2 : q.st ≤ m
        · -- it ends ahead of m
          obtain ⟨b, e1, e2⟩ := ih hl
          have eb : span m t (p :: q :: l) = span m t (q :: l) := by
            conv => lhs; unfold span
            rw [if_neg (by simp only [ends]; omega)]
          by_cases h3 : max p.st f < q.st
          · have ea : span f m (p :: q :: l) = ⟨p.ep, max p.st f⟩ :: span f m (q :: l) := by
              conv => lhs; unfold span
              rw [if_pos (by simp only [ends]; omega)]
            have ec : span f t (p :: q :: l) = ⟨p.ep, max p.st f⟩ :: span f t (q :: l) := by
              conv => lhs; unfold span
              rw [if_pos (by simp only [ends]; omega)]
            refine ⟨b, by rw [ea, ec, ← e1]; rfl, ?_⟩
            rcases e2 with ⟨e2, e3⟩ | ⟨x, y, e2, e3, e4⟩
            · refine .inl ⟨by rw [eb, e2], fun x y hx hy => ?_⟩
              rw [ea] at hx
              cases hn : span f m (q :: l) with
              | nil =>
                rw [hn] at hx
                simp at hx
                subst hx
                have hyb : y ∈ b := List.mem_of_head? hy
                rw [← e2] at hyb
                obtain ⟨r, hr, h4, _⟩ := span_mem_ep m t (q :: l) y hyb
                have := hh r hr
                simp only
                omega
              | cons z zs =>
                rw [hn] at hx
                rw [List.getLast?_cons_cons] at hx
                exact e3 x y (by rw [hn]; exact hx) hy
            · refine .inr ⟨x, y, ?_, by rw [eb, e3], e4⟩
              rw [ea]
              cases hn : span f m (q :: l) with
              | nil => rw [hn] at e2; simp at e2
              | cons z zs => rw [List.getLast?_cons_cons, ← hn]; exact e2
          · have ea : span f m (p :: q :: l) = span f m (q :: l) := by
              conv => lhs; unfold span
              rw [if_neg (by simp only [ends]; omega)]
            have ec : span f t (p :: q :: l) = span f t (q :: l) := by
              conv => lhs; unfold span
              rw [if_neg (by simp only [ends]; omega)]
            rw [ea, ec, eb]
            exact ⟨b, e1, e2⟩
        · -- m lies within it
          have hq : ∀ r ∈ q :: l, m ≤ r.st := fun r hr => by
            rcases List.mem_cons.1 hr with rfl | hr
            · omega
            · have := up_head hl r hr; omega
          have ea : span f m (p :: q :: l) = [⟨p.ep, max p.st f⟩] := by
            conv => lhs; unfold span
            rw [if_pos (by simp only [ends]; omega), span_beyond f m _ hq]
          have eb : span m t (p :: q :: l) = ⟨p.ep, m⟩ :: span m t (q :: l) := by
            conv => lhs; unfold span
            rw [show max p.st m = m by omega, if_pos (by simp only [ends]; omega)]
          have ec : span f t (p :: q :: l) = ⟨p.ep, max p.st f⟩ :: span f t (q :: l) := by
            conv => lhs; unfold span
            rw [if_pos (by simp only [ends]; omega)]
          refine ⟨span m t (q :: l), ?_, .inr ⟨⟨p.ep, max p.st f⟩, ⟨p.ep, m⟩, by rw [ea]; rfl, eb, rfl⟩⟩
          rw [ea, ec, span_from f m t _ (fun r hr => by have := hq r hr; omega) hq]
          rfl

end Go.Proofs.YtjhebnjajnjhhaaDoor.Epo
