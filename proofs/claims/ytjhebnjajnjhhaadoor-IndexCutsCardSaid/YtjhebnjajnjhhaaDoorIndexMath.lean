/- Plain facts on marks. No program in sight. -/
namespace Go.Proofs.YtjhebnjajnjhhaaDoor.Idx

structure Mk where
  off : Int
  time : Int
  pos : Int
deriving DecidableEq

def minT : Int := -9223372036854775808

/-- An index: its step; its marks; all that was added (offset, place); the greatest time so far. -/
structure Ix where
  every : Int
  marks : List Mk
  adds : List (Int × Int)
  time : Int

def right (m : Mk) : Bool := decide (0 ≤ m.off ∧ m.off ≤ 1099511627776 ∧ -1099511627776 ≤ m.time ∧ m.time ≤ 1099511627776 ∧ 0 ≤ m.pos ∧ m.pos ≤ 1073741824)

/-- May it be added? -/
def may (x : Ix) (m : Mk) (size : Int) : Bool :=
  right m && decide (1 ≤ size) && match x.adds.getLast? with
    | some a => decide (a.1 < m.off ∧ a.2 < m.pos)
    | none => true

def marked (x : Ix) (pos : Int) : Bool := match x.marks.getLast? with
  | some k => decide (x.every ≤ pos - k.pos)
  | none => true

/-- What it is behind it. -/
def add (x : Ix) (m : Mk) : Ix :=
  { x with
    adds := x.adds ++ [(m.off, m.pos)]
    time := max x.time m.time
    marks := if marked x m.pos then x.marks ++ [{ m with time := max x.time m.time }] else x.marks }

def find (x : Ix) (off : Int) : Int := x.marks.foldl (fun p m => if m.off ≤ off then m.pos else p) 0
def when (x : Ix) (t : Int) : Option Int := (x.marks.find? fun m => decide (t ≤ m.time)).map (·.off)
def cut (x : Ix) (pos : Int) : Ix :=
  let ms := x.marks.filter fun m => decide (m.pos < pos)
  { x with marks := ms, adds := x.adds.filter (fun a => decide (a.2 < pos)), time := (ms.getLast?.map (·.time)).getD minT }
def new (every : Int) : Ix := ⟨every, [], [], minT⟩

theorem find_none (x : Ix) (off : Int) (h : ∀ m ∈ x.marks, off < m.off) : find x off = 0 := by
  unfold find
  have : ∀ (l : List Mk) (p : Int), (∀ m ∈ l, off < m.off) → l.foldl (fun p m => if m.off ≤ off then m.pos else p) p = p := by
    intro l
    induction l with
    | nil => intro p _; rfl
    | cons m l ih =>
      intro p h
      simp only [List.foldl_cons]
      rw [if_neg (by have := h m (List.mem_cons_self); omega)]
      exact ih p (fun y hy => h y (List.mem_cons_of_mem _ hy))
  exact this _ _ h

theorem find_snoc (x : Ix) (m : Mk) (off : Int) : find { x with marks := x.marks ++ [m] } off = if m.off ≤ off then m.pos else find x off := by
  simp [find, List.foldl_append]

/-! ### Batches that follow one another: number i at offset c * i, time t i, place p i -/

/-- The first n batches added. -/
def built (every c : Int) (t p : Nat → Int) : Nat → Ix
  | 0 => new every
  | n + 1 => add (built every c t p n) ⟨c * n, t n, p n⟩

section
variable (every c : Int) (t p : Nat → Int)

theorem built_every (n : Nat) : (built every c t p n).every = every := by
  induction n with
  | zero => rfl
  | succ n ih => exact ih

theorem built_adds (n : Nat) : (built every c t p n).adds = (List.range n).map fun (i : Nat) => (c * (i : Int), p i) := by
  induction n with
  | zero => rfl
  | succ n ih => rw [List.range_succ, List.map_append]; simp only [built, add, ih]; rfl

/-- The greatest of the first times. -/
def top (t : Nat → Int) : Nat → Int
  | 0 => minT
  | n + 1 => max (top t n) (t n)

theorem built_time (n : Nat) : (built every c t p n).time = top t n := by
  induction n with
  | zero => rfl
  | succ n ih => simp only [built, add, ih, top]

theorem top_mono (m n : Nat) (h : m ≤ n) : top t m ≤ top t n := by
  induction n with
  | zero => have : m = 0 := by omega
            subst this; exact Int.le_refl _
  | succ n ih =>
    by_cases e : m = n + 1
    · subst e; exact Int.le_refl _
    · have := ih (by omega); simp only [top]; omega

/-- Each mark is a batch's, with the greatest time up to it; marks rise. -/
theorem built_marks (n : Nat) : ∃ is : List Nat, (built every c t p n).marks = is.map (fun (i : Nat) => ⟨c * (i : Int), top t (i + 1), p i⟩) ∧ is.Pairwise (· < ·) ∧ (∀ i ∈ is, i < n) ∧
    (0 < n → 0 ∈ is) ∧ (∀ j, j < n → ∃ i ∈ is, i ≤ j ∧ (i = j ∨ p j - p i < every) ∧ ∀ k ∈ is, k ≤ j → k ≤ i) := by
  induction n with
  | zero => exact ⟨[], rfl, List.Pairwise.nil, by simp, by simp, fun j hj => by omega⟩
  | succ n ih =>
    obtain ⟨is, hm, hp, hl, h0, hj⟩ := ih
    have hlast : ∀ k ∈ is, k ≤ n := fun k hk => Nat.le_of_lt (hl k hk)
    by_cases hmk : marked (built every c t p n) (p n) = true
    · refine ⟨is ++ [n], ?_, ?_, ?_, ?_, ?_⟩
      · simp only [built, add]
        rw [if_pos hmk, hm, built_time]
        simp [top]
      · rw [List.pairwise_append]
        exact ⟨hp, List.pairwise_singleton _ _, fun a ha b hb => by simp at hb; subst hb; exact hl a ha⟩
      · intro i hi
        rcases List.mem_append.1 hi with h | h
        · have := hl i h; omega
        · simp at h; omega
      · intro _
        by_cases e : n = 0
        · subst e; simp
        · exact List.mem_append_left _ (h0 (by omega))
      · intro j hj'
        by_cases e : j = n
        · subst e; exact ⟨j, by simp, Nat.le_refl _, .inl rfl, fun k _ hk => hk⟩
        · obtain ⟨i, hi, h1, h2, h3⟩ := hj j (by omega)
          refine ⟨i, List.mem_append_left _ hi, h1, h2, fun k hk hkj => ?_⟩
          rcases List.mem_append.1 hk with h | h
          · exact h3 k h hkj
          · simp at h; omega
    · refine ⟨is, ?_, hp, fun i hi => by have := hl i hi; omega, ?_, ?_⟩
      · simp only [built, add]
        rw [if_neg hmk, hm]
      · intro _
        by_cases e : n = 0
        · subst e
          exfalso; apply hmk
          simp [marked, built, new]
        · exact h0 (by omega)
      · intro j hj'
        by_cases e : j = n
        · subst e
          -- the last mark
          have hne : is ≠ [] := by
            intro e0; subst e0
            apply hmk
            simp [marked, hm]
          obtain ⟨i, hi⟩ : ∃ i, is.getLast? = some i := by
            cases hq : is.getLast? with
            | none => exact absurd (List.getLast?_eq_none_iff.1 hq) hne
            | some i => exact ⟨i, rfl⟩
          have him := List.mem_of_getLast? hi
          refine ⟨i, him, hlast i him, .inr ?_, fun k hk _ => ?_⟩
          · unfold marked at hmk
            rw [hm, List.getLast?_map, hi, built_every] at hmk
            simp at hmk
            exact hmk
          · obtain ⟨xs, rfl⟩ := List.getLast?_eq_some_iff.1 hi
            rcases List.mem_append.1 hk with h | h
            · have := (List.pairwise_append.1 hp).2.2 k h i (by simp); omega
            · simp at h; omega
        · exact hj j (by omega)

end

theorem foldl_last (c off : Int) (t p : Nat → Int) : ∀ (is : List Nat) (q : Int), is.Pairwise (· < ·) → ∀ i ∈ is, c * (i : Int) ≤ off → (∀ k ∈ is, i < k → off < c * (k : Int)) →
    (is.map (fun (i : Nat) => (⟨c * (i : Int), top t (i + 1), p i⟩ : Mk))).foldl (fun q m => if m.off ≤ off then m.pos else q) q = p i := by
  intro is
  induction is with
  | nil => intro q _ i hi; simp at hi
  | cons a is ih =>
    intro q hp i hi hle hgt
    simp only [List.map_cons, List.foldl_cons]
    rw [List.pairwise_cons] at hp
    by_cases e : i = a
    · subst e
      rw [if_pos hle]
      have : ∀ (l : List Nat) (q : Int), (∀ k ∈ l, off < c * (k : Int)) → (l.map (fun (i : Nat) => (⟨c * (i : Int), top t (i + 1), p i⟩ : Mk))).foldl (fun q m => if m.off ≤ off then m.pos else q) q = q := by
        intro l
        induction l with
        | nil => intro q _; rfl
        | cons b l ihl =>
          intro q h
          simp only [List.map_cons, List.foldl_cons]
          rw [if_neg (by have := h b (List.mem_cons_self); omega)]
          exact ihl q (fun k hk => h k (List.mem_cons_of_mem _ hk))
      exact this is _ (fun k hk => hgt k (List.mem_cons_of_mem _ hk) (hp.1 k hk))
    · have hi' : i ∈ is := by
        rcases List.mem_cons.1 hi with h | h
        · exact absurd h e
        · exact h
      exact ih _ hp.2 i hi' hle (fun k hk hik => hgt k (List.mem_cons_of_mem _ hk) hik)

/-- What is found for batch k: the place of a batch that does not lie behind it, and less than a step ahead. -/
theorem built_find (every c : Int) (t p : Nat → Int) (n k : Nat) (hk : k < n) (hc : 0 < c) : ∃ i, i ≤ k ∧ find (built every c t p n) (c * (k : Int)) = p i ∧ (i = k ∨ p k - p i < every) := by
  obtain ⟨is, hm, hp, hl, h0, hj⟩ := built_marks every c t p n
  obtain ⟨i, hi, h1, h2, h3⟩ := hj k hk
  refine ⟨i, h1, ?_, h2⟩
  unfold find
  rw [hm]
  apply foldl_last c _ t p is 0 hp i hi
  · exact Int.mul_le_mul_of_nonneg_left (by omega) (by omega)
  · intro j hj' hij
    have : ¬ j ≤ k := fun h => by have := h3 j hj' h; omega
    exact Int.mul_lt_mul_of_pos_left (by omega) hc

/-- Marks' times never fall. -/
theorem built_times (every c : Int) (t p : Nat → Int) (n i j : Nat) (a b : Mk) (hij : i < j) (ha : (built every c t p n).marks[i]? = some a) (hb : (built every c t p n).marks[j]? = some b) : a.time ≤ b.time := by
  obtain ⟨is, hm, hp, _⟩ := built_marks every c t p n
  rw [hm, List.getElem?_map] at ha hb
  rw [Option.map_eq_some_iff] at ha hb
  obtain ⟨x, hx, rfl⟩ := ha
  obtain ⟨y, hy, rfl⟩ := hb
  obtain ⟨hi, rfl⟩ := List.getElem?_eq_some_iff.1 hx
  obtain ⟨hj, rfl⟩ := List.getElem?_eq_some_iff.1 hy
  have := List.pairwise_iff_getElem.1 hp i j hi hj hij
  exact top_mono t _ _ (by omega)

/-- Each batch is marked where the step is 1 and places rise. -/
theorem built_all (c : Int) (t p : Nat → Int) (hp : ∀ i j, i < j → p i < p j) (n : Nat) : (built 1 c t p n).marks = (List.range n).map (fun (i : Nat) => ⟨c * (i : Int), top t (i + 1), p i⟩) := by
  induction n with
  | zero => rfl
  | succ n ih =>
    have hmk : marked (built 1 c t p n) (p n) = true := by
      unfold marked
      rw [ih, List.getLast?_map]
      cases n with
      | zero => rfl
      | succ m =>
        rw [List.range_succ, List.getLast?_append]
        simp only [List.getLast?_singleton, Option.some_or, Option.map_some, built_every, decide_eq_true_eq]
        have := hp m (m + 1) (by omega)
        omega
    simp only [built, add]
    rw [if_pos hmk, ih, List.range_succ, List.map_append, built_time]
    rfl

/-! ### Cut at a place it is as if nothing had been behind -/

theorem built_cut (every c : Int) (t p : Nat → Int) (n k : Nat) (hk : k ≤ n) (q : Int) (hq : ∀ i, i < k → p i < q) (hq2 : ∀ i, k ≤ i → i < n → q ≤ p i) :
    (cut (built every c t p n) q).marks = (built every c t p k).marks := by
  induction n with
  | zero =>
    have : k = 0 := by omega
    subst this; rfl
  | succ n ih =>
    by_cases e : k = n + 1
    · subst e
      obtain ⟨is, hms, _, hl, _⟩ := built_marks every c t p (n + 1)
      show List.filter _ _ = _
      rw [List.filter_eq_self]
      intro m hm'
      rw [hms] at hm'
      obtain ⟨i, hi, rfl⟩ := List.mem_map.1 hm'
      simpa using hq i (hl i hi)
    · have hn := ih (by omega) (fun i h1 h2 => hq2 i h1 (by omega))
      rw [← hn]
      show List.filter _ (built every c t p (n + 1)).marks = List.filter _ (built every c t p n).marks
      simp only [built, add]
      split
      · rw [List.filter_append]
        have : ¬ p n < q := by have := hq2 n (by omega) (by omega); omega
        simp [this]
      · rfl

end Go.Proofs.YtjhebnjajnjhhaaDoor.Idx
