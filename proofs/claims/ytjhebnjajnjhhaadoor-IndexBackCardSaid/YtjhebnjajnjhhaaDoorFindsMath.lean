/- Plain: batches of sizes that lie one behind another. No program in sight. -/
import Derived.Test.YtjhebnjajnjhhaaDoorPlain
namespace Go.Proofs.YtjhebnjajnjhhaaDoor.Idx

def szs (b : Int) (ns : List Int) : Nat → Int := fun i => ns.getD i 0 % b + 1
theorem szs_bd (b : Int) (hb : 1 ≤ b) (ns : List Int) (i : Nat) : 1 ≤ szs b ns i ∧ szs b ns i ≤ b := by
  unfold szs
  have h1 := Int.emod_nonneg (ns.getD i 0) (show b ≠ 0 by omega)
  have h2 := Int.emod_lt_of_pos (ns.getD i 0) (show 0 < b by omega)
  omega
theorem szs_at (b : Int) (ns : List Int) (i : Nat) (h : i < ns.length) : szs b ns i = ns[i] % b + 1 := by
  unfold szs; rw [List.getD_eq_getElem?_getD, List.getElem?_eq_getElem h]; rfl

def ps (s : Nat → Int) : Nat → Int
  | 0 => 0
  | n + 1 => ps s n + s n

section
variable (e c : Int) (t s : Nat → Int) (hs : ∀ i, 1 ≤ s i ∧ s i ≤ 90)
include hs
theorem ps_bd (n : Nat) : 0 ≤ ps s n ∧ ps s n ≤ 90 * (n : Int) := by
  induction n with
  | zero => exact ⟨Int.le_refl _, Int.le_refl _⟩
  | succ n ih =>
    have := hs n
    show 0 ≤ ps s n + s n ∧ ps s n + s n ≤ _
    omega
theorem ps_mono (i j : Nat) (h : i < j) : ps s i < ps s j := by
  induction j with
  | zero => omega
  | succ j ih =>
    have := hs j
    show _ < ps s j + s j
    by_cases e : i = j
    · subst e; omega
    · have := ih (by omega); omega
theorem ps_inj (i j : Nat) (h : ps s i = ps s j) : i = j := by
  rcases Nat.lt_trichotomy i j with h1 | h1 | h1
  · have := ps_mono s hs i j h1; omega
  · exact h1
  · have := ps_mono s hs j i h1; omega

variable (hc : 1 ≤ c ∧ c ≤ 10) (ht : ∀ i, i ≤ 100 → 0 ≤ t i ∧ t i ≤ 100)
include hc ht
theorem B_may (n : Nat) (h : n ≤ 100) : may (built e c t (ps s) n) ⟨c * (n : Int), t n, ps s n⟩ (s n) = true := by
  have hb := ps_bd s hs n
  have h1 := ht n h
  have h2 := hs n
  have hcn : 0 ≤ c * (n : Int) := Int.mul_nonneg (by omega) (by omega)
  have hcm : c * (n : Int) ≤ 10 * (n : Int) := Int.mul_le_mul_of_nonneg_right hc.2 (by omega)
  unfold may
  have hr : right ⟨c * (n : Int), t n, ps s n⟩ = true := by unfold right; rw [decide_eq_true_eq]; simp only; omega
  rw [hr]
  simp only [Bool.true_and, Bool.and_eq_true, decide_eq_true_eq]
  refine ⟨h2.1, ?_⟩
  rw [built_adds]
  cases n with
  | zero => rfl
  | succ m =>
    rw [List.range_succ, List.map_append, List.map_singleton, List.getLast?_append]
    simp only [List.getLast?_singleton, Option.some_or, decide_eq_true_eq]
    exact ⟨Int.mul_lt_mul_of_pos_left (by omega) (by omega), ps_mono s hs m (m + 1) (by omega)⟩
omit hc ht
theorem B_pos (n : Nat) (h : n ≤ 100) : ∀ k ∈ (built e c t (ps s) n).marks, 0 ≤ k.pos ∧ k.pos ≤ 1073741824 := by
  intro k hk
  obtain ⟨is, hm, _, hl, _⟩ := built_marks e c t (ps s) n
  rw [hm] at hk
  obtain ⟨i, hi, rfl⟩ := List.mem_map.1 hk
  have := ps_bd s hs i
  have := hl i hi
  show 0 ≤ ps s i ∧ ps s i ≤ 1073741824
  omega
omit hs
theorem B_marks_len (p : Nat → Int) (n : Nat) : (built e c t p n).marks.length ≤ n := by
  induction n with
  | zero => exact Nat.le_refl _
  | succ n ih =>
    simp only [built, add]
    split
    · simp; omega
    · omega
theorem B_adds_len (p : Nat → Int) (n : Nat) : (built e c t p n).adds.length = n := by rw [built_adds]; simp
theorem B_when (p : Nat → Int) (n : Nat) (hn : 0 < n) (hc : 1 ≤ c) (a : Int) : ∃ q lm, (built e c t p n).marks.length = q + 1 ∧ (built e c t p n).marks[q]? = some lm ∧ (when (built e c t p n) a).isSome = decide (a ≤ lm.time) ∧ 0 ≤ (when (built e c t p n) a).getD 0 := by
  obtain ⟨is, hm, hp, hl, h0, hj⟩ := built_marks e c t p n
  have hne : (built e c t p n).marks ≠ [] := by
    rw [hm]
    intro h
    have := h0 hn
    rw [List.map_eq_nil_iff] at h
    rw [h] at this
    simp at this
  have hlen : 0 < (built e c t p n).marks.length := List.length_pos_iff.2 hne
  obtain ⟨q, hq⟩ : ∃ q, (built e c t p n).marks.length = q + 1 := ⟨_ - 1, (Nat.sub_add_cancel hlen).symm⟩
  have hqlt : q < (built e c t p n).marks.length := by omega
  refine ⟨q, (built e c t p n).marks[q], hq, List.getElem?_eq_getElem hqlt, ?_, ?_⟩
  · unfold when
    rw [Option.isSome_map, Bool.eq_iff_iff, List.find?_isSome]
    simp only [decide_eq_true_eq]
    constructor
    · rintro ⟨m, hmm, hle⟩
      obtain ⟨i, hi, rfl⟩ := List.mem_iff_getElem.1 hmm
      by_cases e1 : i = q
      · subst e1; exact hle
      · have := built_times e c t p n i q _ _ (by omega) (List.getElem?_eq_getElem hi) (List.getElem?_eq_getElem hqlt)
        omega
    · intro h; exact ⟨_, List.getElem_mem hqlt, h⟩
  · cases hw : when (built e c t p n) a with
    | none => exact Int.le_refl _
    | some o =>
      unfold when at hw
      rw [Option.map_eq_some_iff] at hw
      obtain ⟨m, hmm, rfl⟩ := hw
      have := List.mem_of_find?_eq_some hmm
      rw [hm] at this
      obtain ⟨i, _, rfl⟩ := List.mem_map.1 this
      exact Int.mul_nonneg (by omega) (by omega)
theorem B_find_neg (p : Nat → Int) (n : Nat) (hc : 1 ≤ c) : find (built e c t p n) (-1) = 0 := by
  apply find_none
  intro m hmm
  obtain ⟨is, hm, _⟩ := built_marks e c t p n
  rw [hm] at hmm
  obtain ⟨i, _, rfl⟩ := List.mem_map.1 hmm
  have := Int.mul_nonneg (show 0 ≤ c by omega) (show 0 ≤ (i : Int) by omega)
  show -1 < c * (i : Int)
  omega
end
end Go.Proofs.YtjhebnjajnjhhaaDoor.Idx
