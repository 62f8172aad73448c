/- Plain: batches that were added, cut at a place. No program in sight. -/
import Derived.Test.YtjhebnjajnjhhaaDoorFindsMath
namespace Go.Proofs.YtjhebnjajnjhhaaDoor.Idx

section
variable (e : Int) (t s : Nat → Int) (hs : ∀ i, 1 ≤ s i ∧ s i ≤ 90)
include hs

theorem ps_lt (i j : Nat) (h : i < j) : ps s i < ps s j := ps_mono s hs i j h

theorem cuts_marks (n k : Nat) (hk : k ≤ n) : (cut (built e 1 t (ps s) n) (ps s k)).marks = (built e 1 t (ps s) k).marks := by
  refine built_cut e 1 t (ps s) n k hk (ps s k) (fun i hi => ps_mono s hs i k hi) (fun i h1 h2 => ?_)
  by_cases h : k = i
  · subst h; exact Int.le_refl _
  · have := ps_mono s hs k i (by omega); omega

theorem marks_rise (n : Nat) : ∀ i j (hi : i < (built e 1 t (ps s) n).marks.length) (hj : j < (built e 1 t (ps s) n).marks.length), i < j → ((built e 1 t (ps s) n).marks[i]).pos < ((built e 1 t (ps s) n).marks[j]).pos := by
  obtain ⟨is, hm, hp, _⟩ := built_marks e 1 t (ps s) n
  intro i j hi hj hij
  simp only [hm] at hi hj ⊢
  rw [List.length_map] at hi hj
  simp only [List.getElem_map]
  exact ps_mono s hs _ _ (List.pairwise_iff_getElem.1 hp i j hi hj hij)

theorem adds_rise (n : Nat) : ∀ i j (hi : i < (built e 1 t (ps s) n).adds.length) (hj : j < (built e 1 t (ps s) n).adds.length), i < j → ((built e 1 t (ps s) n).adds[i]).2 < ((built e 1 t (ps s) n).adds[j]).2 := by
  have hm := built_adds e 1 t (ps s) n
  intro i j hi hj hij
  simp only [hm] at hi hj ⊢
  simp only [List.getElem_map, List.getElem_range]
  exact ps_mono s hs _ _ hij

/-- Behind the cut there is room for one far behind. -/
theorem cuts_may (n k : Nat) (hn : n ≤ 100) : may (cut (built e 1 t (ps s) n) (ps s k)) ⟨1000, 0, 1048576⟩ 5 = true := by
  have hm : ∀ a ∈ (cut (built e 1 t (ps s) n) (ps s k)).adds, a.1 < 1000 ∧ a.2 < 1048576 := by
    intro a ha
    have ha' : a ∈ (built e 1 t (ps s) n).adds := (List.mem_filter.1 ha).1
    rw [built_adds] at ha'
    obtain ⟨i, hi, rfl⟩ := List.mem_map.1 ha'
    have hi := List.mem_range.1 hi
    have := ps_bd s hs i
    simp only
    omega
  unfold may
  have hr : right ⟨1000, 0, 1048576⟩ = true := by decide
  rw [hr]
  simp only [Bool.true_and, Bool.and_eq_true, decide_eq_true_eq]
  refine ⟨by omega, ?_⟩
  split
  · rename_i a h
    have := hm a (List.mem_of_getLast? h)
    simp only [decide_eq_true_eq]; exact this
  · rfl
end
end Go.Proofs.YtjhebnjajnjhhaaDoor.Idx
