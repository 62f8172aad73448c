/- Plain: texts in order, each once. -/
import Derived.Test.YtegiingcnhafbaaDoorProg
import Derived.Lib.SlicesCompact
import Derived.Sort.Walk0
namespace Go.Proofs.YtegiingcnhafbaaDoor
open Go

/-- Rising, each once. -/
def Rise (u : List (List UInt8)) : Prop := u.Pairwise (fun a b => a < b)
theorem rise_eq : ∀ (u v : List (List UInt8)), Rise u → Rise v → (∀ x, x ∈ u ↔ x ∈ v) → u = v := by
  intro u
  induction u with
  | nil =>
    intro v _ _ h
    cases v with
    | nil => rfl
    | cons b v => exact absurd ((h b).2 List.mem_cons_self) (by simp)
  | cons a u ih =>
    intro v hu hv h
    cases v with
    | nil => exact absurd ((h a).1 List.mem_cons_self) (by simp)
    | cons b v =>
      obtain ⟨hu1, hu2⟩ := List.pairwise_cons.1 hu
      obtain ⟨hv1, hv2⟩ := List.pairwise_cons.1 hv
      have hab : a = b := by
        rcases List.mem_cons.1 ((h a).1 List.mem_cons_self) with e | e
        · exact e
        · rcases List.mem_cons.1 ((h b).2 List.mem_cons_self) with e2 | e2
          · exact e2.symm
          · exact absurd (List.lt_trans (hv1 a e) (hu1 b e2)) (List.lt_irrefl b)
      subst hab
      rw [ih v hu2 hv2 (fun x => ?_)]
      constructor
      · intro hx
        rcases List.mem_cons.1 ((h x).1 (List.mem_cons_of_mem _ hx)) with e | e
        · subst e; exact absurd (hu1 x hx) (List.lt_irrefl x)
        · exact e
      · intro hx
        rcases List.mem_cons.1 ((h x).2 (List.mem_cons_of_mem _ hx)) with e | e
        · subst e; exact absurd (hv1 x hx) (List.lt_irrefl x)
        · exact e
theorem rise_snoc {u : List (List UInt8)} {x : List UInt8} (h : Rise u) (hx : ∀ y ∈ u, y < x) : Rise (u ++ [x]) := by
  unfold Rise
  rw [List.pairwise_append]
  exact ⟨h, by simp, fun a ha b hb => by rw [List.mem_singleton.1 hb]; exact hx a ha⟩

/-- Of what is sorted the one of each run is left. -/
theorem compact_upTo (d : Array (List UInt8)) (hs : ∀ i j, i ≤ j → j < d.size → d[i]! ≤ d[j]!) : ∀ m, m ≤ d.size →
    Rise (Lib.compactUpTo d m) ∧ (∀ x, x ∈ Lib.compactUpTo d m ↔ ∃ j, j < m ∧ d[j]! = x) := by
  intro m
  induction m with
  | zero => intro _; exact ⟨by simp [Lib.compactUpTo, Rise], by simp [Lib.compactUpTo]⟩
  | succ m ih =>
    intro hm
    obtain ⟨h1, h2⟩ := ih (by omega)
    rw [Lib.compactUpTo_succ]
    cases hk : Lib.keeps d m with
    | false =>
      rw [if_neg (by simp), List.append_nil]
      refine ⟨h1, fun x => ⟨fun hx => ?_, fun ⟨j, hj, e⟩ => ?_⟩⟩
      · obtain ⟨j, hj, e⟩ := (h2 x).1 hx
        exact ⟨j, by omega, e⟩
      · rcases Nat.lt_or_ge j m with h | h
        · exact (h2 x).2 ⟨j, h, e⟩
        · obtain rfl : j = m := by omega
          have hk' : ¬ (j = 0 ∨ d[j]! ≠ d[j - 1]!) := by unfold Lib.keeps at hk; exact of_decide_eq_false hk
          have hj0 : j ≠ 0 := fun e => hk' (.inl e)
          have he : d[j]! = d[j - 1]! := Classical.byContradiction fun hne => hk' (.inr hne)
          exact (h2 x).2 ⟨j - 1, by omega, by rw [← he]; exact e⟩
    | true =>
      rw [if_pos rfl]
      have hk' : m = 0 ∨ d[m]! ≠ d[m - 1]! := by unfold Lib.keeps at hk; exact of_decide_eq_true hk
      refine ⟨rise_snoc h1 (fun y hy => ?_), fun x => ?_⟩
      · obtain ⟨j, hj, rfl⟩ := (h2 y).1 hy
        rcases hk' with h0 | hne
        · omega
        · have e1 := hs j (m - 1) (by omega) (by omega)
          have e2 := hs (m - 1) m (by omega) (by omega)
          have e3 : ¬ d[m]! ≤ d[m - 1]! := fun h => hne (List.le_antisymm h e2)
          rw [List.not_le] at e3
          exact List.lt_of_le_of_lt e1 e3
      · rw [List.mem_append, List.mem_singleton, h2 x]
        constructor
        · rintro (⟨j, hj, e⟩ | e)
          · exact ⟨j, by omega, e⟩
          · exact ⟨m, by omega, e.symm⟩
        · rintro ⟨j, hj, e⟩
          rcases Nat.lt_or_ge j m with h | h
          · exact .inl ⟨j, h, e⟩
          · obtain rfl : j = m := by omega
            exact .inr e.symm
/-- What is sorted, each once. -/
def onceL (l : List (List UInt8)) : List (List UInt8) := Lib.compact (l.mergeSort fun x y => decide (x ≤ y))
theorem once_is (l : List (List UInt8)) : Rise (onceL l) ∧ ∀ x, x ∈ onceL l ↔ x ∈ l := by
  have tr : ∀ a b c : List UInt8, decide (a ≤ b) = true → decide (b ≤ c) = true → decide (a ≤ c) = true := fun a b c h1 h2 => by simp only [decide_eq_true_eq] at *; exact List.le_trans h1 h2
  have to : ∀ a b : List UInt8, (decide (a ≤ b) || decide (b ≤ a)) = true := fun a b => by simp only [Bool.or_eq_true, decide_eq_true_eq]; exact List.le_total a b
  have hp := List.pairwise_mergeSort tr to l
  obtain ⟨s, hs⟩ : ∃ s, s = l.mergeSort fun x y => decide (x ≤ y) := ⟨_, rfl⟩
  have hm : ∀ x, x ∈ s ↔ x ∈ l := fun x => by rw [hs]; exact (List.mergeSort_perm l _).mem_iff
  unfold onceL Lib.compact
  rw [← hs] at hp ⊢
  have hsz : s.toArray.size = s.length := by simp
  have hget : ∀ i, i < s.length → s.toArray[i]! = s[i]! := fun i hi => by simp
  have h := compact_upTo s.toArray (fun i j hij hj => by
    rw [hsz] at hj
    have hi : i < s.length := by omega
    have e1 : s.toArray[i]! = s[i] := by simp [hi]
    have e2 : s.toArray[j]! = s[j] := by simp [hj]
    rw [e1, e2]
    rcases Nat.lt_or_ge i j with h | h
    · exact of_decide_eq_true (List.pairwise_iff_getElem.1 hp i j hi hj h)
    · obtain rfl : i = j := by omega
      exact List.le_refl _) s.length (by rw [hsz]; omega)
  refine ⟨h.1, fun x => (h.2 x).trans ?_⟩
  rw [← hm x]
  constructor
  · rintro ⟨j, hj, e⟩
    have e1 : s.toArray[j]! = s[j] := by simp [hj]
    rw [e1] at e
    exact e ▸ List.getElem_mem hj
  · intro hx
    obtain ⟨j, hj, e⟩ := List.mem_iff_getElem.1 hx
    exact ⟨j, hj, by simp [hj, e]⟩
end Go.Proofs.YtegiingcnhafbaaDoor
