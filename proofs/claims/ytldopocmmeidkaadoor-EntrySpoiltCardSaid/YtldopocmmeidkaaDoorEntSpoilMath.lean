/- An entry's bytes, spoilt. -/
import Derived.Test.YtldopocmmeidkaaDoorEntReadBad
namespace Go.Proofs.YtldopocmmeidkaaDoor
open Go Go.RowKit Man Vint Crc

theorem spoil_sum {L : Nat} {X EB : List UInt8} {d : UInt8} (hd : d ≠ 0) (hL : L = (sealed X).length) (hl : L ≤ 65000) (hE : EB = lit L 4 ++ sealed X) (k : Nat) (h4 : 4 ≤ k) (hk : k < EB.length) :
    little ((EB.set k (EB[k] ^^^ d)).take 4) = L ∧ BadWhy (EB.set k (EB[k] ^^^ d)) L 1 := by
  have l4 := lit_length 4 L
  subst hE
  have hk' : k - 4 < (sealed X).length := by rw [List.length_append, l4] at hk; omega
  have he : (lit L 4 ++ sealed X)[k] = (sealed X)[k - 4] := by rw [List.getElem_append_right (by omega)]; simp only [l4]
  rw [he]
  refine ⟨?_, .inr (.inr ⟨rfl, by omega, by rw [List.length_set, List.length_append, l4]; omega, ?_⟩)⟩
  · rw [List.take_set, List.take_left' l4, List.set_eq_of_length_le (by omega), little_lit 4 L (by omega)]
  · rw [List.drop_set, if_neg (by omega), List.drop_left' l4, List.take_of_length_le (by rw [List.length_set]; omega)]
    refine openL_sum _ (by rw [List.length_set, sealed_len]; omega) ?_
    have := run_turned_ne hd (sealed X) (k - 4) hk' (~~~ 0#32)
    rw [run_sealed] at this
    exact this

theorem spoil_many {L : Nat} {X EB : List UInt8} (hE : EB = lit L 4 ++ sealed X) : BadWhy (EB.set 3 1) (little ((EB.set 3 1).take 4)) 3 := by
  have l4 := lit_length 4 L
  subst hE
  refine .inl ⟨rfl, ?_⟩
  rw [List.take_set, List.take_left' l4]
  simp only [lit, List.set_cons_succ, List.set_cons_zero, little]
  rw [show (1 : UInt8).toNat = 1 from rfl]
  omega

theorem spoil_end {L : Nat} {X EB : List UInt8} (hL : L = (sealed X).length) (hl : L ≤ 65000) (hE : EB = lit L 4 ++ sealed X) (h0 : 0 < EB.length) (hne : EB[0] + 1 ≠ 0) :
    little ((EB.set 0 (EB[0] + 1)).take 4) = L + 1 ∧ BadWhy (EB.set 0 (EB[0] + 1)) (L + 1) 0 := by
  have l4 := lit_length 4 L
  have hlt := little_lit 4 L (by omega)
  subst hE
  have he : (lit L 4 ++ sealed X)[0] = UInt8.ofNat L := by simp [lit]
  rw [he] at hne ⊢
  refine ⟨?_, .inr (.inl ⟨rfl, by omega, by rw [List.length_set, List.length_append, l4]; omega⟩)⟩
  rw [List.take_set, List.take_left' l4]
  simp only [lit, List.set_cons_zero, little] at hlt ⊢
  have hne' : (UInt8.ofNat L + 1).toNat = (UInt8.ofNat L).toNat + 1 := by
    have h1 := (UInt8.ofNat L).toNat_lt
    have h2 : (UInt8.ofNat L + 1).toNat ≠ 0 := fun e => hne (UInt8.toNat_inj.1 (by rw [e]; rfl))
    rw [UInt8.toNat_add, show (1 : UInt8).toNat = 1 from rfl] at h2 ⊢
    omega
  rw [hne']
  omega
end Go.Proofs.YtldopocmmeidkaaDoor
