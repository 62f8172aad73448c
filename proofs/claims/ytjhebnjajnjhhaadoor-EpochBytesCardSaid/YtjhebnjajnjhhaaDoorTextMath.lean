/- Plain: a text behind its length, read back, or cut off. No program in sight. -/
import Derived.Test.YtjhebnjajnjhhaaDoorReadMath
namespace Go.Proofs.YtjhebnjajnjhhaaDoor.Vint

theorem num_put (most u : Nat) (l : List UInt8) (p : Nat) (a : List UInt8) (hu : U64 u) (hp : a.length = p) :
    num most ⟨a ++ (putL u ++ l), p, .fine⟩ = if most < u then (0, ⟨a ++ (putL u ++ l), p, .placed 4 p⟩) else (u, ⟨a ++ (putL u ++ l), p + (putL u).length, .fine⟩) := by
  unfold num
  rw [if_neg (by simp)]
  have hl : (⟨a ++ (putL u ++ l), p, .fine⟩ : Rs).left = putL u ++ l := by
    unfold Rs.left; subst hp; simp
  rw [hl, get_put u l hu]
  simp only
  split
  · rfl
  · rfl

theorem int_put (from' to' : Int) (n : Int) (l : List UInt8) (p : Nat) (a : List UInt8) (hn : I64 n) (hp : a.length = p) :
    int from' to' ⟨a ++ (putL (fold n) ++ l), p, .fine⟩ = if n < from' ∨ to' < n then (0, ⟨a ++ (putL (fold n) ++ l), p, .placed 4 p⟩) else (n, ⟨a ++ (putL (fold n) ++ l), p + (putL (fold n)).length, .fine⟩) := by
  unfold int
  rw [if_neg (by simp)]
  have hl : (⟨a ++ (putL (fold n) ++ l), p, .fine⟩ : Rs).left = putL (fold n) ++ l := by
    unfold Rs.left; subst hp; simp
  rw [hl, get_put (fold n) l (fold_lt n hn.out.1 hn.out.2)]
  simp only
  rw [unfold_fold n]
  split
  · rfl
  · rfl

theorem bytes_put (m : Nat) (t l : List UInt8) (p : Nat) (a : List UInt8) (ht : t.length < 2 ^ 60) (hp : a.length = p) :
    bytes m ⟨a ++ (putL t.length ++ (t ++ l)), p, .fine⟩ = if m < t.length then ([], ⟨a ++ (putL t.length ++ (t ++ l)), p, .placed 4 p⟩) else (t, ⟨a ++ (putL t.length ++ (t ++ l)), p + (putL t.length).length + t.length, .fine⟩) := by
  unfold bytes
  rw [show (max (m : Int) 0).toNat = m by omega, num_put m t.length (t ++ l) p a (by unfold U64; omega) hp]
  by_cases h : m < t.length
  · rw [if_pos h, if_pos h]
    simp only
    rw [if_pos (by simp)]
  · rw [if_neg h, if_neg h]
    simp only
    rw [if_neg (by simp)]
    have hl : (⟨a ++ (putL t.length ++ (t ++ l)), p + (putL t.length).length, .fine⟩ : Rs).left = t ++ l := by
      unfold Rs.left; subst hp; simp [← List.drop_drop]
    rw [hl, if_neg (by simp)]
    simp [Rs.on]

/-- Cut off a text ends too early. -/
theorem bytes_cut (m : Nat) (t : List UInt8) (k : Nat) (hm : t.length ≤ m) (ht : t.length < 2 ^ 60) (hk : k < (putL t.length ++ t).length) :
    bytes m (rs0 ((putL t.length ++ t).take k)) = ([], ⟨(putL t.length ++ t).take k, 0, .bare 0⟩) := by
  have hu : U64 t.length := by unfold U64; omega
  by_cases h : k < (putL t.length).length
  · unfold bytes
    have hn : num m (rs0 ((putL t.length ++ t).take k)) = (0, ⟨(putL t.length ++ t).take k, 0, .bare 0⟩) := by
      unfold num rs0
      rw [if_neg (by simp)]
      have hl : (⟨(putL t.length ++ t).take k, 0, .fine⟩ : Rs).left = (putL t.length).take k := by
        unfold Rs.left
        rw [List.take_append_of_le_length (by omega)]; simp
      rw [hl, get_cut t.length k hu h]
      rfl
    rw [show (max (m : Int) 0).toNat = m by omega, hn]
    simp
  · obtain ⟨j, rfl⟩ : ∃ j, k = (putL t.length).length + j := ⟨k - (putL t.length).length, by omega⟩
    rw [List.take_append, List.take_of_length_le (by omega), show (putL t.length).length + j - (putL t.length).length = j by omega]
    have hj : j < t.length := by rw [List.length_append] at hk; omega
    unfold bytes
    have hn := num_put m t.length (t.take j) 0 [] hu rfl
    rw [List.nil_append, if_neg (by omega)] at hn
    rw [show (max (m : Int) 0).toNat = m by omega]
    unfold rs0
    rw [hn]
    simp only
    rw [if_neg (by simp)]
    have hl : (⟨putL t.length ++ t.take j, 0 + (putL t.length).length, .fine⟩ : Rs).left = t.take j := by
      unfold Rs.left; simp
    rw [hl, if_pos (by rw [List.length_take]; omega)]
    rfl

end Go.Proofs.YtjhebnjajnjhhaaDoor.Vint
