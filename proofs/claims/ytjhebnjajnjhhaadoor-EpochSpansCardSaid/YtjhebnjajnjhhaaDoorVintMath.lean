/- Plain facts on numbers as bytes (seven bits a byte, the lowest first). No program in sight. -/
namespace Go.Proofs.YtjhebnjajnjhhaaDoor.Vint

/-- It fits eight bytes. -/
def U64 (n : Nat) : Prop := n < 18446744073709551616
theorem U64.lt {n : Nat} (h : U64 n) : n < 18446744073709551616 := h
theorem U64.le {m n : Nat} (h : U64 n) (hm : m ≤ n) : U64 m := Nat.lt_of_le_of_lt hm h

def I64 (n : Int) : Prop := -9223372036854775808 ≤ n ∧ n ≤ 9223372036854775807
theorem I64.out {n : Int} (h : I64 n) : -9223372036854775808 ≤ n ∧ n ≤ 9223372036854775807 := h

/-- A number's bytes. -/
def putL (n : Nat) : List UInt8 :=
  if n < 128 then [UInt8.ofNat n] else UInt8.ofNat (n % 128 + 128) :: putL (n / 128)
termination_by n
decreasing_by omega

theorem putL_low {n : Nat} (h : n < 128) : putL n = [UInt8.ofNat n] := by
  unfold putL; rw [if_pos h]
theorem putL_high {n : Nat} (h : ¬ n < 128) : putL n = UInt8.ofNat (n % 128 + 128) :: putL (n / 128) := by
  conv => lhs; unfold putL
  rw [if_neg h]

theorem putL_300 : putL 300 = [172, 2] := by
  rw [putL_high (by omega), putL_low (by omega)]; decide

theorem putL_pos (n : Nat) : 0 < (putL n).length := by
  unfold putL; split <;> simp

/-- How many bytes: as many as the number has digits to the base 128. -/
theorem putL_len_le (k : Nat) : ∀ n, n < 128 ^ (k + 1) → (putL n).length ≤ k + 1 := by
  induction k with
  | zero => intro n h; rw [putL_low (by simpa using h)]; simp
  | succ k ih =>
    intro n h
    by_cases h1 : n < 128
    · rw [putL_low h1]; simp
    · rw [putL_high h1, List.length_cons]
      have := ih (n / 128) (by
        rw [Nat.pow_succ] at h
        exact Nat.div_lt_of_lt_mul (by omega))
      omega

theorem putL_len10 (n : Nat) (h : n < 18446744073709551616) : (putL n).length ≤ 10 := by
  apply putL_len_le 9
  exact Nat.lt_of_lt_of_le h (by decide)

theorem putL_mono (a : Nat) : ∀ b, a ≤ b → (putL a).length ≤ (putL b).length := by
  induction a using Nat.strongRecOn with
  | ind a ih =>
    intro b h
    by_cases h1 : a < 128
    · rw [putL_low h1]
      have := putL_pos b
      simp; omega
    · rw [putL_high h1, putL_high (n := b) (by omega)]
      have := ih (a / 128) (by omega) (b / 128) (Nat.div_le_div_right h)
      simp; omega

/-- Two numbers that differ in their lowest bit alone have as many bytes. -/
theorem putL_pair (m : Nat) : (putL (2 * m)).length = (putL (2 * m + 1)).length := by
  by_cases h : 2 * m < 128
  · rw [putL_low h, putL_low (by omega)]; rfl
  · rw [putL_high h, putL_high (n := 2 * m + 1) (by omega)]
    simp only [List.length_cons]
    rw [show (2 * m + 1) / 128 = 2 * m / 128 by omega]

/-- A number with a sign, folded: the sign is the lowest bit. -/
def fold (n : Int) : Nat := if 0 ≤ n then 2 * n.toNat else 2 * (-1 - n).toNat + 1

theorem fold_lt (n : Int) (h1 : -9223372036854775808 ≤ n) (h2 : n ≤ 9223372036854775807) : fold n < 18446744073709551616 := by
  unfold fold; split <;> omega

theorem fold_like (n : Int) : (putL (fold n)).length = (putL (fold (-1 - n))).length := by
  unfold fold
  by_cases h : 0 ≤ n
  · rw [if_pos h, if_neg (by omega), show (-1 - (-1 - n)) = n by omega]; exact putL_pair _
  · rw [if_neg h, if_pos (by omega)]; exact (putL_pair _).symm

end Go.Proofs.YtjhebnjajnjhhaaDoor.Vint
