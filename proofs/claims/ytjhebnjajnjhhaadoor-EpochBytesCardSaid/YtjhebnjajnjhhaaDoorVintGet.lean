/- Plain facts on reading numbers: what the first bytes say. No program in sight. -/
import Derived.Test.YtjhebnjajnjhhaaDoorVintMath
namespace Go.Proofs.YtjhebnjajnjhhaaDoor.Vint

/-- What a reading gives: a number and how many bytes; it ends too early; it is none. -/
inductive GR where
  | ok (n k : Nat)
  | fin
  | shape
deriving DecidableEq

/-- From byte i on, with n so far. -/
def getL (i n : Nat) : List UInt8 → GR
  | [] => .fin
  | c :: l =>
    if i = 9 ∧ 1 < c.toNat then .shape
    else if 128 ≤ c.toNat then getL (i + 1) (n + c.toNat % 128 * 2 ^ (7 * i)) l
    else if 0 < i ∧ c.toNat = 0 then .shape
    else .ok (n + c.toNat % 128 * 2 ^ (7 * i)) (i + 1)

theorem pow7 (i : Nat) : 2 ^ (7 * (i + 1)) = 128 * 2 ^ (7 * i) := by
  rw [show 7 * (i + 1) = 7 * i + 7 by omega, Nat.pow_add]; omega

theorem add_lt_pow (i n c : Nat) (h : n < 2 ^ (7 * i)) : n + c % 128 * 2 ^ (7 * i) < 2 ^ (7 * (i + 1)) := by
  rw [pow7]
  have hc : c % 128 ≤ 127 := by omega
  have := Nat.mul_le_mul_right (2 ^ (7 * i)) hc
  omega

theorem ofNat_toNat {n : Nat} (h : n < 256) : (UInt8.ofNat n).toNat = n := by
  rw [UInt8.toNat_ofNat']; omega

/-- What was laid is read, whatever stands behind. -/
theorem getL_put (b : List UInt8) (u : Nat) : ∀ (i n : Nat), i ≤ 9 → n < 2 ^ (7 * i) → u * 2 ^ (7 * i) < 2 ^ 64 → (0 < i → 0 < u) →
    getL i n (putL u ++ b) = .ok (n + u * 2 ^ (7 * i)) (i + (putL u).length) := by
  induction u using Nat.strongRecOn with
  | ind u ih =>
    intro i n hi hn hu hp
    by_cases h : u < 128
    · rw [putL_low h]
      simp only [List.singleton_append, getL]
      rw [ofNat_toNat (by omega)]
      have h9 : ¬ (i = 9 ∧ 1 < u) := by
        rintro ⟨rfl, h1⟩
        have : 2 * 2 ^ (7 * 9) ≤ u * 2 ^ (7 * 9) := Nat.mul_le_mul_right _ h1
        omega
      rw [if_neg h9, if_neg (by omega), if_neg (by omega), Nat.mod_eq_of_lt h]
      rfl
    · rw [putL_high h]
      simp only [List.cons_append, getL]
      rw [ofNat_toNat (by omega)]
      have h9 : ¬ (i = 9 ∧ 1 < u % 128 + 128) := by
        rintro ⟨rfl, h1⟩
        have : 128 * 2 ^ (7 * 9) ≤ u * 2 ^ (7 * 9) := Nat.mul_le_mul_right _ (by omega)
        omega
      rw [if_neg h9, if_pos (by omega), show (u % 128 + 128) % 128 = u % 128 by omega]
      have e : u % 128 * 2 ^ (7 * i) + u / 128 * 2 ^ (7 * (i + 1)) = u * 2 ^ (7 * i) := by
        rw [pow7, ← Nat.mul_assoc, ← Nat.add_mul]
        congr 1
        omega
      have hi9 : i ≠ 9 := by
        rintro rfl
        have : 128 * 2 ^ (7 * 9) ≤ u * 2 ^ (7 * 9) := Nat.mul_le_mul_right _ (by omega)
        omega
      rw [ih (u / 128) (by omega) (i + 1) _ (by omega) (add_lt_pow i n u hn) (by omega) (by omega)]
      simp only [List.length_cons]
      congr 1
      · omega
      · omega

theorem get_put (u : Nat) (b : List UInt8) (h : U64 u) : getL 0 0 (putL u ++ b) = .ok u (putL u).length := by
  have := getL_put b u 0 0 (by omega) (by simp) (by have := h.lt; simpa using this) (by omega)
  simpa using this

/-- Cut off it ends too early. -/
theorem getL_cut (u : Nat) : ∀ (i n : Nat), i ≤ 9 → u * 2 ^ (7 * i) < 2 ^ 64 → ∀ k, k < (putL u).length → getL i n ((putL u).take k) = .fin := by
  induction u using Nat.strongRecOn with
  | ind u ih =>
    intro i n hi hu k hk
    rcases k with _ | k
    · simp [getL]
    by_cases h : u < 128
    · rw [putL_low h] at hk; simp at hk
    · rw [putL_high h] at hk ⊢
      simp only [List.take_succ_cons, getL]
      rw [ofNat_toNat (by omega)]
      have hi9 : i ≠ 9 := by
        rintro rfl
        have : 128 * 2 ^ (7 * 9) ≤ u * 2 ^ (7 * 9) := Nat.mul_le_mul_right _ (by omega)
        omega
      rw [if_neg (by omega), if_pos (by omega)]
      refine ih (u / 128) (by omega) (i + 1) _ (by omega) ?_ k (by simpa using hk)
      rw [pow7, ← Nat.mul_assoc]
      exact Nat.lt_of_le_of_lt (Nat.mul_le_mul_right _ (by omega)) hu

theorem get_cut (u : Nat) (k : Nat) (h : U64 u) (hk : k < (putL u).length) : getL 0 0 ((putL u).take k) = .fin :=
  getL_cut u 0 0 (by omega) (by have := h.lt; simpa using this) k hk

/-- A number that is read fits eight bytes, and its bytes are there. -/
theorem getL_ok (l : List UInt8) : ∀ (i n m k : Nat), i ≤ 9 → n < 2 ^ (7 * i) → getL i n l = .ok m k → m < 2 ^ 64 ∧ i < k ∧ k ≤ 10 ∧ k ≤ i + l.length := by
  induction l with
  | nil => intro i n m k _ _ h; simp [getL] at h
  | cons c l ih =>
    intro i n m k hi hn h
    simp only [getL] at h
    have hb := add_lt_pow i n c.toNat hn
    by_cases h9 : i = 9 ∧ 1 < c.toNat
    · rw [if_pos h9] at h; cases h
    · rw [if_neg h9] at h
      by_cases h128 : 128 ≤ c.toNat
      · rw [if_pos h128] at h
        have hi9 : i ≠ 9 := fun e => h9 ⟨e, by omega⟩
        have := ih (i + 1) _ m k (by omega) hb h
        simp only [List.length_cons]; omega
      · rw [if_neg h128] at h
        by_cases h0 : 0 < i ∧ c.toNat = 0
        · rw [if_pos h0] at h; cases h
        · rw [if_neg h0] at h
          simp only [GR.ok.injEq] at h
          obtain ⟨rfl, rfl⟩ := h
          refine ⟨?_, by omega, by omega, by simp⟩
          by_cases h9' : i = 9
          · subst h9'
            have hc : c.toNat ≤ 1 := by omega
            have hc2 : c.toNat % 128 ≤ 1 := by omega
            have := Nat.mul_le_mul_right (2 ^ (7 * 9)) hc2
            omega
          · exact Nat.lt_of_lt_of_le hb (Nat.pow_le_pow_right (by omega) (by omega))

theorem get_ok {l : List UInt8} {m k : Nat} (h : getL 0 0 l = .ok m k) : U64 m ∧ 0 < k ∧ k ≤ 10 ∧ k ≤ l.length := by
  have := getL_ok l 0 0 m k (by omega) (by simp) h
  refine ⟨?_, by omega, by omega, by omega⟩
  have h1 := this.1
  unfold U64; simpa using h1

/-- The number with a sign. -/
def unfold' (u : Nat) : Int := if u % 2 = 0 then (u / 2 : Nat) else -((u / 2 : Nat) : Int) - 1

theorem unfold_fold (n : Int) : unfold' (fold n) = n := by
  unfold unfold' fold
  by_cases h : 0 ≤ n
  · rw [if_pos h, if_pos (by omega)]; omega
  · rw [if_neg h, if_neg (by omega)]; omega

theorem unfold_bd {u : Nat} (h : U64 u) : I64 (unfold' u) := by
  have := h.lt
  unfold unfold'
  constructor <;> split <;> omega

/-- The number of bytes, the lowest first. -/
def little : List UInt8 → Nat
  | [] => 0
  | c :: l => c.toNat + 256 * little l

theorem little_lt (l : List UInt8) : little l < 256 ^ l.length := by
  induction l with
  | nil => simp [little]
  | cons c l ih =>
    simp only [little, List.length_cons, Nat.pow_succ]
    have := c.toNat_lt
    omega

theorem little_snoc (l : List UInt8) (c : UInt8) : little (l ++ [c]) = little l + c.toNat * 256 ^ l.length := by
  induction l with
  | nil => simp [little]
  | cons d l ih =>
    simp only [List.cons_append, little, ih, List.length_cons, Nat.pow_succ]
    rw [Nat.mul_add, Nat.add_assoc]
    congr 2
    rw [Nat.mul_comm 256, Nat.mul_assoc]

/-- So many bytes of a number, the lowest first. -/
def lit (n : Nat) : Nat → List UInt8
  | 0 => []
  | k + 1 => UInt8.ofNat n :: lit (n / 256) k

theorem lit_length (k : Nat) : ∀ n, (lit n k).length = k := by
  induction k with
  | zero => intro n; rfl
  | succ k ih => intro n; simp [lit, ih]

theorem little_lit (k : Nat) : ∀ n, n < 256 ^ k → little (lit n k) = n := by
  induction k with
  | zero => intro n h; simp at h; subst h; rfl
  | succ k ih =>
    intro n h
    simp only [lit, little]
    rw [ih (n / 256) (by rw [Nat.pow_succ] at h; exact Nat.div_lt_of_lt_mul (by omega)), UInt8.toNat_ofNat']
    omega

theorem lit_little (l : List UInt8) : lit (little l) l.length = l := by
  induction l with
  | nil => rfl
  | cons c l ih =>
    simp only [List.length_cons, little, lit]
    have hc := c.toNat_lt
    have e1 : UInt8.ofNat (c.toNat + 256 * little l) = c := by
      apply UInt8.toNat_inj.1
      rw [UInt8.toNat_ofNat']; omega
    rw [e1, show (c.toNat + 256 * little l) / 256 = little l by omega, ih]

end Go.Proofs.YtjhebnjajnjhhaaDoor.Vint
