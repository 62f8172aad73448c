/- Plain: the document's digits; the order of names is the order of what they name. -/
import Derived.Test.YtegiingcnhafbaaDoorNameMath
import Derived.Laws.Strings
namespace Go.Proofs.YtegiingcnhafbaaDoor
open Go Go.RowKit

/-- The document's digits. -/
def digL : Nat → Nat → List UInt8
  | _, 0 => []
  | n, k + 1 => digL (n / 10) k ++ [UInt8.ofNat (48 + n % 10)]
theorem digL_len : ∀ k n, (digL n k).length = k := by
  intro k
  induction k with
  | zero => intro n; rfl
  | succ k ih => intro n; show (digL (n / 10) k ++ [UInt8.ofNat (48 + n % 10)]).length = k + 1; rw [List.length_append, ih]; rfl
theorem digL_zero : ∀ k, digL 0 k = List.replicate k 48 := by
  intro k
  induction k with
  | zero => rfl
  | succ k ih => show digL (0 / 10) k ++ [UInt8.ofNat (48 + 0 % 10)] = _; rw [Nat.zero_div, ih, List.replicate_succ']; rfl
theorem wide_dig : ∀ k n, n < 10 ^ (k + 1) → wideL n (k + 1) = digL n (k + 1) := by
  intro k
  induction k with
  | zero =>
    intro n h
    have h' : n < 10 := by simpa using h
    unfold wideL
    rw [Lib.decDigits_one h']
    show List.replicate 0 48 ++ _ = digL (n / 10) 0 ++ [UInt8.ofNat (48 + n % 10)]
    rw [Nat.mod_eq_of_lt h']; rfl
  | succ k ih =>
    intro n h
    show _ = digL (n / 10) (k + 1) ++ [UInt8.ofNat (48 + n % 10)]
    by_cases h1 : n < 10
    · unfold wideL
      rw [Lib.decDigits_one h1, Nat.div_eq_of_lt h1, digL_zero, Nat.mod_eq_of_lt h1]
      rfl
    · have hd : n / 10 < 10 ^ (k + 1) := by rw [Nat.div_lt_iff_lt_mul (by decide), ← Nat.pow_succ]; exact h
      rw [← ih (n / 10) hd]
      unfold wideL
      rw [dec_next h1, List.length_append, List.length_singleton, ← List.append_assoc]
      congr 2
      congr 1
      omega

/-- What digits say. -/
def numL (l : List UInt8) : Option Nat := if l.all (fun c => decide (48 ≤ c.toNat ∧ c.toNat ≤ 57)) then some (valL l) else none
theorem numL_wide (n k : Nat) : numL (wideL n k) = some n := by
  unfold numL
  rw [if_pos (List.all_eq_true.2 (fun x hx => decide_eq_true (wide_digit n k x hx))), valL_wide]
theorem foldl_lt : ∀ (l : List UInt8) (a : Nat), (∀ x ∈ l, 48 ≤ x.toNat ∧ x.toNat ≤ 57) → l.foldl (fun n (c : UInt8) => 10 * n + (c.toNat - 48)) a < (a + 1) * 10 ^ l.length := by
  intro l
  induction l with
  | nil => intro a _; simp
  | cons c l ih =>
    intro a h
    have h1 := ih (10 * a + (c.toNat - 48)) (fun x hx => h x (List.mem_cons_of_mem _ hx))
    have h2 := h c List.mem_cons_self
    rw [List.foldl_cons, List.length_cons, Nat.pow_succ]
    refine Nat.lt_of_lt_of_le h1 ?_
    have h3 : 10 * a + (c.toNat - 48) + 1 ≤ (a + 1) * 10 := by omega
    calc (10 * a + (c.toNat - 48) + 1) * 10 ^ l.length ≤ ((a + 1) * 10) * 10 ^ l.length := Nat.mul_le_mul_right _ h3
      _ = (a + 1) * (10 ^ l.length * 10) := by rw [Nat.mul_assoc, Nat.mul_comm 10]
theorem valL_lt (l : List UInt8) (h : ∀ x ∈ l, 48 ≤ x.toNat ∧ x.toNat ≤ 57) : valL l < 10 ^ l.length := by
  have := foldl_lt l 0 h
  simpa [valL] using this

theorem less_app : ∀ (a b x y : List UInt8), a.length = b.length → Op.bytesLess (a ++ x) (b ++ y) = (Op.bytesLess a b || (decide (a = b) && Op.bytesLess x y)) := by
  intro a
  induction a with
  | nil =>
    intro b x y h
    cases b with
    | nil => simp [Op.bytesLess]
    | cons _ _ => simp at h
  | cons c a ih =>
    intro b x y h
    cases b with
    | nil => simp at h
    | cons d b =>
      have h' : a.length = b.length := by simpa using h
      rw [List.cons_append, List.cons_append]
      simp only [Op.bytesLess]
      rw [ih b x y h']
      by_cases h1 : c < d
      · simp [h1]
      · by_cases h2 : c = d
        · subst h2
          by_cases h3 : a = b
          · subst h3; simp [h1]
          · simp [h1, h3]
        · have h4 : (c == d) = false := by rw [beq_eq_false_iff_ne]; exact h2
          have h5 : decide (c :: a = d :: b) = false := decide_eq_false (fun h => h2 (List.cons.inj h).1)
          rw [h4, h5]
          simp
theorem less_irrefl : ∀ (l : List UInt8), Op.bytesLess l l = false := by
  intro l
  induction l with
  | nil => rfl
  | cons c l ih => simp [Op.bytesLess, ih]
theorem less_pre (p x y : List UInt8) : Op.bytesLess (p ++ x) (p ++ y) = Op.bytesLess x y := by
  rw [less_app p p x y rfl, less_irrefl]; simp
theorem valL_dig : ∀ k n, n < 10 ^ k → valL (digL n k) = n := by
  intro k
  induction k with
  | zero => intro n h; have : n = 0 := by simpa using h
            subst this; rfl
  | succ k ih =>
    intro n h
    show valL (digL (n / 10) k ++ [UInt8.ofNat (48 + n % 10)]) = n
    rw [valL_snoc, ih (n / 10) (by rw [Nat.div_lt_iff_lt_mul (by decide), ← Nat.pow_succ]; exact h), ofNat_toNat_small _ (by omega)]
    omega
theorem less_dig : ∀ k n m, n < 10 ^ k → m < 10 ^ k → Op.bytesLess (digL n k) (digL m k) = decide (n < m) := by
  intro k
  induction k with
  | zero =>
    intro n m h1 h2
    have e1 : n = 0 := by simpa using h1
    have e2 : m = 0 := by simpa using h2
    subst e1; subst e2; rfl
  | succ k ih =>
    intro n m h1 h2
    have b1 : n / 10 < 10 ^ k := by rw [Nat.div_lt_iff_lt_mul (by decide), ← Nat.pow_succ]; exact h1
    have b2 : m / 10 < 10 ^ k := by rw [Nat.div_lt_iff_lt_mul (by decide), ← Nat.pow_succ]; exact h2
    show Op.bytesLess (digL (n / 10) k ++ [UInt8.ofNat (48 + n % 10)]) (digL (m / 10) k ++ [UInt8.ofNat (48 + m % 10)]) = _
    rw [less_app _ _ _ _ (by rw [digL_len, digL_len]), ih _ _ b1 b2]
    have hl : Op.bytesLess [UInt8.ofNat (48 + n % 10)] [UInt8.ofNat (48 + m % 10)] = decide (n % 10 < m % 10) := by
      simp only [Op.bytesLess, Bool.and_false, Bool.or_false]
      rw [decide_eq_decide, UInt8.lt_iff_toNat_lt, ofNat_toNat_small _ (by omega), ofNat_toNat_small _ (by omega)]
      omega
    rw [hl]
    have he : decide (digL (n / 10) k = digL (m / 10) k) = decide (n / 10 = m / 10) := by
      rw [decide_eq_decide]
      refine ⟨fun h => ?_, fun h => by rw [h]⟩
      have := congrArg valL h
      rw [valL_dig k _ b1, valL_dig k _ b2] at this
      exact this
    rw [he, Bool.eq_iff_iff]
    simp only [Bool.or_eq_true, Bool.and_eq_true, decide_eq_true_eq]
    omega
theorem less_wide (k n m : Nat) (h1 : n < 10 ^ (k + 1)) (h2 : m < 10 ^ (k + 1)) : Op.bytesLess (wideL n (k + 1)) (wideL m (k + 1)) = decide (n < m) := by
  rw [wide_dig k n h1, wide_dig k m h2, less_dig (k + 1) n m h1 h2]
end Go.Proofs.YtegiingcnhafbaaDoor
