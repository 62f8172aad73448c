/- Plain facts on numbers as bytes (seven bits a byte, the lowest first). No program in sight. Merged of: VintMath, VintGet, Ers, ReadMath, TextMath, EpochMath, ReadPairs, IndexMath, MarksMath, RiseMath. -/


/-! Plain facts on numbers as bytes (seven bits a byte, the lowest first). No program in sight. -/
namespace Go.Proofs.YtdlcpcpcojpecaaDoor.Vint

/-- It fits eight bytes. -/
def U64 (n : Nat) : Prop := n < 18446744073709551616
theorem U64.lt {n : Nat} (h : U64 n) : n < 18446744073709551616 := h
theorem U64.le {m n : Nat} (h : U64 n) (hm : m ≤ n) : U64 m := Nat.lt_of_le_of_lt hm h

def I64 (n : Int) : Prop := -9223372036854775808 ≤ n ∧ n ≤ 9223372036854775807
theorem I64.out {n : Int} (h : I64 n) : -9223372036854775808 ≤ n ∧ n ≤ 9223372036854775807 := h

/-- A number's bytes. -/
def putL (n : Nat) : List UInt8 :=
  if n < 128 then [UInt8.ofNat n] else UInt8.ofNat (n % 128 + 128) :: putL (n / 128)
termination_by n
decreasing_by omega

theorem putL_low {n : Nat} (h : n < 128) : putL n = [UInt8.ofNat n] := by
  unfold putL; rw [if_pos h]
theorem putL_high {n : Nat} (h : ¬ n < 128) : putL n = UInt8.ofNat (n % 128 + 128) :: putL (n / 128) := by
  conv => lhs; unfold putL
  rw [if_neg h]

theorem putL_300 : putL 300 = [172, 2] := by
  rw [putL_high (by omega), putL_low (by omega)]; decide

theorem putL_pos (n : Nat) : 0 < (putL n).length := by
  unfold putL; split <;> simp

/-- How many bytes: as many as the number has digits to the base 128. -/
theorem putL_len_le (k : Nat) : ∀ n, n < 128 ^ (k + 1) → (putL n).length ≤ k + 1 := by
  induction k with
  | zero => intro n h; rw [putL_low (by simpa using h)]; simp
  | succ k ih =>
    intro n h
    by_cases h1 : n < 128
    · rw [putL_low h1]; simp
    · rw [putL_high h1, List.length_cons]
      have := ih (n / 128) (by
        rw [Nat.pow_succ] at h
        exact Nat.div_lt_of_lt_mul (by omega))
      omega

theorem putL_len10 (n : Nat) (h : n < 18446744073709551616) : (putL n).length ≤ 10 := by
  apply putL_len_le 9
  exact Nat.lt_of_lt_of_le h (by decide)

theorem putL_mono (a : Nat) : ∀ b, a ≤ b → (putL a).length ≤ (putL b).length := by
  induction a using Nat.strongRecOn with
  | ind a ih =>
    intro b h
    by_cases h1 : a < 128
    · rw [putL_low h1]
      have := putL_pos b
      simp; omega
    · rw [putL_high h1, putL_high (n := b) (by omega)]
      have := ih (a / 128) (by omega) (b / 128) (Nat.div_le_div_right h)
      simp; omega

/-- Two numbers that differ in their lowest bit alone have as many bytes. -/
theorem putL_pair (m : Nat) : (putL (2 * m)).length = (putL (2 * m + 1)).length := by
  by_cases h : 2 * m < 128
  · rw [putL_low h, putL_low (by omega)]; rfl
  · rw [putL_high h, putL_high (n := 2 * m + 1) (by omega)]
    simp only [List.length_cons]
    rw [show (2 * m + 1) / 128 = 2 * m / 128 by omega]

/-- A number with a sign, folded: the sign is the lowest bit. -/
def fold (n : Int) : Nat := if 0 ≤ n then 2 * n.toNat else 2 * (-1 - n).toNat + 1

theorem fold_lt (n : Int) (h1 : -9223372036854775808 ≤ n) (h2 : n ≤ 9223372036854775807) : fold n < 18446744073709551616 := by
  unfold fold; split <;> omega

theorem fold_like (n : Int) : (putL (fold n)).length = (putL (fold (-1 - n))).length := by
  unfold fold
  by_cases h : 0 ≤ n
  · rw [if_pos h, if_neg (by omega), show (-1 - (-1 - n)) = n by omega]; exact putL_pair _
  · rw [if_neg h, if_pos (by omega)]; exact (putL_pair _).symm

end Go.Proofs.YtdlcpcpcojpecaaDoor.Vint

/-! Plain facts on reading numbers: what the first bytes say. No program in sight. -/
namespace Go.Proofs.YtdlcpcpcojpecaaDoor.Vint

/-- What a reading gives: a number and how many bytes; it ends too early; it is none. -/
inductive GR where
  | ok (n k : Nat)
  | fin
  | shape
deriving DecidableEq

/-- From byte i on, with n so far. -/
def getL (i n : Nat) : List UInt8 → GR
  | [] => .fin
  | c :: l =>
    if i = 9 ∧ 1 < c.toNat then .shape
    else if 128 ≤ c.toNat then getL (i + 1) (n + c.toNat % 128 * 2 ^ (7 * i)) l
    else if 0 < i ∧ c.toNat = 0 then .shape
    else .ok (n + c.toNat % 128 * 2 ^ (7 * i)) (i + 1)

theorem pow7 (i : Nat) : 2 ^ (7 * (i + 1)) = 128 * 2 ^ (7 * i) := by
  rw [show 7 * (i + 1) = 7 * i + 7 by omega, Nat.pow_add]; omega

theorem add_lt_pow (i n c : Nat) (h : n < 2 ^ (7 * i)) : n + c % 128 * 2 ^ (7 * i) < 2 ^ (7 * (i + 1)) := by
  rw [pow7]
  have hc : c % 128 ≤ 127 := by omega
  have := Nat.mul_le_mul_right (2 ^ (7 * i)) hc
  omega

theorem ofNat_toNat {n : Nat} (h : n < 256) : (UInt8.ofNat n).toNat = n := by
  rw [UInt8.toNat_ofNat']; omega

/-- What was laid is read, whatever stands behind. -/
theorem getL_put (b : List UInt8) (u : Nat) : ∀ (i n : Nat), i ≤ 9 → n < 2 ^ (7 * i) → u * 2 ^ (7 * i) < 2 ^ 64 → (0 < i → 0 < u) →
    getL i n (putL u ++ b) = .ok (n + u * 2 ^ (7 * i)) (i + (putL u).length) := by
  induction u using Nat.strongRecOn with
  | ind u ih =>
    intro i n hi hn hu hp
    by_cases h : u < 128
    · rw [putL_low h]
      simp only [List.singleton_append, getL]
      rw [ofNat_toNat (by omega)]
      have h9 : ¬ (i = 9 ∧ 1 < u) := by
        rintro ⟨rfl, h1⟩
        have : 2 * 2 ^ (7 * 9) ≤ u * 2 ^ (7 * 9) := Nat.mul_le_mul_right _ h1
        omega
      rw [if_neg h9, if_neg (by omega), if_neg (by omega), Nat.mod_eq_of_lt h]
      rfl
    · rw [putL_high h]
      simp only [List.cons_append, getL]
      rw [ofNat_toNat (by omega)]
      have h9 : ¬ (i = 9 ∧ 1 < u % 128 + 128) := by
        rintro ⟨rfl, h1⟩
        have : 128 * 2 ^ (7 * 9) ≤ u * 2 ^ (7 * 9) := Nat.mul_le_mul_right _ (by omega)
        omega
      rw [if_neg h9, if_pos (by omega), show (u % 128 + 128) % 128 = u % 128 by omega]
      have e : u % 128 * 2 ^ (7 * i) + u / 128 * 2 ^ (7 * (i + 1)) = u * 2 ^ (7 * i) := by
        rw [pow7, ← Nat.mul_assoc, ← Nat.add_mul]
        congr 1
        omega
      have hi9 : i ≠ 9 := by
        rintro rfl
        have : 128 * 2 ^ (7 * 9) ≤ u * 2 ^ (7 * 9) := Nat.mul_le_mul_right _ (by omega)
        omega
      rw [ih (u / 128) (by omega) (i + 1) _ (by omega) (add_lt_pow i n u hn) (by omega) (by omega)]
      simp only [List.length_cons]
      congr 1
      · omega
      · omega

theorem get_put (u : Nat) (b : List UInt8) (h : U64 u) : getL 0 0 (putL u ++ b) = .ok u (putL u).length := by
  have := getL_put b u 0 0 (by omega) (by simp) (by have := h.lt; simpa using this) (by omega)
  simpa using this

/-- Cut off it ends too early. -/
theorem getL_cut (u : Nat) : ∀ (i n : Nat), i ≤ 9 → u * 2 ^ (7 * i) < 2 ^ 64 → ∀ k, k < (putL u).length → getL i n ((putL u).take k) = .fin := by
  induction u using Nat.strongRecOn with
  | ind u ih =>
    intro i n hi hu k hk
    rcases k with _ | k
    · simp [getL]
    by_cases h : u < 128
    · rw [putL_low h] at hk; simp at hk
    · rw [putL_high h] at hk ⊢
      simp only [List.take_succ_cons, getL]
      rw [ofNat_toNat (by omega)]
      have hi9 : i ≠ 9 := by
        rintro rfl
        have : 128 * 2 ^ (7 * 9) ≤ u * 2 ^ (7 * 9) := Nat.mul_le_mul_right _ (by omega)
        omega
      rw [if_neg (by omega), if_pos (by omega)]
      refine ih (u / 128) (by omega) (i + 1) _ (by omega) ?_ k (by simpa using hk)
      rw [pow7, ← Nat.mul_assoc]
      exact Nat.lt_of_le_of_lt (Nat.mul_le_mul_right _ (by omega)) hu

theorem get_cut (u : Nat) (k : Nat) (h : U64 u) (hk : k < (putL u).length) : getL 0 0 ((putL u).take k) = .fin :=
  getL_cut u 0 0 (by omega) (by have := h.lt; simpa using this) k hk

/-- A number that is read fits eight bytes, and its bytes are there. -/
theorem getL_ok (l : List UInt8) : ∀ (i n m k : Nat), i ≤ 9 → n < 2 ^ (7 * i) → getL i n l = .ok m k → m < 2 ^ 64 ∧ i < k ∧ k ≤ 10 ∧ k ≤ i + l.length := by
  induction l with
  | nil => intro i n m k _ _ h; simp [getL] at h
  | cons c l ih =>
    intro i n m k hi hn h
    simp only [getL] at h
    have hb := add_lt_pow i n c.toNat hn
    by_cases h9 : i = 9 ∧ 1 < c.toNat
    · rw [if_pos h9] at h; cases h
    · rw [if_neg h9] at h
      by_cases h128 : 128 ≤ c.toNat
      · rw [if_pos h128] at h
        have hi9 : i ≠ 9 := fun e => h9 ⟨e, by omega⟩
        have := ih (i + 1) _ m k (by omega) hb h
        simp only [List.length_cons]; omega
      · rw [if_neg h128] at h
        by_cases h0 : 0 < i ∧ c.toNat = 0
        · rw [if_pos h0] at h; cases h
        · rw [if_neg h0] at h
          simp only [GR.ok.injEq] at h
          obtain ⟨rfl, rfl⟩ := h
          refine ⟨?_, by omega, by omega, by simp⟩
          by_cases h9' : i = 9
          · subst h9'
            have hc : c.toNat ≤ 1 := by omega
            have hc2 : c.toNat % 128 ≤ 1 := by omega
            have := Nat.mul_le_mul_right (2 ^ (7 * 9)) hc2
            omega
          · exact Nat.lt_of_lt_of_le hb (Nat.pow_le_pow_right (by omega) (by omega))

theorem get_ok {l : List UInt8} {m k : Nat} (h : getL 0 0 l = .ok m k) : U64 m ∧ 0 < k ∧ k ≤ 10 ∧ k ≤ l.length := by
  have := getL_ok l 0 0 m k (by omega) (by simp) h
  refine ⟨?_, by omega, by omega, by omega⟩
  have h1 := this.1
  unfold U64; simpa using h1

/-- The number with a sign. -/
def unfold' (u : Nat) : Int := if u % 2 = 0 then (u / 2 : Nat) else -((u / 2 : Nat) : Int) - 1

theorem unfold_fold (n : Int) : unfold' (fold n) = n := by
  unfold unfold' fold
  by_cases h : 0 ≤ n
  · rw [if_pos h, if_pos (by omega)]; omega
  · rw [if_neg h, if_neg (by omega)]; omega

theorem unfold_bd {u : Nat} (h : U64 u) : I64 (unfold' u) := by
  have := h.lt
  unfold unfold'
  constructor <;> split <;> omega

/-- The number of bytes, the lowest first. -/
def little : List UInt8 → Nat
  | [] => 0
  | c :: l => c.toNat + 256 * little l

theorem little_lt (l : List UInt8) : little l < 256 ^ l.length := by
  induction l with
  | nil => simp [little]
  | cons c l ih =>
    simp only [little, List.length_cons, Nat.pow_succ]
    have := c.toNat_lt
    omega

theorem little_snoc (l : List UInt8) (c : UInt8) : little (l ++ [c]) = little l + c.toNat * 256 ^ l.length := by
  induction l with
  | nil => simp [little]
  | cons d l ih =>
    simp only [List.cons_append, little, ih, List.length_cons, Nat.pow_succ]
    rw [Nat.mul_add, Nat.add_assoc]
    congr 2
    rw [Nat.mul_comm 256, Nat.mul_assoc]

/-- So many bytes of a number, the lowest first. -/
def lit (n : Nat) : Nat → List UInt8
  | 0 => []
  | k + 1 => UInt8.ofNat n :: lit (n / 256) k

theorem lit_length (k : Nat) : ∀ n, (lit n k).length = k := by
  induction k with
  | zero => intro n; rfl
  | succ k ih => intro n; simp [lit, ih]

theorem little_lit (k : Nat) : ∀ n, n < 256 ^ k → little (lit n k) = n := by
  induction k with
  | zero => intro n h; simp at h; subst h; rfl
  | succ k ih =>
    intro n h
    simp only [lit, little]
    rw [ih (n / 256) (by rw [Nat.pow_succ] at h; exact Nat.div_lt_of_lt_mul (by omega)), UInt8.toNat_ofNat']
    omega

theorem lit_little (l : List UInt8) : lit (little l) l.length = l := by
  induction l with
  | nil => rfl
  | cons c l ih =>
    simp only [List.length_cons, little, lit]
    have hc := c.toNat_lt
    have e1 : UInt8.ofNat (c.toNat + 256 * little l) = c := by
      apply UInt8.toNat_inj.1
      rw [UInt8.toNat_ofNat']; omega
    rw [e1, show (c.toNat + 256 * little l) / 256 = little l by omega, ih]

end Go.Proofs.YtdlcpcpcojpecaaDoor.Vint

/-! An error as the code may tell it: none, one of the errors, one of them with a place. No program in sight. -/
namespace Go.Proofs.YtdlcpcpcojpecaaDoor

/-- An error that the code may tell: none, one of the errors, one of them with a place. -/
inductive Er where
  | fine
  | bare (i : Nat)
  | placed (i : Nat) (pos : Int)
deriving DecidableEq

/-- What an error is told by. -/
def Er.code : Er → Int
  | .fine => 0
  | .bare i => (101 + i : Nat)
  | .placed i _ => (101 + i : Nat)
def Er.has : Er → Bool
  | .placed _ _ => true
  | _ => false
def Er.pos : Er → Int
  | .placed _ p => p
  | _ => 0
end Go.Proofs.YtdlcpcpcojpecaaDoor

/-! Plain: a reader of numbers, as chapter 2 has it. No program in sight. -/
namespace Go.Proofs.YtdlcpcpcojpecaaDoor.Vint

/-- A reader: its bytes, where it is, what was amiss. -/
structure Rs where
  l : List UInt8
  pos : Nat
  bad : Er

def rs0 (l : List UInt8) : Rs := ⟨l, 0, .fine⟩
def Rs.left (s : Rs) : List UInt8 := s.l.drop s.pos
def Rs.fail (s : Rs) (c : Nat) : Rs := { s with bad := if c = 0 then .bare 0 else .placed c s.pos }
def Rs.on (s : Rs) (k : Nat) : Rs := { s with pos := s.pos + k }

/-- A number that is at most 'most'. -/
def num (most : Nat) (s : Rs) : Nat × Rs :=
  if s.bad ≠ .fine then (0, s) else
  match getL 0 0 s.left with
  | .ok n k => if most < n then (0, s.fail 4) else (n, s.on k)
  | .fin => (0, s.fail 0)
  | .shape => (0, s.fail 2)

/-- A number with a sign, from one to another one. -/
def int (from' to' : Int) (s : Rs) : Int × Rs :=
  if s.bad ≠ .fine then (0, s) else
  match getL 0 0 s.left with
  | .ok n k => if unfold' n < from' ∨ to' < unfold' n then (0, s.fail 4) else (unfold' n, s.on k)
  | .fin => (0, s.fail 0)
  | .shape => (0, s.fail 2)

/-- How many bytes, and as many. -/
def bytes (most : Int) (s : Rs) : List UInt8 × Rs :=
  let r := num (max most 0).toNat s
  if r.2.bad ≠ .fine then ([], r.2)
  else if r.2.left.length < r.1 then ([], s.fail 0)
  else (r.2.left.take r.1, r.2.on r.1)

/-- A number of so many bytes. -/
def fixed (n : Int) (s : Rs) : Nat × Rs :=
  if s.bad ≠ .fine ∨ n < 0 ∨ 8 < n then (0, s)
  else if (s.left.length : Int) < n then (0, s.fail 0)
  else (little (s.left.take n.toNat), s.on n.toNat)

/-- Where a reader may stand. -/
def Rs.ok (s : Rs) : Prop := s.pos ≤ s.l.length

theorem rs0_ok (l : List UInt8) : (rs0 l).ok := Nat.zero_le _
theorem fail_ok {s : Rs} (h : s.ok) (c : Nat) : (s.fail c).ok := h
theorem left_length (s : Rs) : s.left.length = s.l.length - s.pos := by simp [Rs.left]
theorem on_ok {s : Rs} (h : s.ok) {k : Nat} (hk : k ≤ s.left.length) : (s.on k).ok := by
  unfold Rs.ok Rs.on at *
  rw [left_length] at hk
  simp only
  omega

theorem num_ok {s : Rs} (h : s.ok) (m : Nat) : (num m s).2.ok ∧ (num m s).2.l = s.l := by
  unfold num
  split
  · exact ⟨h, rfl⟩
  · split
    · rename_i n k hg
      split
      · exact ⟨fail_ok h _, rfl⟩
      · exact ⟨on_ok h (get_ok hg).2.2.2, rfl⟩
    · exact ⟨fail_ok h _, rfl⟩
    · exact ⟨fail_ok h _, rfl⟩

theorem num_val {s : Rs} (m : Nat) : (num m s).1 ≤ m ∧ U64 (num m s).1 := by
  unfold num
  have h0 : U64 0 := by unfold U64; omega
  split
  · exact ⟨Nat.zero_le _, h0⟩
  · split
    · rename_i n k hg
      split
      · exact ⟨Nat.zero_le _, h0⟩
      · exact ⟨by simp only; omega, (get_ok hg).1⟩
    · exact ⟨Nat.zero_le _, h0⟩
    · exact ⟨Nat.zero_le _, h0⟩

theorem int_ok {s : Rs} (h : s.ok) (a b : Int) : (int a b s).2.ok ∧ (int a b s).2.l = s.l := by
  unfold int
  split
  · exact ⟨h, rfl⟩
  · split
    · rename_i n k hg
      split
      · exact ⟨fail_ok h _, rfl⟩
      · exact ⟨on_ok h (get_ok hg).2.2.2, rfl⟩
    · exact ⟨fail_ok h _, rfl⟩
    · exact ⟨fail_ok h _, rfl⟩

theorem bytes_ok {s : Rs} (h : s.ok) (m : Int) : (bytes m s).2.ok ∧ (bytes m s).2.l = s.l := by
  unfold bytes
  have hn := num_ok h (max m 0).toNat
  simp only
  split
  · exact hn
  · split
    · exact ⟨fail_ok h _, rfl⟩
    · exact ⟨on_ok hn.1 (by omega), hn.2⟩

theorem fixed_ok {s : Rs} (h : s.ok) (n : Int) : (fixed n s).2.ok ∧ (fixed n s).2.l = s.l := by
  unfold fixed
  split
  · exact ⟨h, rfl⟩
  · split
    · exact ⟨fail_ok h _, rfl⟩
    · exact ⟨on_ok h (by omega), rfl⟩

end Go.Proofs.YtdlcpcpcojpecaaDoor.Vint

/-! Plain: a text behind its length, read back, or cut off. No program in sight. -/
namespace Go.Proofs.YtdlcpcpcojpecaaDoor.Vint

theorem num_put (most u : Nat) (l : List UInt8) (p : Nat) (a : List UInt8) (hu : U64 u) (hp : a.length = p) :
    num most ⟨a ++ (putL u ++ l), p, .fine⟩ = if most < u then (0, ⟨a ++ (putL u ++ l), p, .placed 4 p⟩) else (u, ⟨a ++ (putL u ++ l), p + (putL u).length, .fine⟩) := by
  unfold num
  rw [if_neg (by simp)]
  have hl : (⟨a ++ (putL u ++ l), p, .fine⟩ : Rs).left = putL u ++ l := by
    unfold Rs.left; subst hp; simp
  rw [hl, get_put u l hu]
  simp only
  split
  · rfl
  · rfl

theorem int_put (from' to' : Int) (n : Int) (l : List UInt8) (p : Nat) (a : List UInt8) (hn : I64 n) (hp : a.length = p) :
    int from' to' ⟨a ++ (putL (fold n) ++ l), p, .fine⟩ = if n < from' ∨ to' < n then (0, ⟨a ++ (putL (fold n) ++ l), p, .placed 4 p⟩) else (n, ⟨a ++ (putL (fold n) ++ l), p + (putL (fold n)).length, .fine⟩) := by
  unfold int
  rw [if_neg (by simp)]
  have hl : (⟨a ++ (putL (fold n) ++ l), p, .fine⟩ : Rs).left = putL (fold n) ++ l := by
    unfold Rs.left; subst hp; simp
  rw [hl, get_put (fold n) l (fold_lt n hn.out.1 hn.out.2)]
  simp only
  rw [unfold_fold n]
  split
  · rfl
  · rfl

theorem bytes_put (m : Nat) (t l : List UInt8) (p : Nat) (a : List UInt8) (ht : t.length < 2 ^ 60) (hp : a.length = p) :
    bytes m ⟨a ++ (putL t.length ++ (t ++ l)), p, .fine⟩ = if m < t.length then ([], ⟨a ++ (putL t.length ++ (t ++ l)), p, .placed 4 p⟩) else (t, ⟨a ++ (putL t.length ++ (t ++ l)), p + (putL t.length).length + t.length, .fine⟩) := by
  unfold bytes
  rw [show (max (m : Int) 0).toNat = m by omega, num_put m t.length (t ++ l) p a (by unfold U64; omega) hp]
  by_cases h : m < t.length
  · rw [if_pos h, if_pos h]
    simp only
    rw [if_pos (by simp)]
  · rw [if_neg h, if_neg h]
    simp only
    rw [if_neg (by simp)]
    have hl : (⟨a ++ (putL t.length ++ (t ++ l)), p + (putL t.length).length, .fine⟩ : Rs).left = t ++ l := by
      unfold Rs.left; subst hp; simp [← List.drop_drop]
    rw [hl, if_neg (by simp)]
    simp [Rs.on]

/-- Cut off a text ends too early. -/
theorem bytes_cut (m : Nat) (t : List UInt8) (k : Nat) (hm : t.length ≤ m) (ht : t.length < 2 ^ 60) (hk : k < (putL t.length ++ t).length) :
    bytes m (rs0 ((putL t.length ++ t).take k)) = ([], ⟨(putL t.length ++ t).take k, 0, .bare 0⟩) := by
  have hu : U64 t.length := by unfold U64; omega
  by_cases h : k < (putL t.length).length
  · unfold bytes
    have hn : num m (rs0 ((putL t.length ++ t).take k)) = (0, ⟨(putL t.length ++ t).take k, 0, .bare 0⟩) := by
      unfold num rs0
      rw [if_neg (by simp)]
      have hl : (⟨(putL t.length ++ t).take k, 0, .fine⟩ : Rs).left = (putL t.length).take k := by
        unfold Rs.left
        rw [List.take_append_of_le_length (by omega)]; simp
      rw [hl, get_cut t.length k hu h]
      rfl
    rw [show (max (m : Int) 0).toNat = m by omega, hn]
    simp
  · obtain ⟨j, rfl⟩ : ∃ j, k = (putL t.length).length + j := ⟨k - (putL t.length).length, by omega⟩
    rw [List.take_append, List.take_of_length_le (by omega), show (putL t.length).length + j - (putL t.length).length = j by omega]
    have hj : j < t.length := by rw [List.length_append] at hk; omega
    unfold bytes
    have hn := num_put m t.length (t.take j) 0 [] hu rfl
    rw [List.nil_append, if_neg (by omega)] at hn
    rw [show (max (m : Int) 0).toNat = m by omega]
    unfold rs0
    rw [hn]
    simp only
    rw [if_neg (by simp)]
    have hl : (⟨putL t.length ++ t.take j, 0 + (putL t.length).length, .fine⟩ : Rs).left = t.take j := by
      unfold Rs.left; simp
    rw [hl, if_pos (by rw [List.length_take]; omega)]
    rfl

end Go.Proofs.YtdlcpcpcojpecaaDoor.Vint

/-! Plain facts on lineages: pairs of an epoch and the offset at which it begins. No program in sight. -/
namespace Go.Proofs.YtdlcpcpcojpecaaDoor.Epo

structure Pr where
  ep : Int
  st : Int
deriving DecidableEq

def right (p : Pr) : Bool := decide (0 ≤ p.ep ∧ p.ep ≤ 1073741824 ∧ 0 ≤ p.st ∧ p.st ≤ 1099511627776)

/-- Do pairs rise? -/
def up : List Pr → Bool
  | a :: b :: l => decide (a.ep < b.ep ∧ a.st < b.st) && up (b :: l)
  | _ => true

/-- What is amiss with pairs: 0: nothing; 104: too many; 105: out of range; 103: not as they have to be. -/
def valid (l : List Pr) : Nat :=
  if 256 < l.length then 104
  else if l.all right = false then 105
  else if up l = false then 103
  else 0

theorem valid_iff (l : List Pr) : valid l = 0 ↔ l.length ≤ 256 ∧ l.all right = true ∧ up l = true := by
  unfold valid
  by_cases h1 : 256 < l.length
  · rw [if_pos h1]; constructor
    · intro h; cases h
    · intro h; omega
  · rw [if_neg h1]
    cases h2 : l.all right
    · simp
    · cases h3 : up l
      · simp
      · simp; omega

theorem up_next (l : List Pr) (h : up l = true) : ∀ i (h1 : i + 1 < l.length), l[i].ep < l[i + 1].ep ∧ l[i].st < l[i + 1].st := by
  induction l with
  | nil => intro i h1; simp at h1
  | cons a l ih =>
    intro i h1
    cases l with
    | nil => simp at h1
    | cons b l =>
      simp only [up, Bool.and_eq_true, decide_eq_true_eq] at h
      rcases i with _ | i
      · exact h.1
      · exact ih h.2 i (by simpa using h1)

theorem up_of_next (l : List Pr) (h : ∀ i (h1 : i + 1 < l.length), l[i].ep < l[i + 1].ep ∧ l[i].st < l[i + 1].st) : up l = true := by
  induction l with
  | nil => rfl
  | cons a l ih =>
    cases l with
    | nil => rfl
    | cons b l =>
      simp only [up, Bool.and_eq_true, decide_eq_true_eq]
      refine ⟨h 0 (by simp), ih fun i h1 => ?_⟩
      have := h (i + 1) (by simpa using h1)
      simpa using this

theorem up_lt (l : List Pr) (h : up l = true) (i j : Nat) (hij : i < j) (hj : j < l.length) : l[i].ep < l[j].ep ∧ l[i].st < l[j].st := by
  induction j with
  | zero => omega
  | succ j ih =>
    have hn := up_next l h j hj
    by_cases e : i = j
    · subst e; exact hn
    · have := ih (by omega) (by omega)
      omega

theorem up_inj (l : List Pr) (h : up l = true) (i j : Nat) (hi : i < l.length) (hj : j < l.length) (he : l[i].ep = l[j].ep) : i = j := by
  rcases Nat.lt_trichotomy i j with h1 | h1 | h1
  · have := up_lt l h i j h1 hj; omega
  · exact h1
  · have := up_lt l h j i h1 hi; omega

/-- The last one of the first i whose number is at most n; -1: none. -/
def lastK (f : Pr → Int) (n : Int) (l : List Pr) : Nat → Int
  | 0 => -1
  | i + 1 => match l[i]? with
    | some p => if f p ≤ n then (i : Int) else lastK f n l i
    | none => lastK f n l i

theorem lastK_bd (f : Pr → Int) (n : Int) (l : List Pr) (i : Nat) : -1 ≤ lastK f n l i ∧ lastK f n l i < i := by
  induction i with
  | zero => simp [lastK]
  | succ i ih =>
    unfold lastK
    split
    · split <;> omega
    · omega

theorem lastK_at (f : Pr → Int) (n : Int) (l : List Pr) (i : Nat) (hi : i ≤ l.length) (k : Nat) (h : lastK f n l i = k) : ∃ (hk : k < l.length), k < i ∧ f l[k] ≤ n := by
  induction i with
  | zero => simp [lastK] at h
  | succ i ih =>
    unfold lastK at h
    rw [List.getElem?_eq_getElem (by omega)] at h
    simp only at h
    split at h
    · rename_i hf
      have : k = i := by omega
      subst this
      exact ⟨by omega, by omega, hf⟩
    · obtain ⟨h1, h2, h3⟩ := ih (by omega) h
      exact ⟨h1, by omega, h3⟩

theorem lastK_max (f : Pr → Int) (n : Int) (l : List Pr) (i : Nat) (j : Nat) (hj : j < i) (hl : j < l.length) (h : f l[j] ≤ n) : (j : Int) ≤ lastK f n l i := by
  induction i with
  | zero => omega
  | succ i ih =>
    unfold lastK
    by_cases e : j = i
    · subst e
      rw [List.getElem?_eq_getElem hl]
      simp [h]
    · have := ih (by omega)
      split
      · split
        · omega
        · exact this
      · exact this

/-- Where a number is one of rising numbers it is its own last one. -/
theorem lastK_self (l : List Pr) (h : up l = true) (i : Nat) (hi : i < l.length) : lastK (·.ep) l[i].ep l l.length = i := by
  have h1 := lastK_max (·.ep) l[i].ep l l.length i hi hi (Int.le_refl _)
  have hb := lastK_bd (·.ep) l[i].ep l l.length
  obtain ⟨k, hk⟩ : ∃ k : Nat, lastK (·.ep) l[i].ep l l.length = k := ⟨(lastK (·.ep) l[i].ep l l.length).toNat, by omega⟩
  obtain ⟨h2, _, h3⟩ := lastK_at _ _ _ _ (Nat.le_refl _) k hk
  rw [hk] at h1 ⊢
  by_cases e : k = i
  · rw [e]
  · have := up_lt l h i k (by omega) h2
    omega

/-! ### Spans -/

/-- Where the first pair of a lineage ends, within a part that ends at t. -/
def ends (t : Int) : List Pr → Int
  | [] => t
  | q :: _ => min t q.st

/-- The pairs that have offsets of a part. -/
def span (f t : Int) : List Pr → List Pr
  | [] => []
  | p :: l => if max p.st f < ends t l then ⟨p.ep, max p.st f⟩ :: span f t l else span f t l

theorem up_tail {p : Pr} {l : List Pr} (h : up (p :: l) = true) : up l = true := by
  cases l with
  | nil => rfl
  | cons q l => simp only [up, Bool.and_eq_true] at h; exact h.2

theorem up_head {p : Pr} {l : List Pr} (h : up (p :: l) = true) : ∀ q ∈ l, p.ep < q.ep ∧ p.st < q.st := by
  intro q hq
  obtain ⟨i, hi, rfl⟩ := List.getElem_of_mem hq
  have := up_lt (p :: l) h 0 (i + 1) (by omega) (by simpa using hi)
  simpa using this

/-- From beyond its end on nothing of a part is there. -/
theorem span_beyond (f t : Int) (l : List Pr) (h : ∀ q ∈ l, t ≤ q.st) : span f t l = [] := by
  induction l with
  | nil => rfl
  | cons p l ih =>
    unfold span
    have h1 := h p (List.mem_cons_self)
    have h2 : ends t l ≤ t := by cases l <;> simp [ends]; omega
    rw [if_neg (by omega)]
    exact ih fun q hq => h q (List.mem_cons_of_mem _ hq)

/-- Where all begin at a place or behind it, it does not matter which lesser place a part begins at. -/
theorem span_from (f g t : Int) (l : List Pr) (hf : ∀ q ∈ l, f ≤ q.st) (hg : ∀ q ∈ l, g ≤ q.st) : span f t l = span g t l := by
  induction l with
  | nil => rfl
  | cons p l ih =>
    unfold span
    have h1 := hf p (List.mem_cons_self)
    have h2 := hg p (List.mem_cons_self)
    rw [show max p.st f = p.st by omega, show max p.st g = p.st by omega, ih (fun q hq => hf q (List.mem_cons_of_mem _ hq)) (fun q hq => hg q (List.mem_cons_of_mem _ hq))]

theorem span_mem_ep (f t : Int) (l : List Pr) : ∀ q ∈ span f t l, ∃ p ∈ l, q.ep = p.ep ∧ q.st = max p.st f := by
  induction l with
  | nil => intro q hq; simp [span] at hq
  | cons p l ih =>
    intro q hq
    unfold span at hq
    split at hq
    · rcases List.mem_cons.1 hq with rfl | hq
      · exact ⟨p, List.mem_cons_self, rfl, rfl⟩
      · obtain ⟨r, hr, h⟩ := ih q hq
        exact ⟨r, List.mem_cons_of_mem _ hr, h⟩
    · obtain ⟨r, hr, h⟩ := ih q hq
      exact ⟨r, List.mem_cons_of_mem _ hr, h⟩

/-- Two spans that meet are one span. -/
theorem span_meet (f m t : Int) (hfm : f < m) (hmt : m < t) (l : List Pr) (h : up l = true) :
    ∃ b, span f m l ++ b = span f t l ∧
      (span m t l = b ∧ (∀ x y, (span f m l).getLast? = some x → b.head? = some y → x.ep ≠ y.ep) ∨
       ∃ x y, (span f m l).getLast? = some x ∧ span m t l = y :: b ∧ x.ep = y.ep) := by
  induction l with
  | nil => exact ⟨[], rfl, .inl ⟨rfl, by simp [span]⟩⟩
  | cons p l ih =>
    have hl := up_tail h
    have hh := up_head h
    by_cases h1 : m ≤ p.st
    · -- all from m on
      have ha : span f m (p :: l) = [] := span_beyond f m _ (fun q hq => by
        rcases List.mem_cons.1 hq with rfl | hq
        · exact h1
        · have := hh q hq; omega)
      have hb : span f t (p :: l) = span m t (p :: l) := span_from f m t _ (fun q hq => by
        rcases List.mem_cons.1 hq with rfl | hq
        · omega
        · have := hh q hq; omega) (fun q hq => by
        rcases List.mem_cons.1 hq with rfl | hq
        · exact h1
        · have := hh q hq; omega)
      exact ⟨span m t (p :: l), by rw [ha, hb]; rfl, .inl ⟨rfl, by rw [ha]; simp⟩⟩
    · cases l with
      | nil =>
        -- the last one goes on behind m
        have e1 : ∀ f t : Int, max p.st f < t → span f t [p] = [⟨p.ep, max p.st f⟩] := fun f t h => by
          unfold span
          rw [if_pos (show max p.st f < ends t [] from h)]
          rfl
        refine ⟨[], ?_, .inr ⟨⟨p.ep, max p.st f⟩, ⟨p.ep, m⟩, ?_, ?_, rfl⟩⟩
        · rw [e1 f m (by omega), e1 f t (by omega)]; rfl
        · rw [e1 f m (by omega)]; rfl
        · rw [e1 m t (by omega), show max p.st m = m by omega]
      | cons q l =>
        have hpq := hh q (List.mem_cons_self)
        by_cases h2 : q.st ≤ m
        · -- it ends ahead of m
          obtain ⟨b, e1, e2⟩ := ih hl
          have eb : span m t (p :: q :: l) = span m t (q :: l) := by
            conv => lhs; unfold span
            rw [if_neg (by simp only [ends]; omega)]
          by_cases h3 : max p.st f < q.st
          · have ea : span f m (p :: q :: l) = ⟨p.ep, max p.st f⟩ :: span f m (q :: l) := by
              conv => lhs; unfold span
              rw [if_pos (by simp only [ends]; omega)]
            have ec : span f t (p :: q :: l) = ⟨p.ep, max p.st f⟩ :: span f t (q :: l) := by
              conv => lhs; unfold span
              rw [if_pos (by simp only [ends]; omega)]
            refine ⟨b, by rw [ea, ec, ← e1]; rfl, ?_⟩
            rcases e2 with ⟨e2, e3⟩ | ⟨x, y, e2, e3, e4⟩
            · refine .inl ⟨by rw [eb, e2], fun x y hx hy => ?_⟩
              rw [ea] at hx
              cases hn : span f m (q :: l) with
              | nil =>
                rw [hn] at hx
                simp at hx
                subst hx
                have hyb : y ∈ b := List.mem_of_head? hy
                rw [← e2] at hyb
                obtain ⟨r, hr, h4, _⟩ := span_mem_ep m t (q :: l) y hyb
                have := hh r hr
                simp only
                omega
              | cons z zs =>
                rw [hn] at hx
                rw [List.getLast?_cons_cons] at hx
                exact e3 x y (by rw [hn]; exact hx) hy
            · refine .inr ⟨x, y, ?_, by rw [eb, e3], e4⟩
              rw [ea]
              cases hn : span f m (q :: l) with
              | nil => rw [hn] at e2; simp at e2
              | cons z zs => rw [List.getLast?_cons_cons, ← hn]; exact e2
          · have ea : span f m (p :: q :: l) = span f m (q :: l) := by
              conv => lhs; unfold span
              rw [if_neg (by simp only [ends]; omega)]
            have ec : span f t (p :: q :: l) = span f t (q :: l) := by
              conv => lhs; unfold span
              rw [if_neg (by simp only [ends]; omega)]
            rw [ea, ec, eb]
            exact ⟨b, e1, e2⟩
        · -- m lies within it
          have hq : ∀ r ∈ q :: l, m ≤ r.st := fun r hr => by
            rcases List.mem_cons.1 hr with rfl | hr
            · omega
            · have := up_head hl r hr; omega
          have ea : span f m (p :: q :: l) = [⟨p.ep, max p.st f⟩] := by
            conv => lhs; unfold span
            rw [if_pos (by simp only [ends]; omega), span_beyond f m _ hq]
          have eb : span m t (p :: q :: l) = ⟨p.ep, m⟩ :: span m t (q :: l) := by
            conv => lhs; unfold span
            rw [show max p.st m = m by omega, if_pos (by simp only [ends]; omega)]
          have ec : span f t (p :: q :: l) = ⟨p.ep, max p.st f⟩ :: span f t (q :: l) := by
            conv => lhs; unfold span
            rw [if_pos (by simp only [ends]; omega)]
          refine ⟨span m t (q :: l), ?_, .inr ⟨⟨p.ep, max p.st f⟩, ⟨p.ep, m⟩, by rw [ea]; rfl, eb, rfl⟩⟩
          rw [ea, ec, span_from f m t _ (fun r hr => by have := hq r hr; omega) hq]
          rfl

end Go.Proofs.YtdlcpcpcojpecaaDoor.Epo

/-! Plain: a lineage as bytes, and back. No program in sight. -/
namespace Go.Proofs.YtdlcpcpcojpecaaDoor.Epo
open Vint

/-- A pair's bytes. -/
def pairL (p : Pr) : List UInt8 := putL p.ep.toNat ++ putL p.st.toNat
/-- A lineage's bytes. -/
def pairsL (l : List Pr) : List UInt8 := putL l.length ++ l.flatMap pairL

/-- One pair is read. -/
def readOne (s : Rs) : Pr × Rs := (⟨((num 1073741824 s).1 : Nat), ((num 1099511627776 (num 1073741824 s).2).1 : Nat)⟩, (num 1099511627776 (num 1073741824 s).2).2)
/-- So many pairs are read, till something is amiss. -/
def readLoop : Nat → Rs → List Pr → List Pr × Rs
  | 0, s, l => (l, s)
  | n + 1, s, l => if s.bad = .fine then readLoop n (readOne s).2 (l ++ [(readOne s).1]) else (l, s)
/-- A lineage of bytes, or what is amiss. -/
def readPairs (b : List UInt8) : Er × List Pr :=
  let q := readLoop (num 256 (rs0 b)).1 (num 256 (rs0 b)).2 []
  if q.2.bad ≠ .fine then (q.2.bad, [])
  else if 0 < q.2.left.length then (.placed 3 q.2.pos, [])
  else if valid q.1 ≠ 0 then (.bare (valid q.1 - 101), [])
  else (.fine, q.1)

theorem readLoop_bad (n : Nat) (s : Rs) (l : List Pr) (h : s.bad ≠ .fine) : readLoop n s l = (l, s) := by
  cases n with
  | zero => rfl
  | succ n => unfold readLoop; rw [if_neg h]

theorem readLoop_put (l2 : List Pr) : ∀ (l1 : List Pr) (a b : List UInt8) (p : Nat), a.length = p → (l2.all right = true) →
    readLoop l2.length ⟨a ++ (l2.flatMap pairL ++ b), p, .fine⟩ l1 = (l1 ++ l2, ⟨a ++ (l2.flatMap pairL ++ b), p + (l2.flatMap pairL).length, .fine⟩) := by
  induction l2 with
  | nil => intro l1 a b p _ _; simp [readLoop]
  | cons q l2 ih =>
    intro l1 a b p ha hr
    simp only [List.all_cons, Bool.and_eq_true] at hr
    obtain ⟨hq, hr⟩ := hr
    unfold right at hq
    rw [decide_eq_true_eq] at hq
    have e1 : a ++ ((q :: l2).flatMap pairL ++ b) = a ++ (putL q.ep.toNat ++ (putL q.st.toNat ++ (l2.flatMap pairL ++ b))) := by
      simp [pairL, List.flatMap_cons]
    have h1 := num_put 1073741824 q.ep.toNat (putL q.st.toNat ++ (l2.flatMap pairL ++ b)) p a (by unfold U64; omega) ha
    rw [if_neg (by omega)] at h1
    have e2 : a ++ (putL q.ep.toNat ++ (putL q.st.toNat ++ (l2.flatMap pairL ++ b))) = (a ++ putL q.ep.toNat) ++ (putL q.st.toNat ++ (l2.flatMap pairL ++ b)) := by simp
    have h2 := num_put 1099511627776 q.st.toNat (l2.flatMap pairL ++ b) (p + (putL q.ep.toNat).length) (a ++ putL q.ep.toNat) (by unfold U64; omega) (by simp [ha])
    rw [if_neg (by omega)] at h2
    have h3 : readOne ⟨a ++ ((q :: l2).flatMap pairL ++ b), p, .fine⟩ = (q, ⟨(a ++ putL q.ep.toNat ++ putL q.st.toNat) ++ (l2.flatMap pairL ++ b), p + (putL q.ep.toNat).length + (putL q.st.toNat).length, .fine⟩) := by
      unfold readOne
      rw [e1, h1]
      simp only
      rw [e2, h2]
      simp only
      refine Prod.ext ?_ ?_
      · cases q; simp only at hq ⊢; congr 1 <;> omega
      · simp
    rw [List.length_cons]
    unfold readLoop
    rw [if_pos rfl, h3]
    simp only
    rw [ih (l1 ++ [q]) _ b _ (by simp [ha]; omega) hr]
    refine Prod.ext (by simp) ?_
    simp only
    rw [e1]
    have e3 : (List.flatMap pairL (q :: l2)).length = (putL q.ep.toNat).length + (putL q.st.toNat).length + (l2.flatMap pairL).length := by simp [pairL, List.flatMap_cons]; omega
    rw [e3]
    simp [Nat.add_assoc]

/-- What was laid is read back. -/
theorem readPairs_put (l : List Pr) (h : valid l = 0) : readPairs (pairsL l) = (.fine, l) := by
  obtain ⟨h1, h2, h3⟩ := (valid_iff l).1 h
  unfold readPairs pairsL
  have hn := num_put 256 l.length (l.flatMap pairL) 0 [] (by unfold U64; omega) rfl
  rw [if_neg (by omega), List.nil_append] at hn
  unfold rs0
  rw [hn]
  simp only
  have hl := readLoop_put l [] (putL l.length) [] (0 + (putL l.length).length) (by omega) h2
  rw [List.append_nil] at hl
  rw [hl]
  simp only [List.nil_append]
  rw [if_neg (by simp), if_neg (by rw [left_length]; simp), if_neg (by simp [h])]

/-- Bytes that are read as a number are that number's. -/
theorem getL_take (l : List UInt8) : ∀ (i n m k : Nat), i ≤ 9 → n < 2 ^ (7 * i) → getL i n l = .ok m k → ∃ u, m = n + u * 2 ^ (7 * i) ∧ l.take (k - i) = putL u ∧ (0 < i → 0 < u) := by
  induction l with
  | nil => intro i n m k _ _ h; simp [getL] at h
  | cons c l ih =>
    intro i n m k hi hn h
    have hk := getL_ok (c :: l) i n m k hi hn h
    simp only [getL] at h
    have hb := add_lt_pow i n c.toNat hn
    have hc := c.toNat_lt
    by_cases h9 : i = 9 ∧ 1 < c.toNat
    · rw [if_pos h9] at h; cases h
    · rw [if_neg h9] at h
      by_cases h128 : 128 ≤ c.toNat
      · rw [if_pos h128] at h
        have hi9 : i ≠ 9 := fun e => h9 ⟨e, by omega⟩
        obtain ⟨u, h1, h2, h3⟩ := ih (i + 1) _ m k (by omega) hb h
        have hu := h3 (by omega)
        have hk2 := getL_ok l (i + 1) _ m k (by omega) hb h
        refine ⟨c.toNat % 128 + 128 * u, ?_, ?_, fun _ => by omega⟩
        · rw [h1, pow7, Nat.add_mul, Nat.add_assoc]
          congr 2
          rw [← Nat.mul_assoc, Nat.mul_comm u 128]
        · rw [putL_high (by omega), show k - i = (k - (i + 1)) + 1 by omega, List.take_succ_cons, h2]
          have e1 : (c.toNat % 128 + 128 * u) / 128 = u := by omega
          have e2 : (c.toNat % 128 + 128 * u) % 128 + 128 = c.toNat := by omega
          rw [e1, e2]
          congr 1
          apply UInt8.toNat_inj.1
          rw [UInt8.toNat_ofNat']; omega
      · rw [if_neg h128] at h
        by_cases h0 : 0 < i ∧ c.toNat = 0
        · rw [if_pos h0] at h; cases h
        · rw [if_neg h0] at h
          simp only [GR.ok.injEq] at h
          obtain ⟨rfl, rfl⟩ := h
          refine ⟨c.toNat, by rw [Nat.mod_eq_of_lt (by omega)], ?_, fun hi => by omega⟩
          rw [putL_low (by omega), show i + 1 - i = 0 + 1 by omega, List.take_succ_cons, List.take_zero]
          congr 1
          apply UInt8.toNat_inj.1
          rw [UInt8.toNat_ofNat']; omega

theorem get_take {l : List UInt8} {m k : Nat} (h : getL 0 0 l = .ok m k) : l = putL m ++ l.drop k := by
  obtain ⟨u, h1, h2, _⟩ := getL_take l 0 0 m k (by omega) (by simp) h
  have : m = u := by simpa using h1
  subst this
  rw [Nat.sub_zero] at h2
  rw [← h2, List.take_append_drop]

/-- A number that was read stands there. -/
theorem num_left {most : Nat} {s : Rs} (hb : s.bad = .fine) (hb2 : (num most s).2.bad = .fine) : s.left = putL (num most s).1 ++ (num most s).2.left ∧ (num most s).2.l = s.l := by
  unfold num at *
  rw [if_neg (fun e => e hb)] at *
  cases hg : getL 0 0 s.left with
  | ok n k =>
    rw [hg] at hb2
    simp only at hb2 ⊢
    by_cases h : most < n
    · rw [if_pos h] at hb2; simp [Rs.fail] at hb2
    · rw [if_neg h]
      refine ⟨?_, rfl⟩
      have := get_take hg
      simp only
      unfold Rs.left Rs.on at *
      rw [List.drop_drop] at this
      exact this
  | fin => rw [hg] at hb2; simp [Rs.fail] at hb2
  | shape => rw [hg] at hb2; simp [Rs.fail] at hb2

theorem num_stay {most : Nat} {s : Rs} (hb : s.bad ≠ .fine) : num most s = (0, s) := by unfold num; rw [if_pos hb]
theorem num_fine {most : Nat} {s : Rs} (h : (num most s).2.bad = .fine) : s.bad = .fine := by
  by_cases hb : s.bad = .fine
  · exact hb
  · rw [num_stay hb] at h; exact absurd h hb

theorem readOne_left {s : Rs} (hb2 : (readOne s).2.bad = .fine) : s.left = pairL (readOne s).1 ++ (readOne s).2.left := by
  unfold readOne at *
  simp only at hb2 ⊢
  have h1 := num_fine hb2
  have h0 := num_fine h1
  have e1 := (num_left h0 h1).1
  have e2 := (num_left h1 hb2).1
  unfold pairL
  simp only [Int.toNat_natCast]
  rw [List.append_assoc, ← e2, ← e1]

theorem readLoop_fine (n : Nat) : ∀ (s : Rs) (l : List Pr), (readLoop n s l).2.bad = .fine → s.bad = .fine := by
  induction n with
  | zero => intro s l h; exact h
  | succ n ih =>
    intro s l h
    by_cases hb : s.bad = .fine
    · exact hb
    · rw [readLoop_bad _ _ _ hb] at h; exact h

theorem readLoop_left (n : Nat) : ∀ (s : Rs) (l : List Pr), (readLoop n s l).2.bad = .fine →
    ∃ l2, (readLoop n s l).1 = l ++ l2 ∧ l2.length = n ∧ s.left = l2.flatMap pairL ++ (readLoop n s l).2.left := by
  induction n with
  | zero => intro s l _; exact ⟨[], by simp [readLoop], rfl, by simp [readLoop]⟩
  | succ n ih =>
    intro s l h
    have hb := readLoop_fine _ _ _ h
    have e : readLoop (n + 1) s l = readLoop n (readOne s).2 (l ++ [(readOne s).1]) := by
      conv => lhs; unfold readLoop
      rw [if_pos hb]
    rw [e] at h ⊢
    obtain ⟨l2, h1, h2, h3⟩ := ih _ _ h
    have h4 := readLoop_fine _ _ _ h
    refine ⟨(readOne s).1 :: l2, by rw [h1]; simp, by simp [h2], ?_⟩
    rw [List.flatMap_cons, List.append_assoc, ← h3, ← readOne_left h4]

/-- What is read as a lineage is just those bytes. -/
theorem readPairs_back (b : List UInt8) (l : List Pr) (h : readPairs b = (.fine, l)) : pairsL l = b ∧ valid l = 0 := by
  unfold readPairs at h
  simp only at h
  split at h
  · rename_i hb
    simp only [Prod.mk.injEq] at h
    exact absurd h.1 hb
  · rename_i hb
    split at h
    · simp at h
    · rename_i hl
      split at h
      · simp at h
      · rename_i hv
        simp only [Prod.mk.injEq, true_and] at h
        have hb' : (readLoop (num 256 (rs0 b)).1 (num 256 (rs0 b)).2 []).2.bad = .fine := Classical.byContradiction hb
        obtain ⟨l2, h1, h2, h3⟩ := readLoop_left _ _ _ hb'
        rw [List.nil_append] at h1
        have h4 := readLoop_fine _ _ _ hb'
        have h5 := (num_left (rfl : (rs0 b).bad = .fine) h4).1
        have hz : (readLoop (num 256 (rs0 b)).1 (num 256 (rs0 b)).2 []).2.left = [] := List.eq_nil_of_length_eq_zero (by omega)
        rw [hz, List.append_nil] at h3
        rw [h1] at h hv
        subst h
        refine ⟨?_, Classical.byContradiction hv⟩
        unfold pairsL
        rw [h2, ← h3, ← h5]
        simp [Rs.left, rs0]

theorem readOne_right (s : Rs) : right (readOne s).1 = true := by
  unfold right readOne
  rw [decide_eq_true_eq]
  have h1 := (num_val (s := s) 1073741824).1
  have h2 := (num_val (s := (num 1073741824 s).2) 1099511627776).1
  simp only
  omega
end Go.Proofs.YtdlcpcpcojpecaaDoor.Epo

/-! Plain facts on marks. No program in sight. -/
namespace Go.Proofs.YtdlcpcpcojpecaaDoor.Idx

structure Mk where
  off : Int
  time : Int
  pos : Int
deriving DecidableEq

def minT : Int := -9223372036854775808

/-- An index: its step; its marks; all that was added (offset, place); the greatest time so far. -/
structure Ix where
  every : Int
  marks : List Mk
  adds : List (Int × Int)
  time : Int

def right (m : Mk) : Bool := decide (0 ≤ m.off ∧ m.off ≤ 1099511627776 ∧ -1099511627776 ≤ m.time ∧ m.time ≤ 1099511627776 ∧ 0 ≤ m.pos ∧ m.pos ≤ 1073741824)

/-- May it be added? -/
def may (x : Ix) (m : Mk) (size : Int) : Bool :=
  right m && decide (1 ≤ size) && match x.adds.getLast? with
    | some a => decide (a.1 < m.off ∧ a.2 < m.pos)
    | none => true

def marked (x : Ix) (pos : Int) : Bool := match x.marks.getLast? with
  | some k => decide (x.every ≤ pos - k.pos)
  | none => true

/-- What it is behind it. -/
def add (x : Ix) (m : Mk) : Ix :=
  { x with
    adds := x.adds ++ [(m.off, m.pos)]
    time := max x.time m.time
    marks := if marked x m.pos then x.marks ++ [{ m with time := max x.time m.time }] else x.marks }

def find (x : Ix) (off : Int) : Int := x.marks.foldl (fun p m => if m.off ≤ off then m.pos else p) 0
def when (x : Ix) (t : Int) : Option Int := (x.marks.find? fun m => decide (t ≤ m.time)).map (·.off)
def cut (x : Ix) (pos : Int) : Ix :=
  let ms := x.marks.filter fun m => decide (m.pos < pos)
  { x with marks := ms, adds := x.adds.filter (fun a => decide (a.2 < pos)), time := (ms.getLast?.map (·.time)).getD minT }
def new (every : Int) : Ix := ⟨every, [], [], minT⟩

theorem find_none (x : Ix) (off : Int) (h : ∀ m ∈ x.marks, off < m.off) : find x off = 0 := by
  unfold find
  have : ∀ (l : List Mk) (p : Int), (∀ m ∈ l, off < m.off) → l.foldl (fun p m => if m.off ≤ off then m.pos else p) p = p := by
    intro l
    induction l with
    | nil => intro p _; rfl
    | cons m l ih =>
      intro p h
      simp only [List.foldl_cons]
      rw [if_neg (by have := h m (List.mem_cons_self); omega)]
      exact ih p (fun y hy => h y (List.mem_cons_of_mem _ hy))
  exact this _ _ h

theorem find_snoc (x : Ix) (m : Mk) (off : Int) : find { x with marks := x.marks ++ [m] } off = if m.off ≤ off then m.pos else find x off := by
  simp [find, List.foldl_append]

/-! ### Batches that follow one another: number i at offset c * i, time t i, place p i -/

/-- The first n batches added. -/
def built (every c : Int) (t p : Nat → Int) : Nat → Ix
  | 0 => new every
  | n + 1 => add (built every c t p n) ⟨c * n, t n, p n⟩

section
variable (every c : Int) (t p : Nat → Int)

theorem built_every (n : Nat) : (built every c t p n).every = every := by
  induction n with
  | zero => rfl
  | succ n ih => exact ih

theorem built_adds (n : Nat) : (built every c t p n).adds = (List.range n).map fun (i : Nat) => (c * (i : Int), p i) := by
  induction n with
  | zero => rfl
  | succ n ih => rw [List.range_succ, List.map_append]; simp only [built, add, ih]; rfl

/-- The greatest of the first times. -/
def top (t : Nat → Int) : Nat → Int
  | 0 => minT
  | n + 1 => max (top t n) (t n)

theorem built_time (n : Nat) : (built every c t p n).time = top t n := by
  induction n with
  | zero => rfl
  | succ n ih => simp only [built, add, ih, top]

theorem top_mono (m n : Nat) (h : m ≤ n) : top t m ≤ top t n := by
  induction n with
  | zero => have : m = 0 := by omega
            subst this; exact Int.le_refl _
  | succ n ih =>
    by_cases e : m = n + 1
    · subst e; exact Int.le_refl _
    · have := ih (by omega); simp only [top]; omega

/-- Each mark is a batch's, with the greatest time up to it; marks rise. -/
theorem built_marks (n : Nat) : ∃ is : List Nat, (built every c t p n).marks = is.map (fun (i : Nat) => ⟨c * (i : Int), top t (i + 1), p i⟩) ∧ is.Pairwise (· < ·) ∧ (∀ i ∈ is, i < n) ∧
    (0 < n → 0 ∈ is) ∧ (∀ j, j < n → ∃ i ∈ is, i ≤ j ∧ (i = j ∨ p j - p i < every) ∧ ∀ k ∈ is, k ≤ j → k ≤ i) := by
  induction n with
  | zero => exact ⟨[], rfl, List.Pairwise.nil, by simp, by simp, fun j hj => by omega⟩
  | succ n ih =>
    obtain ⟨is, hm, hp, hl, h0, hj⟩ := ih
    have hlast : ∀ k ∈ is, k ≤ n := fun k hk => Nat.le_of_lt (hl k hk)
    by_cases hmk : marked (built every c t p n) (p n) = true
    · refine ⟨is ++ [n], ?_, ?_, ?_, ?_, ?_⟩
      · simp only [built, add]
        rw [if_pos hmk, hm, built_time]
        simp [top]
      · rw [List.pairwise_append]
        exact ⟨hp, List.pairwise_singleton _ _, fun a ha b hb => by simp at hb; subst hb; exact hl a ha⟩
      · intro i hi
        rcases List.mem_append.1 hi with h | h
        · have := hl i h; omega
        · simp at h; omega
      · intro _
        by_cases e : n = 0
        · subst e; simp
        · exact List.mem_append_left _ (h0 (by omega))
      · intro j hj'
        by_cases e : j = n
        · subst e; exact ⟨j, by simp, Nat.le_refl _, .inl rfl, fun k _ hk => hk⟩
        · obtain ⟨i, hi, h1, h2, h3⟩ := hj j (by omega)
          refine ⟨i, List.mem_append_left _ hi, h1, h2, fun k hk hkj => ?_⟩
          rcases List.mem_append.1 hk with h | h
          · exact h3 k h hkj
          · simp at h; omega
    · refine ⟨is, ?_, hp, fun i hi => by have := hl i hi; omega, ?_, ?_⟩
      · simp only [built, add]
        rw [if_neg hmk, hm]
      · intro _
        by_cases e : n = 0
        · subst e
          exfalso; apply hmk
          simp [marked, built, new]
        · exact h0 (by omega)
      · intro j hj'
        by_cases e : j = n
        · subst e
          -- the last mark
          have hne : is ≠ [] := by
            intro e0; subst e0
            apply hmk
            simp [marked, hm]
          obtain ⟨i, hi⟩ : ∃ i, is.getLast? = some i := by
            cases hq : is.getLast? with
            | none => exact absurd (List.getLast?_eq_none_iff.1 hq) hne
            | some i => exact ⟨i, rfl⟩
          have him := List.mem_of_getLast? hi
          refine ⟨i, him, hlast i him, .inr ?_, fun k hk _ => ?_⟩
          · unfold marked at hmk
            rw [hm, List.getLast?_map, hi, built_every] at hmk
            simp at hmk
            exact hmk
          · obtain ⟨xs, rfl⟩ := List.getLast?_eq_some_iff.1 hi
            rcases List.mem_append.1 hk with h | h
            · have := (List.pairwise_append.1 hp).2.2 k h i (by simp); omega
            · simp at h; omega
        · exact hj j (by omega)

end

theorem foldl_last (c off : Int) (t p : Nat → Int) : ∀ (is : List Nat) (q : Int), is.Pairwise (· < ·) → ∀ i ∈ is, c * (i : Int) ≤ off → (∀ k ∈ is, i < k → off < c * (k : Int)) →
    (is.map (fun (i : Nat) => (⟨c * (i : Int), top t (i + 1), p i⟩ : Mk))).foldl (fun q m => if m.off ≤ off then m.pos else q) q = p i := by
  intro is
  induction is with
  | nil => intro q _ i hi; simp at hi
  | cons a is ih =>
    intro q hp i hi hle hgt
    simp only [List.map_cons, List.foldl_cons]
    rw [List.pairwise_cons] at hp
    by_cases e : i = a
    · subst e
      rw [if_pos hle]
      have : ∀ (l : List Nat) (q : Int), (∀ k ∈ l, off < c * (k : Int)) → (l.map (fun (i : Nat) => (⟨c * (i : Int), top t (i + 1), p i⟩ : Mk))).foldl (fun q m => if m.off ≤ off then m.pos else q) q = q := by
        intro l
        induction l with
        | nil => intro q _; rfl
        | cons b l ihl =>
          intro q h
          simp only [List.map_cons, List.foldl_cons]
          rw [if_neg (by have := h b (List.mem_cons_self); omega)]
          exact ihl q (fun k hk => h k (List.mem_cons_of_mem _ hk))
      exact this is _ (fun k hk => hgt k (List.mem_cons_of_mem _ hk) (hp.1 k hk))
    · have hi' : i ∈ is := by
        rcases List.mem_cons.1 hi with h | h
        · exact absurd h e
        · exact h
      exact ih _ hp.2 i hi' hle (fun k hk hik => hgt k (List.mem_cons_of_mem _ hk) hik)

/-- What is found for batch k: the place of a batch that does not lie behind it, and less than a step ahead. -/
theorem built_find (every c : Int) (t p : Nat → Int) (n k : Nat) (hk : k < n) (hc : 0 < c) : ∃ i, i ≤ k ∧ find (built every c t p n) (c * (k : Int)) = p i ∧ (i = k ∨ p k - p i < every) := by
  obtain ⟨is, hm, hp, hl, h0, hj⟩ := built_marks every c t p n
  obtain ⟨i, hi, h1, h2, h3⟩ := hj k hk
  refine ⟨i, h1, ?_, h2⟩
  unfold find
  rw [hm]
  apply foldl_last c _ t p is 0 hp i hi
  · exact Int.mul_le_mul_of_nonneg_left (by omega) (by omega)
  · intro j hj' hij
    have : ¬ j ≤ k := fun h => by have := h3 j hj' h; omega
    exact Int.mul_lt_mul_of_pos_left (by omega) hc

/-- Marks' times never fall. -/
theorem built_times (every c : Int) (t p : Nat → Int) (n i j : Nat) (a b : Mk) (hij : i < j) (ha : (built every c t p n).marks[i]? = some a) (hb : (built every c t p n).marks[j]? = some b) : a.time ≤ b.time := by
  obtain ⟨is, hm, hp, _⟩ := built_marks every c t p n
  rw [hm, List.getElem?_map] at ha hb
  rw [Option.map_eq_some_iff] at ha hb
  obtain ⟨x, hx, rfl⟩ := ha
  obtain ⟨y, hy, rfl⟩ := hb
  obtain ⟨hi, rfl⟩ := List.getElem?_eq_some_iff.1 hx
  obtain ⟨hj, rfl⟩ := List.getElem?_eq_some_iff.1 hy
  have := List.pairwise_iff_getElem.1 hp i j hi hj hij
  exact top_mono t _ _ (by omega)

/-- Each batch is marked where the step is 1 and places rise. -/
theorem built_all (c : Int) (t p : Nat → Int) (hp : ∀ i j, i < j → p i < p j) (n : Nat) : (built 1 c t p n).marks = (List.range n).map (fun (i : Nat) => ⟨c * (i : Int), top t (i + 1), p i⟩) := by
  induction n with
  | zero => rfl
  | succ n ih =>
    have hmk : marked (built 1 c t p n) (p n) = true := by
      unfold marked
      rw [ih, List.getLast?_map]
      cases n with
      | zero => rfl
      | succ m =>
        rw [List.range_succ, List.getLast?_append]
        simp only [List.getLast?_singleton, Option.some_or, Option.map_some, built_every, decide_eq_true_eq]
        have := hp m (m + 1) (by omega)
        omega
    simp only [built, add]
    rw [if_pos hmk, ih, List.range_succ, List.map_append, built_time]
    rfl

/-! ### Cut at a place it is as if nothing had been behind -/

theorem built_cut (every c : Int) (t p : Nat → Int) (n k : Nat) (hk : k ≤ n) (q : Int) (hq : ∀ i, i < k → p i < q) (hq2 : ∀ i, k ≤ i → i < n → q ≤ p i) :
    (cut (built every c t p n) q).marks = (built every c t p k).marks := by
  induction n with
  | zero =>
    have : k = 0 := by omega
    subst this; rfl
  | succ n ih =>
    by_cases e : k = n + 1
    · subst e
      obtain ⟨is, hms, _, hl, _⟩ := built_marks every c t p (n + 1)
      show List.filter _ _ = _
      rw [List.filter_eq_self]
      intro m hm'
      rw [hms] at hm'
      obtain ⟨i, hi, rfl⟩ := List.mem_map.1 hm'
      simpa using hq i (hl i hi)
    · have hn := ih (by omega) (fun i h1 h2 => hq2 i h1 (by omega))
      rw [← hn]
      show List.filter _ (built every c t p (n + 1)).marks = List.filter _ (built every c t p n).marks
      simp only [built, add]
      split
      · rw [List.filter_append]
        have : ¬ p n < q := by have := hq2 n (by omega) (by omega); omega
        simp [this]
      · rfl

end Go.Proofs.YtdlcpcpcojpecaaDoor.Idx

/-! Plain: an index as bytes, and back. No program in sight. -/
namespace Go.Proofs.YtdlcpcpcojpecaaDoor.Idx
open Vint Epo

theorem fold_unfold (u : Nat) : fold (unfold' u) = u := by
  unfold unfold' fold
  split <;> split <;> omega

/-- A mark's bytes, behind another one. -/
def markL (p m : Mk) : List UInt8 := putL (m.off - p.off).toNat ++ putL (fold (m.time - p.time)) ++ putL (m.pos - p.pos).toNat
/-- The bytes of marks, behind one. -/
def marksL : Mk → List Mk → List UInt8
  | _, [] => []
  | p, m :: l => markL p m ++ marksL m l
def mk0 : Mk := ⟨0, 0, 0⟩
/-- An index's bytes, ahead of the sum. -/
def bodyL (every : Int) (l : List Mk) : List UInt8 := putL every.toNat ++ putL l.length ++ marksL mk0 l

/-- Do marks rise? -/
def rise : List Mk → Bool
  | a :: b :: l => decide (a.off < b.off ∧ a.pos < b.pos) && rise (b :: l)
  | _ => true

/-- One mark is read, behind another one. -/
def readMk (p : Mk) (s : Rs) : Mk × Rs :=
  (⟨p.off + (num 1099511627776 s).1, p.time + (int (-4398046511104) 4398046511104 (num 1099511627776 s).2).1, p.pos + (num 1073741824 (int (-4398046511104) 4398046511104 (num 1099511627776 s).2).2).1⟩,
   (num 1073741824 (int (-4398046511104) 4398046511104 (num 1099511627776 s).2).2).2)
/-- So many marks are read, till something is amiss. -/
def readMks : Nat → Mk → Rs → List Mk → List Mk × Rs
  | 0, _, s, l => (l, s)
  | n + 1, p, s, l => if s.bad = .fine then readMks n (readMk p s).1 (readMk p s).2 (l ++ [(readMk p s).1]) else (l, s)

/-- What is read out of the bytes ahead of the sum: what is amiss; the step; the marks. -/
def readIn (b : List UInt8) : Er × Int × List Mk :=
  let e := num 1048576 (rs0 b)
  let n := num 4096 e.2
  let q := readMks n.1 mk0 n.2 []
  if q.2.bad ≠ .fine then (q.2.bad, 0, [])
  else if 0 < q.2.left.length then (.placed 2 q.2.pos, 0, [])
  else if (q.1.all right && rise q.1) = false then (.bare 2, 0, [])
  else if e.1 = 0 then (.bare 4, 0, [])
  else (.fine, (e.1 : Int), q.1)

theorem readMks_bad (n : Nat) (p : Mk) (s : Rs) (l : List Mk) (h : s.bad ≠ .fine) : readMks n p s l = (l, s) := by
  cases n with
  | zero => rfl
  | succ n => unfold readMks; rw [if_neg h]
theorem readMks_go {n : Nat} {s : Rs} (p : Mk) (l : List Mk) (hb : s.bad = .fine) : readMks (n + 1) p s l = readMks n (readMk p s).1 (readMk p s).2 (l ++ [(readMk p s).1]) := by
  conv => lhs; unfold readMks
  rw [if_pos hb]

theorem rise_tail {a : Mk} {l : List Mk} (h : rise (a :: l) = true) : rise l = true := by
  cases l with
  | nil => rfl
  | cons b l => simp only [rise, Bool.and_eq_true] at h; exact h.2
theorem rise_head {a b : Mk} {l : List Mk} (h : rise (a :: b :: l) = true) : a.off < b.off ∧ a.pos < b.pos := by
  simp only [rise, Bool.and_eq_true, decide_eq_true_eq] at h; exact h.1

theorem int_left {a b : Int} {s : Rs} (hb : s.bad = .fine) (hb2 : (int a b s).2.bad = .fine) : s.left = putL (fold (int a b s).1) ++ (int a b s).2.left := by
  unfold int at *
  rw [if_neg (fun e => e hb)] at *
  cases hg : getL 0 0 s.left with
  | ok n k =>
    rw [hg] at hb2
    simp only at hb2 ⊢
    by_cases h : unfold' n < a ∨ b < unfold' n
    · rw [if_pos h] at hb2; simp [Rs.fail] at hb2
    · rw [if_neg h]
      have := get_take hg
      simp only [fold_unfold]
      unfold Rs.left Rs.on at *
      rw [List.drop_drop] at this
      exact this
  | fin => rw [hg] at hb2; simp [Rs.fail] at hb2
  | shape => rw [hg] at hb2; simp [Rs.fail] at hb2
theorem int_stay {a b : Int} {s : Rs} (hb : s.bad ≠ .fine) : int a b s = (0, s) := by unfold int; rw [if_pos hb]
theorem int_fine {a b : Int} {s : Rs} (h : (int a b s).2.bad = .fine) : s.bad = .fine := by
  by_cases hb : s.bad = .fine
  · exact hb
  · rw [int_stay hb] at h; exact absurd h hb

theorem readMk_left {p : Mk} {s : Rs} (hb2 : (readMk p s).2.bad = .fine) : s.left = markL p (readMk p s).1 ++ (readMk p s).2.left := by
  unfold readMk at *
  simp only at hb2 ⊢
  have h2 := num_fine hb2
  have h1 := int_fine h2
  have h0 := num_fine h1
  have e1 := (num_left h0 h1).1
  have e2 := int_left h1 h2
  have e3 := (num_left h2 hb2).1
  unfold markL
  have ad : ∀ a b : Int, a + b - a = b := fun a b => by omega
  simp only [ad, Int.toNat_natCast]
  rw [List.append_assoc, List.append_assoc, ← e3, ← e2, ← e1]

theorem readMks_fine (n : Nat) : ∀ (p : Mk) (s : Rs) (l : List Mk), (readMks n p s l).2.bad = .fine → s.bad = .fine := by
  induction n with
  | zero => intro p s l h; exact h
  | succ n ih =>
    intro p s l h
    by_cases hb : s.bad = .fine
    · exact hb
    · rw [readMks_bad _ _ _ _ hb] at h; exact h

theorem readMks_left (n : Nat) : ∀ (p : Mk) (s : Rs) (l : List Mk), (readMks n p s l).2.bad = .fine →
    ∃ l2, (readMks n p s l).1 = l ++ l2 ∧ l2.length = n ∧ s.left = marksL p l2 ++ (readMks n p s l).2.left := by
  induction n with
  | zero => intro p s l _; exact ⟨[], by simp [readMks], rfl, by simp [readMks, marksL]⟩
  | succ n ih =>
    intro p s l h
    have hb := readMks_fine _ _ _ _ h
    rw [readMks_go p l hb] at h ⊢
    obtain ⟨l2, h1, h2, h3⟩ := ih _ _ _ h
    have h4 := readMks_fine _ _ _ _ h
    refine ⟨(readMk p s).1 :: l2, by rw [h1]; simp, by simp [h2], ?_⟩
    rw [marksL, List.append_assoc, ← h3, ← readMk_left h4]

/-- What is read is just those bytes. -/
theorem readIn_back (b : List UInt8) (e : Int) (l : List Mk) (h : readIn b = (.fine, e, l)) : bodyL e l = b ∧ 1 ≤ e ∧ e ≤ 1048576 ∧ l.all right = true ∧ rise l = true ∧ l.length ≤ 4096 := by
  unfold readIn at h
  simp only at h
  split at h
  · rename_i hb
    simp only [Prod.mk.injEq] at h
    exact absurd h.1 hb
  · rename_i hb
    split at h
    · simp at h
    · rename_i hl
      split at h
      · simp at h
      · rename_i hv
        split at h
        · simp at h
        · rename_i he
          simp only [Prod.mk.injEq, true_and] at h
          obtain ⟨rfl, h⟩ := h
          have hb' := Classical.byContradiction hb
          obtain ⟨l2, h1, h2, h3⟩ := readMks_left _ _ _ _ hb'
          rw [List.nil_append] at h1
          have h4 := readMks_fine _ _ _ _ hb'
          have h4' := num_fine h4
          have h5 := (num_left h4' h4).1
          have h6 := (num_left (rfl : (rs0 b).bad = .fine) h4').1
          have hz := List.eq_nil_of_length_eq_zero (Nat.le_zero.1 (Nat.le_of_not_lt hl))
          rw [hz, List.append_nil] at h3
          rw [h1] at h hv
          subst h
          have v1 := (num_val (s := rs0 b) 1048576).1
          have v2 := (num_val (s := (num 1048576 (rs0 b)).2) 4096).1
          rw [Bool.not_eq_false, Bool.and_eq_true] at hv
          refine ⟨?_, by omega, by omega, hv.1, hv.2, by omega⟩
          unfold bodyL
          rw [h2, ← h3, List.append_assoc, Int.toNat_natCast, ← h5, ← h6]
          simp [Rs.left, rs0]

/-- Marks that were laid are read back. -/
theorem readMks_put (l2 : List Mk) : ∀ (q : Mk) (l1 : List Mk) (a b : List UInt8) (p : Nat), a.length = p → rise (q :: l2) = true ∨ (q = mk0 ∧ rise l2 = true) → right q = true → l2.all right = true →
    readMks l2.length q ⟨a ++ (marksL q l2 ++ b), p, .fine⟩ l1 = (l1 ++ l2, ⟨a ++ (marksL q l2 ++ b), p + (marksL q l2).length, .fine⟩) := by
  induction l2 with
  | nil => intro q l1 a b p _ _ _ _; simp [readMks, marksL]
  | cons m l2 ih =>
    intro q l1 a b p ha hri hq hr
    simp only [List.all_cons, Bool.and_eq_true] at hr
    obtain ⟨hm, hr⟩ := hr
    have hm' := hm
    unfold right at hq hm'
    rw [decide_eq_true_eq] at hq hm'
    have hup : q.off ≤ m.off ∧ q.pos ≤ m.pos := by
      rcases hri with h | ⟨rfl, _⟩
      · have := rise_head h; omega
      · simp only [mk0]; omega
    have hri2 : rise (m :: l2) = true := by
      rcases hri with h | ⟨_, h⟩
      · exact rise_tail h
      · exact h
    obtain ⟨x, hx⟩ : ∃ x : Nat, m.off - q.off = (x : Int) := ⟨(m.off - q.off).toNat, by omega⟩
    obtain ⟨y, hy⟩ : ∃ y, y = m.time - q.time := ⟨_, rfl⟩
    obtain ⟨z, hz⟩ : ∃ z : Nat, m.pos - q.pos = (z : Int) := ⟨(m.pos - q.pos).toNat, by omega⟩
    have e1 : a ++ (marksL q (m :: l2) ++ b) = a ++ (putL x ++ (putL (fold y) ++ (putL z ++ (marksL m l2 ++ b)))) := by
      simp [marksL, markL, hx, hz, hy]
    have h1 := num_put 1099511627776 x (putL (fold y) ++ (putL z ++ (marksL m l2 ++ b))) p a (by unfold U64; omega) ha
    rw [if_neg (by omega)] at h1
    have e2 : a ++ (putL x ++ (putL (fold y) ++ (putL z ++ (marksL m l2 ++ b)))) = (a ++ putL x) ++ (putL (fold y) ++ (putL z ++ (marksL m l2 ++ b))) := by simp
    have h2 := int_put (-4398046511104) 4398046511104 y (putL z ++ (marksL m l2 ++ b)) (p + (putL x).length) (a ++ putL x) ⟨by omega, by omega⟩ (by simp [ha])
    rw [if_neg (by omega)] at h2
    have e3 : (a ++ putL x) ++ (putL (fold y) ++ (putL z ++ (marksL m l2 ++ b))) = ((a ++ putL x) ++ putL (fold y)) ++ (putL z ++ (marksL m l2 ++ b)) := by simp
    have h3 := num_put 1073741824 z (marksL m l2 ++ b) (p + (putL x).length + (putL (fold y)).length) ((a ++ putL x) ++ putL (fold y)) (by unfold U64; omega) (by simp [ha]; omega)
    rw [if_neg (by omega)] at h3
    have h4 : readMk q ⟨a ++ (marksL q (m :: l2) ++ b), p, .fine⟩ = (m, ⟨(((a ++ putL x) ++ putL (fold y)) ++ putL z) ++ (marksL m l2 ++ b), p + (putL x).length + (putL (fold y)).length + (putL z).length, .fine⟩) := by
      unfold readMk
      rw [e1, h1]
      simp only
      rw [e2, h2]
      simp only
      rw [e3, h3]
      simp only
      refine Prod.ext ?_ ?_
      · cases m; simp only at hx hy hz ⊢; congr 1 <;> omega
      · simp
    rw [List.length_cons, readMks_go _ _ rfl, h4]
    simp only
    rw [ih m (l1 ++ [m]) _ b _ (by simp [ha]; omega) (.inl hri2) hm hr]
    refine Prod.ext (by simp) ?_
    simp only
    rw [e1]
    have e5 : (marksL q (m :: l2)).length = (putL x).length + (putL (fold y)).length + (putL z).length + (marksL m l2).length := by simp [marksL, markL, hx, hz, hy]; omega
    rw [e5]
    simp [Nat.add_assoc]

/-- What was laid is read back. -/
theorem readIn_put (e : Int) (l : List Mk) (he : 1 ≤ e) (he2 : e ≤ 1048576) (hr : l.all right = true) (hri : rise l = true) (hl : l.length ≤ 4096) : readIn (bodyL e l) = (.fine, e, l) := by
  unfold readIn bodyL
  have hn := num_put 1048576 e.toNat (putL l.length ++ marksL mk0 l) 0 [] (by unfold U64; omega) rfl
  rw [if_neg (by omega), List.nil_append] at hn
  unfold rs0
  rw [List.append_assoc, hn]
  simp only
  have hn2 := num_put 4096 l.length (marksL mk0 l) (0 + (putL e.toNat).length) (putL e.toNat) (by unfold U64; omega) (by omega)
  rw [if_neg (by omega)] at hn2
  rw [hn2]
  simp only
  have hm := readMks_put l mk0 [] (putL e.toNat ++ putL l.length) [] (0 + (putL e.toNat).length + (putL l.length).length) (by simp) (.inr ⟨rfl, hri⟩) (by decide) hr
  rw [List.append_nil, List.append_assoc] at hm
  rw [hm]
  simp only [List.nil_append]
  rw [if_neg (by simp), if_neg (by rw [left_length]; simp [Nat.add_assoc]), if_neg (by simp [hr, hri]), if_neg (by omega)]
  refine Prod.ext rfl (Prod.ext ?_ rfl)
  simp only
  omega
end Go.Proofs.YtdlcpcpcojpecaaDoor.Idx

/-! Plain: marks that rise, one more. No program in sight. -/
namespace Go.Proofs.YtdlcpcpcojpecaaDoor.Idx

theorem rise_snoc : ∀ (l : List Mk) (m : Mk), rise (l ++ [m]) = (rise l && (match l.getLast? with | some q => decide (q.off < m.off ∧ q.pos < m.pos) | none => true)) := by
  intro l m
  induction l with
  | nil => rfl
  | cons a l ih =>
    cases l with
    | nil => simp [rise]
    | cons b l =>
      simp only [List.cons_append, rise] at ih ⊢
      rw [ih, List.getLast?_cons_cons, Bool.and_assoc]

/-- A mark more: right, and behind the last. -/
theorem good_snoc (l : List Mk) (i : Nat) (hi : i < l.length) (h : ((l.take i).all right && rise (l.take i)) = true) :
    ((l.take (i + 1)).all right && rise (l.take (i + 1))) = (right l[i] && (if h0 : 0 < i then decide (l[i - 1].off < l[i].off ∧ l[i - 1].pos < l[i].pos) else true)) := by
  rw [Bool.and_eq_true] at h
  obtain ⟨h1, h2⟩ := h
  rw [List.take_succ_eq_append_getElem hi, List.all_append, h1, rise_snoc, h2]
  have hg : (l.take i).getLast? = if h0 : 0 < i then some l[i - 1] else none := by
    split
    · rename_i h0
      rw [List.getLast?_eq_getElem?, List.length_take, Nat.min_eq_left (by omega), List.getElem?_take_of_lt (by omega), List.getElem?_eq_getElem (by omega)]
    · obtain rfl : i = 0 := by omega
      rfl
  rw [hg]
  by_cases h0 : 0 < i
  · simp [h0]
  · simp [h0]

/-- Once one is amiss all are. -/
theorem good_take (l : List Mk) (i : Nat) (h : ((l.take i).all right && rise (l.take i)) = false) : (l.all right && rise l) = false := by
  cases hb : (l.all right && rise l) with
  | false => rfl
  | true =>
    rw [Bool.and_eq_true] at hb
    obtain ⟨h1, h2⟩ := hb
    have h3 : (l.take i).all right = true := by
      rw [List.all_eq_true] at h1 ⊢
      exact fun x hx => h1 x (List.mem_of_mem_take hx)
    have h4 : ∀ (l : List Mk), rise l = true → ∀ i, rise (l.take i) = true := by
      intro l
      induction l with
      | nil => intro _ i; simp [rise]
      | cons a l ih =>
        intro hr i
        cases i with
        | zero => rfl
        | succ i =>
          have := ih (rise_tail hr) i
          rw [List.take_succ_cons]
          cases l with
          | nil => simp [rise]
          | cons b l =>
            cases i with
            | zero => simp [rise]
            | succ i =>
              rw [List.take_succ_cons] at this ⊢
              simp only [rise, Bool.and_eq_true, decide_eq_true_eq]
              exact ⟨rise_head hr, this⟩
    rw [h3, h4 l h2 i] at h
    exact absurd h (by simp)
end Go.Proofs.YtdlcpcpcojpecaaDoor.Idx
