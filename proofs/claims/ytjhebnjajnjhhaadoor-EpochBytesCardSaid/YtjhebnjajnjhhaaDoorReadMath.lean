/- Plain: a reader of numbers, as chapter 2 has it. No program in sight. -/
import Derived.Test.YtjhebnjajnjhhaaDoorVintGet
import Derived.Test.YtjhebnjajnjhhaaDoorErs
namespace Go.Proofs.YtjhebnjajnjhhaaDoor.Vint

/-- A reader: its bytes, where it is, what was amiss. -/
structure Rs where
  l : List UInt8
  pos : Nat
  bad : Er

def rs0 (l : List UInt8) : Rs := ⟨l, 0, .fine⟩
def Rs.left (s : Rs) : List UInt8 := s.l.drop s.pos
def Rs.fail (s : Rs) (c : Nat) : Rs := { s with bad := if c = 0 then .bare 0 else .placed c s.pos }
def Rs.on (s : Rs) (k : Nat) : Rs := { s with pos := s.pos + k }

/-- A number that is at most 'most'. -/
def num (most : Nat) (s : Rs) : Nat × Rs :=
  if s.bad ≠ .fine then (0, s) else
  match getL 0 0 s.left with
  | .ok n k => if most < n then (0, s.fail 4) else (n, s.on k)
  | .fin => (0, s.fail 0)
  | .shape => (0, s.fail 2)

/-- A number with a sign, from one to another one. -/
def int (from' to' : Int) (s : Rs) : Int × Rs :=
  if s.bad ≠ .fine then (0, s) else
  match getL 0 0 s.left with
  | .ok n k => if unfold' n < from' ∨ to' < unfold' n then (0, s.fail 4) else (unfold' n, s.on k)
  | .fin => (0, s.fail 0)
  | .shape => (0, s.fail 2)

/-- How many bytes, and as many. -/
def bytes (most : Int) (s : Rs) : List UInt8 × Rs :=
  let r := num (max most 0).toNat s
  if r.2.bad ≠ .fine then ([], r.2)
  else if r.2.left.length < r.1 then ([], s.fail 0)
  else (r.2.left.take r.1, r.2.on r.1)

/-- A number of so many bytes. -/
def fixed (n : Int) (s : Rs) : Nat × Rs :=
  if s.bad ≠ .fine ∨ n < 0 ∨ 8 < n then (0, s)
  else if (s.left.length : Int) < n then (0, s.fail 0)
  else (little (s.left.take n.toNat), s.on n.toNat)

/-- Where a reader may stand. -/
def Rs.ok (s : Rs) : Prop := s.pos ≤ s.l.length

theorem rs0_ok (l : List UInt8) : (rs0 l).ok := Nat.zero_le _
theorem fail_ok {s : Rs} (h : s.ok) (c : Nat) : (s.fail c).ok := h
theorem left_length (s : Rs) : s.left.length = s.l.length - s.pos := by simp [Rs.left]
theorem on_ok {s : Rs} (h : s.ok) {k : Nat} (hk : k ≤ s.left.length) : (s.on k).ok := by
  unfold Rs.ok Rs.on at *
  rw [left_length] at hk
  simp only
  omega

theorem num_ok {s : Rs} (h : s.ok) (m : Nat) : (num m s).2.ok ∧ (num m s).2.l = s.l := by
  unfold num
  split
  · exact ⟨h, rfl⟩
  · split
    · rename_i n k hg
      split
      · exact ⟨fail_ok h _, rfl⟩
      · exact ⟨on_ok h (get_ok hg).2.2.2, rfl⟩
    · exact ⟨fail_ok h _, rfl⟩
    · exact ⟨fail_ok h _, rfl⟩

theorem num_val {s : Rs} (m : Nat) : (num m s).1 ≤ m ∧ U64 (num m s).1 := by
  unfold num
  have h0 : U64 0 := by unfold U64; omega
  split
  · exact ⟨Nat.zero_le _, h0⟩
  · split
    · rename_i n k hg
      split
      · exact ⟨Nat.zero_le _, h0⟩
      · exact ⟨by simp only; omega, (get_ok hg).1⟩
    · exact ⟨Nat.zero_le _, h0⟩
    · exact ⟨Nat.zero_le _, h0⟩

theorem int_ok {s : Rs} (h : s.ok) (a b : Int) : (int a b s).2.ok ∧ (int a b s).2.l = s.l := by
  unfold int
  split
  · exact ⟨h, rfl⟩
  · split
    · rename_i n k hg
      split
      · exact ⟨fail_ok h _, rfl⟩
      · exact ⟨on_ok h (get_ok hg).2.2.2, rfl⟩
    · exact ⟨fail_ok h _, rfl⟩
    · exact ⟨fail_ok h _, rfl⟩

theorem bytes_ok {s : Rs} (h : s.ok) (m : Int) : (bytes m s).2.ok ∧ (bytes m s).2.l = s.l := by
  unfold bytes
  have hn := num_ok h (max m 0).toNat
  simp only
  split
  · exact hn
  · split
    · exact ⟨fail_ok h _, rfl⟩
    · exact ⟨on_ok hn.1 (by omega), hn.2⟩

theorem fixed_ok {s : Rs} (h : s.ok) (n : Int) : (fixed n s).2.ok ∧ (fixed n s).2.l = s.l := by
  unfold fixed
  split
  · exact ⟨h, rfl⟩
  · split
    · exact ⟨fail_ok h _, rfl⟩
    · exact ⟨on_ok h (by omega), rfl⟩

end Go.Proofs.YtjhebnjajnjhhaaDoor.Vint
