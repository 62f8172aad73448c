/- Plain: a lineage as bytes, and back. No program in sight. -/
import Derived.Test.YtjhebnjajnjhhaaDoorTextMath
import Derived.Test.YtjhebnjajnjhhaaDoorEpochMath
namespace Go.Proofs.YtjhebnjajnjhhaaDoor.Epo
open Vint

/-- A pair's bytes. -/
def pairL (p : Pr) : List UInt8 := putL p.ep.toNat ++ putL p.st.toNat
/-- A lineage's bytes. -/
def pairsL (l : List Pr) : List UInt8 := putL l.length ++ l.flatMap pairL

/-- One pair is read. -/
def readOne (s : Rs) : Pr × Rs := (⟨((num 1073741824 s).1 : Nat), ((num 1099511627776 (num 1073741824 s).2).1 : Nat)⟩, (num 1099511627776 (num 1073741824 s).2).2)
/-- So many pairs are read, till something is amiss. -/
def readLoop : Nat → Rs → List Pr → List Pr × Rs
  | 0, s, l => (l, s)
  | n + 1, s, l => if s.bad = .fine then readLoop n (readOne s).2 (l ++ [(readOne s).1]) else (l, s)
/-- A lineage of bytes, or what is amiss. -/
def readPairs (b : List UInt8) : Er × List Pr :=
  let q := readLoop (num 256 (rs0 b)).1 (num 256 (rs0 b)).2 []
  if q.2.bad ≠ .fine then (q.2.bad, [])
  else if 0 < q.2.left.length then (.placed 3 q.2.pos, [])
  else if valid q.1 ≠ 0 then (.bare (valid q.1 - 101), [])
  else (.fine, q.1)

theorem readLoop_bad (n : Nat) (s : Rs) (l : List Pr) (h : s.bad ≠ .fine) : readLoop n s l = (l, s) := by
  cases n with
  | zero => rfl
  | succ n => unfold readLoop; rw [if_neg h]

theorem readLoop_put (l2 : List Pr) : ∀ (l1 : List Pr) (a b : List UInt8) (p : Nat), a.length = p → (l2.all right = true) →
    readLoop l2.length ⟨a ++ (l2.flatMap pairL ++ b), p, .fine⟩ l1 = (l1 ++ l2, ⟨a ++ (l2.flatMap pairL ++ b), p + (l2.flatMap pairL).length, .fine⟩) := by
  induction l2 with
  | nil => intro l1 a b p _ _; simp [readLoop]
  | cons q l2 ih =>
    intro l1 a b p ha hr
    simp only [List.all_cons, Bool.and_eq_true] at hr
    obtain ⟨hq, hr⟩ := hr
    unfold right at hq
    rw [decide_eq_true_eq] at hq
    have e1 : a ++ ((q :: l2).flatMap pairL ++ b) = a ++ (putL q.ep.toNat ++ (putL q.st.toNat ++ (l2.flatMap pairL ++ b))) := by
      simp [pairL, List.flatMap_cons]
    have h1 := num_put 1073741824 q.ep.toNat (putL q.st.toNat ++ (l2.flatMap pairL ++ b)) p a (by unfold U64; omega) ha
    rw [if_neg (by omega)] at h1
    have e2 : a ++ (putL q.ep.toNat ++ (putL q.st.toNat ++ (l2.flatMap pairL ++ b))) = (a ++ putL q.ep.toNat) ++ (putL q.st.toNat ++ (l2.flatMap pairL ++ b)) := by simp
    have h2 := num_put 1099511627776 q.st.toNat (l2.flatMap pairL ++ b) (p + (putL q.ep.toNat).length) (a ++ putL q.ep.toNat) (by unfold U64; omega) (by simp [ha])
    rw [if_neg (by omega)] at h2
    have h3 : readOne ⟨a ++ ((q :: l2).flatMap pairL ++ b), p, .fine⟩ = (q, ⟨(a ++ putL q.ep.toNat ++ putL q.st.toNat) ++ (l2.flatMap pairL ++ b), p + (putL q.ep.toNat).length + (putL q.st.toNat).length, .fine⟩) := by
      unfold readOne
      rw [e1, h1]
      simp only
      rw [e2, h2]
      simp only
      refine Prod.ext ?_ ?_
      · cases q; simp only at hq ⊢; congr 1 <;> omega
      · simp
    rw [List.length_cons]
    unfold readLoop
    rw [if_pos rfl, h3]
    simp only
    rw [ih (l1 ++ [q]) _ b _ (by simp [ha]; omega) hr]
    refine Prod.ext (by simp) ?_
    simp only
    rw [e1]
    have e3 : (List.flatMap pairL (q :: l2)).length = (putL q.ep.toNat).length + (putL q.st.toNat).length + (l2.flatMap pairL).length := by simp [pairL, List.flatMap_cons]; omega
    rw [e3]
    simp [Nat.add_assoc]

/-- What was laid is read back. -/
theorem readPairs_put (l : List Pr) (h : valid l = 0) : readPairs (pairsL l) = (.fine, l) := by
  obtain ⟨h1, h2, h3⟩ := (valid_iff l).1 h
  unfold readPairs pairsL
  have hn := num_put 256 l.length (l.flatMap pairL) 0 [] (by unfold U64; omega) rfl
  rw [if_neg (by omega), List.nil_append] at hn
  unfold rs0
  rw [hn]
  simp only
  have hl := readLoop_put l [] (putL l.length) [] (0 + (putL l.length).length) (by omega) h2
  rw [List.append_nil] at hl
  rw [hl]
  simp only [List.nil_append]
  rw [if_neg (by simp), if_neg (by rw [left_length]; simp), if_neg (by simp [h])]

/-- Bytes that are read as a number are that number's. -/
theorem getL_take (l : List UInt8) : ∀ (i n m k : Nat), i ≤ 9 → n < 2 ^ (7 * i) → getL i n l = .ok m k → ∃ u, m = n + u * 2 ^ (7 * i) ∧ l.take (k - i) = putL u ∧ (0 < i → 0 < u) := by
  induction l with
  | nil => intro i n m k _ _ h; simp [getL] at h
  | cons c l ih =>
    intro i n m k hi hn h
    have hk := getL_ok (c :: l) i n m k hi hn h
    simp only [getL] at h
    have hb := add_lt_pow i n c.toNat hn
    have hc := c.toNat_lt
    by_cases h9 : i = 9 ∧ 1 < c.toNat
    · rw [if_pos h9] at h; cases h
    · rw [if_neg h9] at h
      by_cases h128 : 128 ≤ c.toNat
      · rw [if_pos h128] at h
        have hi9 : i ≠ 9 := fun e => h9 ⟨e, by omega⟩
        obtain ⟨u, h1, h2, h3⟩ := ih (i + 1) _ m k (by omega) hb h
        have hu := h3 (by omega)
        have hk2 := getL_ok l (i + 1) _ m k (by omega) hb h
        refine ⟨c.toNat % 128 + 128 * u, ?_, ?_, fun _ => by omega⟩
        · rw [h1, pow7, Nat.add_mul, Nat.add_assoc]
          congr 2
          rw [← Nat.mul_assoc, Nat.mul_comm u 128]
        · rw [putL_high (by omega), show k - i = (k - (i + 1)) + 1 by omega, List.take_succ_cons, h2]
          have e1 : (c.toNat % 128 + 128 * u) / 128 = u := by omega
          have e2 : (c.toNat % 128 + 128 * u) % 128 + 128 = c.toNat := by omega
          rw [e1, e2]
          congr 1
          apply UInt8.toNat_inj.1
          rw [UInt8.toNat_ofNat']; omega
      · rw [if_neg h128] at h
        by_cases h0 : 0 < i ∧ c.toNat = 0
        · rw [if_pos h0] at h; cases h
        · rw [if_neg h0] at h
          simp only [GR.ok.injEq] at h
          obtain ⟨rfl, rfl⟩ := h
          refine ⟨c.toNat, by rw [Nat.mod_eq_of_lt (by omega)], ?_, fun hi => by omega⟩
          rw [putL_low (by omega), show i + 1 - i = 0 + 1 by omega, List.take_succ_cons, List.take_zero]
          congr 1
          apply UInt8.toNat_inj.1
          rw [UInt8.toNat_ofNat']; omega

theorem get_take {l : List UInt8} {m k : Nat} (h : getL 0 0 l = .ok m k) : l = putL m ++ l.drop k := by
  obtain ⟨u, h1, h2, _⟩ := getL_take l 0 0 m k (by omega) (by simp) h
  have : m = u := by simpa using h1
  subst this
  rw [Nat.sub_zero] at h2
  rw [← h2, List.take_append_drop]

/-- A number that was read stands there. -/
theorem num_left {most : Nat} {s : Rs} (hb : s.bad = .fine) (hb2 : (num most s).2.bad = .fine) : s.left = putL (num most s).1 ++ (num most s).2.left ∧ (num most s).2.l = s.l := by
  unfold num at *
  rw [if_neg (fun e => e hb)] at *
  cases hg : getL 0 0 s.left with
  | ok n k =>
    rw [hg] at hb2
    simp only at hb2 ⊢
    by_cases h : most < n
    · rw [if_pos h] at hb2; simp [Rs.fail] at hb2
    · rw [if_neg h]
      refine ⟨?_, rfl⟩
      have := get_take hg
      simp only
      unfold Rs.left Rs.on at *
      rw [List.drop_drop] at this
      exact this
  | fin => rw [hg] at hb2; simp [Rs.fail] at hb2
  | shape => rw [hg] at hb2; simp [Rs.fail] at hb2

theorem num_stay {most : Nat} {s : Rs} (hb : s.bad ≠ .fine) : num most s = (0, s) := by unfold num; rw [if_pos hb]
theorem num_fine {most : Nat} {s : Rs} (h : (num most s).2.bad = .fine) : s.bad = .fine := by
  by_cases hb : s.bad = .fine
  · exact hb
  · rw [num_stay hb] at h; exact absurd h hb

theorem readOne_left {s : Rs} (hb2 : (readOne s).2.bad = .fine) : s.left = pairL (readOne s).1 ++ (readOne s).2.left := by
  unfold readOne at *
  simp only at hb2 ⊢
  have h1 := num_fine hb2
  have h0 := num_fine h1
  have e1 := (num_left h0 h1).1
  have e2 := (num_left h1 hb2).1
  unfold pairL
  simp only [Int.toNat_natCast]
  rw [List.append_assoc, ← e2, ← e1]

theorem readLoop_fine (n : Nat) : ∀ (s : Rs) (l : List Pr), (readLoop n s l).2.bad = .fine → s.bad = .fine := by
  induction n with
  | zero => intro s l h; exact h
  | succ n ih =>
    intro s l h
    by_cases hb : s.bad = .fine
    · exact hb
    · rw [readLoop_bad _ _ _ hb] at h; exact h

theorem readLoop_left (n : Nat) : ∀ (s : Rs) (l : List Pr), (readLoop n s l).2.bad = .fine →
    ∃ l2, (readLoop n s l).1 = l ++ l2 ∧ l2.length = n ∧ s.left = l2.flatMap pairL ++ (readLoop n s l).2.left := by
  induction n with
  | zero => intro s l _; exact ⟨[], by simp [readLoop], rfl, by simp [readLoop]⟩
  | succ n ih =>
    intro s l h
    have hb := readLoop_fine _ _ _ h
    have e : readLoop (n + 1) s l = readLoop n (readOne s).2 (l ++ [(readOne s).1]) := by
      conv => lhs; unfold readLoop
      rw [if_pos hb]
    rw [e] at h ⊢
    obtain ⟨l2, h1, h2, h3⟩ := ih _ _ h
    have h4 := readLoop_fine _ _ _ h
    refine ⟨(readOne s).1 :: l2, by rw [h1]; simp, by simp [h2], ?_⟩
    rw [List.flatMap_cons, List.append_assoc, ← h3, ← readOne_left h4]

/-- What is read as a lineage is just those bytes. -/
theorem readPairs_back (b : List UInt8) (l : List Pr) (h : readPairs b = (.fine, l)) : pairsL l = b ∧ valid l = 0 := by
  unfold readPairs at h
  simp only at h
  split at h
  · rename_i hb
    simp only [Prod.mk.injEq] at h
    exact absurd h.1 hb
  · rename_i hb
    split at h
    · simp at h
    · rename_i hl
      split at h
      · simp at h
      · rename_i hv
        simp only [Prod.mk.injEq, true_and] at h
        have hb' : (readLoop (num 256 (rs0 b)).1 (num 256 (rs0 b)).2 []).2.bad = .fine := Classical.byContradiction hb
        obtain ⟨l2, h1, h2, h3⟩ := readLoop_left _ _ _ hb'
        rw [List.nil_append] at h1
        have h4 := readLoop_fine _ _ _ hb'
        have h5 := (num_left (rfl : (rs0 b).bad = .fine) h4).1
        have hz : (readLoop (num 256 (rs0 b)).1 (num 256 (rs0 b)).2 []).2.left = [] := List.eq_nil_of_length_eq_zero (by omega)
        rw [hz, List.append_nil] at h3
        rw [h1] at h hv
        subst h
        refine ⟨?_, Classical.byContradiction hv⟩
        unfold pairsL
        rw [h2, ← h3, ← h5]
        simp [Rs.left, rs0]

theorem readOne_right (s : Rs) : right (readOne s).1 = true := by
  unfold right readOne
  rw [decide_eq_true_eq]
  have h1 := (num_val (s := s) 1073741824).1
  have h2 := (num_val (s := (num 1073741824 s).2) 1099511627776).1
  simp only
  omega
end Go.Proofs.YtjhebnjajnjhhaaDoor.Epo
