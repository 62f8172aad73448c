/- Plain: batches, as bytes and back. No program in sight. -/
import Derived.Test.YtlfbdcgojbfcaaaDoorPlain
import Derived.Test.YtlfbdcgojbfcaaaDoorCrcMath
namespace Go.Proofs.YtlfbdcgojbfcaaaDoor.Vint

theorem left_on (s : Rs) (k : Nat) : (s.on k).left = s.left.drop k := by unfold Rs.left Rs.on; rw [List.drop_drop]

/-- What stands at the reader's place is read. -/
theorem num_at {s : Rs} {most u : Nat} {r : List UInt8} (hb : s.bad = .fine) (h : s.left = putL u ++ r) (hu : U64 u) (hm : u ≤ most) : num most s = (u, s.on (putL u).length) ∧ (s.on (putL u).length).left = r := by
  constructor
  · unfold num
    rw [if_neg (fun e => e hb), h, get_put u r hu]
    simp only
    rw [if_neg (by omega)]
  · rw [left_on, h]; simp
theorem int_at {s : Rs} {a b n : Int} {r : List UInt8} (hb : s.bad = .fine) (h : s.left = putL (fold n) ++ r) (hn : I64 n) (h1 : a ≤ n) (h2 : n ≤ b) : int a b s = (n, s.on (putL (fold n)).length) ∧ (s.on (putL (fold n)).length).left = r := by
  constructor
  · unfold int
    rw [if_neg (fun e => e hb), h, get_put (fold n) r (fold_lt n hn.out.1 hn.out.2)]
    simp only
    rw [unfold_fold n, if_neg (by omega)]
  · rw [left_on, h]; simp
theorem bytes_at {s : Rs} {m : Nat} {t r : List UInt8} (hb : s.bad = .fine) (h : s.left = putL t.length ++ (t ++ r)) (ht : t.length ≤ m) (hm : m < 1000000) : bytes m s = (t, s.on ((putL t.length).length + t.length)) ∧ (s.on ((putL t.length).length + t.length)).left = r := by
  constructor
  · unfold bytes
    obtain ⟨h1, h2⟩ := num_at (most := m) hb h (by unfold U64; omega) ht
    rw [show (max (m : Int) 0).toNat = m by omega, h1]
    simp only
    rw [if_neg (fun e => e hb), h2, if_neg (by simp)]
    rw [List.take_left' rfl]
    unfold Rs.on
    rw [Nat.add_assoc]
  · rw [left_on, h, ← List.drop_drop]; simp
theorem fixed_at {s : Rs} {k u : Nat} {r : List UInt8} (hb : s.bad = .fine) (h : s.left = lit u k ++ r) (hk : k ≤ 8) (hu : u < 256 ^ k) : fixed k s = (u, s.on k) ∧ (s.on k).left = r := by
  have hl := lit_length k u
  constructor
  · unfold fixed
    rw [if_neg (by rintro (e | e | e); (· exact e hb); (· omega); omega), h, if_neg (by simp [hl]; omega), Int.toNat_natCast, List.take_left' hl, little_lit k u hu]
  · rw [left_on, h, List.drop_left' hl]
end Go.Proofs.YtlfbdcgojbfcaaaDoor.Vint

namespace Go.Proofs.YtlfbdcgojbfcaaaDoor.Rec
open Vint

structure RecD where
  time : Int
  key : List UInt8
  val : List UInt8
structure BatD where
  base : Int
  epoch : Int
  recs : List RecD

def b0 : BatD := ⟨0, 0, []⟩

def recOk (r : RecD) : Bool := decide (-1099511627776 ≤ r.time ∧ r.time ≤ 1099511627776 ∧ r.key.length ≤ 64 ∧ r.val.length ≤ 512)
/-- What is amiss with a batch: 0: nothing. -/
def valid (b : BatD) : Nat :=
  if b.recs.length < 1 ∨ 64 < b.recs.length then 104
  else if ¬ (0 ≤ b.base ∧ b.base ≤ 1099511627776 - b.recs.length ∧ 0 ≤ b.epoch ∧ b.epoch ≤ 1073741824) then 105
  else if b.recs.all recOk then 0 else 105

theorem valid_iff (b : BatD) : valid b = 0 ↔ (1 ≤ b.recs.length ∧ b.recs.length ≤ 64) ∧ (0 ≤ b.base ∧ b.base ≤ 1099511627776 - b.recs.length ∧ 0 ≤ b.epoch ∧ b.epoch ≤ 1073741824) ∧ b.recs.all recOk = true := by
  unfold valid
  split
  · constructor
    · intro h; omega
    · rintro ⟨h, _⟩; omega
  · split
    · rename_i h1 h2
      constructor
      · intro h; omega
      · rintro ⟨_, h, _⟩; exact absurd h h2
    · rename_i h1 h2
      split
      · rename_i h3
        exact ⟨fun _ => ⟨by omega, Classical.byContradiction h2, h3⟩, fun _ => rfl⟩
      · rename_i h3
        constructor
        · intro h; omega
        · rintro ⟨_, _, h⟩; exact absurd h h3

def recL (last : Int) (r : RecD) : List UInt8 := putL (fold (r.time - last)) ++ (putL r.key.length ++ (r.key ++ (putL r.val.length ++ r.val)))
def recsL : Int → List RecD → List UInt8
  | _, [] => []
  | last, r :: l => recL last r ++ recsL r.time l
def first (b : BatD) : Int := match b.recs with
  | r :: _ => r.time
  | [] => 0
/-- What stands behind a batch's head. -/
def bodyL (b : BatD) : List UInt8 := lit b.base.toNat 8 ++ (lit b.epoch.toNat 4 ++ (lit b.recs.length 2 ++ (putL (fold (first b)) ++ recsL (first b) b.recs)))
def bytesL (b : BatD) : List UInt8 := lit (bodyL b).length 4 ++ (lit (Crc.sum (bodyL b)).toNat 4 ++ bodyL b)

def readRec (a b : Int) (t : Int) (s : Rs) : RecD × Rs :=
  (⟨t + (int a b s).1, (Vint.bytes 64 (int a b s).2).1, (Vint.bytes 512 (Vint.bytes 64 (int a b s).2).2).1⟩, (Vint.bytes 512 (Vint.bytes 64 (int a b s).2).2).2)
/-- So many records are read, till something is amiss. -/
def readRecs (a b : Int) : Nat → Int → Rs → List RecD → List RecD × Rs
  | 0, _, s, l => (l, s)
  | n + 1, t, s, l => if s.bad = .fine then readRecs a b n (readRec a b t s).1.time (readRec a b t s).2 (l ++ [(readRec a b t s).1]) else (l, s)

theorem readRecs_bad (a b : Int) (n : Nat) (t : Int) (s : Rs) (l : List RecD) (h : s.bad ≠ .fine) : readRecs a b n t s l = (l, s) := by
  cases n with
  | zero => rfl
  | succ n => unfold readRecs; rw [if_neg h]
theorem readRecs_go (a b : Int) {n : Nat} {s : Rs} (t : Int) (l : List RecD) (hb : s.bad = .fine) : readRecs a b (n + 1) t s l = readRecs a b n (readRec a b t s).1.time (readRec a b t s).2 (l ++ [(readRec a b t s).1]) := by
  conv => lhs; unfold readRecs
  rw [if_pos hb]

theorem readRec_at (a b : Int) (ha : a ≤ -2199023255552) (hb : 2199023255552 ≤ b) {s : Rs} {last : Int} {r : RecD} {z : List UInt8} (hf : s.bad = .fine) (h : s.left = recL last r ++ z) (hl : -1099511627776 ≤ last ∧ last ≤ 1099511627776) (hr : recOk r = true) :
    (readRec a b last s).1 = r ∧ (readRec a b last s).2.bad = .fine ∧ (readRec a b last s).2.left = z := by
  unfold recOk at hr
  rw [decide_eq_true_eq] at hr
  unfold recL at h
  rw [List.append_assoc] at h
  obtain ⟨e1, l1⟩ := int_at (a := a) (b := b) hf h ⟨by omega, by omega⟩ (by omega) (by omega)
  have l1' := l1
  rw [List.append_assoc, List.append_assoc] at l1'
  obtain ⟨e2, l2⟩ := bytes_at (m := 64) (s := s.on _) hf l1' (by omega) (by omega)
  rw [List.append_assoc] at l2
  obtain ⟨e3, l3⟩ := bytes_at (m := 512) (s := (s.on _).on _) hf l2 (by omega) (by omega)
  have e2' : Vint.bytes 64 (s.on (putL (fold (r.time - last))).length) = _ := e2
  have e3' : Vint.bytes 512 ((s.on (putL (fold (r.time - last))).length).on ((putL r.key.length).length + r.key.length)) = _ := e3
  unfold readRec
  rw [e1]
  simp only
  rw [e2']
  simp only
  rw [e3']
  refine ⟨?_, hf, l3⟩
  cases r
  simp only at *
  congr 1
  omega

theorem readRecs_at (a b : Int) (ha : a ≤ -2199023255552) (hb : 2199023255552 ≤ b) : ∀ (l2 l1 : List RecD) (s : Rs) (last : Int) (z : List UInt8), s.bad = .fine → s.left = recsL last l2 ++ z → (-1099511627776 ≤ last ∧ last ≤ 1099511627776) → l2.all recOk = true →
    (readRecs a b l2.length last s l1).1 = l1 ++ l2 ∧ (readRecs a b l2.length last s l1).2.bad = .fine ∧ (readRecs a b l2.length last s l1).2.left = z := by
  intro l2
  induction l2 with
  | nil => intro l1 s last z hf h _ _; exact ⟨by simp [readRecs], hf, by simpa [recsL, readRecs] using h⟩
  | cons r l2 ih =>
    intro l1 s last z hf h hl hr
    simp only [List.all_cons, Bool.and_eq_true] at hr
    rw [recsL, List.append_assoc] at h
    obtain ⟨e1, e2, e3⟩ := readRec_at a b ha hb hf h hl hr.1
    have hr1 := hr.1
    unfold recOk at hr1
    rw [decide_eq_true_eq] at hr1
    rw [List.length_cons, readRecs_go a b last l1 hf, e1]
    have := ih (l1 ++ [r]) _ r.time z e2 e3 ⟨hr1.1, hr1.2.1⟩ hr.2
    rw [List.append_assoc] at this
    exact this

/-- A number of eight bytes, as one with a sign. -/
def i64 (n : Nat) : Int := if n < 9223372036854775808 then (n : Int) else (n : Int) - 18446744073709551616

/-- What a body says, by the program's reader; what the reader is then. -/
def readP (l : List UInt8) : BatD × Rs :=
  let b := fixed 8 (rs0 l)
  let e := fixed 4 b.2
  let n := fixed 2 e.2
  let t := int (-1099511627776) 1099511627776 n.2
  let q := readRecs (-2199023255552) 2199023255552 n.1 t.1 t.2 []
  (⟨i64 b.1, (e.1 : Int), q.1⟩, q.2)
/-- The document's. -/
def parseD (l : List UInt8) : BatD :=
  let b := fixed 8 (rs0 l)
  let e := fixed 4 b.2
  let n := fixed 2 e.2
  let t := int (-4611686018427387904) 4611686018427387904 n.2
  let q := readRecs (-1125899906842624) 1125899906842624 (min n.1 65) t.1 t.2 []
  if q.2.bad ≠ .fine ∨ 0 < q.2.left.length ∨ q.1.length ≠ n.1 then b0 else ⟨i64 b.1, (e.1 : Int), q.1⟩

theorem body_at {b : BatD} (hv : valid b = 0) (f : Int) (F : Int) (hf : f ≤ -1099511627776) (hF : 1099511627776 ≤ F) :
    ∃ s1 s2 s3 s4 : Rs, fixed 8 (rs0 (bodyL b)) = (b.base.toNat, s1) ∧ fixed 4 s1 = (b.epoch.toNat, s2) ∧ fixed 2 s2 = (b.recs.length, s3) ∧ int f F s3 = (first b, s4) ∧ s4.bad = .fine ∧ s4.left = recsL (first b) b.recs ++ [] := by
  obtain ⟨h1, h2, h3⟩ := (valid_iff b).1 hv
  have hfst : -1099511627776 ≤ first b ∧ first b ≤ 1099511627776 := by
    unfold first
    split
    · rename_i r l hr
      rw [hr] at h3
      simp only [List.all_cons, Bool.and_eq_true] at h3
      have := h3.1
      unfold recOk at this
      rw [decide_eq_true_eq] at this
      omega
    · omega
  have f0 : (rs0 (bodyL b)).bad = .fine := rfl
  have l0 : (rs0 (bodyL b)).left = bodyL b := by simp [Rs.left, rs0]
  obtain ⟨e1, l1⟩ := fixed_at (k := 8) f0 (l0.trans rfl) (by omega) (by omega)
  obtain ⟨e2, l2⟩ := fixed_at (k := 4) (s := (rs0 (bodyL b)).on 8) f0 l1 (by omega) (by omega)
  obtain ⟨e3, l3⟩ := fixed_at (k := 2) (s := ((rs0 (bodyL b)).on 8).on 4) f0 l2 (by omega) (by omega)
  obtain ⟨e4, l4⟩ := int_at (a := f) (b := F) (s := (((rs0 (bodyL b)).on 8).on 4).on 2) f0 l3 ⟨by omega, by omega⟩ (by omega) (by omega)
  exact ⟨_, _, _, _, e1, e2, e3, e4, f0, by rw [l4, List.append_nil]⟩

theorem first_bd {b : BatD} (hv : valid b = 0) : -1099511627776 ≤ first b ∧ first b ≤ 1099511627776 := by
  obtain ⟨h1, h2, h3⟩ := (valid_iff b).1 hv
  unfold first
  split
  · rename_i r l hr
    rw [hr] at h3
    simp only [List.all_cons, Bool.and_eq_true] at h3
    have := h3.1
    unfold recOk at this
    rw [decide_eq_true_eq] at this
    omega
  · omega

theorem bat_eq {b : BatD} (hv : valid b = 0) : (⟨i64 b.base.toNat, (b.epoch.toNat : Int), b.recs⟩ : BatD) = b := by
  obtain ⟨h1, h2, h3⟩ := (valid_iff b).1 hv
  cases b
  simp only at *
  unfold i64
  congr 1
  · rw [if_pos (by omega)]; omega
  · omega

theorem readP_put {b : BatD} (hv : valid b = 0) : (readP (bodyL b)).1 = b ∧ (readP (bodyL b)).2.bad = .fine ∧ (readP (bodyL b)).2.left = [] := by
  obtain ⟨s1, s2, s3, s4, e1, e2, e3, e4, hf, hl⟩ := body_at hv (-1099511627776) 1099511627776 (Int.le_refl _) (Int.le_refl _)
  obtain ⟨q1, q2, q3⟩ := readRecs_at (-2199023255552) 2199023255552 (Int.le_refl _) (Int.le_refl _) b.recs [] s4 (first b) [] hf hl (first_bd hv) ((valid_iff b).1 hv).2.2
  have hq : (8 : Int) = ((8 : Nat) : Int) := rfl
  unfold readP
  simp only
  rw [show fixed 8 (rs0 (bodyL b)) = _ from e1]
  simp only
  rw [show fixed 4 s1 = _ from e2]
  simp only
  rw [show fixed 2 s2 = _ from e3]
  simp only
  rw [e4]
  simp only
  rw [q1, List.nil_append]
  exact ⟨bat_eq hv, q2, q3⟩

theorem parseD_put {b : BatD} (hv : valid b = 0) : parseD (bodyL b) = b := by
  obtain ⟨s1, s2, s3, s4, e1, e2, e3, e4, hf, hl⟩ := body_at hv (-4611686018427387904) 4611686018427387904 (by omega) (by omega)
  obtain ⟨q1, q2, q3⟩ := readRecs_at (-1125899906842624) 1125899906842624 (by omega) (by omega) b.recs [] s4 (first b) [] hf hl (first_bd hv) ((valid_iff b).1 hv).2.2
  have hn := ((valid_iff b).1 hv).1
  unfold parseD
  simp only
  rw [show fixed 8 (rs0 (bodyL b)) = _ from e1]
  simp only
  rw [show fixed 4 s1 = _ from e2]
  simp only
  rw [show fixed 2 s2 = _ from e3]
  simp only
  rw [e4]
  simp only
  rw [show min b.recs.length 65 = b.recs.length by omega, q1, q2, q3, List.nil_append, if_neg (by simp)]
  exact bat_eq hv

/-- The batch whose body these bytes are. -/
def specIn (l : List UInt8) : Option BatD := if (readP l).2.bad = .fine ∧ (readP l).2.left.length = 0 ∧ valid (readP l).1 = 0 ∧ bodyL (readP l).1 = l then some (readP l).1 else none

theorem specIn_some {l : List UInt8} {b : BatD} : specIn l = some b ↔ valid b = 0 ∧ bodyL b = l := by
  unfold specIn
  constructor
  · intro h
    split at h
    · rename_i hc
      simp only [Option.some.injEq] at h
      subst h
      exact hc.2.2
    · cases h
  · rintro ⟨hv, rfl⟩
    obtain ⟨h1, h2, h3⟩ := readP_put hv
    rw [if_pos ⟨h2, by rw [h3]; rfl, by rw [h1]; exact hv, by rw [h1]⟩, h1]

theorem specIn_doc (l : List UInt8) : specIn l = if valid (parseD l) = 0 ∧ bodyL (parseD l) = l then some (parseD l) else none := by
  split
  · rename_i h; exact specIn_some.2 h
  · rename_i h
    cases hs : specIn l with
    | none => rfl
    | some b =>
      obtain ⟨hv, rfl⟩ := specIn_some.1 hs
      rw [parseD_put hv] at h
      exact absurd ⟨hv, rfl⟩ h

/-- The batch at the beginning of bytes, and how many it has, or what is amiss. -/
def readB (l : List UInt8) : Nat × BatD × Nat :=
  if l.length < 8 then (101, b0, 0)
  else if 65536 < little (l.take 4) then (104, b0, 0)
  else if l.length - 8 < little (l.take 4) then (101, b0, 0)
  else if little ((l.drop 4).take 4) ≠ (Crc.sum ((l.drop 8).take (little (l.take 4)))).toNat then (102, b0, 0)
  else match specIn ((l.drop 8).take (little (l.take 4))) with
    | some b => (0, b, 8 + little (l.take 4))
    | none => (103, b0, 0)

/-- All batches from the beginning on, how many bytes these have, why they end. -/
def allB : Nat → List UInt8 → List BatD × Nat × Nat
  | 0, _ => ([], 0, 0)
  | f + 1, l => if l.length = 0 then ([], 0, 0) else
    if (readB l).1 ≠ 0 then ([], 0, (readB l).1)
    else ((readB l).2.1 :: (allB f (l.drop (readB l).2.2)).1, (readB l).2.2 + (allB f (l.drop (readB l).2.2)).2.1, (allB f (l.drop (readB l).2.2)).2.2)

theorem readB_n {l : List UInt8} (h : (readB l).1 = 0) : 8 ≤ (readB l).2.2 ∧ (readB l).2.2 ≤ l.length := by
  unfold readB at *
  split at h
  · simp at h
  · rename_i h1
    rw [if_neg h1]
    split at h
    · simp at h
    · rename_i h2
      rw [if_neg h2]
      split at h
      · simp at h
      · rename_i h3
        rw [if_neg h3]
        split at h
        · simp at h
        · rename_i h4
          rw [if_neg h4]
          split at h
          · rename_i b hs
            simp only
            omega
          · simp at h
end Go.Proofs.YtlfbdcgojbfcaaaDoor.Rec
