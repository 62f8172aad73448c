/- Plain: a manifest out of bytes. No Go function is named here. Merged of: ManReadMath, ManPutOk. -/
import Derived.Test.YtegiingcnhafbaaGreatDoorManVal

/-! Plain: a manifest out of bytes. No Go function is named here. -/
namespace Go.Proofs.YtegiingcnhafbaaGreatDoor.Man
open Vint Epo

def readP (s : Rs) : Pr × Rs := (⟨((num 4611686018427387904 s).1 : Nat), ((num 4611686018427387904 (num 4611686018427387904 s).2).1 : Nat)⟩, (num 4611686018427387904 (num 4611686018427387904 s).2).2)
def readPs : Nat → Rs → List Pr → List Pr × Rs
  | 0, s, l => (l, s)
  | n + 1, s, l => if s.bad = .fine then readPs n (readP s).2 (l ++ [(readP s).1]) else (l, s)
def readO (s : Rs) : ObjD × Rs :=
  (⟨⟨⟨(Vint.bytes 64 s).1⟩⟩, ((num 4611686018427387904 (Vint.bytes 64 s).2).1 : Nat), (num 4294967295 (num 4611686018427387904 (Vint.bytes 64 s).2).2).1⟩, (num 4294967295 (num 4611686018427387904 (Vint.bytes 64 s).2).2).2)
def readOs : Nat → Rs → List ObjD → List ObjD × Rs
  | 0, s, l => (l, s)
  | n + 1, s, l => if s.bad = .fine then readOs n (readO s).2 (l ++ [(readO s).1]) else (l, s)
/-- The manifest of bytes (ahead of the sum), whatever it is. -/
def readM (b : List UInt8) : Option ManD :=
  let a1 := num 4611686018427387904 (rs0 b)
  let a2 := num 4611686018427387904 a1.2
  let a3 := num 4611686018427387904 a2.2
  let a4 := int (-4611686018427387904) 4611686018427387904 a3.2
  let n := num 256 a4.2
  let q := readPs n.1 n.2 []
  let k := num 8 q.2
  let o := readOs k.1 k.2 []
  if o.2.bad = .fine ∧ o.2.left.length = 0 then some ⟨(a1.1 : Nat), (a2.1 : Nat), (a3.1 : Nat), a4.1, q.1, o.1⟩ else none

structure PutOk (m : ManD) : Prop where
  id : 0 ≤ m.id ∧ m.id ≤ 4611686018427387904
  base : 0 ≤ m.base ∧ m.base ≤ 4611686018427387904
  fin : 0 ≤ m.fin ∧ m.fin ≤ 4611686018427387904
  time : -4611686018427387904 ≤ m.time ∧ m.time ≤ 4611686018427387904
  elen : m.eps.length ≤ 256
  eps : ∀ p ∈ m.eps, (0 ≤ p.ep ∧ p.ep ≤ 4611686018427387904) ∧ (0 ≤ p.st ∧ p.st ≤ 4611686018427387904)
  olen : m.objs.length ≤ 8
  objs : ∀ o ∈ m.objs, o.name.size ≤ 64 ∧ (0 ≤ o.len ∧ o.len ≤ 4611686018427387904) ∧ o.sum ≤ 4294967295

theorem u64_nat {n : Int} (h : 0 ≤ n ∧ n ≤ 4611686018427387904) : ((u64 n : Nat) : Int) = n ∧ u64 n ≤ 4611686018427387904 ∧ U64 (u64 n) := by
  unfold u64 U64; omega
theorem u64_of (n : Nat) (h : n ≤ 4611686018427387904) : u64 (n : Int) = n := by unfold u64; omega

/-! ### What was laid is read -/

theorem num_step (most : Nat) (n : Nat) (l : List UInt8) (a : List UInt8) (p : Nat) (hn : n ≤ most) (hu : U64 n) (ha : a.length = p) :
    num most ⟨a ++ (putL n ++ l), p, .fine⟩ = (n, ⟨(a ++ putL n) ++ l, (a ++ putL n).length, .fine⟩) := by
  rw [num_put most n l p a hu ha, if_neg (by omega), List.append_assoc, List.length_append, ha]

theorem readP_put (p : Pr) (l a : List UInt8) (hp : (0 ≤ p.ep ∧ p.ep ≤ 4611686018427387904) ∧ (0 ≤ p.st ∧ p.st ≤ 4611686018427387904)) :
    readP ⟨a ++ (pairL p ++ l), a.length, .fine⟩ = (p, ⟨(a ++ pairL p) ++ l, (a ++ pairL p).length, .fine⟩) := by
  obtain ⟨e1, e2, e3⟩ := u64_nat hp.1
  obtain ⟨f1, f2, f3⟩ := u64_nat hp.2
  have h1 := num_step 4611686018427387904 (u64 p.ep) (putL (u64 p.st) ++ l) a a.length e2 e3 rfl
  have h2 := num_step 4611686018427387904 (u64 p.st) l (a ++ putL (u64 p.ep)) _ f2 f3 rfl
  unfold readP pairL
  rw [List.append_assoc, h1]
  simp only
  rw [h2]
  simp only [e1, f1, List.append_assoc]

theorem readPs_put (l2 : List Pr) : ∀ (l1 : List Pr) (a b : List UInt8), (∀ p ∈ l2, (0 ≤ p.ep ∧ p.ep ≤ 4611686018427387904) ∧ (0 ≤ p.st ∧ p.st ≤ 4611686018427387904)) →
    readPs l2.length ⟨a ++ (l2.flatMap pairL ++ b), a.length, .fine⟩ l1 = (l1 ++ l2, ⟨(a ++ l2.flatMap pairL) ++ b, (a ++ l2.flatMap pairL).length, .fine⟩) := by
  induction l2 with
  | nil => intro l1 a b _; simp [readPs]
  | cons q l2 ih =>
    intro l1 a b h
    have h1 := readP_put q (l2.flatMap pairL ++ b) a (h q List.mem_cons_self)
    rw [List.length_cons, List.flatMap_cons, List.append_assoc]
    unfold readPs
    rw [if_pos rfl, h1]
    simp only
    rw [ih (l1 ++ [q]) (a ++ pairL q) b (fun p hp => h p (List.mem_cons_of_mem _ hp))]
    simp only [List.append_assoc, List.singleton_append]

theorem readO_put (o : ObjD) (l a : List UInt8) (ho : o.name.size ≤ 64 ∧ (0 ≤ o.len ∧ o.len ≤ 4611686018427387904) ∧ o.sum ≤ 4294967295) :
    readO ⟨a ++ (objL o ++ l), a.length, .fine⟩ = (o, ⟨(a ++ objL o) ++ l, (a ++ objL o).length, .fine⟩) := by
  obtain ⟨f1, f2, f3⟩ := u64_nat ho.2.1
  have hsz : o.name.data.toList.length = o.name.size := by rw [Array.length_toList]; rfl
  have h1 := bytes_put 64 o.name.data.toList (putL (u64 o.len) ++ (putL o.sum ++ l)) a.length a (by omega) rfl
  rw [if_neg (by omega), hsz, show ((64 : Nat) : Int) = 64 from rfl] at h1
  have h2 := num_step 4611686018427387904 (u64 o.len) (putL o.sum ++ l) (a ++ (putL o.name.size ++ o.name.data.toList)) _ f2 f3 rfl
  have h3 := num_step 4294967295 o.sum l (a ++ (putL o.name.size ++ o.name.data.toList) ++ putL (u64 o.len)) _ ho.2.2 (by unfold U64; omega) rfl
  unfold readO objL
  rw [List.append_assoc, List.append_assoc, List.append_assoc, h1]
  have e1 : (⟨a ++ (putL o.name.size ++ (o.name.data.toList ++ (putL (u64 o.len) ++ (putL o.sum ++ l)))), a.length + (putL o.name.size).length + o.name.size, .fine⟩ : Rs) = ⟨a ++ (putL o.name.size ++ o.name.data.toList) ++ (putL (u64 o.len) ++ (putL o.sum ++ l)), (a ++ (putL o.name.size ++ o.name.data.toList)).length, .fine⟩ := by
    rw [List.length_append, List.length_append, hsz]; simp only [List.append_assoc, Nat.add_assoc]
  simp only
  rw [e1, h2]
  simp only
  rw [h3]
  simp only [f1, List.append_assoc]

theorem readOs_put (l2 : List ObjD) : ∀ (l1 : List ObjD) (a b : List UInt8), (∀ o ∈ l2, o.name.size ≤ 64 ∧ (0 ≤ o.len ∧ o.len ≤ 4611686018427387904) ∧ o.sum ≤ 4294967295) →
    readOs l2.length ⟨a ++ (l2.flatMap objL ++ b), a.length, .fine⟩ l1 = (l1 ++ l2, ⟨(a ++ l2.flatMap objL) ++ b, (a ++ l2.flatMap objL).length, .fine⟩) := by
  induction l2 with
  | nil => intro l1 a b _; simp [readOs]
  | cons q l2 ih =>
    intro l1 a b h
    have h1 := readO_put q (l2.flatMap objL ++ b) a (h q List.mem_cons_self)
    rw [List.length_cons, List.flatMap_cons, List.append_assoc]
    unfold readOs
    rw [if_pos rfl, h1]
    simp only
    rw [ih (l1 ++ [q]) (a ++ objL q) b (fun p hp => h p (List.mem_cons_of_mem _ hp))]
    simp only [List.append_assoc, List.singleton_append]

theorem readM_put (m : ManD) (h : PutOk m) (rest : List UInt8) : readM (mbody m ++ rest) = if rest.length = 0 then some m else none := by
  obtain ⟨a1, a2, a3⟩ := u64_nat h.id
  obtain ⟨b1, b2, b3⟩ := u64_nat h.base
  obtain ⟨c1, c2, c3⟩ := u64_nat h.fin
  have ht := h.time
  have hel := h.elen
  have hol := h.olen
  have h1 := num_step 4611686018427387904 (u64 m.id) (putL (u64 m.base) ++ (putL (u64 m.fin) ++ (putL (fold m.time) ++ (putL m.eps.length ++ (m.eps.flatMap pairL ++ (putL m.objs.length ++ (m.objs.flatMap objL ++ rest))))))) [] 0 a2 a3 rfl
  rw [List.nil_append, List.nil_append] at h1
  have h2 := num_step 4611686018427387904 (u64 m.base) (putL (u64 m.fin) ++ (putL (fold m.time) ++ (putL m.eps.length ++ (m.eps.flatMap pairL ++ (putL m.objs.length ++ (m.objs.flatMap objL ++ rest)))))) (putL (u64 m.id)) _ b2 b3 rfl
  have h3 := num_step 4611686018427387904 (u64 m.fin) (putL (fold m.time) ++ (putL m.eps.length ++ (m.eps.flatMap pairL ++ (putL m.objs.length ++ (m.objs.flatMap objL ++ rest))))) (putL (u64 m.id) ++ putL (u64 m.base)) _ c2 c3 rfl
  obtain ⟨A, hA⟩ : ∃ A, A = putL (u64 m.id) ++ putL (u64 m.base) ++ putL (u64 m.fin) := ⟨_, rfl⟩
  have h4 := int_put (-4611686018427387904) 4611686018427387904 m.time (putL m.eps.length ++ (m.eps.flatMap pairL ++ (putL m.objs.length ++ (m.objs.flatMap objL ++ rest)))) A.length A (by unfold I64; omega) rfl
  rw [if_neg (by omega)] at h4
  have e4 : (⟨A ++ (putL (fold m.time) ++ (putL m.eps.length ++ (m.eps.flatMap pairL ++ (putL m.objs.length ++ (m.objs.flatMap objL ++ rest))))), A.length + (putL (fold m.time)).length, .fine⟩ : Rs) = ⟨(A ++ putL (fold m.time)) ++ (putL m.eps.length ++ (m.eps.flatMap pairL ++ (putL m.objs.length ++ (m.objs.flatMap objL ++ rest)))), (A ++ putL (fold m.time)).length, .fine⟩ := by
    rw [List.length_append, List.append_assoc]
  have h5 := num_step 256 m.eps.length (m.eps.flatMap pairL ++ (putL m.objs.length ++ (m.objs.flatMap objL ++ rest))) (A ++ putL (fold m.time)) _ hel (by unfold U64; omega) rfl
  have h6 := readPs_put m.eps [] (A ++ putL (fold m.time) ++ putL m.eps.length) (putL m.objs.length ++ (m.objs.flatMap objL ++ rest)) h.eps
  have h7 := num_step 8 m.objs.length (m.objs.flatMap objL ++ rest) (A ++ putL (fold m.time) ++ putL m.eps.length ++ m.eps.flatMap pairL) _ hol (by unfold U64; omega) rfl
  have h8 := readOs_put m.objs [] (A ++ putL (fold m.time) ++ putL m.eps.length ++ m.eps.flatMap pairL ++ putL m.objs.length) rest h.objs
  unfold readM
  have e0 : rs0 (mbody m ++ rest) = ⟨putL (u64 m.id) ++ (putL (u64 m.base) ++ (putL (u64 m.fin) ++ (putL (fold m.time) ++ (putL m.eps.length ++ (m.eps.flatMap pairL ++ (putL m.objs.length ++ (m.objs.flatMap objL ++ rest))))))), 0, .fine⟩ := by
    unfold rs0 mbody; simp only [List.append_assoc]
  rw [e0]
  simp only
  rw [h1]
  simp only
  rw [h2]
  simp only
  rw [h3]
  simp only
  rw [← hA, h4]
  simp only
  rw [e4, h5]
  simp only
  rw [h6]
  simp only
  rw [h7]
  simp only
  rw [h8]
  simp only [List.nil_append, true_and]
  have hleft : ∀ x : List UInt8, (⟨x ++ rest, x.length, .fine⟩ : Rs).left = rest := fun x => by simp [Rs.left]
  rw [hleft, a1, b1, c1]

/-! ### What is read are just those bytes -/

theorem readP_left {s : Rs} (hb2 : (readP s).2.bad = .fine) : s.left = pairL (readP s).1 ++ (readP s).2.left ∧ ((0 ≤ (readP s).1.ep ∧ (readP s).1.ep ≤ 4611686018427387904) ∧ (0 ≤ (readP s).1.st ∧ (readP s).1.st ≤ 4611686018427387904)) := by
  unfold readP at *
  simp only at hb2 ⊢
  have h1 := num_fine hb2
  have h0 := num_fine h1
  have e1 := (num_left h0 h1).1
  have e2 := (num_left h1 hb2).1
  have v1 := (num_val (s := s) 4611686018427387904).1
  have v2 := (num_val (s := (num 4611686018427387904 s).2) 4611686018427387904).1
  refine ⟨?_, by omega, by omega⟩
  unfold pairL
  simp only
  rw [u64_of _ v1, u64_of _ v2, List.append_assoc, ← e2, ← e1]

theorem readPs_bad (n : Nat) (s : Rs) (l : List Pr) (h : s.bad ≠ .fine) : readPs n s l = (l, s) := by
  cases n with
  | zero => rfl
  | succ n => unfold readPs; rw [if_neg h]
theorem readPs_go {n : Nat} {s : Rs} (l : List Pr) (hb : s.bad = .fine) : readPs (n + 1) s l = readPs n (readP s).2 (l ++ [(readP s).1]) := by
  conv => lhs; unfold readPs
  rw [if_pos hb]
theorem readPs_fine (n : Nat) : ∀ (s : Rs) (l : List Pr), (readPs n s l).2.bad = .fine → s.bad = .fine := by
  intro s l h
  by_cases hb : s.bad = .fine
  · exact hb
  · rw [readPs_bad _ _ _ hb] at h; exact h
theorem readPs_left (n : Nat) : ∀ (s : Rs) (l : List Pr), (readPs n s l).2.bad = .fine →
    ∃ l2, (readPs n s l).1 = l ++ l2 ∧ l2.length = n ∧ s.left = l2.flatMap pairL ++ (readPs n s l).2.left ∧ ∀ p ∈ l2, (0 ≤ p.ep ∧ p.ep ≤ 4611686018427387904) ∧ (0 ≤ p.st ∧ p.st ≤ 4611686018427387904) := by
  induction n with
  | zero => intro s l _; exact ⟨[], by simp [readPs], rfl, by simp [readPs], by simp⟩
  | succ n ih =>
    intro s l h
    have hb := readPs_fine _ _ _ h
    rw [readPs_go l hb] at h ⊢
    obtain ⟨l2, h1, h2, h3, h5⟩ := ih _ _ h
    have h4 := readPs_fine _ _ _ h
    obtain ⟨h6, h7⟩ := readP_left h4
    refine ⟨(readP s).1 :: l2, by rw [h1]; simp, by simp [h2], ?_, ?_⟩
    · rw [List.flatMap_cons, List.append_assoc, ← h3, ← h6]
    · intro p hp
      rcases List.mem_cons.1 hp with rfl | hp
      · exact h7
      · exact h5 p hp

theorem bytes_fine {m : Int} {s : Rs} (h : (Vint.bytes m s).2.bad = .fine) : s.bad = .fine := by
  by_cases hb : s.bad = .fine
  · exact hb
  · unfold Vint.bytes at h
    rw [num_stay hb] at h
    simp only at h
    rw [if_pos hb] at h
    exact h
theorem bytes_left {s : Rs} (hb2 : (Vint.bytes 64 s).2.bad = .fine) : s.left = putL (Vint.bytes 64 s).1.length ++ ((Vint.bytes 64 s).1 ++ (Vint.bytes 64 s).2.left) ∧ (Vint.bytes 64 s).1.length ≤ 64 := by
  have h0 := bytes_fine hb2
  have hv := (num_val (s := s) 64).1
  unfold Vint.bytes at *
  rw [show (max (64 : Int) 0).toNat = 64 by decide] at *
  simp only at *
  by_cases h1 : (num 64 s).2.bad = .fine
  · rw [if_neg (fun e => e h1)] at *
    by_cases h2 : (num 64 s).2.left.length < (num 64 s).1
    · rw [if_pos h2] at hb2; simp [Rs.fail] at hb2
    · rw [if_neg h2]
      have e1 := (num_left h0 h1).1
      have hl : ((num 64 s).2.left.take (num 64 s).1).length = (num 64 s).1 := by rw [List.length_take]; omega
      simp only
      rw [hl]
      refine ⟨?_, hv⟩
      have e2 : ((num 64 s).2.on (num 64 s).1).left = (num 64 s).2.left.drop (num 64 s).1 := by simp [Rs.left, Rs.on, List.drop_drop]
      rw [e2, List.take_append_drop, ← e1]
  · rw [if_pos h1] at hb2; exact absurd hb2 h1

theorem readO_left {s : Rs} (hb2 : (readO s).2.bad = .fine) : s.left = objL (readO s).1 ++ (readO s).2.left ∧ ((readO s).1.name.size ≤ 64 ∧ (0 ≤ (readO s).1.len ∧ (readO s).1.len ≤ 4611686018427387904) ∧ (readO s).1.sum ≤ 4294967295) := by
  unfold readO at *
  simp only at hb2 ⊢
  have h2 := num_fine hb2
  have h1 := num_fine h2
  obtain ⟨e0, e00⟩ := bytes_left h1
  have e1 := (num_left h1 h2).1
  have e2 := (num_left h2 hb2).1
  have v1 := (num_val (s := (Vint.bytes 64 s).2) 4611686018427387904).1
  have v2 := (num_val (s := (num 4611686018427387904 (Vint.bytes 64 s).2).2) 4294967295).1
  have hsz : (⟨⟨(Vint.bytes 64 s).1⟩⟩ : ByteArray).size = (Vint.bytes 64 s).1.length := rfl
  refine ⟨?_, by rw [hsz]; exact e00, by omega, v2⟩
  unfold objL
  simp only
  rw [u64_of _ v1, hsz]
  simp only [List.append_assoc]
  rw [← e2, ← e1]
  exact e0

theorem readOs_bad (n : Nat) (s : Rs) (l : List ObjD) (h : s.bad ≠ .fine) : readOs n s l = (l, s) := by
  cases n with
  | zero => rfl
  | succ n => unfold readOs; rw [if_neg h]
theorem readOs_go {n : Nat} {s : Rs} (l : List ObjD) (hb : s.bad = .fine) : readOs (n + 1) s l = readOs n (readO s).2 (l ++ [(readO s).1]) := by
  conv => lhs; unfold readOs
  rw [if_pos hb]
theorem readOs_fine (n : Nat) : ∀ (s : Rs) (l : List ObjD), (readOs n s l).2.bad = .fine → s.bad = .fine := by
  intro s l h
  by_cases hb : s.bad = .fine
  · exact hb
  · rw [readOs_bad _ _ _ hb] at h; exact h
theorem readOs_left (n : Nat) : ∀ (s : Rs) (l : List ObjD), (readOs n s l).2.bad = .fine →
    ∃ l2, (readOs n s l).1 = l ++ l2 ∧ l2.length = n ∧ s.left = l2.flatMap objL ++ (readOs n s l).2.left ∧ ∀ o ∈ l2, o.name.size ≤ 64 ∧ (0 ≤ o.len ∧ o.len ≤ 4611686018427387904) ∧ o.sum ≤ 4294967295 := by
  induction n with
  | zero => intro s l _; exact ⟨[], by simp [readOs], rfl, by simp [readOs], by simp⟩
  | succ n ih =>
    intro s l h
    have hb := readOs_fine _ _ _ h
    rw [readOs_go l hb] at h ⊢
    obtain ⟨l2, h1, h2, h3, h5⟩ := ih _ _ h
    have h4 := readOs_fine _ _ _ h
    obtain ⟨h6, h7⟩ := readO_left h4
    refine ⟨(readO s).1 :: l2, by rw [h1]; simp, by simp [h2], ?_, ?_⟩
    · rw [List.flatMap_cons, List.append_assoc, ← h3, ← h6]
    · intro p hp
      rcases List.mem_cons.1 hp with rfl | hp
      · exact h7
      · exact h5 p hp

theorem int_val {a b : Int} {s : Rs} (hb : s.bad = .fine) (hb2 : (int a b s).2.bad = .fine) : a ≤ (int a b s).1 ∧ (int a b s).1 ≤ b := by
  unfold int at *
  rw [if_neg (fun e => e hb)] at *
  cases hg : getL 0 0 s.left with
  | ok n k =>
    rw [hg] at hb2
    simp only at hb2 ⊢
    by_cases h : unfold' n < a ∨ b < unfold' n
    · rw [if_pos h] at hb2; simp [Rs.fail] at hb2
    · rw [if_neg h]; simp only; omega
  | fin => rw [hg] at hb2; simp [Rs.fail] at hb2
  | shape => rw [hg] at hb2; simp [Rs.fail] at hb2

theorem readM_back (b : List UInt8) (m : ManD) (h : readM b = some m) : mbody m = b ∧ PutOk m := by
  unfold readM at h
  simp only at h
  split at h
  · rename_i hc
    obtain ⟨hb, hz⟩ := hc
    have hz := List.eq_nil_of_length_eq_zero hz
    generalize ea1 : num 4611686018427387904 (rs0 b) = a1 at *
    generalize ea2 : num 4611686018427387904 a1.2 = a2 at *
    generalize ea3 : num 4611686018427387904 a2.2 = a3 at *
    generalize ea4 : int (-4611686018427387904) 4611686018427387904 a3.2 = a4 at *
    generalize en : num 256 a4.2 = n at *
    generalize eq : readPs n.1 n.2 [] = q at *
    generalize ek : num 8 q.2 = k at *
    generalize eo : readOs k.1 k.2 [] = o at *
    have g7 : k.2.bad = .fine := readOs_fine _ _ _ (by rw [eo]; exact hb)
    have g6 : q.2.bad = .fine := num_fine (most := 8) (by rw [ek]; exact g7)
    have g5 : n.2.bad = .fine := readPs_fine _ _ _ (by rw [eq]; exact g6)
    have g4 : a4.2.bad = .fine := num_fine (most := 256) (by rw [en]; exact g5)
    have g3 : a3.2.bad = .fine := Idx.int_fine (a := -4611686018427387904) (b := 4611686018427387904) (by rw [ea4]; exact g4)
    have g2 : a2.2.bad = .fine := num_fine (most := 4611686018427387904) (by rw [ea3]; exact g3)
    have g1 : a1.2.bad = .fine := num_fine (most := 4611686018427387904) (by rw [ea2]; exact g2)
    have l1 := (num_left (most := 4611686018427387904) (s := rs0 b) rfl (by rw [ea1]; exact g1)).1
    have l2 := (num_left (most := 4611686018427387904) g1 (by rw [ea2]; exact g2)).1
    have l3 := (num_left (most := 4611686018427387904) g2 (by rw [ea3]; exact g3)).1
    have l4 := Idx.int_left (a := -4611686018427387904) (b := 4611686018427387904) g3 (by rw [ea4]; exact g4)
    have l5 := (num_left (most := 256) g4 (by rw [en]; exact g5)).1
    have l7 := (num_left (most := 8) g6 (by rw [ek]; exact g7)).1
    obtain ⟨ps, p1, p2, p3, p4⟩ := readPs_left n.1 n.2 [] (by rw [eq]; exact g6)
    obtain ⟨os, o1, o2, o3, o4⟩ := readOs_left k.1 k.2 [] (by rw [eo]; exact hb)
    have v1 := (num_val (s := rs0 b) 4611686018427387904).1
    have v2 := (num_val (s := a1.2) 4611686018427387904).1
    have v3 := (num_val (s := a2.2) 4611686018427387904).1
    have v4 := int_val (a := -4611686018427387904) (b := 4611686018427387904) g3 (by rw [ea4]; exact g4)
    have v5 := (num_val (s := a4.2) 256).1
    have v7 := (num_val (s := q.2) 8).1
    rw [ea1] at l1 v1
    rw [ea2] at l2 v2
    rw [ea3] at l3 v3
    rw [ea4] at l4 v4
    rw [en] at l5 v5
    rw [ek] at l7 v7
    rw [eq, List.nil_append] at p1
    rw [eq] at p3
    rw [eo, List.nil_append] at o1
    rw [eo, hz, List.append_nil] at o3
    cases h
    have e0 : (rs0 b).left = b := rfl
    refine ⟨?_, ⟨by simp only; omega, by simp only; omega, by simp only; omega, v4, ?_, ?_, ?_, ?_⟩⟩
    · unfold mbody
      simp only
      rw [p1, o1, p2, o2, u64_of _ v1, u64_of _ v2, u64_of _ v3, ← o3, ← l7, ← p3, ← l5, ← l4, ← l3, ← l2, ← l1]
      exact e0
    · simp only; rw [p1, p2]; exact v5
    · simp only; rw [p1]; exact p4
    · simp only; rw [o1, o2]; exact v7
    · simp only; rw [o1]; exact o4
  · cases h

/-- Cut off there is none. -/
theorem readM_cut (m : ManD) (h : PutOk m) (k : Nat) (hk : k < (mbody m).length) : readM ((mbody m).take k) = none := by
  cases hq : readM ((mbody m).take k) with
  | none => rfl
  | some m' =>
    obtain ⟨h1, h2⟩ := readM_back _ _ hq
    have h3 := readM_put m' h2 ((mbody m).drop k)
    rw [h1, List.take_append_drop, if_neg (by rw [List.length_drop]; omega)] at h3
    have h4 := readM_put m h []
    rw [List.append_nil, if_pos (show ([] : List UInt8).length = 0 from rfl), h3] at h4
    cases h4

theorem mbody_inj (m m' : ManD) (h : PutOk m) (h' : PutOk m') (e : mbody m = mbody m') : m = m' := by
  have h1 := readM_put m h []
  have h2 := readM_put m' h' []
  rw [List.append_nil, if_pos (show ([] : List UInt8).length = 0 from rfl)] at h1 h2
  rw [e, h2] at h1
  cases h1; rfl
end Go.Proofs.YtegiingcnhafbaaGreatDoor.Man

/-! Plain: a manifest that may be can be laid. -/
namespace Go.Proofs.YtegiingcnhafbaaGreatDoor
open Go Go.RowKit Man Vint

theorem putOk_of2 {m : ManD} (h : manOk m) (hk : Man.Ok m) : PutOk m := by
  unfold manOk rangeOk objsOk at h
  obtain ⟨⟨g1, g2, g3, g4, g5, g6, g7, g8, g9⟩, hev, -, ⟨-, h8, h9, -⟩⟩ := h
  obtain ⟨e1, e2, -⟩ := (Epo.valid_iff m.eps).1 hev
  refine ⟨by omega, by omega, by omega, by omega, e1, fun p hp => ?_, h8, fun o ho => ?_⟩
  · rw [List.all_eq_true] at e2
    have := e2 p hp
    unfold Epo.right at this
    rw [decide_eq_true_eq] at this
    omega
  · obtain ⟨i, hi, rfl⟩ := List.mem_iff_getElem.1 ho
    obtain ⟨q1, q2, q3⟩ := h9 i hi
    have := (hk.objs _ ho).2
    unfold nameOk at q1
    rw [decide_eq_true_eq] at q1
    exact ⟨q1.2.1, by omega, by omega⟩

theorem flat_le {α : Type} (f : α → List UInt8) (c : Nat) (l : List α) (h : ∀ x ∈ l, (f x).length ≤ c) : (l.flatMap f).length ≤ l.length * c := by
  induction l with
  | nil => simp
  | cons a l ih =>
    rw [List.flatMap_cons, List.length_append, List.length_cons, Nat.add_mul, Nat.one_mul]
    have h1 := h a List.mem_cons_self
    have h2 := ih (fun x hx => h x (List.mem_cons_of_mem _ hx))
    omega
theorem mbody_len (m : ManD) (h : manOk m) (hk : Man.Ok m) : (mbody m).length ≤ 10000 := by
  have hp : PutOk m := putOk_of2 h hk
  have h1 := flat_le Man.pairL 20 m.eps (fun p _ => by
    unfold Man.pairL
    rw [List.length_append]
    have := putL_len10 (u64 p.ep) (u64_lt _)
    have := putL_len10 (u64 p.st) (u64_lt _)
    omega)
  have h2 := flat_le objL 94 m.objs (fun o ho => by
    unfold objL
    rw [List.length_append, List.length_append, List.length_append]
    have hn := (hp.objs o ho).1
    have hsz : o.name.data.toList.length = o.name.size := by rw [Array.length_toList]; rfl
    have := putL_len10 o.name.size (by omega)
    have := putL_len10 (u64 o.len) (u64_lt _)
    have := putL_len10 o.sum (by have := (hp.objs o ho).2.2; omega)
    omega)
  have a1 := putL_len10 (u64 m.id) (u64_lt _)
  have a2 := putL_len10 (u64 m.base) (u64_lt _)
  have a3 := putL_len10 (u64 m.fin) (u64_lt _)
  have a4 := putL_len10 (fold m.time) (fold_lt _ hk.time.out.1 hk.time.out.2)
  have a5 := putL_len10 m.eps.length (by have := hp.elen; omega)
  have a6 := putL_len10 m.objs.length (by have := hp.olen; omega)
  have e1 := hp.elen
  have e2 := hp.olen
  unfold mbody
  simp only [List.length_append]
  have : m.eps.length * 20 ≤ 256 * 20 := Nat.mul_le_mul_right _ e1
  have : m.objs.length * 94 ≤ 8 * 94 := Nat.mul_le_mul_right _ e2
  omega

end Go.Proofs.YtegiingcnhafbaaGreatDoor
