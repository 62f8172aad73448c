/- Plain: numbers, texts and fixed ones laid one behind the other. No program in sight. -/
import Derived.Test.YtlgbdibfpboleaaDoorTextMath
namespace Go.Proofs.YtlgbdibfpboleaaDoor.Vint

theorem flat_split {α β : Type} (f : α → List β) (l : List α) (i : Nat) (hi : i < l.length) : l.flatMap f = (l.take i).flatMap f ++ (f l[i] ++ (l.drop (i + 1)).flatMap f) := by
  conv => lhs; rw [← List.take_append_drop i l, List.drop_eq_getElem_cons hi]
  rw [List.flatMap_append, List.flatMap_cons]

theorem flat_take_succ {α β : Type} (f : α → List β) (l : List α) (i : Nat) (hi : i < l.length) : (l.take (i + 1)).flatMap f = (l.take i).flatMap f ++ f l[i] := by
  rw [List.take_succ_eq_append_getElem hi, List.flatMap_append]; simp

theorem flat_len_le {α β : Type} (f : α → List β) (c : Nat) : ∀ l : List α, (∀ x ∈ l, (f x).length ≤ c) → (l.flatMap f).length ≤ c * l.length := by
  intro l
  induction l with
  | nil => intro _; simp
  | cons a l ih =>
    intro h
    rw [List.flatMap_cons, List.length_append, List.length_cons, Nat.mul_succ]
    have := h a List.mem_cons_self
    have := ih (fun x hx => h x (List.mem_cons_of_mem _ hx))
    omega

def numsB (us : List Nat) : List UInt8 := us.flatMap putL
def intsB (ns : List Int) : List UInt8 := ns.flatMap fun n => putL (fold n)
def textB (t : List UInt8) : List UInt8 := putL t.length ++ t
def textsB (ts : List (List UInt8)) : List UInt8 := ts.flatMap textB

theorem nums_read (us : List Nat) (hu : ∀ u ∈ us, U64 u) (r : List UInt8) (i : Nat) (hi : i < us.length) (most : Nat) (hm : ∀ u ∈ us, u ≤ most) :
    num most ⟨numsB us ++ r, (numsB (us.take i)).length, .fine⟩ = (us[i], ⟨numsB us ++ r, (numsB (us.take (i + 1))).length, .fine⟩) := by
  have hal : numsB us ++ r = numsB (us.take i) ++ (putL us[i] ++ (numsB (us.drop (i + 1)) ++ r)) := by
    unfold numsB; rw [flat_split putL us i hi]; simp
  have h := num_put most us[i] (numsB (us.drop (i + 1)) ++ r) (numsB (us.take i)).length (numsB (us.take i)) (hu _ (List.getElem_mem _)) rfl
  rw [← hal, if_neg (by have := hm us[i] (List.getElem_mem _); omega)] at h
  rw [h]
  unfold numsB
  rw [flat_take_succ putL us i hi, List.length_append]

theorem ints_read (ns : List Int) (hn : ∀ n ∈ ns, I64 n) (p r : List UInt8) (i : Nat) (hi : i < ns.length) :
    int (-9223372036854775808) 9223372036854775807 ⟨p ++ (intsB ns ++ r), (p ++ intsB (ns.take i)).length, .fine⟩ = (ns[i], ⟨p ++ (intsB ns ++ r), (p ++ intsB (ns.take (i + 1))).length, .fine⟩) := by
  have hb := (hn ns[i] (List.getElem_mem _)).out
  have hal : p ++ (intsB ns ++ r) = (p ++ intsB (ns.take i)) ++ (putL (fold ns[i]) ++ (intsB (ns.drop (i + 1)) ++ r)) := by
    unfold intsB; rw [flat_split (fun n => putL (fold n)) ns i hi]; simp
  have h := int_put (-9223372036854775808) 9223372036854775807 ns[i] (intsB (ns.drop (i + 1)) ++ r) (p ++ intsB (ns.take i)).length (p ++ intsB (ns.take i)) (hn _ (List.getElem_mem _)) rfl
  rw [← hal, if_neg (by omega)] at h
  rw [h]
  unfold intsB
  rw [flat_take_succ (fun n => putL (fold n)) ns i hi, List.length_append, List.length_append, List.length_append, Nat.add_assoc]

theorem texts_read (ts : List (List UInt8)) (ht : ∀ t ∈ ts, t.length ≤ 40) (p r : List UInt8) (i : Nat) (hi : i < ts.length) :
    bytes (40 : Nat) ⟨p ++ (textsB ts ++ r), (p ++ textsB (ts.take i)).length, .fine⟩ = (ts[i], ⟨p ++ (textsB ts ++ r), (p ++ textsB (ts.take (i + 1))).length, .fine⟩) := by
  have hb := ht ts[i] (List.getElem_mem _)
  have hal : p ++ (textsB ts ++ r) = (p ++ textsB (ts.take i)) ++ (putL ts[i].length ++ (ts[i] ++ (textsB (ts.drop (i + 1)) ++ r))) := by
    unfold textsB; rw [flat_split textB ts i hi]; simp [textB]
  have h := bytes_put 40 ts[i] (textsB (ts.drop (i + 1)) ++ r) (p ++ textsB (ts.take i)).length (p ++ textsB (ts.take i)) (by omega) rfl
  rw [← hal, if_neg (by omega)] at h
  rw [h]
  unfold textsB
  rw [flat_take_succ textB ts i hi]
  simp [textB, Nat.add_assoc]

theorem numsB_len (us : List Nat) (hu : ∀ u ∈ us, U64 u) : (numsB us).length ≤ 10 * us.length := flat_len_le putL 10 us fun u h => putL_len10 u (hu u h)
theorem intsB_len (ns : List Int) (hn : ∀ n ∈ ns, I64 n) : (intsB ns).length ≤ 10 * ns.length := flat_len_le _ 10 ns fun n h => putL_len10 _ (fold_lt n (hn n h).out.1 (hn n h).out.2)
theorem textsB_len (ts : List (List UInt8)) (ht : ∀ t ∈ ts, t.length ≤ 40) : (textsB ts).length ≤ 50 * ts.length := flat_len_le _ 50 ts fun t h => by
  unfold textB; rw [List.length_append]
  have := ht t h
  have := putL_len10 t.length (by omega)
  omega
end Go.Proofs.YtlgbdibfpboleaaDoor.Vint
