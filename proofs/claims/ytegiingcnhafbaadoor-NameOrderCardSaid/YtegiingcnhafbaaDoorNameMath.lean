/- Plain: names of objects are names, and differ where what they name differs. -/
import Derived.Test.YtegiingcnhafbaaDoorNameObj
namespace Go.Proofs.YtegiingcnhafbaaDoor
open Go Go.RowKit

def valL (l : List UInt8) : Nat := l.foldl (fun n c => 10 * n + (c.toNat - 48)) 0
theorem valL_snoc (l : List UInt8) (c : UInt8) : valL (l ++ [c]) = 10 * valL l + (c.toNat - 48) := by unfold valL; rw [List.foldl_append]; rfl
theorem valL_zeros (c : Nat) (l : List UInt8) : valL (List.replicate c 48 ++ l) = valL l := by
  unfold valL
  rw [List.foldl_append]
  congr 1
  induction c with
  | zero => rfl
  | succ c ih => rw [List.replicate_succ, List.foldl_cons]; exact ih
theorem dec_next {u : Nat} (h : ¬ u < 10) : Lib.decDigits u = Lib.decDigits (u / 10) ++ [UInt8.ofNat (48 + u % 10)] := by
  rw [Lib.decDigits, dif_neg h]
theorem ofNat_toNat_small (n : Nat) (h : n < 256) : (UInt8.ofNat n).toNat = n := by
  rw [UInt8.toNat_ofNat']; omega
theorem valL_dec : ∀ u, valL (Lib.decDigits u) = u := by
  intro u
  induction u using Nat.strongRecOn with
  | ind u ih =>
    by_cases h : u < 10
    · rw [Lib.decDigits_one h]
      have := valL_snoc [] (UInt8.ofNat (48 + u))
      rw [List.nil_append] at this
      rw [this, ofNat_toNat_small _ (by omega)]
      show 10 * 0 + _ = _
      omega
    · rw [dec_next h, valL_snoc, ih (u / 10) (by omega), ofNat_toNat_small _ (by omega)]
      omega
theorem valL_wide (n k : Nat) : valL (wideL n k) = n := by unfold wideL; rw [valL_zeros, valL_dec]
theorem dec_digit : ∀ u, ∀ x ∈ Lib.decDigits u, 48 ≤ x.toNat ∧ x.toNat ≤ 57 := by
  intro u
  induction u using Nat.strongRecOn with
  | ind u ih =>
    by_cases h : u < 10
    · rw [Lib.decDigits_one h]
      intro x hx
      rw [List.mem_singleton.1 hx, ofNat_toNat_small _ (by omega)]
      omega
    · rw [dec_next h]
      intro x hx
      rcases List.mem_append.1 hx with hx | hx
      · exact ih (u / 10) (by omega) x hx
      · rw [List.mem_singleton.1 hx, ofNat_toNat_small _ (by omega)]; omega
theorem wide_digit (n k : Nat) : ∀ x ∈ wideL n k, 48 ≤ x.toNat ∧ x.toNat ≤ 57 := by
  intro x hx
  unfold wideL at hx
  rcases List.mem_append.1 hx with hx | hx
  · rw [(List.mem_replicate.1 hx).2]; decide
  · exact dec_digit n x hx

theorem kind_len (k : ByteArray) : k.data.toList.length = k.size := by rw [Array.length_toList]; rfl
theorem objectL_len (i : Nat) (k : ByteArray) (a : Nat) (hi : i < 10 ^ 10) (ha : a < 10 ^ 13) : (objectL i k a).length = 29 + k.size := by
  unfold objectL
  simp only [List.length_append, wideL_len i 9 hi, wideL_len a 12 ha, kind_len, List.length_cons, List.length_nil]
  omega
theorem objectL_inj (i j : Nat) (k : ByteArray) (a b : Nat) (hi : i < 10 ^ 10) (hj : j < 10 ^ 10) (_ha : a < 10 ^ 13) (_hb : b < 10 ^ 13) (h : objectL i k a = objectL j k b) : i = j ∧ a = b := by
  unfold objectL at h
  have l1 := wideL_len i 9 hi
  have l2 := wideL_len j 9 hj
  have h1 := List.append_inj h (by simp only [List.length_append, l1, l2])
  have h2 := List.append_inj h1.1 (by simp only [List.length_append, l1, l2])
  have h3 := List.append_inj h2.1 (by simp only [List.length_append, l1, l2])
  have h4 := List.append_inj h3.1 (by simp only [List.length_append, l1, l2])
  have h5 := List.append_inj h4.1 rfl
  have e1 := congrArg valL h5.2
  have e2 := congrArg valL h1.2
  rw [valL_wide, valL_wide] at e1 e2
  exact ⟨e1, e2⟩

theorem okC_digit {c : Nat} (h : 48 ≤ c ∧ c ≤ 57) : okC c = true := by unfold okC; rw [decide_eq_true (p := 48 ≤ c ∧ c ≤ 57) h]; simp
theorem okC_small {c : Nat} (h : 97 ≤ c ∧ c ≤ 122) : okC c = true := by unfold okC; rw [decide_eq_true (p := 97 ≤ c ∧ c ≤ 122) h]; simp
theorem kind_small {k : ByteArray} (hk : kindOk k = true) : ∀ x ∈ k.data.toList, 97 ≤ x.toNat ∧ x.toNat ≤ 122 := by
  intro x hx
  unfold kindOk at hk
  rw [decide_eq_true_eq] at hk
  obtain ⟨i, hi, rfl⟩ := List.mem_iff_getElem.1 hx
  have hi' : i < k.size := by rw [← kind_len]; exact hi
  have := hk.2.2 i hi'
  rw [Array.getElem_toList]
  exact this
theorem object_nameOk {i a : Nat} {k : ByteArray} (hk : kindOk k = true) (hi : i ≤ 2147483647) (ha : a ≤ 1099511627776) : nameOk (⟨(objectL i k a).toArray⟩ : ByteArray) = true := by
  have hl := objectL_len i k a (by omega) (by omega)
  have hks : 1 ≤ k.size ∧ k.size ≤ 8 := by unfold kindOk at hk; rw [decide_eq_true_eq] at hk; exact ⟨hk.1, hk.2.1⟩
  have hsz : (⟨(objectL i k a).toArray⟩ : ByteArray).size = (objectL i k a).length := by show (objectL i k a).toArray.size = _; rw [List.size_toArray]
  unfold nameOk
  rw [decide_eq_true_eq]
  refine ⟨by rw [hsz, hl]; omega, by rw [hsz, hl]; omega, fun j hj => ?_⟩
  have hall : ∀ x ∈ objectL i k a, okC x.toNat = true := by
    intro x hx
    unfold objectL at hx
    simp only [List.mem_append] at hx
    rcases hx with ((((hx | hx) | hx) | hx) | hx) | hx
    · simp only [List.mem_cons, List.not_mem_nil, or_false] at hx
      rcases hx with rfl | rfl | rfl | rfl <;> decide
    · exact okC_digit (wide_digit i 10 x hx)
    · rw [List.mem_singleton.1 hx]; decide
    · exact okC_small (kind_small hk x hx)
    · rw [List.mem_singleton.1 hx]; decide
    · exact okC_digit (wide_digit a 13 x hx)
  have hj' : j < (objectL i k a).length := by rw [← hsz]; exact hj
  have := hall _ (List.getElem_mem hj')
  exact this
end Go.Proofs.YtegiingcnhafbaaDoor
