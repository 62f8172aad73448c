/- name.kinds, name.right, name.Object. -/
import Derived.Test.YtegiingcnhafbaaDoorNameLib
import Derived.Test.YtegiingcnhafbaaDoorNameVal
namespace Go.Proofs.YtegiingcnhafbaaDoor
open Go Go.RowKit

def kindOk (s : ByteArray) : Bool := decide (1 ≤ s.size ∧ s.size ≤ 8 ∧ ∀ i (h : i < s.size), 97 ≤ (s[i]).toNat ∧ (s[i]).toNat ≤ 122)

set_option maxRecDepth 100000 in
set_option maxHeartbeats 1000000 in
theorem kinds_calls (s : ByteArray) (w : World) (hm : s.size ≤ 9223372036854775807) : Calls Tryd.prog 30 #[.string s] w (fun e w' => e = .returned (.bool (kindOk s)) ∧ Below w.heap.size w w') := by
  obtain ⟨R, hR⟩ : ∃ R, R = kindOk s := ⟨_, rfl⟩
  have HR := Lib.hid hR
  rw [← hR]
  clear hR
  have HF := Lib.hid (show (¬ 1 ≤ s.size ∨ ¬ s.size ≤ 8 ∨ ∃ i, ∃ h : i < s.size, ¬ (97 ≤ (s[i]).toNat ∧ (s[i]).toNat ≤ 122)) → R = false by
    intro h
    rw [HR.out]
    unfold kindOk
    rw [decide_eq_false_iff_not]
    rintro ⟨h1, h2, h3⟩
    rcases h with h | h | ⟨i, hi, h⟩
    · exact h h1
    · exact h h2
    · exact h (h3 i hi))
  by_cases t1 : s.size < 1
  · go_enter Tryd.func30, Tryd.ntmps30
    go_wp2_with fail
    go_ret
    exact ⟨by rw [HF.out (.inl (by omega))]; rfl, Below.refl _ _⟩
  · by_cases t2 : 8 < s.size
    · have t1' : decide ((s.size : Int) < 1) = false := decide_eq_false (by omega)
      clear t1
      go_enter Tryd.func30, Tryd.ntmps30
      go_wp2_with fail
      go_ret
      exact ⟨by rw [HF.out (.inr (.inl (by omega)))]; rfl, Below.refl _ _⟩
    · have t1' : decide ((s.size : Int) < 1) = false := decide_eq_false (by omega)
      have t2' : decide (8 < (s.size : Int)) = false := decide_eq_false (by omega)
      go_enter Tryd.func30, Tryd.ntmps30
      go_wp2_with fail
      go_loopw [3, 14] (fun _ iv wr => ∃ i : Nat, i ≤ s.size ∧ iv = .int .i64 i ∧ Below w.heap.size w wr ∧ ∀ j (h : j < s.size), j < i → 97 ≤ (s[j]).toNat ∧ (s[j]).toNat ≤ 122) (fun _ iv _ => s.size - (intOf iv).toNat)
      case atStart => exact ⟨0, Nat.zero_le _, rfl, Below.refl _ _, fun j _ h => by omega⟩
      case round =>
        obtain ⟨i, hi, rfl, hb, hj⟩ := hrel
        have HJ := Lib.hid hj
        clear hj
        by_cases hlt : i < s.size
        · have hsm := fun W => nameSmall_is (s[i]).toNat W
          go_wp2_with fail
          with_reducible refine (hsm _).mono ?_
          rintro e w2 ⟨rfl, rfl⟩
          by_cases hq : 97 ≤ (s[i]).toNat ∧ (s[i]).toNat ≤ 122
          · rw [decide_eq_true hq]
            have HQ := Lib.hid hq
            clear hq hsm
            go_wp2_with fail
            exact ⟨⟨i + 1, by omega, by go_num, hb, fun j h hji => by
              rcases Nat.lt_or_ge j i with h1 | h1
              · exact HJ.out j h h1
              · obtain rfl : j = i := by omega
                exact HQ.out⟩, by simp [intOf]; omega⟩
          · rw [decide_eq_false hq]
            have HQ := Lib.hid hq
            clear hq hsm
            go_wp2_with fail
            go_ret
            exact ⟨by rw [HF.out (.inr (.inr ⟨i, hlt, HQ.out⟩))]; rfl, hb⟩
        · have HT := Lib.hid (show R = true by
            rw [HR.out]
            unfold kindOk
            rw [decide_eq_true_eq]
            exact ⟨by omega, by omega, fun j h => HJ.out j h (by omega)⟩)
          go_wp2_with fail
          go_ret
          exact ⟨by rw [HT.out]; rfl, hb⟩

def offOk (n : Int) : Bool := decide (0 ≤ n ∧ n ≤ 1099511627776)
set_option maxRecDepth 100000 in
set_option maxHeartbeats 1000000 in
theorem right_calls (n : Int) (w : World) : Calls Tryd.prog 26 #[.int .i64 n] w (fun e w' => e = .returned (.bool (offOk n)) ∧ w' = w) := by
  unfold offOk
  by_cases h1 : 0 ≤ n
  · by_cases h2 : n ≤ 1099511627776
    · rw [decide_eq_true ⟨h1, h2⟩]
      go_enter Tryd.func26, Tryd.ntmps26
      go_wp2_with fail
      go_ret
      exact ⟨rfl, rfl⟩
    · rw [decide_eq_false (fun h => h2 h.2)]
      have h2' : decide (n ≤ 1099511627776) = false := decide_eq_false h2
      go_enter Tryd.func26, Tryd.ntmps26
      go_wp2_with fail
      go_ret
      exact ⟨rfl, rfl⟩
  · rw [decide_eq_false (fun h => h1 h.1)]
    have h1' : decide (0 ≤ n) = false := decide_eq_false h1
    go_enter Tryd.func26, Tryd.ntmps26
    go_wp2_with fail
    go_ret
    exact ⟨rfl, rfl⟩

theorem nDigits_le : ∀ (k u : Nat), u < 10 ^ (k + 1) → Lib.nDigits u ≤ k + 1 := by
  intro k
  induction k with
  | zero => intro u h; rw [Lib.nDigits_small (by simpa using h)]; omega
  | succ k ih =>
    intro u h
    by_cases h1 : u < 10
    · rw [Lib.nDigits_small h1]; omega
    · rw [Lib.nDigits_big h1]
      have := ih (u / 10) (by rw [Nat.div_lt_iff_lt_mul (by decide), ← Nat.pow_succ]; exact h)
      omega
theorem wideL_len (n k : Nat) (h : n < 10 ^ (k + 1)) : (wideL n (k + 1)).length = k + 1 := by
  unfold wideL
  rw [List.length_append, List.length_replicate, Lib.decDigits_length]
  have := nDigits_le k n h
  omega

/-- An object's name. -/
def objectL (id : Nat) (kind : ByteArray) (base : Nat) : List UInt8 := ([115, 101, 103, 45] ++ wideL id 10) ++ [45] ++ kind.data.toList ++ [45] ++ wideL base 13
def objectOk (id : Int) (kind : ByteArray) (base : Int) : Bool := decide (0 ≤ id ∧ id ≤ 2147483647) && kindOk kind && offOk base

set_option maxRecDepth 100000 in
set_option maxHeartbeats 1000000 in
theorem object_calls (id : Int) (kind : ByteArray) (base : Int) (w : World) (hm : kind.size ≤ 9223372036854775807) (ht : Tens w) :
    Calls Tryd.prog 16 #[.int .i64 id, .string kind, .int .i64 base] w (fun e w' => e = .returned (.string (if objectOk id kind base = true then ⟨(objectL id.toNat kind base.toNat).toArray⟩ else ⟨#[]⟩)) ∧ Below w.heap.size w w') := by
  have hk := kinds_calls kind w hm
  have hr := fun W => right_calls base W
  obtain ⟨R, hR⟩ : ∃ R, R = (if objectOk id kind base = true then (⟨(objectL id.toNat kind base.toNat).toArray⟩ : ByteArray) else ⟨#[]⟩) := ⟨_, rfl⟩
  rw [← hR]
  have HR := Lib.hid hR
  have HF := Lib.hid (show (¬ (0 ≤ id ∧ id ≤ 2147483647) ∨ kindOk kind = false ∨ offOk base = false) → R = ⟨#[]⟩ by
    intro h
    have : objectOk id kind base = false := by
      unfold objectOk
      rcases h with h | h | h
      · rw [decide_eq_false h]; rfl
      · rw [h]; simp
      · rw [h]; simp
    rw [hR, this]; rfl)
  clear hR
  by_cases h1 : 0 ≤ id
  · obtain ⟨n, rfl⟩ : ∃ n : Nat, id = (n : Int) := ⟨id.toNat, by omega⟩
    have h1' : decide ((n : Int) < 0) = false := decide_eq_false (by omega)
    by_cases h2 : n ≤ 2147483647
    · have h2' : decide ((2147483647 : Int) < (n : Int)) = false := decide_eq_false (by omega)
      obtain ⟨K, hK⟩ : ∃ K, K = kindOk kind := ⟨_, rfl⟩
      rw [← hK] at hk
      have HK := Lib.hid hK
      clear hK h1 
      go_enter Tryd.func16, Tryd.ntmps16
      go_wp2_with fail
      with_reducible refine hk.mono ?_
      rintro e w2 ⟨rfl, b2⟩
      clear hk
      cases K
      · go_wp2_with fail
        go_ret
        exact ⟨by rw [HF.out (.inr (.inl HK.out.symm))]; rfl, b2⟩
      obtain ⟨O, hO⟩ : ∃ O, O = offOk base := ⟨_, rfl⟩
      rw [← hO] at hr
      have HO := Lib.hid hO
      clear hO
      go_wp2_with fail
      with_reducible refine (hr _).mono ?_
      rintro e w3 ⟨rfl, hw3⟩
      subst hw3
      clear hr
      cases O
      · go_wp2_with fail
        go_ret
        exact ⟨by rw [HF.out (.inr (.inr HO.out.symm))]; rfl, b2⟩
      have ho := HO.out.symm
      unfold offOk at ho
      rw [decide_eq_true_eq] at ho
      obtain ⟨b, rfl⟩ : ∃ b : Nat, base = (b : Int) := ⟨base.toNat, by omega⟩
      have hkk := HK.out.symm
      unfold kindOk at hkk
      rw [decide_eq_true_eq] at hkk
      have hks : kind.size ≤ 8 := hkk.2.1
      have hw1 := fun W (hT : Tens W) => wide_calls n 10 (by omega) (by omega) W hT
      have hw2 := fun W (hT : Tens W) => wide_calls b 13 (by omega) (by omega) W hT
      have l1 := wideL_len n 9 (by omega)
      have l2 := wideL_len b 12 (by omega)
      have HE : Hid (R = ⟨(([115, 101, 103, 45] ++ wideL n 10) ++ [45] ++ kind.data.toList ++ [45] ++ wideL b 13).toArray⟩) := Lib.hid (by
        rw [HR.out]
        have : objectOk (n : Int) kind (b : Int) = true := by
          unfold objectOk
          rw [HO.out.symm, HK.out.symm, decide_eq_true (by omega)]
          rfl
        rw [this]; rfl)
      generalize wideL n 10 = W1 at *
      generalize wideL b 13 = W2 at *
      have T2 := ht.below b2
      clear hkk ho
      go_wp2_with fail
      refine (hw1 _ T2).mono ?_
      rintro e w4 ⟨rfl, b4⟩
      have T4 := T2.below b4
      clear hw1
      go_wp2_with fail
      refine (hw2 _ T4).mono ?_
      rintro e w5 ⟨rfl, b5⟩
      clear hw2
      go_wp2_with fail
      go_ret
      refine ⟨?_, nxt (nxt b2 b4) b5⟩
      rw [HE.out]
      refine congrArg (fun x => Ending.returned (.string x)) ?_
      apply ByteArray.ext
      simp [ByteArray.data_append]
    · have h2' : decide ((2147483647 : Int) < (n : Int)) = true := decide_eq_true (by omega)
      clear hk hr
      go_enter Tryd.func16, Tryd.ntmps16
      go_wp2_with fail
      go_ret
      exact ⟨by rw [HF.out (.inl (by omega))]; rfl, Below.refl _ _⟩
  · have h1' : decide (id < 0) = true := decide_eq_true (by omega)
    clear hk hr
    go_enter Tryd.func16, Tryd.ntmps16
    go_wp2_with fail
    go_ret
    exact ⟨by rw [HF.out (.inl (by omega))]; rfl, Below.refl _ _⟩
end Go.Proofs.YtegiingcnhafbaaDoor
