/- The document's digits, kindly, Right, Object. -/
import Derived.Test.YtegiingcnhafbaaGreatDoorNameOrd
namespace Go.Proofs.YtegiingcnhafbaaGreatDoor
open Go Go.RowKit

set_option maxRecDepth 100000 in
set_option maxHeartbeats 2000000 in
theorem digits_calls (n k : Nat) (hn : n ≤ 4611686018427387904) (hk : k ≤ 20) (w : World) :
    Calls Tryz.prog 50 #[.int .i64 n, .int .i64 k] w (fun e w' => e = .returned (.string ⟨(digL n k).toArray⟩) ∧ Below w.heap.size w w') := by
  obtain ⟨R, hR⟩ : ∃ R, R = digL n k := ⟨_, rfl⟩
  rw [← hR]
  have HR := Lib.hid hR
  clear hR
  go_enter Tryz.func50, Tryz.ntmps50
  go_wp2_with fail
  go_loopw [0, 5, 6, 7] (fun nv sv iv _ wr => ∃ (m : Nat) (s : List UInt8) (i : Nat), nv = .int .i64 m ∧ sv = .string ⟨s.toArray⟩ ∧ iv = .int .i64 i ∧ m ≤ 4611686018427387904 ∧ i ≤ k ∧ s.length ≤ i ∧ digL m (k - i) ++ s = R ∧ Below w.heap.size w wr) (fun _ _ iv _ _ => k - (intOf iv).toNat)
  case atStart => exact ⟨n, [], 0, rfl, rfl, rfl, hn, Nat.zero_le _, Nat.le_refl _, by rw [HR.out]; simp, Below.refl _ _⟩
  case round =>
    obtain ⟨m, s, i, rfl, rfl, rfl, hm, hi, hsl, hs, hb⟩ := hrel
    have HS := Lib.hid hs
    clear hs
    by_cases hlt : i < k
    · obtain ⟨d, hd⟩ : ∃ d : Nat, d = m % 10 := ⟨_, rfl⟩
      obtain ⟨q, hq⟩ : ∃ q : Nat, q = m / 10 := ⟨_, rfl⟩
      have hrem : (m : Int).tmod 10 = (d : Int) := by rw [hd, Int.tmod_eq_emod_of_nonneg (by omega)]; omega
      have hquo : (m : Int).tdiv 10 = (q : Int) := by rw [hq, Int.tdiv_eq_ediv_of_nonneg (by omega)]; omega
      have hd9 : d ≤ 9 := by omega
      have hqm : q ≤ 4611686018427387904 := by omega
      have HN : Hid (digL q (k - (i + 1)) ++ (UInt8.ofNat (48 + d) :: s) = R) := Lib.hid (by
        rw [← HS.out, show k - i = (k - (i + 1)) + 1 by omega, hd, hq]
        show _ = (digL (m / 10) (k - (i + 1)) ++ [UInt8.ofNat (48 + m % 10)]) ++ s
        rw [List.append_assoc]; rfl)
      have hcc : ¬ 9223372036854775807 < 1 + s.length := by omega
      clear hd hq
      have hd10 : d = 0 ∨ d = 1 ∨ d = 2 ∨ d = 3 ∨ d = 4 ∨ d = 5 ∨ d = 6 ∨ d = 7 ∨ d = 8 ∨ d = 9 := by omega
      rcases hd10 with rfl | rfl | rfl | rfl | rfl | rfl | rfl | rfl | rfl | rfl
      all_goals
        go_wp2_with fail
        refine ⟨⟨q, _, i + 1, rfl, ?_, by go_num, hqm, by omega, ?_, HN.out, hb⟩, by simp [intOf]; omega⟩
        · refine congrArg Value.string ?_
          apply ByteArray.ext
          simp [ByteArray.data_append]
        · simp; omega
    · have h0 : k - i = 0 := by omega
      have HE : Hid (s = R) := Lib.hid (by rw [← HS.out, h0]; rfl)
      go_wp2_with fail
      go_ret
      exact ⟨by rw [HE.out]; rfl, hb⟩

set_option maxRecDepth 100000 in
set_option maxHeartbeats 1000000 in
theorem refRightN_calls (n : Int) (w : World) : Calls Tryz.prog 49 #[.int .i64 n] w (fun e w' => e = .returned (.bool (offOk n)) ∧ w' = w) := by
  unfold offOk
  by_cases h1 : 0 ≤ n
  · by_cases h2 : n ≤ 1099511627776
    · rw [decide_eq_true ⟨h1, h2⟩]
      go_enter Tryz.func49, Tryz.ntmps49
      go_wp2_with fail
      go_ret
      exact ⟨rfl, rfl⟩
    · rw [decide_eq_false (fun h => h2 h.2)]
      have h2' : decide (n ≤ 1099511627776) = false := decide_eq_false h2
      go_enter Tryz.func49, Tryz.ntmps49
      go_wp2_with fail
      go_ret
      exact ⟨rfl, rfl⟩
  · rw [decide_eq_false (fun h => h1 h.1)]
    have h1' : decide (0 ≤ n) = false := decide_eq_false h1
    go_enter Tryz.func49, Tryz.ntmps49
    go_wp2_with fail
    go_ret
    exact ⟨rfl, rfl⟩

set_option maxRecDepth 100000 in
set_option maxHeartbeats 1000000 in
theorem kindly_calls (s : ByteArray) (w : World) (hm : s.size ≤ 1000000) : Calls Tryz.prog 48 #[.string s] w (fun e w' => e = .returned (.bool (kindOk s)) ∧ Below w.heap.size w w') := by
  obtain ⟨R, hR⟩ : ∃ R, R = kindOk s := ⟨_, rfl⟩
  have HR := Lib.hid hR
  rw [← hR]
  clear hR
  have HF := Lib.hid (show (¬ 1 ≤ s.size ∨ ¬ s.size ≤ 8 ∨ ∃ i, ∃ h : i < s.size, ¬ (97 ≤ (s[i]).toNat ∧ (s[i]).toNat ≤ 122)) → R = false by
    intro h
    rw [HR.out]
    unfold kindOk
    rw [decide_eq_false_iff_not]
    rintro ⟨h1, h2, h3⟩
    rcases h with h | h | ⟨i, hi, h⟩
    · exact h h1
    · exact h h2
    · exact h (h3 i hi))
  by_cases t1 : s.size < 1
  · go_enter Tryz.func48, Tryz.ntmps48
    go_wp2_with fail
    go_ret
    exact ⟨by rw [HF.out (.inl (by omega))]; rfl, Below.refl _ _⟩
  · by_cases t2 : 8 < s.size
    · have t1' : decide ((s.size : Int) < 1) = false := decide_eq_false (by omega)
      clear t1
      go_enter Tryz.func48, Tryz.ntmps48
      go_wp2_with fail
      go_ret
      exact ⟨by rw [HF.out (.inr (.inl (by omega)))]; rfl, Below.refl _ _⟩
    · have t1' : decide ((s.size : Int) < 1) = false := decide_eq_false (by omega)
      have t2' : decide (8 < (s.size : Int)) = false := decide_eq_false (by omega)
      go_enter Tryz.func48, Tryz.ntmps48
      go_wp2_with fail
      go_loopw [3] (fun iv wr => ∃ i : Nat, i ≤ s.size ∧ iv = .int .i64 i ∧ Below w.heap.size w wr ∧ ∀ j (h : j < s.size), j < i → 97 ≤ (s[j]).toNat ∧ (s[j]).toNat ≤ 122) (fun iv _ => s.size - (intOf iv).toNat)
      case atStart => exact ⟨0, Nat.zero_le _, rfl, Below.refl _ _, fun j _ h => by omega⟩
      case round =>
        obtain ⟨i, hi, rfl, hb, hj⟩ := hrel
        have HJ := Lib.hid hj
        clear hj
        by_cases hlt : i < s.size
        · have HQ : Hid (97 ≤ (s[i]).toNat ∧ (s[i]).toNat ≤ 122 → ∀ j (h : j < s.size), j < i + 1 → 97 ≤ (s[j]).toNat ∧ (s[j]).toNat ≤ 122) := Lib.hid (fun hq j h hji => by
            rcases Nat.lt_or_ge j i with h1 | h1
            · exact HJ.out j h h1
            · obtain rfl : j = i := by omega
              exact hq)
          have HB : Hid (¬ (97 ≤ (s[i]).toNat ∧ (s[i]).toNat ≤ 122) → R = false) := Lib.hid (fun h => HF.out (.inr (.inr ⟨i, hlt, h⟩)))
          obtain ⟨c, hc⟩ : ∃ c, c = (s[i]).toNat := ⟨_, rfl⟩
          rw [← hc] at HQ HB
          by_cases q1 : c < 97
          · go_wp2_with fail
            go_ret
            exact ⟨by rw [HB.out (by omega)]; rfl, hb⟩
          · have q1' : decide ((c : Int) < 97) = false := decide_eq_false (by omega)
            by_cases q2 : 122 < c
            · go_wp2_with fail
              go_ret
              exact ⟨by rw [HB.out (by omega)]; rfl, hb⟩
            · have q2' : decide (122 < (c : Int)) = false := decide_eq_false (by omega)
              go_wp2_with fail
              exact ⟨⟨i + 1, by omega, by go_num, hb, HQ.out (by omega)⟩, by simp [intOf]; omega⟩
        · have HT := Lib.hid (show R = true by
            rw [HR.out]
            unfold kindOk
            rw [decide_eq_true_eq]
            exact ⟨by omega, by omega, fun j h => HJ.out j h (by omega)⟩)
          go_wp2_with fail
          go_ret
          exact ⟨by rw [HT.out]; rfl, hb⟩

set_option maxRecDepth 100000 in
set_option maxHeartbeats 1000000 in
theorem refObject_calls (id : Int) (kind : ByteArray) (base : Int) (w : World) (hm : kind.size ≤ 1000000) :
    Calls Tryz.prog 21 #[.int .i64 id, .string kind, .int .i64 base] w (fun e w' => e = .returned (.string (if objectOk id kind base = true then ⟨(objectL id.toNat kind base.toNat).toArray⟩ else ⟨#[]⟩)) ∧ Below w.heap.size w w') := by
  have hk := kindly_calls kind w hm
  have hr := fun W => refRightN_calls base W
  obtain ⟨R, hR⟩ : ∃ R, R = (if objectOk id kind base = true then (⟨(objectL id.toNat kind base.toNat).toArray⟩ : ByteArray) else ⟨#[]⟩) := ⟨_, rfl⟩
  rw [← hR]
  have HR := Lib.hid hR
  have HF := Lib.hid (show (¬ (0 ≤ id ∧ id ≤ 2147483647) ∨ kindOk kind = false ∨ offOk base = false) → R = ⟨#[]⟩ by
    intro h
    have : objectOk id kind base = false := by
      unfold objectOk
      rcases h with h | h | h
      · rw [decide_eq_false h]; rfl
      · rw [h]; simp
      · rw [h]; simp
    rw [hR, this]; rfl)
  clear hR
  by_cases h1 : 0 ≤ id
  · obtain ⟨n, rfl⟩ : ∃ n : Nat, id = (n : Int) := ⟨id.toNat, by omega⟩
    have h1' : decide ((n : Int) < 0) = false := decide_eq_false (by omega)
    by_cases h2 : n ≤ 2147483647
    · have h2' : decide ((2147483647 : Int) < (n : Int)) = false := decide_eq_false (by omega)
      obtain ⟨K, hK⟩ : ∃ K, K = kindOk kind := ⟨_, rfl⟩
      rw [← hK] at hk
      have HK := Lib.hid hK
      clear hK h1 
      go_enter Tryz.func21, Tryz.ntmps21
      go_wp2_with fail
      with_reducible refine hk.mono ?_
      rintro e w2 ⟨rfl, b2⟩
      clear hk
      cases K
      · go_wp2_with fail
        go_ret
        exact ⟨by rw [HF.out (.inr (.inl HK.out.symm))]; rfl, b2⟩
      obtain ⟨O, hO⟩ : ∃ O, O = offOk base := ⟨_, rfl⟩
      rw [← hO] at hr
      have HO := Lib.hid hO
      clear hO
      go_wp2_with fail
      with_reducible refine (hr _).mono ?_
      rintro e w3 ⟨rfl, hw3⟩
      subst hw3
      clear hr
      cases O
      · go_wp2_with fail
        go_ret
        exact ⟨by rw [HF.out (.inr (.inr HO.out.symm))]; rfl, b2⟩
      have ho := HO.out.symm
      unfold offOk at ho
      rw [decide_eq_true_eq] at ho
      obtain ⟨b, rfl⟩ : ∃ b : Nat, base = (b : Int) := ⟨base.toNat, by omega⟩
      have hkk := HK.out.symm
      unfold kindOk at hkk
      rw [decide_eq_true_eq] at hkk
      have hks : kind.size ≤ 8 := hkk.2.1
      have hw1 := fun W => digits_calls n 10 (by omega) (by omega) W
      have hw2 := fun W => digits_calls b 13 (by omega) (by omega) W
      simp only [← wide_dig 9 n (show n < 10 ^ (9 + 1) by omega)] at hw1
      simp only [← wide_dig 12 b (show b < 10 ^ (12 + 1) by omega)] at hw2
      have l1 := wideL_len n 9 (by omega)
      have l2 := wideL_len b 12 (by omega)
      have HE : Hid (R = ⟨(([115, 101, 103, 45] ++ wideL n 10) ++ [45] ++ kind.data.toList ++ [45] ++ wideL b 13).toArray⟩) := Lib.hid (by
        rw [HR.out]
        have : objectOk (n : Int) kind (b : Int) = true := by
          unfold objectOk
          rw [HO.out.symm, HK.out.symm, decide_eq_true (by omega)]
          rfl
        rw [this]; rfl)
      generalize wideL n 10 = W1 at *
      generalize wideL b 13 = W2 at *
      clear hkk ho
      go_wp2_with fail
      refine (hw1 _).mono ?_
      rintro e w4 ⟨rfl, b4⟩
      clear hw1
      go_wp2_with fail
      refine (hw2 _).mono ?_
      rintro e w5 ⟨rfl, b5⟩
      clear hw2
      go_wp2_with fail
      go_ret
      refine ⟨?_, nxt (nxt b2 b4) b5⟩
      rw [HE.out]
      refine congrArg (fun x => Ending.returned (.string x)) ?_
      apply ByteArray.ext
      simp [ByteArray.data_append]
    · have h2' : decide ((2147483647 : Int) < (n : Int)) = true := decide_eq_true (by omega)
      clear hk hr
      go_enter Tryz.func21, Tryz.ntmps21
      go_wp2_with fail
      go_ret
      exact ⟨by rw [HF.out (.inl (by omega))]; rfl, Below.refl _ _⟩
  · have h1' : decide (id < 0) = true := decide_eq_true (by omega)
    clear hk hr
    go_enter Tryz.func21, Tryz.ntmps21
    go_wp2_with fail
    go_ret
    exact ⟨by rw [HF.out (.inl (by omega))]; rfl, Below.refl _ _⟩
end Go.Proofs.YtegiingcnhafbaaGreatDoor
