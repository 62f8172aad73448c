/- The document's lineage: At, End, CutEnd. -/
import Derived.Test.YtdlcpcpcojpecaaDoorPlaysMath
import Derived.Test.YtdlcpcpcojpecaaDoorEpoEnd
import Derived.Test.YtdlcpcpcojpecaaDoorRefPairCopy
namespace Go.Proofs.YtdlcpcpcojpecaaDoor
open Go Go.RowKit Epo

set_option maxRecDepth 100000 in
set_option maxHeartbeats 1000000 in
theorem refAt_calls (v : Value) (l : List Pr) (z : Int) (w : World) (h : Rd w 2 v l.length (l.flatMap prV)) :
    Calls Tryd.prog 33 #[v, .int .i64 z] w (fun e w' => e = .returned (.tuple #[.int .i64 (atX l z), .bool (atB l z)]) ∧ w' = w) := by
  obtain ⟨a, c, rfl⟩ := h.slice
  have hlen := h.len_le
  go_enter Tryd.func33, Tryd.ntmps33
  go_wp2_with fail
  go_loopw [6, 7, 8] (fun ev sv iv wr => ∃ i : Nat, i ≤ l.length ∧ iv = .int .i64 i ∧ ev = .int .i64 (atX (l.take i) z) ∧ sv = .bool (atB (l.take i) z) ∧ wr = w) (fun _ _ iv _ => l.length - (intOf iv).toNat)
  case atStart => exact ⟨0, Nat.zero_le _, rfl, rfl, rfl, rfl⟩
  case round =>
    obtain ⟨i, hi, rfl, rfl, rfl, hw⟩ := hrel
    subst hw
    by_cases hlt : i < l.length
    · obtain ⟨b, o, rfl, -, -, hx⟩ := h.at (by omega)
      obtain ⟨q0, q1⟩ := pr_cells hx i hlt
      have hX : Hid (atX (l.take (i + 1)) z = if l[i].st ≤ z then l[i].ep else atX (l.take i) z) := Lib.hid (by unfold atX; rw [atO_next hlt]; split <;> rfl)
      have hB : Hid (atB (l.take (i + 1)) z = if l[i].st ≤ z then true else atB (l.take i) z) := Lib.hid (by unfold atB; rw [atO_next hlt]; split <;> rfl)
      generalize l[i] = m at q0 q1 hX hB
      generalize atX (l.take i) z = X at hX ⊢
      generalize atB (l.take i) z = B at hB ⊢
      clear hx
      by_cases hq : m.st ≤ z
      · have hq' : decide (m.st ≤ z) = true := decide_eq_true hq
        have HX := Lib.hid (hX.out.trans (if_pos hq))
        have HB := Lib.hid (hB.out.trans (if_pos hq))
        clear hX hB hq
        go_wp2_with fail
        exact ⟨⟨i + 1, by omega, by go_num, by rw [HX.out], by rw [HB.out], by first | rfl | trivial⟩, by simp [intOf]; omega⟩
      · have hq' : decide (m.st ≤ z) = false := decide_eq_false hq
        have HX := Lib.hid (hX.out.trans (if_neg hq))
        have HB := Lib.hid (hB.out.trans (if_neg hq))
        clear hX hB hq
        go_wp2_with fail
        exact ⟨⟨i + 1, by omega, by go_num, by rw [HX.out], by rw [HB.out], by first | rfl | trivial⟩, by simp [intOf]; omega⟩
    · have hE : l.take i = l := List.take_of_length_le (by omega)
      rw [hE]
      clear hE
      go_wp2_with fail
      go_ret2
      exact ⟨rfl, rfl⟩

theorem EndSays.uniq {l : List Pr} {n t x y x' y' : Int} {b b' : Bool} (h : EndSays l n t x y b) (h' : EndSays l n t x' y' b') : x = x' ∧ y = y' ∧ b = b' := by
  rcases h with ⟨h1, rfl, rfl, rfl⟩ | ⟨k, hk, h1, rfl, h2, rfl⟩ <;> rcases h' with ⟨g1, rfl, rfl, rfl⟩ | ⟨j, hj, g1, rfl, g2, rfl⟩
  · exact ⟨rfl, rfl, rfl⟩
  · omega
  · omega
  · obtain rfl : k = j := by omega
    refine ⟨rfl, ?_, rfl⟩
    by_cases e : k + 1 < l.length
    · rw [dif_pos e] at h2 g2; rw [h2, g2]
    · rw [dif_neg e] at h2 g2; rw [h2, g2]

set_option maxRecDepth 100000 in
set_option maxHeartbeats 1000000 in
theorem refEnd_calls (v : Value) (l : List Pr) (n t : Int) (w : World) (h : Rd w 2 v l.length (l.flatMap prV)) :
    Calls Tryd.prog 34 #[v, .int .i64 n, .int .i64 t] w (EndPost l n t w) := by
  obtain ⟨a, c, rfl⟩ := h.slice
  have hlen := h.len_le
  go_enter Tryd.func34, Tryd.ntmps34
  go_wp2_with fail
  go_loopw [9, 10] (fun kv iv wr => ∃ i : Nat, i ≤ l.length ∧ iv = .int .i64 i ∧ kv = .int .i64 (lastK (·.ep) n l i) ∧ wr = w) (fun _ iv _ => l.length - (intOf iv).toNat)
  case atStart => exact ⟨0, Nat.zero_le _, rfl, rfl, rfl⟩
  case round =>
    obtain ⟨i, hi, rfl, rfl, hw⟩ := hrel
    subst hw
    by_cases hlt : i < l.length
    · obtain ⟨b, o, rfl, -, -, hx⟩ := h.at (by omega)
      obtain ⟨q0, q1⟩ := pr_cells hx i hlt
      have hK := Lib.hid (lastK_next (·.ep) n l i hlt)
      generalize l[i] = m at q0 q1 hK
      generalize lastK (·.ep) n l i = K at hK ⊢
      clear hx
      by_cases hq : m.ep ≤ n
      · have hq' : decide (m.ep ≤ n) = true := decide_eq_true hq
        have HK := Lib.hid (hK.out.trans (if_pos hq))
        clear hK hq
        go_wp2_with fail
        exact ⟨⟨i + 1, by omega, by go_num, by rw [HK.out], by first | rfl | trivial⟩, by simp [intOf]; omega⟩
      · have hq' : decide (m.ep ≤ n) = false := decide_eq_false hq
        have HK := Lib.hid (hK.out.trans (if_neg hq))
        clear hK hq
        go_wp2_with fail
        exact ⟨⟨i + 1, by omega, by go_num, by rw [HK.out], by first | rfl | trivial⟩, by simp [intOf]; omega⟩
    · obtain rfl : i = l.length := by omega
      have hbd := lastK_bd (·.ep) n l l.length
      obtain ⟨K, hK⟩ : ∃ K, K = lastK (·.ep) n l l.length := ⟨_, rfl⟩
      rw [← hK] at hbd ⊢
      by_cases hneg : K = -1
      · have HS : Hid (EndSays l n t 0 0 false) := Lib.hid (.inl ⟨by rw [← hK]; exact hneg, rfl, rfl, rfl⟩)
        clear hK
        subst hneg
        go_wp2_with fail
        refine bodyPost_ret (results_tmp3 rfl _ _ _) rfl ?_
        exact ⟨_, _, _, rfl, HS.out, Below.refl _ _⟩
      · obtain ⟨k, hk⟩ : ∃ k : Nat, K = (k : Int) := ⟨K.toNat, by omega⟩
        have hkl : k < l.length := by omega
        obtain ⟨b, o, rfl, -, -, hx⟩ := h.at (by omega)
        obtain ⟨q0, q1⟩ := pr_cells hx k hkl
        have hkn : ¬ (k : Int) < 0 := by omega
        have hkn' : decide ((k : Int) < 0) = false := decide_eq_false hkn
        have HKK := Lib.hid (hK.symm.trans hk)
        by_cases hk1 : k + 1 < l.length
        · obtain ⟨r0, r1⟩ := pr_cells hx (k + 1) hk1
          have HS : Hid (EndSays l n t l[k].ep l[k + 1].st true) := Lib.hid (.inr ⟨k, hkl, HKK.out, rfl, by rw [dif_pos hk1], rfl⟩)
          generalize l[k] = m at q0 q1 HS
          generalize l[k + 1] = m' at r0 r1 HS
          have hk1' : decide ((k : Int) + 1 < (l.length : Int)) = true := decide_eq_true (by omega)
          have hk1'' : decide (k + 1 < l.length) = true := decide_eq_true hk1
          clear hK hneg hx hbd hlt
          subst hk
          go_wp2_with (go_region)
          refine bodyPost_ret (results_tmp3 rfl _ _ _) rfl ?_
          exact ⟨_, _, _, rfl, HS.out, below_drewN (Below.refl _ _) 1⟩
        · have HS : Hid (EndSays l n t l[k].ep t true) := Lib.hid (.inr ⟨k, hkl, HKK.out, rfl, by rw [dif_neg hk1], rfl⟩)
          generalize l[k] = m at q0 q1 HS
          have hk1' : decide ((k : Int) + 1 < (l.length : Int)) = false := decide_eq_false (by omega)
          have hk1'' : decide (k + 1 < l.length) = false := decide_eq_false hk1
          clear hK hneg hx hbd hlt
          subst hk
          go_wp2_with fail
          refine bodyPost_ret (results_tmp3 rfl _ _ _) rfl ?_
          exact ⟨_, _, _, rfl, HS.out, Below.refl _ _⟩
end Go.Proofs.YtdlcpcpcojpecaaDoor
