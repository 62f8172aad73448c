/- cordwoodref.SamePair, SamePairs: the same pairs? -/
import Derived.Test.YtdlcpcpcojpecaaDoorEpo
import Derived.StillTailTactics
namespace Go.Proofs.YtdlcpcpcojpecaaDoor
open Go Go.RowKit Epo

set_option maxRecDepth 100000 in
set_option maxHeartbeats 400000 in
theorem samePair_calls (a b : Pr) (w : World) :
    Calls Tryd.prog 31 #[.agg #[.int .i64 a.ep, .int .i64 a.st], .agg #[.int .i64 b.ep, .int .i64 b.st]] w (fun e w' => e = .returned (.bool (decide (a = b))) ∧ Below w.heap.size w w') := by
  obtain ⟨x, y⟩ := a
  obtain ⟨z, t⟩ := b
  have hr : decide ((⟨x, y⟩ : Pr) = ⟨z, t⟩) = ((x == z) && (y == t)) := by rw [Bool.eq_iff_iff]; simp
  obtain ⟨r, hr2⟩ : ∃ r, r = decide ((⟨x, y⟩ : Pr) = ⟨z, t⟩) := ⟨_, rfl⟩
  rw [← hr2] at hr ⊢
  have HR := Lib.hid hr
  clear hr hr2
  simp only
  have b1 := below_alloc w (.cells #[.int .i64 x, .int .i64 y] 46)
  have b2 := below_alloc (w.alloc (.cells #[.int .i64 x, .int .i64 y] 46)) (.cells #[.int .i64 z, .int .i64 t] 46)
  have hb := nxt b1 b2
  by_cases h1 : x = z
  · subst h1
    by_cases h2 : y = t
    · subst h2
      go_enter Tryd.func31, Tryd.ntmps31
      go_wp2_with fail
      all_goals (try (go_quiet (fail); go_wp2_with fail))
      all_goals (
        go_ret
        exact ⟨congrArg (fun z => Ending.returned (.bool z)) (by rw [HR.out]; simp_all), hb⟩)
    · have h2' : (y == t) = false := by rw [beq_eq_false_iff_ne]; exact h2
      go_enter Tryd.func31, Tryd.ntmps31
      go_wp2_with fail
      all_goals (
        go_ret
        exact ⟨congrArg (fun z => Ending.returned (.bool z)) (by rw [HR.out]; simp_all), hb⟩)
  · have h1' : (x == z) = false := by rw [beq_eq_false_iff_ne]; exact h1
    go_enter Tryd.func31, Tryd.ntmps31
    go_wp2_with fail
    all_goals (
      go_ret
      exact ⟨congrArg (fun z => Ending.returned (.bool z)) (by rw [HR.out]; simp_all), hb⟩)

set_option maxRecDepth 100000 in
set_option maxHeartbeats 1000000 in
theorem samePairs_calls (va vb : Value) (l1 l2 : List Pr) (w : World) (h1 : Rd w 2 va l1.length (l1.flatMap prV)) (h2 : Rd w 2 vb l2.length (l2.flatMap prV)) :
    Calls Tryd.prog 17 #[va, vb] w (fun e w' => e = .returned (.bool (decide (l1 = l2))) ∧ Below w.heap.size w w') := by
  obtain ⟨a1, c1, rfl⟩ := h1.slice
  obtain ⟨a2, c2, rfl⟩ := h2.slice
  have m1 := h1.len_le
  have m2 := h2.len_le
  by_cases hl : l1.length = l2.length
  · have hl' : ((l1.length : Int) != (l2.length : Int)) = false := by rw [hl]; simp
    have HL := Lib.hid hl
    clear hl
    go_enter Tryd.func17, Tryd.ntmps17
    go_wp2_with fail
    go_loopw [5, 6] (fun iv _ wr => ∃ k : Nat, k ≤ l1.length ∧ iv = .int .i64 k ∧ l1.take k = l2.take k ∧ Below w.heap.size w wr) (fun iv _ _ => l1.length - (intOf iv).toNat)
    case atStart => exact ⟨0, Nat.zero_le _, rfl, rfl, Below.refl _ _⟩
    case round =>
      obtain ⟨k, hk, rfl, hs, hb⟩ := hrel
      have HS := Lib.hid hs
      clear hs
      by_cases hlt : k < l1.length
      · have hlt2 : k < l2.length := by have := HL.out; omega
        obtain ⟨b1, o1, rfl, hc1, hm1, hx1⟩ := (h1.below hb).at (by omega)
        obtain ⟨b2, o2, rfl, hc2, hm2, hx2⟩ := (h2.below hb).at (by omega)
        obtain ⟨p0, p1⟩ := pr_cells hx1 k hlt
        obtain ⟨q0, q1⟩ := pr_cells hx2 k hlt2
        have htn := fun e => take_next hlt hlt2 HS.out e
        have hne : l1[k] ≠ l2[k] → decide (l1 = l2) = false := fun e => decide_eq_false (fun h => by subst h; exact e rfl)
        have hsc := samePair_calls l1[k] l2[k] wr.drew
        obtain ⟨x, hx⟩ : ∃ x, x = l1[k] := ⟨_, rfl⟩
        obtain ⟨y, hy⟩ : ∃ y, y = l2[k] := ⟨_, rfl⟩
        rw [← hx, ← hy] at hsc htn hne
        rw [← hx] at p0 p1
        rw [← hy] at q0 q1
        have HTN := Lib.hid htn
        have HNE := Lib.hid hne
        clear hx1 hx2 hx hy htn hne
        go_wp2_with fail
        go_still_tail 8, (by kernel_rfl)
        change wpList _ _ _ _ _ wr.drew
        go_wp2_with fail
        refine hsc.mono ?_
        rintro e w3 ⟨rfl, b3⟩
        have B3 : Below w.heap.size w w3 := nxt (nxt hb ((Below.refl _ _).drew)) b3
        by_cases he : x = y
        · rw [decide_eq_true he]
          have HE := Lib.hid he
          clear he hsc
          go_wp2_with fail
          exact ⟨⟨k + 1, by omega, by go_num, HTN.out HE.out, B3⟩, by simp [intOf]; omega⟩
        · rw [decide_eq_false he]
          have HE := Lib.hid he
          clear he hsc
          go_wp2_with fail
          go_ret
          rw [HNE.out HE.out]
          exact ⟨rfl, B3⟩
      · have HS2 := Lib.hid (show decide (l1 = l2) = true by
          have hs := HS.out
          rw [List.take_of_length_le (by omega), List.take_of_length_le (by have := HL.out; omega)] at hs
          exact decide_eq_true hs)
        go_wp2_with fail
        go_ret
        rw [HS2.out]
        exact ⟨rfl, hb⟩
  · have hl' : ((l1.length : Int) != (l2.length : Int)) = true := by rw [bne_iff_ne]; omega
    have HS2 := Lib.hid (show decide (l1 = l2) = false from decide_eq_false (fun e => hl (by rw [e])))
    clear hl
    go_enter Tryd.func17, Tryd.ntmps17
    go_wp2_with fail
    go_ret
    rw [HS2.out]
    exact ⟨rfl, Below.refl _ _⟩
end Go.Proofs.YtdlcpcpcojpecaaDoor
