/- The document's pairs: are they right. -/
import Derived.Test.YtdlcpcpcojpecaaDoorEpoNew
namespace Go.Proofs.YtdlcpcpcojpecaaDoor
open Go Go.RowKit Epo Vint

set_option maxRecDepth 100000 in
theorem refRightEpoch_calls (a : Int) (w : World) :
    Calls Tryd.prog 24 #[.int .i64 a] w (fun e w' => e = .returned (.bool (decide (0 ≤ a ∧ a ≤ 1073741824))) ∧ w = w') := by
  by_cases h1 : 0 ≤ a
  · by_cases h2 : a ≤ 1073741824
    · rw [decide_eq_true (⟨h1, h2⟩ : 0 ≤ a ∧ a ≤ 1073741824)]
      go_enter Tryd.func24, Tryd.ntmps24
      go_wp2_with fail
      go_ret
      exact ⟨rfl, rfl⟩
    · rw [decide_eq_false (fun h : 0 ≤ a ∧ a ≤ 1073741824 => h2 h.2)]
      have hd : decide (a ≤ 1073741824) = false := decide_eq_false h2
      go_enter Tryd.func24, Tryd.ntmps24
      go_wp2_with fail
      go_ret
      exact ⟨rfl, rfl⟩
  · rw [decide_eq_false (fun h : 0 ≤ a ∧ a ≤ 1073741824 => h1 h.1)]
    go_enter Tryd.func24, Tryd.ntmps24
    go_wp2_with fail
    go_ret
    exact ⟨rfl, rfl⟩

set_option maxRecDepth 100000 in
theorem refRight_calls (a : Int) (w : World) :
    Calls Tryd.prog 25 #[.int .i64 a] w (fun e w' => e = .returned (.bool (decide (0 ≤ a ∧ a ≤ 1099511627776))) ∧ w = w') := by
  by_cases h1 : 0 ≤ a
  · by_cases h2 : a ≤ 1099511627776
    · rw [decide_eq_true (⟨h1, h2⟩ : 0 ≤ a ∧ a ≤ 1099511627776)]
      go_enter Tryd.func25, Tryd.ntmps25
      go_wp2_with fail
      go_ret
      exact ⟨rfl, rfl⟩
    · rw [decide_eq_false (fun h : 0 ≤ a ∧ a ≤ 1099511627776 => h2 h.2)]
      have hd : decide (a ≤ 1099511627776) = false := decide_eq_false h2
      go_enter Tryd.func25, Tryd.ntmps25
      go_wp2_with fail
      go_ret
      exact ⟨rfl, rfl⟩
  · rw [decide_eq_false (fun h : 0 ≤ a ∧ a ≤ 1099511627776 => h1 h.1)]
    go_enter Tryd.func25, Tryd.ntmps25
    go_wp2_with fail
    go_ret
    exact ⟨rfl, rfl⟩

def ValidPost (l : List Pr) (w : World) (e : Ending) (w' : World) : Prop := e = .returned (.int .i64 ((valid l : Nat) : Int)) ∧ Below w.heap.size w w'

theorem right_parts (m : Pr) : Epo.right m = (decide (0 ≤ m.ep ∧ m.ep ≤ 1073741824) && decide (0 ≤ m.st ∧ m.st ≤ 1099511627776)) := by
  unfold Epo.right
  rw [Bool.eq_iff_iff]; simp; omega

set_option maxRecDepth 100000 in
set_option maxHeartbeats 2000000 in
theorem refValid_calls {w : World} {v : Value} {l : List Pr} (h : Rd w 2 v l.length (l.flatMap prV)) :
    Calls Tryd.prog 6 #[v] w (ValidPost l w) := by
  obtain ⟨am, cm, rfl⟩ := h.slice
  have m1 := h.len_le
  by_cases t1 : 256 < l.length
  · have HV := Lib.hid (show valid l = 104 by unfold valid; rw [if_pos t1])
    go_enter Tryd.func6, Tryd.ntmps6
    go_wp2_with fail
    go_ret
    unfold ValidPost
    rw [HV.out]
    exact ⟨rfl, Below.refl _ _⟩
  · go_enter Tryd.func6, Tryd.ntmps6
    go_wp2_with fail
    go_loopw [3] (fun iv wr => ∃ i : Nat, i ≤ l.length ∧ iv = .int .i64 i ∧ (∀ m ∈ l.take i, Epo.right m = true) ∧ Below w.heap.size w wr) (fun iv _ => l.length - (intOf iv).toNat)
    case atStart => exact ⟨0, Nat.zero_le _, rfl, by simp, Below.refl _ _⟩
    case round =>
      obtain ⟨i, hi, rfl, hs, hb⟩ := hrel
      have HS := Lib.hid hs
      clear hs
      by_cases hlt : i < l.length
      · obtain ⟨b, o, rfl, hc1, hm1, hx1⟩ := (h.below hb).at (by omega) (by omega)
        obtain ⟨q0, q1⟩ := pr_cells hx1 i hlt
        have hnext : l.take (i + 1) = l.take i ++ [l[i]] := List.take_succ_eq_append_getElem hlt
        have hmem : l[i] ∈ l := List.getElem_mem hlt
        have HNX := Lib.hid hnext
        have hrp := right_parts l[i]
        have hbad : Epo.right l[i] = false → valid l = 105 := fun hr => by
          unfold valid; rw [if_neg t1, if_pos]; rw [List.all_eq_false]; exact ⟨_, hmem, by rw [hr]; decide⟩
        have HBAD := Lib.hid hbad
        clear hx1 hnext hbad
        generalize l[i] = m at *
        have hc1 := refRightEpoch_calls m.ep wr
        have hc2 := refRight_calls m.st wr
        obtain ⟨r1, hr1⟩ : ∃ r, r = decide (0 ≤ m.ep ∧ m.ep ≤ 1073741824) := ⟨_, rfl⟩
        obtain ⟨r2, hr2⟩ : ∃ r, r = decide (0 ≤ m.st ∧ m.st ≤ 1099511627776) := ⟨_, rfl⟩
        rw [← hr1] at hc1 hrp
        rw [← hr2] at hc2 hrp
        have HRP := Lib.hid hrp
        clear hr1 hr2 hrp
        cases r1
        · go_wp2_with fail
          refine hc1.mono ?_
          rintro e w2 ⟨rfl, rfl⟩
          go_wp2_with fail
          go_ret
          unfold ValidPost
          rw [HBAD.out HRP.out]
          exact ⟨rfl, hb⟩
        · cases r2
          · go_wp2_with fail
            refine hc1.mono ?_
            rintro e w2 ⟨rfl, rfl⟩
            go_wp2_with fail
            refine hc2.mono ?_
            rintro e w2 ⟨rfl, rfl⟩
            go_wp2_with fail
            go_ret
            unfold ValidPost
            rw [HBAD.out HRP.out]
            exact ⟨rfl, hb⟩
          · go_wp2_with fail
            refine hc1.mono ?_
            rintro e w2 ⟨rfl, rfl⟩
            go_wp2_with fail
            refine hc2.mono ?_
            rintro e w2 ⟨rfl, rfl⟩
            go_wp2_with fail
            refine ⟨⟨i + 1, by omega, by go_num, ?_, hb⟩, by simp [intOf]; omega⟩
            intro y hy
            rw [HNX.out] at hy
            rcases List.mem_append.1 hy with h1 | h1
            · exact HS.out y h1
            · simp only [List.mem_singleton] at h1; subst h1; exact HRP.out
      · have HAL := Lib.hid (show l.all Epo.right = true by
          rw [List.all_eq_true]
          have := HS.out
          rwa [List.take_of_length_le (by omega)] at this)
        go_wp2_with fail
        go_loopw [4] (fun iv wr => ∃ i : Nat, 1 ≤ i ∧ iv = .int .i64 i ∧ i ≤ max 1 l.length ∧ (∀ j (hj : j + 1 < l.length), j + 1 < i → l[j].ep < l[j + 1].ep ∧ l[j].st < l[j + 1].st) ∧ Below w.heap.size w wr) (fun iv _ => 257 - (intOf iv).toNat)
        case atStart => exact ⟨1, Nat.le_refl _, rfl, by omega, fun j _ hj => by omega, hb⟩
        case round =>
          obtain ⟨i, hi1, rfl, hi2, hs, hb⟩ := hrel
          have HS := Lib.hid hs
          clear hs
          by_cases hlt : i < l.length
          · obtain ⟨k, rfl⟩ : ∃ k, i = k + 1 := ⟨i - 1, by omega⟩
            obtain ⟨b, o, rfl, hc1, hm1, hx1⟩ := (h.below hb).at (by omega) (by omega)
            obtain ⟨p0, p1⟩ := pr_cells hx1 k (by omega)
            obtain ⟨q0, q1⟩ := pr_cells hx1 (k + 1) hlt
            have hs1 : IntKind.i64.wrap ((k : Int) + 1 - 1) = (k : Int) := by rw [IntKind.wrap_i64]; omega
            have hbad : ¬ (l[k].ep < l[k + 1].ep ∧ l[k].st < l[k + 1].st) → valid l = 103 := fun hn => by
              have hu : up l = false := by
                cases hu : up l
                · rfl
                · exact absurd (up_next l hu k hlt) hn
              unfold valid
              rw [if_neg t1, if_neg (by rw [HAL.out]; decide), if_pos hu]
            obtain ⟨x, hx⟩ : ∃ x, x = l[k] := ⟨_, rfl⟩
            obtain ⟨y, hy⟩ : ∃ y, y = l[k + 1] := ⟨_, rfl⟩
            rw [← hx, ← hy] at hbad
            rw [← hx] at p0 p1
            rw [← hy] at q0 q1
            have HX := Lib.hid hx
            have HY := Lib.hid hy
            have HBAD := Lib.hid hbad
            clear hx1 hx hy hbad
            by_cases e1 : x.ep < y.ep
            · have hd1 : decide (y.ep ≤ x.ep) = false := decide_eq_false (by omega)
              by_cases e2 : x.st < y.st
              · have hd2 : decide (y.st ≤ x.st) = false := decide_eq_false (by omega)
                go_wp2_with fail
                go_quiet (fail)
                go_wp2_with fail
                refine ⟨⟨k + 1 + 1, by omega, by go_num, by omega, ?_, below_drewN hb nq⟩, by simp [intOf]; omega⟩
                intro j hj hjl
                by_cases e : j = k
                · subst e; rw [← HX.out, ← HY.out]; exact ⟨e1, e2⟩
                · exact HS.out j hj (by omega)
              · have HV := Lib.hid (HBAD.out (fun e => e2 e.2))
                go_wp2_with fail
                go_quiet (fail)
                go_wp2_with fail
                go_ret
                unfold ValidPost
                rw [HV.out]
                exact ⟨rfl, below_drewN hb _⟩
            · have HV := Lib.hid (HBAD.out (fun e => e1 e.1))
              go_wp2_with fail
              go_quiet (fail)
              go_wp2_with fail
              go_ret
              unfold ValidPost
              rw [HV.out]
              exact ⟨rfl, below_drewN hb _⟩
          · have HV := Lib.hid (show valid l = 0 from (valid_iff l).2 ⟨by omega, HAL.out, up_of_next l fun j hj => HS.out j hj (by omega)⟩)
            go_wp2_with fail
            go_ret
            unfold ValidPost
            rw [HV.out]
            exact ⟨rfl, hb⟩

end Go.Proofs.YtdlcpcpcojpecaaDoor
