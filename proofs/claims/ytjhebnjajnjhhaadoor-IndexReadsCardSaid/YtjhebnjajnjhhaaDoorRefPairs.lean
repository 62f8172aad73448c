/- The document's pairs: are they right, and their bytes. -/
import Derived.Test.YtjhebnjajnjhhaaDoorEpoBytes
import Derived.Test.YtjhebnjajnjhhaaDoorRefPut
import Derived.Test.YtjhebnjajnjhhaaDoorAppend
namespace Go.Proofs.YtjhebnjajnjhhaaDoor
open Go Go.RowKit Epo Vint

set_option maxRecDepth 100000 in
theorem refRightEpoch_calls (a : Int) (w : World) :
    Calls Tryd.prog 82 #[.int .i64 a] w (fun e w' => e = .returned (.bool (decide (0 ≤ a ∧ a ≤ 1073741824))) ∧ w = w') := by
  by_cases h1 : 0 ≤ a
  · by_cases h2 : a ≤ 1073741824
    · rw [decide_eq_true (⟨h1, h2⟩ : 0 ≤ a ∧ a ≤ 1073741824)]
      go_enter Tryd.func82, Tryd.ntmps82
      go_wp2_with fail
      go_ret
      exact ⟨rfl, rfl⟩
    · rw [decide_eq_false (fun h : 0 ≤ a ∧ a ≤ 1073741824 => h2 h.2)]
      have hd : decide (a ≤ 1073741824) = false := decide_eq_false h2
      go_enter Tryd.func82, Tryd.ntmps82
      go_wp2_with fail
      go_ret
      exact ⟨rfl, rfl⟩
  · rw [decide_eq_false (fun h : 0 ≤ a ∧ a ≤ 1073741824 => h1 h.1)]
    go_enter Tryd.func82, Tryd.ntmps82
    go_wp2_with fail
    go_ret
    exact ⟨rfl, rfl⟩

set_option maxRecDepth 100000 in
theorem refRight_calls (a : Int) (w : World) :
    Calls Tryd.prog 83 #[.int .i64 a] w (fun e w' => e = .returned (.bool (decide (0 ≤ a ∧ a ≤ 1099511627776))) ∧ w = w') := by
  by_cases h1 : 0 ≤ a
  · by_cases h2 : a ≤ 1099511627776
    · rw [decide_eq_true (⟨h1, h2⟩ : 0 ≤ a ∧ a ≤ 1099511627776)]
      go_enter Tryd.func83, Tryd.ntmps83
      go_wp2_with fail
      go_ret
      exact ⟨rfl, rfl⟩
    · rw [decide_eq_false (fun h : 0 ≤ a ∧ a ≤ 1099511627776 => h2 h.2)]
      have hd : decide (a ≤ 1099511627776) = false := decide_eq_false h2
      go_enter Tryd.func83, Tryd.ntmps83
      go_wp2_with fail
      go_ret
      exact ⟨rfl, rfl⟩
  · rw [decide_eq_false (fun h : 0 ≤ a ∧ a ≤ 1099511627776 => h1 h.1)]
    go_enter Tryd.func83, Tryd.ntmps83
    go_wp2_with fail
    go_ret
    exact ⟨rfl, rfl⟩

def ValidPost (l : List Pr) (w : World) (e : Ending) (w' : World) : Prop := e = .returned (.int .i64 ((valid l : Nat) : Int)) ∧ Below w.heap.size w w'

theorem right_parts (m : Pr) : Epo.right m = (decide (0 ≤ m.ep ∧ m.ep ≤ 1073741824) && decide (0 ≤ m.st ∧ m.st ≤ 1099511627776)) := by
  unfold Epo.right
  rw [Bool.eq_iff_iff]; simp; omega

set_option maxRecDepth 100000 in
set_option maxHeartbeats 2000000 in
theorem refValid_calls {w : World} {v : Value} {l : List Pr} (h : Rd w 2 v l.length (l.flatMap prV)) :
    Calls Tryd.prog 46 #[v] w (ValidPost l w) := by
  obtain ⟨am, cm, rfl⟩ := h.slice
  have m1 := h.len_le
  by_cases t1 : 256 < l.length
  · have HV := Lib.hid (show valid l = 104 by unfold valid; rw [if_pos t1])
    go_enter Tryd.func46, Tryd.ntmps46
    go_wp2_with fail
    go_ret
    unfold ValidPost
    rw [HV.out]
    exact ⟨rfl, Below.refl _ _⟩
  · go_enter Tryd.func46, Tryd.ntmps46
    go_wp2_with fail
    go_loopw [3] (fun iv wr => ∃ i : Nat, i ≤ l.length ∧ iv = .int .i64 i ∧ (∀ m ∈ l.take i, Epo.right m = true) ∧ Below w.heap.size w wr) (fun iv _ => l.length - (intOf iv).toNat)
    case atStart => exact ⟨0, Nat.zero_le _, rfl, by simp, Below.refl _ _⟩
    case round =>
      obtain ⟨i, hi, rfl, hs, hb⟩ := hrel
      have HS := Lib.hid hs
      clear hs
      by_cases hlt : i < l.length
      · obtain ⟨b, o, rfl, hc1, hm1, hx1⟩ := (h.below hb).at (by omega) (by omega)
        obtain ⟨q0, q1⟩ := pr_cells hx1 i hlt
        have hnext : l.take (i + 1) = l.take i ++ [l[i]] := List.take_succ_eq_append_getElem hlt
        have hmem : l[i] ∈ l := List.getElem_mem hlt
        have HNX := Lib.hid hnext
        have hrp := right_parts l[i]
        have hbad : Epo.right l[i] = false → valid l = 105 := fun hr => by
          unfold valid; rw [if_neg t1, if_pos]; rw [List.all_eq_false]; exact ⟨_, hmem, by rw [hr]; decide⟩
        have HBAD := Lib.hid hbad
        clear hx1 hnext hbad
        generalize l[i] = m at *
        have hc1 := refRightEpoch_calls m.ep wr
        have hc2 := refRight_calls m.st wr
        obtain ⟨r1, hr1⟩ : ∃ r, r = decide (0 ≤ m.ep ∧ m.ep ≤ 1073741824) := ⟨_, rfl⟩
        obtain ⟨r2, hr2⟩ : ∃ r, r = decide (0 ≤ m.st ∧ m.st ≤ 1099511627776) := ⟨_, rfl⟩
        rw [← hr1] at hc1 hrp
        rw [← hr2] at hc2 hrp
        have HRP := Lib.hid hrp
        clear hr1 hr2 hrp
        cases r1
        · go_wp2_with fail
          refine hc1.mono ?_
          rintro e w2 ⟨rfl, rfl⟩
          go_wp2_with fail
          go_ret
          unfold ValidPost
          rw [HBAD.out HRP.out]
          exact ⟨rfl, hb⟩
        · cases r2
          · go_wp2_with fail
            refine hc1.mono ?_
            rintro e w2 ⟨rfl, rfl⟩
            go_wp2_with fail
            refine hc2.mono ?_
            rintro e w2 ⟨rfl, rfl⟩
            go_wp2_with fail
            go_ret
            unfold ValidPost
            rw [HBAD.out HRP.out]
            exact ⟨rfl, hb⟩
          · go_wp2_with fail
            refine hc1.mono ?_
            rintro e w2 ⟨rfl, rfl⟩
            go_wp2_with fail
            refine hc2.mono ?_
            rintro e w2 ⟨rfl, rfl⟩
            go_wp2_with fail
            refine ⟨⟨i + 1, by omega, by go_num, ?_, hb⟩, by simp [intOf]; omega⟩
            intro y hy
            rw [HNX.out] at hy
            rcases List.mem_append.1 hy with h1 | h1
            · exact HS.out y h1
            · simp only [List.mem_singleton] at h1; subst h1; exact HRP.out
      · have HAL := Lib.hid (show l.all Epo.right = true by
          rw [List.all_eq_true]
          have := HS.out
          rwa [List.take_of_length_le (by omega)] at this)
        go_wp2_with fail
        go_loopw [4] (fun iv wr => ∃ i : Nat, 1 ≤ i ∧ iv = .int .i64 i ∧ i ≤ max 1 l.length ∧ (∀ j (hj : j + 1 < l.length), j + 1 < i → l[j].ep < l[j + 1].ep ∧ l[j].st < l[j + 1].st) ∧ Below w.heap.size w wr) (fun iv _ => 257 - (intOf iv).toNat)
        case atStart => exact ⟨1, Nat.le_refl _, rfl, by omega, fun j _ hj => by omega, hb⟩
        case round =>
          obtain ⟨i, hi1, rfl, hi2, hs, hb⟩ := hrel
          have HS := Lib.hid hs
          clear hs
          by_cases hlt : i < l.length
          · obtain ⟨k, rfl⟩ : ∃ k, i = k + 1 := ⟨i - 1, by omega⟩
            obtain ⟨b, o, rfl, hc1, hm1, hx1⟩ := (h.below hb).at (by omega) (by omega)
            obtain ⟨p0, p1⟩ := pr_cells hx1 k (by omega)
            obtain ⟨q0, q1⟩ := pr_cells hx1 (k + 1) hlt
            have hs1 : IntKind.i64.wrap ((k : Int) + 1 - 1) = (k : Int) := by rw [IntKind.wrap_i64]; omega
            have hbad : ¬ (l[k].ep < l[k + 1].ep ∧ l[k].st < l[k + 1].st) → valid l = 103 := fun hn => by
              have hu : up l = false := by
                cases hu : up l
                · rfl
                · exact absurd (up_next l hu k hlt) hn
              unfold valid
              rw [if_neg t1, if_neg (by rw [HAL.out]; decide), if_pos hu]
            obtain ⟨x, hx⟩ : ∃ x, x = l[k] := ⟨_, rfl⟩
            obtain ⟨y, hy⟩ : ∃ y, y = l[k + 1] := ⟨_, rfl⟩
            rw [← hx, ← hy] at hbad
            rw [← hx] at p0 p1
            rw [← hy] at q0 q1
            have HX := Lib.hid hx
            have HY := Lib.hid hy
            have HBAD := Lib.hid hbad
            clear hx1 hx hy hbad
            by_cases e1 : x.ep < y.ep
            · have hd1 : decide (y.ep ≤ x.ep) = false := decide_eq_false (by omega)
              by_cases e2 : x.st < y.st
              · have hd2 : decide (y.st ≤ x.st) = false := decide_eq_false (by omega)
                go_wp2_with fail
                go_quiet (fail)
                go_wp2_with fail
                refine ⟨⟨k + 1 + 1, by omega, by go_num, by omega, ?_, below_drewN hb nq⟩, by simp [intOf]; omega⟩
                intro j hj hjl
                by_cases e : j = k
                · subst e; rw [← HX.out, ← HY.out]; exact ⟨e1, e2⟩
                · exact HS.out j hj (by omega)
              · have HV := Lib.hid (HBAD.out (fun e => e2 e.2))
                go_wp2_with fail
                go_quiet (fail)
                go_wp2_with fail
                go_ret
                unfold ValidPost
                rw [HV.out]
                exact ⟨rfl, below_drewN hb _⟩
            · have HV := Lib.hid (HBAD.out (fun e => e1 e.1))
              go_wp2_with fail
              go_quiet (fail)
              go_wp2_with fail
              go_ret
              unfold ValidPost
              rw [HV.out]
              exact ⟨rfl, below_drewN hb _⟩
          · have HV := Lib.hid (show valid l = 0 from (valid_iff l).2 ⟨by omega, HAL.out, up_of_next l fun j hj => HS.out j hj (by omega)⟩)
            go_wp2_with fail
            go_ret
            unfold ValidPost
            rw [HV.out]
            exact ⟨rfl, hb⟩

set_option maxRecDepth 100000 in
set_option maxHeartbeats 2000000 in
theorem refPairBytes_calls {w : World} {v : Value} {l : List Pr} (h : Rd w 2 v l.length (l.flatMap prV)) (hl : l.length ≤ 256) (hr : l.all Epo.right = true) :
    Calls Tryd.prog 42 #[v] w (NewRow 5 1 (pairsL l).length (bvs (pairsL l)) w) := by
  obtain ⟨i0, hi, hz0, hz1, hz2⟩ := info_parts info_u8
  obtain ⟨am, cm, rfl⟩ := h.slice
  have hput := refPut_calls l.length w (by unfold U64; omega)
  have hp10 := putL_len10 l.length (by omega)
  go_enter Tryd.func42, Tryd.ntmps42
  go_wp2_with fail
  refine hput.mono ?_
  rintro e w1 ⟨v1, rfl, o1, b1⟩
  clear hput
  go_wp2_with fail
  go_loopw [3, 4] (fun bv iv wr => ∃ i : Nat, i ≤ l.length ∧ iv = .int .i64 i ∧ ∃ em : List UInt8, em = putL l.length ++ (l.take i).flatMap pairL ∧ em.length ≤ 10 + 20 * i ∧ wr.ownsRow w.heap.size 5 1 bv em.length (bvs em) ∧ Below w.heap.size w wr) (fun _ iv _ => l.length - (intOf iv).toNat)
  case atStart => exact ⟨0, Nat.zero_le _, rfl, putL l.length, by simp, by omega, o1, b1⟩
  case round =>
    obtain ⟨i, hi', rfl, em, hem, hel, ho, hb⟩ := hrel
    have HE := Lib.hid hem
    clear hem
    by_cases hlt : i < l.length
    · have hcells := fun W (hW : Below w.heap.size w W) => (h.below hW).at (show 0 < l.length by omega) (by omega)
      obtain ⟨b, o, rfl, hc1, hm1, hx1⟩ := hcells _ hb
      have hQ : ∀ W, Below w.heap.size w W → W.cell? ⟨b, o + i * 2, none⟩ = some (.int .i64 l[i].ep) ∧ W.cell? ⟨b, o + i * 2 + 1, none⟩ = some (.int .i64 l[i].st) := fun W hW => by
        obtain ⟨b', o', he, _, _, hx⟩ := hcells W hW
        simp only [Option.some.injEq, Addr.mk.injEq] at he
        obtain ⟨rfl, rfl, _⟩ := he
        exact pr_cells hx i hlt
      have HNX := Lib.hid (pairs_snoc l i hlt)
      have hq := List.all_eq_true.1 hr l[i] (List.getElem_mem hlt)
      obtain ⟨m, hm⟩ : ∃ m, m = l[i] := ⟨_, rfl⟩
      rw [← hm] at hQ hq HNX
      unfold Epo.right at hq
      rw [decide_eq_true_eq] at hq
      obtain ⟨h1, h2, h3, h4⟩ := hq
      clear hx1 hm hcells
      obtain ⟨ep, st⟩ := m
      simp only at h1 h2 h3 h4 hQ HNX
      obtain ⟨x, rfl⟩ : ∃ x : Nat, ep = (x : Int) := ⟨ep.toNat, by omega⟩
      obtain ⟨y, rfl⟩ : ∃ y : Nat, st = (y : Int) := ⟨st.toNat, by omega⟩
      simp only [Int.toNat_natCast] at HNX
      have p1 := refPut_calls x wr (by unfold U64; omega)
      have x10 := putL_len10 x (by omega)
      have y10 := putL_len10 y (by omega)
      obtain ⟨a3, c3, rfl⟩ := owns_slice ho
      obtain ⟨q0, _⟩ := hQ wr hb
      have HQ := Lib.hid hQ
      clear hQ
      go_wp2_with fail
      refine p1.mono ?_
      rintro e w3 ⟨v3, rfl, o3, b3⟩
      have r3 := Rd.of_owns o3
      obtain ⟨a4, c4, rfl⟩ := owns_slice o3
      have B3 := nxt hb b3
      clear p1
      go_wp2_with (at_builtin; (refine wpList_append_rd rfl _ _ 64 rfl w.heap.size 5 i0 (.int .u8 0) 1 1 Tryd.underlying64 hi hz0 hz1 hz2 rfl (by decide) _ em.length (bvs em) rfl (owns_below ho b3) _ _ (bvs (putL x)) rfl r3 (bvs_one _) ?c3 ?c4 ?c5 ?_))
      case c3 => unfold maxLen; omega
      case c4 => omega
      case c5 => exact B3.size
      intro v4 w4 o4 hb4
      have B4 : Below w.heap.size w w4 := hb4 w B3 (Nat.le_refl _)
      rw [← bvs_append] at o4
      have q1 := (HQ.out w4 B4).2
      have p2 := refPut_calls y w4 (by unfold U64; omega)
      obtain ⟨a5, c5, rfl⟩ := owns_slice o4
      clear hb4 r3 o3
      go_wp2_with fail
      refine p2.mono ?_
      rintro e w5 ⟨v5, rfl, o5, b5⟩
      have r5 := Rd.of_owns o5
      obtain ⟨a6, c6, rfl⟩ := owns_slice o5
      have B5 := nxt B4 b5
      clear p2
      go_wp2_with (at_builtin; (refine wpList_append_rd rfl _ _ 64 rfl w.heap.size 5 i0 (.int .u8 0) 1 1 Tryd.underlying64 hi hz0 hz1 hz2 rfl (by decide) _ (em.length + (putL x).length) (bvs (em ++ putL x)) rfl (owns_below o4 b5) _ _ (bvs (putL y)) rfl r5 (bvs_one _) ?c3 ?c4 ?c5 ?_))
      case c3 => unfold maxLen; omega
      case c4 => omega
      case c5 => exact B5.size
      intro v6 w6 o6 hb6
      have B6 : Below w.heap.size w w6 := hb6 w B5 (Nat.le_refl _)
      rw [← bvs_append] at o6
      clear hb6 r5 o5
      go_wp2_with fail
      refine ⟨⟨i + 1, by omega, by go_num, em ++ putL x ++ putL y, ?_, ?_, ?_, B6⟩, by simp [intOf]; omega⟩
      · rw [HNX.out, HE.out]; simp
      · simp; omega
      · simpa [Nat.add_assoc] using o6
    · obtain rfl : i = l.length := by omega
      go_wp2_with fail
      go_ret
      have he : em = pairsL l := by rw [HE.out, List.take_of_length_le (Nat.le_refl _)]; rfl
      rw [← he]
      exact ⟨_, rfl, ho, hb⟩
end Go.Proofs.YtjhebnjajnjhhaaDoor
