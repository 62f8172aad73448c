/- The document's Valid and Next. -/
import Derived.Test.YtlfbdcgojbfcaaaDoorRecValid
namespace Go.Proofs.YtlfbdcgojbfcaaaDoor
open Go Go.RowKit Rec

set_option maxRecDepth 100000 in
theorem refNext_calls {w : World} {b : BatD} {v : Value} (h : RecsRd w v b.recs) (hb : -4611686018427387904 ≤ b.base ∧ b.base ≤ 4611686018427387904) (hn : b.recs.length ≤ 1000000) :
    Calls Tryd.prog 20 #[batA b v] w (fun e w' => e = .returned (.int .i64 (b.base + (b.recs.length : Int))) ∧ Below w.heap.size w w') := by
  obtain ⟨a, c, rfl⟩ := h.slice
  obtain ⟨ba, ep, l⟩ := b
  unfold batA
  simp only at hb hn ⊢
  have hw : IntKind.i64.wrap (ba + (l.length : Int)) = ba + (l.length : Int) := by rw [IntKind.wrap_i64]; omega
  go_enter Tryd.func20, Tryd.ntmps20
  go_wp2_with fail
  go_ret
  exact ⟨rfl, below_alloc _ _⟩

set_option maxRecDepth 100000 in
theorem refRight_calls (n : Int) (w : World) :
    Calls Tryd.prog 63 #[.int .i64 n] w (fun e w' => e = .returned (.bool (decide ((0 : Int) ≤ n ∧ n ≤ 1099511627776))) ∧ w = w') := by
  by_cases h1 : (0 : Int) ≤ n
  · have h1' : decide ((0 : Int) ≤ n) = true := decide_eq_true h1
    by_cases h2 : n ≤ 1099511627776
    · rw [decide_eq_true (⟨h1, h2⟩ : (0 : Int) ≤ n ∧ n ≤ 1099511627776)]
      have h2' : decide (n ≤ 1099511627776) = true := decide_eq_true h2
      clear h1 h2
      go_enter Tryd.func63, Tryd.ntmps63
      go_wp2_with fail
      go_ret
      exact ⟨rfl, rfl⟩
    · rw [decide_eq_false (fun h : (0 : Int) ≤ n ∧ n ≤ 1099511627776 => h2 h.2)]
      have h2' : decide (n ≤ 1099511627776) = false := decide_eq_false h2
      clear h1 h2
      go_enter Tryd.func63, Tryd.ntmps63
      go_wp2_with fail
      go_ret
      exact ⟨rfl, rfl⟩
  · rw [decide_eq_false (fun h : (0 : Int) ≤ n ∧ n ≤ 1099511627776 => h1 h.1)]
    have h1' : decide ((0 : Int) ≤ n) = false := decide_eq_false h1
    clear h1
    go_enter Tryd.func63, Tryd.ntmps63
    go_wp2_with fail
    go_ret
    exact ⟨rfl, rfl⟩

set_option maxRecDepth 100000 in
theorem refRightEpoch_calls (n : Int) (w : World) :
    Calls Tryd.prog 64 #[.int .i64 n] w (fun e w' => e = .returned (.bool (decide ((0 : Int) ≤ n ∧ n ≤ 1073741824))) ∧ w = w') := by
  by_cases h1 : (0 : Int) ≤ n
  · have h1' : decide ((0 : Int) ≤ n) = true := decide_eq_true h1
    by_cases h2 : n ≤ 1073741824
    · rw [decide_eq_true (⟨h1, h2⟩ : (0 : Int) ≤ n ∧ n ≤ 1073741824)]
      have h2' : decide (n ≤ 1073741824) = true := decide_eq_true h2
      clear h1 h2
      go_enter Tryd.func64, Tryd.ntmps64
      go_wp2_with fail
      go_ret
      exact ⟨rfl, rfl⟩
    · rw [decide_eq_false (fun h : (0 : Int) ≤ n ∧ n ≤ 1073741824 => h2 h.2)]
      have h2' : decide (n ≤ 1073741824) = false := decide_eq_false h2
      clear h1 h2
      go_enter Tryd.func64, Tryd.ntmps64
      go_wp2_with fail
      go_ret
      exact ⟨rfl, rfl⟩
  · rw [decide_eq_false (fun h : (0 : Int) ≤ n ∧ n ≤ 1073741824 => h1 h.1)]
    have h1' : decide ((0 : Int) ≤ n) = false := decide_eq_false h1
    clear h1
    go_enter Tryd.func64, Tryd.ntmps64
    go_wp2_with fail
    go_ret
    exact ⟨rfl, rfl⟩

set_option maxRecDepth 100000 in
theorem refRightTime_calls (n : Int) (w : World) :
    Calls Tryd.prog 65 #[.int .i64 n] w (fun e w' => e = .returned (.bool (decide ((-1099511627776 : Int) ≤ n ∧ n ≤ 1099511627776))) ∧ w = w') := by
  by_cases h1 : (-1099511627776 : Int) ≤ n
  · have h1' : decide ((-1099511627776 : Int) ≤ n) = true := decide_eq_true h1
    by_cases h2 : n ≤ 1099511627776
    · rw [decide_eq_true (⟨h1, h2⟩ : (-1099511627776 : Int) ≤ n ∧ n ≤ 1099511627776)]
      have h2' : decide (n ≤ 1099511627776) = true := decide_eq_true h2
      clear h1 h2
      go_enter Tryd.func65, Tryd.ntmps65
      go_wp2_with fail
      go_ret
      exact ⟨rfl, rfl⟩
    · rw [decide_eq_false (fun h : (-1099511627776 : Int) ≤ n ∧ n ≤ 1099511627776 => h2 h.2)]
      have h2' : decide (n ≤ 1099511627776) = false := decide_eq_false h2
      clear h1 h2
      go_enter Tryd.func65, Tryd.ntmps65
      go_wp2_with fail
      go_ret
      exact ⟨rfl, rfl⟩
  · rw [decide_eq_false (fun h : (-1099511627776 : Int) ≤ n ∧ n ≤ 1099511627776 => h1 h.1)]
    have h1' : decide ((-1099511627776 : Int) ≤ n) = false := decide_eq_false h1
    clear h1
    go_enter Tryd.func65, Tryd.ntmps65
    go_wp2_with fail
    go_ret
    exact ⟨rfl, rfl⟩

set_option maxRecDepth 100000 in
set_option maxHeartbeats 2000000 in
theorem refValid_calls {w : World} {b : BatD} {v : Value} (h : RecsRd w v b.recs) (hbb : -9223372036854775808 ≤ b.base ∧ b.base ≤ 9223372036854775807) :
    Calls Tryd.prog 42 #[batA b v] w (fun e w' => e = .returned (.int .i64 ((valid b : Nat) : Int)) ∧ Below w.heap.size w w') := by
  obtain ⟨a, c, rfl⟩ := h.slice
  have m1 := h.len_le
  obtain ⟨ba, ep, l⟩ := b
  simp only at h m1 hbb
  have hv : valid ⟨ba, ep, l⟩ = if l.length < 1 ∨ 64 < l.length then 104 else if ¬ (0 ≤ ba ∧ ba ≤ 1099511627776 - l.length ∧ 0 ≤ ep ∧ ep ≤ 1073741824) then 105 else if l.all recOk then 0 else 105 := rfl
  have HV := Lib.hid hv
  have b1 := below_alloc w (.cells #[.int .i64 ba, .int .i64 ep, .slice a l.length c] 34)
  have row1 := heap_alloc_new w (.cells #[.int .i64 ba, .int .i64 ep, .slice a l.length c] 34)
  unfold batA
  simp only
  clear hv
  go_enter Tryd.func42, Tryd.ntmps42
  go_upto_region 1 with fail
  obtain ⟨w1, hw1⟩ : ∃ w1, w1 = w.alloc (.cells #[.int .i64 ba, .int .i64 ep, .slice a l.length c] 34) := ⟨_, rfl⟩
  obtain ⟨g, hg⟩ : ∃ g, g = w.heap.size := ⟨_, rfl⟩
  rw [← hw1] at b1 row1 ⊢
  rw [← hg] at row1 ⊢
  clear hw1 hg
  have D : ∀ W, Below w1.heap.size w1 W → W.cell? ⟨g, 0, none⟩ = some (.int .i64 ba) ∧ W.cell? ⟨g, 1, none⟩ = some (.int .i64 ep) ∧ W.cell? ⟨g, 2, none⟩ = some (.slice a l.length c) := fun W hW => by
    have r := heap_below hW row1
    exact ⟨cell_of_row _ _ 0 _ _ _ r, cell_of_row _ _ 1 _ _ _ r, cell_of_row _ _ 2 _ _ _ r⟩
  obtain ⟨d0, d1, d2⟩ := D w1 (Below.refl _ _)
  by_cases t1 : l.length < 1 ∨ 64 < l.length
  · have HP : Hid (valid ⟨ba, ep, l⟩ = 104) := Lib.hid (by rw [HV.out, if_pos t1])
    by_cases t0 : l.length = 0
    · have t0' : ((l.length : Int) == 0) = true := by rw [beq_iff_eq]; omega
      clear t1 t0
      go_wp2_with fail
      go_ret
      rw [HP.out]
      exact ⟨rfl, b1⟩
    · have t0' : ((l.length : Int) == 0) = false := by rw [beq_eq_false_iff_ne]; omega
      have t1' : decide ((64 : Int) < (l.length : Int)) = true := decide_eq_true (by omega)
      clear t1 t0
      go_wp2_with fail
      go_ret
      rw [HP.out]
      exact ⟨rfl, b1⟩
  · have hlen : 1 ≤ l.length ∧ l.length ≤ 64 := by omega
    have t1a : ((l.length : Int) == 0) = false := by rw [beq_eq_false_iff_ne]; omega
    have t1b : decide ((64 : Int) < (l.length : Int)) = false := decide_eq_false (by omega)
    have hr1 := fun W => refRight_calls ba W
    have hr2 := fun W => refRight_calls (ba + (l.length : Int)) W
    have hr3 := fun W => refRightEpoch_calls ep W
    by_cases q1 : 0 ≤ ba ∧ ba ≤ 1099511627776
    rotate_left
    · have HP : Hid (valid ⟨ba, ep, l⟩ = 105) := Lib.hid (by rw [HV.out, if_neg t1, if_pos (by omega)])
      rw [decide_eq_false q1] at hr1
      clear q1 t1 HV
      go_wp2_with fail
      with_reducible refine (hr1 _).mono ?_
      rintro e w2 ⟨rfl, rfl⟩
      go_wp2_with fail
      go_ret
      rw [HP.out]
      exact ⟨rfl, b1⟩
    have hwb : IntKind.i64.wrap (ba + (l.length : Int)) = ba + (l.length : Int) := by rw [IntKind.wrap_i64]; omega
    rw [decide_eq_true q1] at hr1
    by_cases q2 : 0 ≤ ba + (l.length : Int) ∧ ba + (l.length : Int) ≤ 1099511627776
    rotate_left
    · have HP : Hid (valid ⟨ba, ep, l⟩ = 105) := Lib.hid (by rw [HV.out, if_neg t1, if_pos (by omega)])
      rw [decide_eq_false q2] at hr2
      clear q1 q2 t1 HV
      go_wp2_with fail
      with_reducible refine (hr1 _).mono ?_
      rintro e w2 ⟨rfl, rfl⟩
      go_wp2_with fail
      with_reducible refine (hr2 _).mono ?_
      rintro e w2 ⟨rfl, rfl⟩
      go_wp2_with fail
      go_ret
      rw [HP.out]
      exact ⟨rfl, b1⟩
    rw [decide_eq_true q2] at hr2
    by_cases q3 : 0 ≤ ep ∧ ep ≤ 1073741824
    rotate_left
    · have HP : Hid (valid ⟨ba, ep, l⟩ = 105) := Lib.hid (by rw [HV.out, if_neg t1, if_pos (by omega)])
      rw [decide_eq_false q3] at hr3
      clear q1 q2 q3 t1 HV
      go_wp2_with fail
      with_reducible refine (hr1 _).mono ?_
      rintro e w2 ⟨rfl, rfl⟩
      go_wp2_with fail
      with_reducible refine (hr2 _).mono ?_
      rintro e w2 ⟨rfl, rfl⟩
      go_wp2_with fail
      with_reducible refine (hr3 _).mono ?_
      rintro e w2 ⟨rfl, rfl⟩
      go_wp2_with fail
      go_ret
      rw [HP.out]
      exact ⟨rfl, b1⟩
    rw [decide_eq_true q3] at hr3
    have HP : Hid (valid ⟨ba, ep, l⟩ = if l.all recOk then 0 else 105) := Lib.hid (by rw [HV.out, if_neg t1, if_neg (by omega)])
    clear q1 q2 q3 t1 HV
    go_wp2_with fail
    with_reducible refine (hr1 _).mono ?_
    rintro e w2 ⟨rfl, rfl⟩
    go_wp2_with fail
    with_reducible refine (hr2 _).mono ?_
    rintro e w2 ⟨rfl, rfl⟩
    go_wp2_with fail
    with_reducible refine (hr3 _).mono ?_
    rintro e w2 ⟨rfl, rfl⟩
    clear hr1 hr2 hr3 d0 d1 d2
    go_wp2_with fail
    go_loopw [3] (fun iv wr => ∃ i : Nat, i ≤ l.length ∧ iv = .int .i64 i ∧ Hid ((l.take i).all recOk = true) ∧ Below w1.heap.size w1 wr) (fun iv _ => l.length - (intOf iv).toNat)
    case atStart => exact ⟨0, Nat.zero_le _, rfl, Lib.hid rfl, Below.refl _ _⟩
    case round =>
      obtain ⟨i, hi, rfl, HOK, hb⟩ := hrel
      obtain ⟨d0, d1, d2⟩ := D wr hb
      by_cases hlt : i < l.length
      · obtain ⟨b, o, rfl, hx⟩ := (h.below (nxt b1 hb)).cells i hlt
        obtain ⟨vk, vv, p0, p1, p2, rk, rv⟩ := hx i hlt
        have hnx := all_take l i hlt HOK.out
        have hno := all_not l i hlt
        have mk := rk.len_le
        have mv := rv.len_le
        obtain ⟨ak, ck, rfl⟩ := rk.slice
        obtain ⟨av, cv, rfl⟩ := rv.slice
        obtain ⟨r, hr⟩ : ∃ r, r = l[i] := ⟨_, rfl⟩
        rw [← hr] at p0 p1 p2 hnx hno mk mv
        have HNX := Lib.hid hnx
        have HNO := Lib.hid hno
        have hrk : recOk r = decide (-1099511627776 ≤ r.time ∧ r.time ≤ 1099511627776 ∧ r.key.length ≤ 64 ∧ r.val.length ≤ 512) := rfl
        have HRK := Lib.hid hrk
        clear hx rk rv hr hnx hno hrk
        obtain ⟨t, ht⟩ : ∃ t, t = r.time := ⟨_, rfl⟩
        obtain ⟨nk, hnk⟩ : ∃ t, t = r.key.length := ⟨_, rfl⟩
        obtain ⟨nv, hnv⟩ : ∃ t, t = r.val.length := ⟨_, rfl⟩
        rw [← ht, ← hnk, ← hnv] at HRK
        rw [← ht] at p0
        rw [← hnk] at p1 mk
        rw [← hnv] at p2 mv
        clear ht hnk hnv
        have row2 := heap_alloc_new wr (.cells #[.int .i64 t, .slice ak nk ck, .slice av nv cv] 44)
        have b2 := below_alloc wr (.cells #[.int .i64 t, .slice ak nk ck, .slice av nv cv] 44)
        have B2 := nxt hb b2
        go_upto_region 9 with fail
        generalize wr.alloc (.cells #[.int .i64 t, .slice ak nk ck, .slice av nv cv] 44) = w2 at *
        generalize wr.heap.size = g2 at *
        have e0 : w2.cell? ⟨g2, 0, none⟩ = some (.int .i64 t) := cell_of_row _ _ 0 _ _ _ row2
        have e1 : w2.cell? ⟨g2, 1, none⟩ = some (.slice ak nk ck) := cell_of_row _ _ 1 _ _ _ row2
        have e2 : w2.cell? ⟨g2, 2, none⟩ = some (.slice av nv cv) := cell_of_row _ _ 2 _ _ _ row2
        have hr2 := refRightTime_calls t w2
        clear p0 p1 p2 row2 b2 hb d0 d1 d2
        by_cases q1 : -1099511627776 ≤ t ∧ t ≤ 1099511627776
        · rw [decide_eq_true q1] at hr2
          by_cases q2 : nk ≤ 64
          · have q2' : decide ((64 : Int) < (nk : Int)) = false := decide_eq_false (by omega)
            by_cases q3 : nv ≤ 512
            · have q3' : decide ((512 : Int) < (nv : Int)) = false := decide_eq_false (by omega)
              have hgood : (l.take (i + 1)).all recOk = true := by rw [HNX.out, HRK.out]; exact decide_eq_true ⟨q1.1, q1.2, q2, q3⟩
              have HG := Lib.hid hgood
              clear hgood q1 q2 q3
              go_wp2_with fail
              with_reducible refine hr2.mono ?_
              rintro e w3 ⟨rfl, rfl⟩
              clear hr2
              go_wp2_with fail
              exact ⟨⟨i + 1, by omega, by go_num, HG, B2⟩, by simp [intOf]; omega⟩
            · have q3' : decide ((512 : Int) < (nv : Int)) = true := decide_eq_true (by omega)
              have hbad := HNO.out (by rw [HRK.out]; exact decide_eq_false (fun h => q3 h.2.2.2))
              rw [hbad, if_neg (by simp)] at HP
              clear hbad q1 q2 q3
              go_wp2_with fail
              with_reducible refine hr2.mono ?_
              rintro e w3 ⟨rfl, rfl⟩
              clear hr2
              go_wp2_with fail
              go_ret
              rw [HP.out]
              exact ⟨rfl, nxt b1 B2⟩
          · have q2' : decide ((64 : Int) < (nk : Int)) = true := decide_eq_true (by omega)
            have hbad := HNO.out (by rw [HRK.out]; exact decide_eq_false (fun h => q2 h.2.2.1))
            rw [hbad, if_neg (by simp)] at HP
            clear hbad q1 q2
            go_wp2_with fail
            with_reducible refine hr2.mono ?_
            rintro e w3 ⟨rfl, rfl⟩
            clear hr2
            go_wp2_with fail
            go_ret
            rw [HP.out]
            exact ⟨rfl, nxt b1 B2⟩
        · rw [decide_eq_false q1] at hr2
          have hbad := HNO.out (by rw [HRK.out]; exact decide_eq_false (fun h => q1 ⟨h.1, h.2.1⟩))
          rw [hbad, if_neg (by simp)] at HP
          clear hbad q1
          go_wp2_with fail
          with_reducible refine hr2.mono ?_
          rintro e w3 ⟨rfl, rfl⟩
          clear hr2
          go_wp2_with fail
          go_ret
          rw [HP.out]
          exact ⟨rfl, nxt b1 B2⟩
      · have hok : l.all recOk = true := by
          have := HOK.out
          rwa [List.take_of_length_le (by omega)] at this
        rw [hok, if_pos rfl] at HP
        clear hok
        go_wp2_with fail
        go_ret
        rw [HP.out]
        exact ⟨rfl, nxt b1 hb⟩
end Go.Proofs.YtlfbdcgojbfcaaaDoor
