/- IndexCuts returns true at every input. -/
import Derived.Test.YtjhebnjajnjhhaaDoorIdxCutAll
import Derived.Test.YtjhebnjajnjhhaaDoorIdxFirst
import Derived.Test.YtjhebnjajnjhhaaDoorIdxCutsMath
import Derived.Test.YtjhebnjajnjhhaaDoorNumber
import Derived.BigQuiet
namespace Go.Proofs.YtjhebnjajnjhhaaDoor
open Go Go.RowKit Idx

def ivs (l : List Int) : List Value := l.map (fun (n : Int) => Value.int .i64 n)
theorem ivs_at (l : List Int) (k : Nat) (h : k < l.length) : (ivs l)[k]? = some (.int .i64 l[k]) := by simp [ivs, h]
def tid : Nat → Int := fun i => i
theorem tid_bd (i : Nat) (h : i ≤ 100) : 0 ≤ tid i ∧ tid i ≤ 100 := by unfold tid; omega

set_option maxRecDepth 100000 in
set_option maxHeartbeats 4000000 in
theorem indexCuts_walk (every : Int) (ns : List Int) (vt : Value) (ask : Int) (w : World) (ht : Rd w 1 vt ns.length (ivs ns)) :
    Calls Tryd.prog 6 #[.int .i64 every, vt, .int .i64 ask] w (fun e w' => e = .returned (.bool true) ∧ Below w.heap.size w w') := by
  obtain ⟨a1, c1, rfl⟩ := ht.slice
  have m1 := ht.len_le
  obtain ⟨r, hr, hr0, hr1⟩ : ∃ r, r = every % 200 ∧ 0 ≤ r ∧ r < 200 := ⟨_, rfl, by omega, by omega⟩
  have HR := Lib.hid hr
  clear hr
  by_cases t1 : 40 < ns.length
  · have t1' : decide ((40 : Int) < (ns.length : Int)) = true := decide_eq_true (by omega)
    go_enter Tryd.func6, Tryd.ntmps6
    go_wp2_with fail
    refine (idxFirst_calls _).mono ?_
    rintro e w1 ⟨rfl, b1⟩
    go_wp2_with fail
    refine (number_calls every 200 _ (by omega) (by omega)).mono ?_
    rintro e w2 ⟨rfl, rfl⟩
    rw [← HR.out]
    go_wp2_with fail
    go_ret
    exact ⟨rfl, b1⟩
  · have t1' : decide ((40 : Int) < (ns.length : Int)) = false := decide_eq_false (by omega)
    obtain ⟨k, hk, hk1⟩ : ∃ k : Nat, (k : Int) = ask % ((ns.length : Int) + 1) ∧ k ≤ ns.length := by
      have h1 := Int.emod_nonneg ask (show (ns.length : Int) + 1 ≠ 0 by omega)
      have h2 := Int.emod_lt_of_pos ask (show 0 < (ns.length : Int) + 1 by omega)
      exact ⟨(ask % ((ns.length : Int) + 1)).toNat, by omega, by omega⟩
    have HK := Lib.hid hk
    have hn1 : ns.length ≤ 40 := by omega
    clear hk t1
    obtain ⟨s, hs⟩ : ∃ s, s = szs 60 ns := ⟨_, rfl⟩
    have hsb : ∀ i, 1 ≤ s i ∧ s i ≤ 90 := by intro i; subst hs; have := szs_bd 60 (by omega) ns i; omega
    have HS := Lib.hid hs
    have HSB := Lib.hid hsb
    clear hs hsb
    go_enter Tryd.func6, Tryd.ntmps6
    go_wp2_with fail
    refine (idxFirst_calls _).mono ?_
    rintro e w1 ⟨rfl, b1⟩
    go_wp2_with fail
    refine (number_calls every 200 _ (by omega) (by omega)).mono ?_
    rintro e w2 ⟨rfl, rfl⟩
    rw [← HR.out]
    go_wp2_with fail
    refine (newIdx_calls (r + 1) w1 (by omega) (by omega)).mono ?_
    rintro e w2 ⟨rfl, i2, b2⟩
    have B2 := nxt b1 b2
    obtain ⟨g, hg⟩ : ∃ g, g = w1.heap.size := ⟨_, rfl⟩
    rw [← hg] at i2 ⊢
    have hgw : w.heap.size ≤ g := by have := b1.size; omega
    clear hg b2
    go_wp2_with fail
    refine (newIdx_calls (r + 1) w2 (by omega) (by omega)).mono ?_
    rintro e w3 ⟨rfl, i3, b3⟩
    have B3 := nxt B2 b3
    have i23 := i2.below b3
    have hgl : g < w2.heap.size := i2.old g rfl
    obtain ⟨g', hg'⟩ : ∃ g', g' = w2.heap.size := ⟨_, rfl⟩
    rw [← hg'] at i3 ⊢
    have hgw' : w.heap.size ≤ g' := by have := B2.size; omega
    have hgg : g ≠ g' := by omega
    clear hg' b3 hgl i2
    go_wp2_with fail
    refine (number_calls ask ((ns.length : Int) + 1) _ (by omega) (by omega)).mono ?_
    rintro e w2 ⟨rfl, rfl⟩
    rw [← HK.out]
    go_wp2_with fail
    go_loopw [13, 14, 15, 16] (fun pv cv iv _ wr => ∃ i : Nat, i ≤ ns.length ∧ iv = .int .i64 i ∧ pv = .int .i64 (ps s i) ∧ cv = .int .i64 (if k < i then ps s k else 0) ∧ ∃ F G, IdxAt wr F g (built (r + 1) 1 tid (ps s) i) ∧ IdxAt wr G g' (built (r + 1) 1 tid (ps s) (min i k)) ∧ (∀ j, F j → w.heap.size ≤ j) ∧ (∀ j, G j → w.heap.size ≤ j) ∧ (∀ j, F j → ¬ G j) ∧ Below w.heap.size w wr) (fun _ _ iv _ _ => ns.length - (intOf iv).toNat)
    case atStart =>
      refine ⟨0, Nat.zero_le _, rfl, rfl, ?_, _, _, i23, by rw [Nat.zero_min]; exact i3, by rintro j rfl; exact hgw, by rintro j rfl; exact hgw', by rintro j rfl h; exact hgg h, B3⟩
      rw [if_neg (by omega)]
    case round =>
      obtain ⟨i, hi', rfl, rfl, rfl, F, G, hx, hy, hF, hG, hFG, hb⟩ := hrel
      have hpb := ps_bd s HSB.out i
      by_cases hlt : i < ns.length
      · obtain ⟨b, o, rfl, hc1, hm1, hx1⟩ := (ht.below hb).at (by omega)
        have f1 := hx1 i _ (ivs_at ns i hlt)
        have hsi : s i = ns[i] % 60 + 1 := by rw [HS.out]; exact szs_at 60 ns i hlt
        have hadd := idxAdd_calls hx ⟨1 * (i : Int), tid i, ps s i⟩ (s i) (B_may (r + 1) 1 tid s HSB.out (by omega) tid_bd i (by omega)) (by have := B_marks_len (r + 1) 1 tid (ps s) i; omega) (by rw [B_adds_len]; omega) (B_pos (r + 1) 1 tid s HSB.out i (by omega))
        have hsu : Idx.add (built (r + 1) 1 tid (ps s) i) ⟨1 * (i : Int), tid i, ps s i⟩ = built (r + 1) 1 tid (ps s) (i + 1) := rfl
        have hti : tid i = (i : Int) := rfl
        rw [hsu] at hadd
        simp only [hti, Int.one_mul] at hadd
        have hadd2 : i < k → ∀ W, IdxAt W G g' (built (r + 1) 1 tid (ps s) i) → Calls Tryd.prog 19 #[.pointer (some ⟨g', 0, none⟩), .int .i64 (i : Int), .int .i64 (i : Int), .int .i64 (ps s i), .int .i64 (s i)] W (AddPost G g' (built (r + 1) 1 tid (ps s) (i + 1)) W) := fun _ W hW => by
          have h := idxAdd_calls hW ⟨1 * (i : Int), tid i, ps s i⟩ (s i) (B_may (r + 1) 1 tid s HSB.out (by omega) tid_bd i (by omega)) (by have := B_marks_len (r + 1) 1 tid (ps s) i; omega) (by rw [B_adds_len]; omega) (B_pos (r + 1) 1 tid s HSB.out i (by omega))
          rw [hsu] at h
          simp only [hti, Int.one_mul] at h
          exact h
        have hpn : ps s (i + 1) = ps s i + s i := rfl
        have HPN := Lib.hid hpn
        clear hx1 hsu hpn hti
        have hcv : (if k < i + 1 then ps s k else 0) = if k < i then ps s k else if i = k then ps s i else 0 := by
          by_cases h1 : k < i
          · rw [if_pos h1, if_pos (by omega)]
          · rw [if_neg h1]
            by_cases h2 : i = k
            · subst h2; rw [if_pos rfl, if_pos (by omega)]
            · rw [if_neg h2, if_neg (by omega)]
        have HCV := Lib.hid hcv
        have hy1 : i < k → IdxAt wr G g' (built (r + 1) 1 tid (ps s) i) := fun h => by rw [show min i k = i by omega] at hy; exact hy
        have HY1 := Lib.hid hy1
        have HY := Lib.hid hy
        clear hcv hy1 hy
        generalize ns[i] = z at *
        obtain ⟨q, hq⟩ : ∃ q, q = ps s i := ⟨_, rfl⟩
        rw [← hq] at hadd hadd2 hpb
        obtain ⟨y, hy⟩ : ∃ y, y = s i := ⟨_, rfl⟩
        rw [← hy] at hadd hadd2 hsi
        obtain ⟨u, hu, hu0, hu1⟩ : ∃ u, u = z % 60 ∧ 0 ≤ u ∧ u < 60 := ⟨_, rfl, by omega, by omega⟩
        rw [← hu] at hsi
        have HU := Lib.hid hu
        have HQ := Lib.hid hq
        have HYY := Lib.hid hy
        have HA2 := Lib.hid hadd2
        clear hu hy hadd2
        rw [← hq]
        clear hq
        subst hsi
        have hcase : i < k ∨ i = k ∨ k < i := by omega
        rcases hcase with hc | hc | hc
        case' inl =>
          have e1 : ((i : Int) == (k : Int)) = false := by rw [beq_eq_false_iff_ne]; omega
          have e2 : decide (i < k) = true := decide_eq_true hc
          have e3 : ¬ k < i := by omega
        case' inr.inl =>
          have e1 : ((i : Int) == (k : Int)) = true := by rw [beq_iff_eq]; omega
          have e2 : decide (i < k) = false := decide_eq_false (by omega)
          have e3 : ¬ k < i := by omega
        case' inr.inr =>
          have e1 : ((i : Int) == (k : Int)) = false := by rw [beq_eq_false_iff_ne]; omega
          have e2 : decide (i < k) = false := decide_eq_false (by omega)
          have e3 : k < i := by omega
        all_goals
          have HC := Lib.hid hc
          clear hc
          go_wp2_with fail
          refine (number_calls z 60 _ (by omega) (by omega)).mono ?_
          rintro e w4 ⟨rfl, rfl⟩
          rw [← HU.out]
          go_wp2_with fail
          refine hadd.mono ?_
          rintro e w5 h5
          obtain ⟨rfl, F5, i5, s5, f5⟩ := h5.go
          have B5 : Below w.heap.size w w5 := f5.below hb hF hb.size
          have G5 : ∀ j, F5 j → w.heap.size ≤ j := fun j hj => by
            rcases s5 j hj with h | h
            · exact hF j h
            · exact Nat.le_trans hb.size h
          have y5 := HY.out.frame f5 (fun j hj h => hFG j h hj)
          have hyo := HY.out.old
          have D5 : ∀ j, F5 j → ¬ G j := fun j hj hg => by
            rcases s5 j hj with h | h
            · exact hFG j h hg
            · have := hyo j hg; omega
          clear hadd
          go_wp2_with fail
        · have hc := HC.out
          refine ⟨⟨i + 1, by omega, by go_num, ?_, ?_, F5, G, i5, ?_, G5, hG, D5, B5⟩, by simp [intOf]; omega⟩
          · rw [HPN.out, ← HQ.out, ← HYY.out]
          · rw [HCV.out, if_pos hc]
          · rw [show min (i + 1) k = min i k by omega]; exact y5
        · have hc := HC.out
          refine ⟨⟨i + 1, by omega, by go_num, ?_, ?_, F5, G, i5, ?_, G5, hG, D5, B5⟩, by simp [intOf]; omega⟩
          · rw [HPN.out, ← HQ.out, ← HYY.out]
          · rw [HCV.out, if_neg (by omega), if_pos hc, HQ.out]
          · rw [show min (i + 1) k = min i k by omega]; exact y5
        · have hc := HC.out
          have y5' : IdxAt w5 G g' (built (r + 1) 1 tid (ps s) i) := by rw [show min i k = i by omega] at y5; exact y5
          refine (HA2.out hc w5 y5').mono ?_
          rintro e w6 h6
          obtain ⟨rfl, G6, i6, s6, f6⟩ := h6.go
          have B6 : Below w.heap.size w w6 := f6.below B5 hG B5.size
          have x6 := i5.frame f6 (fun j hj h => D5 j hj h)
          have hfo := i5.old
          go_wp2_with fail
          refine ⟨⟨i + 1, by omega, by go_num, ?_, ?_, F5, G6, x6, ?_, G5, ?_, ?_, B6⟩, by simp [intOf]; omega⟩
          · rw [HPN.out, ← HQ.out, ← HYY.out]
          · rw [HCV.out]; simp [show ¬ k < i by omega, show ¬ i = k by omega]
          · rw [show min (i + 1) k = i + 1 by omega]; exact i6
          · intro j hj
            rcases s6 j hj with h | h
            · exact hG j h
            · exact Nat.le_trans B5.size h
          · intro j hj h
            rcases s6 j h with h' | h'
            · exact D5 j hj h'
            · have := hfo j hj; omega
      · obtain rfl : i = ns.length := by omega
        have hle := B_marks_len (r + 1) 1 tid (ps s) ns.length
        have hle2 := B_marks_len (r + 1) 1 tid (ps s) k
        rw [show min ns.length k = k by omega] at hy
        have hcut := icut_calls hx (marks_rise (r + 1) tid s HSB.out _) (by
          intro a b ha hb' hab
          simp only [List.getElem_map, adM]
          rw [List.length_map] at ha hb'
          exact adds_rise (r + 1) tid s HSB.out _ a b ha hb' hab) (ps s k)
        have hcm := cuts_marks (r + 1) tid s HSB.out ns.length k hk1
        have hmay := cuts_may (r + 1) tid s HSB.out ns.length k (by omega)
        have hXa : (Idx.cut (built (r + 1) 1 tid (ps s) ns.length) (ps s k)).adds.length ≤ 1000000 := by
          have h1 : (Idx.cut (built (r + 1) 1 tid (ps s) ns.length) (ps s k)).adds.length ≤ (built (r + 1) 1 tid (ps s) ns.length).adds.length := List.length_filter_le _ _
          rw [B_adds_len] at h1; omega
        have hbp := B_pos (r + 1) 1 tid s HSB.out k (by omega)
        obtain ⟨X, hX⟩ : ∃ X, X = Idx.cut (built (r + 1) 1 tid (ps s) ns.length) (ps s k) := ⟨_, rfl⟩
        obtain ⟨Y, hY⟩ : ∃ Y, Y = built (r + 1) 1 tid (ps s) k := ⟨_, rfl⟩
        rw [← hX] at hcut hcm hmay hXa
        rw [← hY] at hcm hbp hle2 hy
        have HCM := Lib.hid hcm
        have HMAY := Lib.hid hmay
        have hyo := hy.old
        clear hX hY hmay hcm
        by_cases hkn : k = ns.length
        case' pos =>
          subst hkn
        case' neg =>
          have e1 : ((k : Int) == (ns.length : Int)) = false := by rw [beq_eq_false_iff_ne]; omega
          have e2 : k < ns.length := by omega
        all_goals
          go_wp2_with fail
          refine hcut.mono ?_
          rintro e w4 h4
          unfold ICutPost at h4
          obtain ⟨rfl, x4, f4⟩ := h4
          have B4 : Below w.heap.size w w4 := f4.below hb hF hb.size
          have y4 := hy.frame f4 (fun j hj h => hFG j h hj)
          clear hcut
          have mX : X.marks.length ≤ 1000000 := by rw [HCM.out]; omega
          go_wp2_with fail
          refine (marks_calls x4 mX).mono ?_
          rintro e w5 ⟨v5, rfl, o5, b5⟩
          have B5 := nxt B4 b5
          have x5 := x4.below b5
          have y5 := y4.below b5
          rw [HCM.out] at o5
          have r5 := Rd.of_owns o5
          obtain ⟨a5, c5, rfl⟩ := owns_slice o5
          go_wp2_with fail
          refine (marks_calls y5 (by omega)).mono ?_
          rintro e w6 ⟨v6, rfl, o6, b6⟩
          have B6 := nxt B5 b6
          have x6 := x5.below b6
          have r6 := Rd.of_owns o6
          have r56 := r5.below b6
          obtain ⟨a6, c6, rfl⟩ := owns_slice o6
          have hnn : ((Y.marks.length : Int) != (Y.marks.length : Int)) = false := by simp
          clear y4 y5 o5 o6 x5 x4
          go_wp2_with fail
          go_loopw [19] (fun iv wr => ∃ j : Nat, iv = .int .i64 j ∧ j ≤ Y.marks.length ∧ Below w6.heap.size w6 wr) (fun iv _ => Y.marks.length - (intOf iv).toNat)
          case atStart => exact ⟨0, rfl, Nat.zero_le _, Below.refl _ _⟩
          case round =>
            obtain ⟨j, rfl, hj, hb7⟩ := hrel
            by_cases hlt2 : j < Y.marks.length
            · obtain ⟨b, o, rfl, _, _, hx1⟩ := (r56.below hb7).at (by omega) (by omega)
              obtain ⟨b', o', rfl, _, _, hx2⟩ := (r6.below hb7).at (by omega) (by omega)
              obtain ⟨p0, p1, p2⟩ := mk_cells hx1 j hlt2
              obtain ⟨q0, q1, q2⟩ := mk_cells hx2 j hlt2
              generalize Y.marks[j] = m at *
              have n0 : (m.off != m.off) = false := by simp
              have n1 : (m.time != m.time) = false := by simp
              have n2 : (m.pos != m.pos) = false := by simp
              clear hx1 hx2
              go_wp2_with fail
              go_quiet (fail)
              go_wp2_with fail
              exact ⟨⟨j + 1, by go_num, by omega, below_drewN hb7 nq⟩, by simp [intOf]; omega⟩
            · obtain rfl : j = Y.marks.length := by omega
              have hadd := idxAdd_calls (x6.below hb7) ⟨1000, 0, 1048576⟩ 5 HMAY.out mX hXa (by rw [HCM.out]; exact hbp)
              simp only at hadd
              go_wp2_with fail
              refine hadd.mono ?_
              rintro e w8 h8
              obtain ⟨rfl, F8, i8, s8, f8⟩ := h8.go
              have B7 := nxt B6 hb7
              have B8 : Below w.heap.size w w8 := f8.below B7 hF B7.size
              clear hadd
              go_wp2_with fail
              go_ret
              exact ⟨rfl, B8⟩
end Go.Proofs.YtjhebnjajnjhhaaDoor
