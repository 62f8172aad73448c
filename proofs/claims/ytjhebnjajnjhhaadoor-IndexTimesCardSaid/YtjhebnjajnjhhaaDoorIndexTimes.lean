/- IndexTimes returns true at every input. -/
import Derived.Test.YtjhebnjajnjhhaaDoorIdxFirst
import Derived.Test.YtjhebnjajnjhhaaDoorTimesMath
import Derived.Test.YtjhebnjajnjhhaaDoorLong
import Derived.Test.YtjhebnjajnjhhaaDoorSee
import Derived.Deep.DeepCutAuto
import Derived.Deep.CutBlock
namespace Go.Proofs.YtjhebnjajnjhhaaDoor
open Go Go.RowKit Idx

def lvs (l : List Int) : List Value := l.map (fun (n : Int) => Value.int .i64 n)
theorem lvs_at (l : List Int) (k : Nat) (h : k < l.length) : (lvs l)[k]? = some (.int .i64 l[k]) := by simp [lvs, h]

set_option maxRecDepth 100000 in
set_option maxHeartbeats 4000000 in
theorem indexTimes_walk (S : List Nat) (A : Nat → Addr) (ns : List Int) (vt : Value) (ask : Int) (w : World) (hS : Sents S w A) (hall : All S) (ht : Rd w 1 vt ns.length (lvs ns)) :
    Calls Tryd.prog 3 #[vt, .int .i64 ask] w (fun e w' => e = .returned (.bool true) ∧ Below w.heap.size w w') := by
  obtain ⟨a1, c1, rfl⟩ := ht.slice
  have m1 := ht.len_le
  by_cases t1 : 40 < ns.length
  · go_enter Tryd.func3, Tryd.ntmps3
    go_wp2_with fail
    refine (idxFirst_calls _).mono ?_
    rintro e w1 ⟨rfl, b1⟩
    go_wp2_with fail
    go_ret
    exact ⟨rfl, b1⟩
  · go_enter Tryd.func3, Tryd.ntmps3
    go_wp2_with fail
    refine (idxFirst_calls _).mono ?_
    rintro e w1 ⟨rfl, b1⟩
    go_wp2_with fail
    refine (newIdx_calls 1 w1 (by omega) (by omega)).mono ?_
    rintro e w2 ⟨rfl, i2, b2⟩
    have B2 := nxt b1 b2
    go_wp2_with fail
    refine (long_calls ask 1000 _ (by omega) (by omega)).mono ?_
    rintro e w3 ⟨rfl, rfl⟩
    obtain ⟨r, hr, hr0, hr1⟩ : ∃ r, r = ask % 1000 ∧ 0 ≤ r ∧ r < 1000 := ⟨_, rfl, by omega, by omega⟩
    rw [← hr]
    have HR := Lib.hid hr
    clear hr
    obtain ⟨g, hg⟩ : ∃ g, g = w1.heap.size := ⟨_, rfl⟩
    rw [← hg] at i2 ⊢
    have hgw : w.heap.size ≤ g := by have := b1.size; omega
    clear hg b2
    go_upto_block 0 with fail
    go_cut [8, 9, 10, 11] (fun _ v9 _ _ wx => v9 = .int .i64 (wantOf ns (r - 500) ns.length) ∧ ∃ F, IdxAt wx F g (X ns ns.length) ∧ (∀ k, F k → w.heap.size ≤ k) ∧ Below w.heap.size w wx)
    case first =>
      go_wp2_with fail
      go_loopw [8, 9, 10, 11] (fun v8 v9 iv _ wr => ∃ i : Nat, i ≤ ns.length ∧ iv = .int .i64 i ∧ v8 = .int .i64 (bestOf ns i) ∧ v9 = .int .i64 (wantOf ns (r - 500) i) ∧ ∃ F, IdxAt wr F g (X ns i) ∧ (∀ k, F k → w.heap.size ≤ k) ∧ Below w.heap.size w wr) (fun _ _ iv _ _ => ns.length - (intOf iv).toNat)
      case atStart => exact ⟨0, Nat.zero_le _, rfl, rfl, rfl, _, i2, by rintro k rfl; exact hgw, B2⟩
      case round =>
        obtain ⟨i, hi', rfl, rfl, rfl, F, hx, hF, hb⟩ := hrel
        by_cases hlt : i < ns.length
        · obtain ⟨b, o, rfl, hc1, hm1, hx1⟩ := (ht.below hb).at (by omega)
          have f1 := hx1 i _ (lvs_at ns i hlt)
          have htt : tts ns i = ns[i] % 1000 - 500 := by unfold tts; rw [List.getD_eq_getElem?_getD, List.getElem?_eq_getElem hlt]; rfl
          have hbs := best_step ns i
          have hws := want_step ns (r - 500) i
          have hadd := idxAdd_calls hx ⟨2 * (i : Int), tts ns i, 10 * (i : Int)⟩ 10 (X_may ns i (by omega)) (by rw [X_marks_len]; omega) (by rw [X_adds_len]; omega) (X_pos ns i (by omega))
          rw [← X_succ, htt] at hadd
          rw [htt] at hbs
          obtain ⟨b9, hb9⟩ : ∃ b9, b9 = bestOf ns (i + 1) := ⟨_, rfl⟩
          obtain ⟨w9, hw9⟩ : ∃ w9, w9 = wantOf ns (r - 500) (i + 1) := ⟨_, rfl⟩
          rw [← hb9] at hbs hws
          rw [← hw9] at hws
          have HB9 := Lib.hid hb9
          have HW9 := Lib.hid hw9
          have HBS := Lib.hid hbs
          have HWS := Lib.hid hws
          clear hx1 hbs hws htt hb9 hw9
          generalize ns[i] = z at *
          generalize bestOf ns i = b0 at *
          generalize wantOf ns (r - 500) i = w0 at *
          obtain ⟨u, hu, hz0⟩ : ∃ u : Bool, ((i : Int) == 0) = u ∧ (u = true ∧ i = 0 ∨ u = false ∧ i ≠ 0) := by
            by_cases h0 : i = 0
            · exact ⟨true, by simp [h0], .inl ⟨rfl, h0⟩⟩
            · exact ⟨false, by rw [beq_eq_false_iff_ne]; omega, .inr ⟨rfl, h0⟩⟩
          rcases hz0 with ⟨rfl, hz0⟩ | ⟨rfl, hz0⟩
          all_goals (
            have HZ0 := Lib.hid hz0
            clear hz0
            go_wp2_with fail
            refine (long_calls z 1000 _ (by omega) (by omega)).mono ?_
            rintro e w4 ⟨rfl, rfl⟩
            obtain ⟨q, hq, hq0, hq1⟩ : ∃ q, q = z % 1000 ∧ 0 ≤ q ∧ q < 1000 := ⟨_, rfl, by omega, by omega⟩
            rw [← hq] at hadd HBS ⊢
            have HQ := Lib.hid hq
            clear hq
            go_wp2_with fail
            refine hadd.mono ?_
            rintro e w5 h5
            obtain ⟨rfl, F5, i5, s5, f5⟩ := h5.go
            have B5 : Below w.heap.size w w5 := f5.below hb hF hb.size
            have G5 : ∀ k, F5 k → w.heap.size ≤ k := fun k hk => by
              rcases s5 k hk with h | h
              · exact hF k h
              · exact Nat.le_trans hb.size h
            go_wp2_with fail
            all_goals (
              have h1 := HBS.out
              have h2 := HWS.out
              have h3 := HZ0.out
              exact ⟨⟨i + 1, by omega, by go_num, congrArg (Value.int .i64) (by rw [← HB9.out]; omega), congrArg (Value.int .i64) (by rw [← HW9.out]; omega), F5, i5, G5, B5⟩, by simp [intOf]; omega⟩))
        · obtain rfl : i = ns.length := by omega
          go_wp2_with fail
          go_meet
          exact ⟨rfl, F, hx, hF, hb⟩
    case rest =>
      obtain ⟨rfl, F, hx, hF, hb⟩ := hcut
      have hml := X_marks_len ns ns.length
      have hmk := marks_calls hx (by rw [hml]; omega)
      have htm := X_times ns ns.length
      have hwn := when_calls hx (r - 500)
      rw [hml] at hmk
      have HTM := Lib.hid htm
      have HML := Lib.hid hml
      clear hml htm hwn
      go_wp2_with fail
      refine hmk.mono ?_
      rintro e w5 ⟨v5, rfl, o5, b5⟩
      have B5 := nxt hb b5
      have x5 := hx.below b5
      have r5 := Rd.of_owns o5
      obtain ⟨a5, c5, rfl⟩ := owns_slice o5
      clear hmk hb hx o5 b5
      go_upto_block 2 with fail
      go_cut [13] (fun _ wx => Below w5.heap.size w5 wx)
      case first =>
        go_wp2_with fail
        go_loopw [13] (fun iv wr => ∃ j : Nat, 1 ≤ j ∧ iv = .int .i64 j ∧ j ≤ max 1 ns.length ∧ Below w5.heap.size w5 wr) (fun iv _ => 41 - (intOf iv).toNat)
        case atStart => exact ⟨1, Nat.le_refl _, rfl, by omega, Below.refl _ _⟩
        case round =>
          obtain ⟨j, hj1, rfl, hj2, hb⟩ := hrel
          by_cases hlt : j < ns.length
          · obtain ⟨i, rfl⟩ : ∃ i, j = i + 1 := ⟨j - 1, by omega⟩
            obtain ⟨b, o, rfl, hc1, hm1, hx1⟩ := (r5.below hb).at (by omega) (by omega)
            have q1 := (mk_cells hx1 i (by rw [HML.out]; omega)).2.1
            have q2 := (mk_cells hx1 (i + 1) (by rw [HML.out]; omega)).2.1
            have hle := HTM.out i (by rw [HML.out]; omega)
            have hs1 : IntKind.i64.wrap ((i : Int) + 1 - 1) = (i : Int) := by rw [IntKind.wrap_i64]; omega
            clear hx1
            generalize ((X ns ns.length).marks[i]'(by rw [HML.out]; omega)).time = ta at *
            generalize ((X ns ns.length).marks[i + 1]'(by rw [HML.out]; omega)).time = tb at *
            go_wp2_with fail
            go_quiet (fail)
            go_wp2_with fail
            exact ⟨⟨i + 1 + 1, by omega, by go_num, by omega, below_drewN hb nq⟩, by simp [intOf]; omega⟩
          · go_wp2_with fail
            go_meet
            exact hb
      case rest =>
        have hb := hcut
        have x6 := x5.below hb
        have B6 := nxt B5 hb
        have hwn := when_calls x6 (r - 500)
        clear hcut x5 r5 B5
        go_wp2_with fail
        refine hwn.mono ?_
        rintro e w7 h7
        unfold WhenPost at h7
        obtain ⟨rfl, b7⟩ := h7
        have x7 := x6.below b7
        have B7 := nxt B6 b7
        have hadd := idxAdd_wrong S A (hS.below B7) (hall 4 (by omega)) g ⟨-1, 0, 9999⟩ 1 (by decide)
        unfold wantOf
        cases hw : Idx.when (X ns ns.length) (r - 500) with
        | none =>
          have HW := Lib.hid hw
          clear hw
          go_wp2_with fail
          refine hadd.mono ?_
          rintro e w8 ⟨rfl, b8⟩
          go_wp2_with fail
          refine (is_calls (hS.below (nxt B7 b8)) hall _ (.bare 4) ⟨by omega, rfl⟩ 105).mono ?_
          rintro e w9 ⟨rfl, b9⟩
          go_wp2_with fail
          go_ret
          exact ⟨rfl, nxt (nxt B7 b8) b9⟩
        | some q =>
          have hq := when_nonneg ns _ _ q hw
          have HW := Lib.hid hw
          have hqq : (q == q) = true := by simp
          clear hw
          go_wp2_with fail
          refine hadd.mono ?_
          rintro e w8 ⟨rfl, b8⟩
          go_wp2_with fail
          refine (is_calls (hS.below (nxt B7 b8)) hall _ (.bare 4) ⟨by omega, rfl⟩ 105).mono ?_
          rintro e w9 ⟨rfl, b9⟩
          go_wp2_with fail
          go_ret
          exact ⟨rfl, nxt (nxt B7 b8) b9⟩
end Go.Proofs.YtjhebnjajnjhhaaDoor
