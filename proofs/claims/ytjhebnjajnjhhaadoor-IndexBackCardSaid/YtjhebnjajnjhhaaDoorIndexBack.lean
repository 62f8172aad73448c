/- IndexBack returns true at every input. -/
import Derived.Test.YtjhebnjajnjhhaaDoorIdxDo
import Derived.Test.YtjhebnjajnjhhaaDoorSameBytes
import Derived.Test.YtjhebnjajnjhhaaDoorNumber
import Derived.StillTailTactics
import Derived.Deep.DeepCutAuto
import Derived.Deep.CutBlock
import Derived.BigQuiet
namespace Go.Proofs.YtjhebnjajnjhhaaDoor
open Go Go.RowKit Idx Vint

set_option maxRecDepth 100000 in
set_option maxHeartbeats 4000000 in
theorem indexBack_walk (S : List Nat) (A : Nat → Addr) (every : Int) (ls ms : List DoI) (vl vm : Value) (w : World) (hS : Sents S w A) (hz0 : 0 ∈ S) (hz1 : 1 ∈ S) (hz2 : 2 ∈ S) (hz4 : 4 ∈ S) (hl : Rd w 5 vl ls.length (ls.flatMap doiV)) (hm : Rd w 5 vm ms.length (ms.flatMap doiV)) :
    Calls Tryd.prog 15 #[.int .i64 every, vl, vm] w (fun e w' => e = .returned (.bool true) ∧ Below w.heap.size w w') := by
  obtain ⟨a1, c1, rfl⟩ := hl.slice
  obtain ⟨a2, c2, rfl⟩ := hm.slice
  have m1 := hl.len_le
  have m2 := hm.len_le
  obtain ⟨r, hr, hr0, hr1⟩ : ∃ r, r = every % 300 ∧ 0 ≤ r ∧ r < 300 := ⟨_, rfl, by omega, by omega⟩
  have HR := Lib.hid hr
  clear hr
  by_cases t1 : 40 < ls.length ∨ 20 < ms.length
  · go_enter Tryd.func15, Tryd.ntmps15
    go_wp2_with fail
    refine (idxFirst_calls _).mono ?_
    rintro e w1 ⟨rfl, b1⟩
    go_wp2_with fail
    refine (number_calls every 300 _ (by omega) (by omega)).mono ?_
    rintro e w2 ⟨rfl, rfl⟩
    rw [← HR.out]
    have w4 : IntKind.i64.wrap (r + 1) = r + 1 := by rw [IntKind.wrap_i64]; omega
    rcases t1 with t1 | t1
    all_goals
      go_wp2_with fail
      all_goals (
        go_ret
        exact ⟨rfl, b1⟩)
  · have t2 : ls.length ≤ 40 := by omega
    have t3 : ms.length ≤ 20 := by omega
    have t2' : decide ((40 : Int) < (ls.length : Int)) = false := decide_eq_false (by omega)
    have t3' : decide ((20 : Int) < (ms.length : Int)) = false := decide_eq_false (by omega)
    clear t1
    go_enter Tryd.func15, Tryd.ntmps15
    go_wp2_with fail
    refine (idxFirst_calls _).mono ?_
    rintro e w1 ⟨rfl, b1⟩
    go_wp2_with fail
    refine (number_calls every 300 _ (by omega) (by omega)).mono ?_
    rintro e w2 ⟨rfl, rfl⟩
    rw [← HR.out]
    go_wp2_with fail
    refine (newIdx_calls (r + 1) w1 (by omega) (by omega)).mono ?_
    rintro e w2 ⟨rfl, i2, b2⟩
    have B2 := nxt b1 b2
    obtain ⟨g, hg⟩ : ∃ g, g = w1.heap.size := ⟨_, rfl⟩
    rw [← hg] at i2 ⊢
    have hgw : w.heap.size ≤ g := by have := b1.size; omega
    clear hg b2
    go_wp2_with fail
    go_loopw [10] (fun iv wr => ∃ i : Nat, i ≤ ls.length ∧ iv = .int .i64 i ∧ ∃ F x, IdxAt wr F g x ∧ Full x ∧ x.every = r + 1 ∧ x.marks.length ≤ i ∧ x.adds.length ≤ i ∧ (∀ k, F k → w.heap.size ≤ k) ∧ Below w.heap.size w wr) (fun iv _ => ls.length - (intOf iv).toNat)
    case atStart => exact ⟨0, Nat.zero_le _, rfl, _, _, i2, full_new _, rfl, Nat.le_refl _, Nat.le_refl _, by rintro k rfl; exact hgw, B2⟩
    case round =>
      obtain ⟨i, hi', rfl, F, x, hx, hf, hev, hl1, hl2, hF, hb⟩ := hrel
      by_cases hlt : i < ls.length
      · obtain ⟨b, o, rfl, hc1, hm1, hx1⟩ := (hl.below hb).at (by omega)
        obtain ⟨p1, p2, p3, p4⟩ := doi_cells hx1 i hlt
        generalize ls[i] = d at *
        have htry := idxTry_calls S A (hS.below hb.drew) hz4 (hx.below (Below.refl _ _).drew) hf.good d.mk' d.size (by omega) (by omega)
        unfold TryPost DoI.mk' at htry
        simp only at htry
        have hte := try_every x d.mk' d.size
        have htl := try_len x d.mk' d.size
        have hft := hf.try d.mk' d.size
        unfold DoI.mk' at hte htl hft
        clear hx1 hx hf
        go_upto_region 13 with fail
        go_still_tail 21, (by kernel_rfl)
        change wpList _ _ _ _ _ wr.drew
        go_wp2_with fail
        refine htry.mono ?_
        rintro e w5 ⟨rfl, F5, i5, s5, f5⟩
        have B5 : Below w.heap.size w w5 := f5.below hb.drew hF hb.size
        have G5 : ∀ k, F5 k → w.heap.size ≤ k := fun k hk => by
          rcases s5 k hk with h | h
          · exact hF k h
          · exact Nat.le_trans hb.size h
        clear htry
        go_wp2_with fail
        exact ⟨⟨i + 1, by omega, by go_num, F5, _, i5, hft, by rw [hte, hev], by omega, by omega, G5, B5⟩, by simp [intOf]; omega⟩
      · obtain rfl : i = ls.length := by omega
        clear hi'
        go_wp2_with fail
        refine (marks_calls hx (by omega)).mono ?_
        rintro e w3 ⟨v3, rfl, o3, b3⟩
        have B3 := nxt hb b3
        have hx3 := hx.below b3
        have r3 := Rd.of_owns o3
        obtain ⟨a3, c3, rfl⟩ := owns_slice o3
        have hcc := fun W (h : IdxAt W F g x) p => icut_calls h hf.rises_marks hf.rises_adds p
        unfold ICutPost at hcc
        obtain ⟨n, hn⟩ : ∃ n, n = x.marks.length := ⟨_, rfl⟩
        rw [← hn] at r3 o3 hl1 ⊢
        have HN := Lib.hid hn
        clear hx o3 hn
        go_upto_if 79 with fail
        go_cut [79] (fun _ wx => ∃ X', X'.marks = x.marks ∧ Good X' ∧ Like X' (ofMarks x.every x.marks) ∧ X'.adds.length ≤ x.adds.length ∧ IdxAt wx F g X' ∧ Below w.heap.size w wx)
        case first =>
          by_cases hn0 : n = 0
          · have hd0 : decide (0 < n) = false := decide_eq_false (by omega)
            have hd1 : decide ((0 : Int) < (n : Int)) = false := decide_eq_false (by omega)
            obtain ⟨k1, k2, k3⟩ := cut_none hf (List.eq_nil_of_length_eq_zero (by rw [← HN.out]; exact hn0))
            have hc := hcc _ hx3 0
            first | rw [hd0] | rw [hd1] | skip
            clear hn0
            go_wp2_with fail
            refine hc.mono ?_
            rintro e w4 ⟨rfl, x4, f4⟩
            go_wp2_with fail
            go_meet
            exact ⟨_, k1, k2, k3, List.length_filter_le _ _, x4, f4.below B3 hF B3.size⟩
          · have hd0 : decide (0 < n) = true := decide_eq_true (by omega)
            have hd1 : decide ((0 : Int) < (n : Int)) = true := decide_eq_true (by omega)
            obtain ⟨k, hk⟩ : ∃ k, n = k + 1 := ⟨n - 1, by omega⟩
            obtain ⟨b, o, rfl, _, hm1, hx1⟩ := r3.at (by omega)
            have hk2 : k < x.marks.length := by rw [← HN.out]; omega
            have hkn : k < n := by omega
            obtain ⟨_, _, p2⟩ := mk_cells hx1 k hk2
            have hgl : x.marks.getLast? = some x.marks[k] := by rw [List.getLast?_eq_getElem?, ← HN.out, hk, Nat.add_sub_cancel, List.getElem?_eq_getElem hk2]
            obtain ⟨q, hq⟩ : ∃ q, q = x.marks[k] := ⟨_, rfl⟩
            rw [← hq] at p2 hgl
            obtain ⟨k1, k2, k3⟩ := cut_last hf q hgl
            have hqp := hf.good.poss q (List.mem_of_getLast? hgl)
            have hc := hcc _ hx3 (q.pos + 1)
            have hw1 : IntKind.i64.wrap ((n : Int) - 1) = (k : Int) := by rw [IntKind.wrap_i64]; omega
            have hw2 : IntKind.i64.wrap (q.pos + 1) = q.pos + 1 := by rw [IntKind.wrap_i64]; omega
            first | rw [hd0] | rw [hd1] | skip
            clear hn0 hk hq hgl hx1
            go_wp2_with fail
            refine hc.mono ?_
            rintro e w4 ⟨rfl, x4, f4⟩
            go_wp2_with fail
            go_meet
            exact ⟨_, k1, k2, k3, List.length_filter_le _ _, x4, f4.below B3 hF B3.size⟩
        obtain ⟨X, k1, k2, k3, k4, hx4, B4⟩ := hcut
        have hXe : X.every = r + 1 := by have := k3.e; rw [← this]; exact hev
        have hXl : X.marks.length ≤ 40 := by rw [k1, ← HN.out]; omega
        have hYe : ofMarks x.every x.marks = ofMarks (r + 1) X.marks := by rw [hev, k1]
        rw [hYe] at k3
        have hib := ibytes_calls hx4 (by omega) (by omega) (by omega) k2.g1 k2.g2
        rw [hXe] at hib
        have hbl := body_len (r + 1) X.marks (by omega) (by omega) k2.g1 (by omega)
        have HRD := Lib.hid (readIdx_put (r + 1) X.marks (by omega) (by omega) k2.g1 k2.g2 (by omega))
        have hXa : X.adds.length ≤ 40 := by omega
        have HXE := Lib.hid hXe
        obtain ⟨bs, hbs⟩ : ∃ bs, bs = Crc.sealed (bodyL (r + 1) X.marks) := ⟨_, rfl⟩
        rw [← hbs] at hib hbl HRD
        clear hbs hYe hcc hx3 r3 B3 b3 hXe
        go_wp2_with fail
        refine hib.mono ?_
        rintro e w5 ⟨v5, rfl, o5, b5⟩
        have B5 := nxt B4 b5
        have hx5 := hx4.below b5
        have rb5 := Rd.of_owns o5
        obtain ⟨a5, c5, rfl⟩ := owns_slice o5
        have hr6 := iread_calls' (hS.below B5) hz0 hz1 hz2 hz4 rb5 (by omega)
        unfold IReadPost at hr6
        rw [HRD.out] at hr6
        clear hib hx4
        go_wp2_with fail
        refine hr6.mono ?_
        rintro e w6 ⟨b6, (⟨F6, g6, _, rfl, hy6, hF6⟩ | ⟨_, h, _⟩)⟩
        rotate_left
        · exact absurd rfl h
        replace hy6 : IdxAt w6 F6 g6 (ofMarks (r + 1) X.marks) := hy6
        have B6 := nxt B5 b6
        have hx6 := hx5.below b6
        have hdis : ∀ k, F k → ¬ F6 k := fun k h1 h2 => by have := hx5.old k h1; have := hF6 k h2; omega
        have hF6' : ∀ k, F6 k → w.heap.size ≤ k := fun k hk => Nat.le_trans B5.size (hF6 k hk)
        clear hr6 HRD
        go_wp2_with fail
        go_loopw [14, 15, 16] (fun iv _ _ wr => ∃ i : Nat, i ≤ ms.length ∧ iv = .int .i64 i ∧ ∃ Fx Fy x y, IdxAt wr Fx g x ∧ IdxAt wr Fy g6 y ∧ Good x ∧ Like x y ∧ x.every = r + 1 ∧ x.marks.length ≤ 40 + i ∧ x.adds.length ≤ 40 + i ∧ y.adds.length ≤ 1 + i ∧ (∀ k, Fx k → w.heap.size ≤ k) ∧ (∀ k, Fy k → w.heap.size ≤ k) ∧ (∀ k, Fx k → ¬ Fy k) ∧ Below w.heap.size w wr) (fun iv _ _ _ => ms.length - (intOf iv).toNat)
        case atStart => exact ⟨0, Nat.zero_le _, rfl, F, F6, X, _, hx6, hy6, k2, k3, HXE.out, by omega, by omega, by unfold ofMarks; cases X.marks.getLast? <;> simp, hF, hF6', hdis, B6⟩
        case round =>
          obtain ⟨i, hi', rfl, Fx, Fy, X, Y, hx, hy, hg, hlk, hev, hl1, hl2, hl3, hFx, hFy, hdj, hb⟩ := hrel
          by_cases hlt : i < ms.length
          · obtain ⟨b, o, rfl, hc1, hm1, hx1⟩ := (hm.below hb).at (by omega)
            obtain ⟨p1, p2, p3, p4⟩ := doi_cells hx1 i hlt
            obtain ⟨d, hd⟩ : ∃ d, d = ms[i] := ⟨_, rfl⟩
            rw [← hd] at p1 p2 p3 p4
            have HD := Lib.hid hd
            clear hd
            have htry := idxTry_calls S A (hS.below hb.drew) hz4 (hx.below (Below.refl _ _).drew) hg d.mk' d.size (by omega) (by omega)
            have hy2 : ∀ W, Sents S W A → IdxAt W Fy g6 Y → _ := fun W (h1 : Sents S W A) (h2 : IdxAt W Fy g6 Y) => idxTry_calls S A h1 hz4 h2 (hlk.good hg) d.mk' d.size (by rw [hlk.m]; omega) (by omega)
            rw [hlk.may] at hy2
            unfold TryPost DoI.mk' at htry hy2
            simp only at htry hy2
            have hte := try_every X d.mk' d.size
            have htl := try_len X d.mk' d.size
            have htl2 := try_len Y d.mk' d.size
            have hgt := hg.try d.mk' d.size
            have hlt2 := hlk.try d.mk' d.size
            unfold DoI.mk' at hte htl htl2 hgt hlt2
            have hd1 := hx.below (Below.refl wr.heap.size wr).drew
            clear hx1 hx hg hlk
            go_upto_region 24 with fail
            go_still_tail 21, (by kernel_rfl)
            change wpList _ _ _ _ _ wr.drew
            go_wp2_with fail
            refine htry.mono ?_
            rintro e w5 ⟨rfl, F5, i5, s5, f5⟩
            have B5 : Below w.heap.size w w5 := f5.below hb.drew hFx hb.size
            have G5 : ∀ k, F5 k → w.heap.size ≤ k := fun k hk => by
              rcases s5 k hk with h | h
              · exact hFx k h
              · exact Nat.le_trans hb.size h
            have y5 := (hy.below (Below.refl _ _).drew).frame f5 (fun k h1 h2 => hdj k h2 h1)
            have hdj5 : ∀ k, F5 k → ¬ Fy k := fun k h1 h2 => by
              rcases s5 k h1 with h | h
              · exact hdj k h h2
              · have := hy.old k h2; exact absurd (Nat.lt_of_lt_of_le this h) (Nat.lt_irrefl _)
            obtain ⟨b', o', e', _, _, hx1⟩ := (hm.below B5).at (by omega)
            simp only [Option.some.injEq, Addr.mk.injEq] at e'
            obtain ⟨rfl, rfl, _⟩ := e'
            obtain ⟨q1, q2, q3, q4⟩ := doi_cells hx1 i hlt
            rw [← HD.out] at q1 q2 q3 q4
            have ht2 := hy2 w5.drew (hS.below B5.drew) (y5.below (Below.refl _ _).drew)
            obtain ⟨ok, hok⟩ : ∃ ok, ok = may X { off := d.off, time := d.time, pos := d.pos } d.size := ⟨_, rfl⟩
            rw [← hok] at ht2 ⊢
            clear hok htry hx1 p1 p2 p3 p4 hd1
            obtain ⟨v5, hv5⟩ : ∃ v, v = (if ok = true then Value.nilIface else senV A 4) := ⟨_, rfl⟩
            rw [← hv5] at ht2 ⊢
            have HV := Lib.hid hv5
            clear hv5
            go_wp2_with fail
            go_still_tail 21, (by kernel_rfl)
            change wpList _ _ _ _ _ w5.drew
            go_wp2_with fail
            refine ht2.mono ?_
            rintro e w7 ⟨rfl, F7, i7, s7, f7⟩
            have B7 : Below w.heap.size w w7 := f7.below B5.drew hFy B5.size
            have G7 : ∀ k, F7 k → w.heap.size ≤ k := fun k hk => by
              rcases s7 k hk with h | h
              · exact hFy k h
              · exact Nat.le_trans B5.size h
            have x7 := (i5.below (Below.refl _ _).drew).frame f7 (fun k h1 h2 => hdj5 k h1 h2)
            have hdj7 : ∀ k, F5 k → ¬ F7 k := fun k h1 h2 => by
              rcases s7 k h2 with h | h
              · exact hdj5 k h1 h
              · have := i5.old k h1; exact absurd (Nat.lt_of_lt_of_le this h) (Nat.lt_irrefl _)
            clear ht2 q1 q2 q3 q4 hy2
            have HE : ∀ (a : Act) (W : World), True := fun _ _ => trivial
            have hfin : ∀ n, ∃ i' : Nat, i' ≤ ms.length ∧ Value.int .i64 ((i + 1 : Nat) : Int) = .int .i64 i' ∧ ∃ Fx Fy x y, IdxAt (w7.drewN n) Fx g x ∧ IdxAt (w7.drewN n) Fy g6 y ∧ Good x ∧ Like x y ∧ x.every = r + 1 ∧ x.marks.length ≤ 40 + i' ∧ x.adds.length ≤ 40 + i' ∧ y.adds.length ≤ 1 + i' ∧ (∀ k, Fx k → w.heap.size ≤ k) ∧ (∀ k, Fy k → w.heap.size ≤ k) ∧ (∀ k, Fx k → ¬ Fy k) ∧ Below w.heap.size w (w7.drewN n) := fun n =>
              ⟨i + 1, by omega, rfl, F5, F7, _, _, x7.below (below_drewN (Below.refl _ _) n), i7.below (below_drewN (Below.refl _ _) n), hgt, hlt2, by rw [hte, hev], by omega, by omega, by omega, G5, G7, hdj7, below_drewN B7 n⟩
            have HFIN := Lib.hid hfin
            clear hfin x7 i7 hgt hlt2 hte htl htl2 G5 G7 hdj7 hdj5 s7 f7 s5 f5 y5 HE i5
            cases ok
            all_goals
              have hv := HV.out
              simp only [if_true, if_false, Bool.false_eq_true] at hv
              try unfold senV at hv
              subst hv
              go_wp2_with fail
              go_quiet (fail)
              go_wp2_with fail
              refine ⟨?_, by simp [intOf]; omega⟩
              obtain ⟨i', h1, h2, h3⟩ := HFIN.out nq
              exact ⟨i', h1, by rw [← h2]; go_num, h3⟩
          · obtain rfl : i = ms.length := by omega
            have hib1 := ibytes_calls hx (by omega) (by omega) (by omega) hg.g1 hg.g2
            have hyg := hlk.good hg
            have hib2 := fun W (h : IdxAt W Fy g6 Y) => ibytes_calls h (by have := hlk.e; omega) (by have := hlk.e; omega) (by rw [hlk.m]; omega) hyg.g1 hyg.g2
            rw [hlk.e, hlk.m] at hib2
            obtain ⟨bz, hbz⟩ : ∃ bz, bz = Crc.sealed (bodyL X.every X.marks) := ⟨_, rfl⟩
            rw [← hbz] at hib1 hib2
            clear hbz hyg hg hlk
            go_wp2_with fail
            refine hib1.mono ?_
            rintro e w7 ⟨v7, rfl, o7, b7⟩
            have B7 := nxt hb b7
            obtain ⟨a7, c7, rfl⟩ := owns_slice o7
            go_wp2_with fail
            refine (hib2 _ (hy.below b7)).mono ?_
            rintro e w8 ⟨v8, rfl, o8, b8⟩
            have B8 := nxt B7 b8
            obtain ⟨a8, c8, rfl⟩ := owns_slice o8
            have hsb := sameBytes_calls _ _ bz bz w8 (Rd.of_owns (owns_below o7 b8)) (Rd.of_owns o8)
            rw [beq_self_eq_true] at hsb
            go_wp2_with fail
            refine hsb.mono ?_
            rintro e w9 ⟨rfl, q9, rfl⟩
            go_wp2_with fail
            go_ret
            exact ⟨rfl, below_drewN B8 q9⟩
end Go.Proofs.YtjhebnjajnjhhaaDoor
