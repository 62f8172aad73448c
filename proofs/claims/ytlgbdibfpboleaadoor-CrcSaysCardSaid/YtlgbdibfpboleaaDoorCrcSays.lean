/- CrcSays returns true at every input. -/
import Derived.Test.YtlgbdibfpboleaaDoorRefSeal
import Derived.Test.YtlgbdibfpboleaaDoorCrcFirst
import Derived.Test.YtlgbdibfpboleaaDoorSameBytes
import Derived.Test.YtlgbdibfpboleaaDoorSee
namespace Go.Proofs.YtlgbdibfpboleaaDoor
open Go Go.RowKit Crc Vint

theorem of_two (va vb : Value) (la lb : List UInt8) (w : World) (ha : Rd w 1 va la.length (bvs la)) (hb : Rd w 1 vb lb.length (bvs lb)) :
    Calls Tryd.prog 28 #[.slice (some ⟨w.heap.size, 0, none⟩) 2 2] (w.alloc (.cells #[va, vb] 23)) (fun e w' => e = .returned (.int .u32 ((sum (la ++ lb)).toNat : Int)) ∧ Below w.heap.size w w') := by
  refine (of_calls _ [va, vb] [la, lb] _ (Rd.new w #[va, vb] _ 1 2 rfl (by decide)) ((Parts.one (ha.below (below_alloc w _))).snoc (hb.below (below_alloc w _)))).mono ?_
  rintro e w1 ⟨rfl, b⟩
  exact ⟨by simp, nxt (below_alloc w _) b⟩

set_option maxRecDepth 100000 in
set_option maxHeartbeats 2000000 in
theorem crcSays_walk (S : List Nat) (A : Nat → Addr) (va vb : Value) (la lb : List UInt8) (w : World) (hS : Sents S w A) (hall : All S) (ha : Rd w 1 va la.length (bvs la)) (hb : Rd w 1 vb lb.length (bvs lb)) :
    Calls Tryd.prog 5 #[va, vb] w (fun e w' => e = .returned (.bool true) ∧ Below w.heap.size w w') := by
  obtain ⟨i0, hi, hz0, hz1, hz2⟩ := info_parts info_u8
  obtain ⟨a1, c1, rfl⟩ := ha.slice
  obtain ⟨a2, c2, rfl⟩ := hb.slice
  have m1 := ha.len_le
  have m2 := hb.len_le
  by_cases t1 : 500 < la.length ∨ 500 < lb.length
  · go_enter Tryd.func5, Tryd.ntmps5
    go_wp2_with fail
    refine (crcFirst_calls _).mono ?_
    rintro e w1 ⟨rfl, b1⟩
    rcases t1 with t1 | t1
    · go_wp2_with fail
      all_goals (
        go_ret
        exact ⟨rfl, b1⟩)
    · go_wp2_with fail
      all_goals (
        go_ret
        exact ⟨rfl, b1⟩)
  · have t2 : ¬ 500 < la.length := by omega
    have t3 : ¬ 500 < lb.length := by omega
    clear t1
    have t2' : decide ((500 : Int) < (la.length : Int)) = false := by rw [decide_eq_false_iff_not]; omega
    have t3' : decide ((500 : Int) < (lb.length : Int)) = false := by rw [decide_eq_false_iff_not]; omega
    go_enter Tryd.func5, Tryd.ntmps5
    go_wp2_with fail
    refine (crcFirst_calls _).mono ?_
    rintro e w1 ⟨rfl, b1⟩
    go_wp2_with (at_make; refine wpList_make_own _ rfl _ _ 23 rfl w1.heap.size 5 i0 (.int .u8 0) 1 Tryd.underlying23 hi hz0 hz1 _ _ _ 1000 rfl rfl rfl ?c1 ?c2 ?c3 ?_)
    case c1 => rw [hz2]; omega
    case c2 => unfold maxLen; omega
    case c3 => omega
    intro w2 o2 g2
    have b2 : Below w1.heap.size w1 w2 := (Below.refl _ _).grown g2 (Nat.le_refl _) (by simp)
    have B2 := nxt b1 b2
    clear g2
    have o2' : w2.ownsRow w1.heap.size 5 1 (.slice (some ⟨w1.heap.size, 0, none⟩) 0 1000) 0 [] := by simpa using o2
    go_wp2_with (at_builtin; (refine wpList_append_rd rfl _ _ 23 rfl w1.heap.size 5 i0 (.int .u8 0) 1 1 Tryd.underlying23 hi hz0 hz1 hz2 rfl (by decide) _ 0 [] rfl o2' _ _ (bvs la) rfl (ha.below B2) (bvs_one _) ?c3 ?c4 ?c5 ?_))
    case c3 => unfold maxLen; omega
    case c4 => omega
    case c5 => exact b2.size
    intro v3 w3 o3 Tr
    have b3 : Below w1.heap.size w1 w3 := Tr w1 b2 (Nat.le_refl _)
    have B3 := nxt b1 b3
    clear Tr o2 o2' b2 B2
    go_wp2_with (at_builtin; (refine wpList_append_rd rfl _ _ 23 rfl w1.heap.size 5 i0 (.int .u8 0) 1 1 Tryd.underlying23 hi hz0 hz1 hz2 rfl (by decide) _ la.length (bvs la) rfl o3 _ _ (bvs lb) rfl (hb.below B3) (bvs_one _) ?c3 ?c4 ?c5 ?_))
    case c3 => unfold maxLen; omega
    case c4 => omega
    case c5 => exact b3.size
    intro v4 w4 o4 Tr
    have b4 : Below w1.heap.size w1 w4 := Tr w1 b3 (Nat.le_refl _)
    have B4 := nxt b1 b4
    have rb : Rd w4 1 v4 (la ++ lb).length (bvs (la ++ lb)) := by
      have := Rd.of_owns o4
      rw [List.length_append, bvs_append]
      simpa using this
    clear Tr o3 b3 B3 o4 b4
    go_wp2_with fail
    refine (open_calls S A (hall 0 (by omega)) (hall 1 (by omega)) _ la _ (hS.below B4) (ha.below B4) (by omega)).mono ?_
    intro e w5 post
    cases hg : openL la with
    | fin =>
      have HG := Lib.hid hg
      rw [hg] at post
      clear hg
      obtain ⟨b5, post⟩ := post
      obtain rfl := post
      have B5 := nxt B4 b5
      replace rb := rb.below b5
      clear B4 b5
      go_wp2_with fail
      refine (refOpen_calls _ la _ (ha.below B5) (by omega)).mono ?_
      rintro e w6 ⟨⟨q6, rfl⟩, post⟩
      rw [HG.out] at post
      obtain rfl := post
      have B6 := nxt B5 (below_drewN (Below.refl _ _) q6)
      replace rb := rb.below (below_drewN (Below.refl _ _) q6)
      clear B5
      generalize World.drewN _ q6 = w6 at *
      go_wp2_with fail
      refine (of_two _ _ _ _ _ (ha.below B6) (hb.below B6)).mono ?_
      rintro e w7 ⟨rfl, b7⟩
      have B7 := nxt B6 b7
      replace rb := rb.below b7
      clear B6 b7
      go_wp2_with fail
      refine (refSum_calls _ _ _ rb).mono ?_
      rintro e w8 ⟨rfl, rfl⟩
      go_wp2_with fail
      refine (of_one _ _ _ _ (ha.below B7)).mono ?_
      rintro e w9 ⟨rfl, b9⟩
      have B9 := nxt B7 b9
      replace rb := rb.below b9
      clear B7 b9
      go_wp2_with fail
      refine (more_calls _ _ lb _ (hb.below B9)).mono ?_
      rintro e w10 ⟨rfl, b10⟩
      have B10 := nxt B9 b10
      replace rb := rb.below b10
      clear B9 b10
      rw [show more (sum la) lb = sum (la ++ lb) by unfold sum; rw [more_append]]
      go_wp2_with fail
      refine (refSum_calls _ _ _ rb).mono ?_
      rintro e w11 ⟨rfl, rfl⟩
      go_wp2_with fail
      refine (seal_calls _ la _ (ha.below B10) (by omega)).mono ?_
      rintro e w12 ⟨v12, rfl, o12, b12⟩
      have B12 := nxt B10 b12
      have r12 := Rd.of_owns o12
      clear B10 b12 o12 rb
      go_wp2_with fail
      refine (refSeal_calls _ la _ (ha.below B12) (by omega)).mono ?_
      rintro e w13 ⟨v13, rfl, o13, b13⟩
      have B13 := nxt B12 b13
      replace r12 := r12.below b13
      have r13 := Rd.of_owns o13
      clear B12 b13 o13
      go_wp2_with fail
      refine (sameBytes_calls _ _ _ _ _ r12 r13).mono ?_
      rintro e w14 ⟨rfl, q14, rfl⟩
      have B14 := nxt B13 (below_drewN (Below.refl _ _) q14)
      clear B13 r12 r13
      generalize World.drewN _ q14 = w14 at *
      rw [show (sealed la == sealed la) = true by simp]
      go_wp2_with fail
      refine (sameBytes_calls _ _ [] [] _ (Rd.nil _ _) (Rd.nil _ _)).mono ?_
      rintro e w15 ⟨rfl, q15, rfl⟩
      have B15 := nxt B14 (below_drewN (Below.refl _ _) q15)
      clear B14
      generalize World.drewN _ q15 = w15 at *
      rw [show (([] : List UInt8) == []) = true by simp]
      go_wp2_with fail
      refine (is_calls (hS.below B15) hall _ (.bare 0) ?_ _).mono ?_
      · first | exact rfl | exact ⟨by omega, rfl⟩
      rintro e w16 ⟨rfl, b16⟩
      go_wp2_with fail
      go_ret
      exact ⟨rfl, nxt B15 b16⟩
    | sum =>
      have HG := Lib.hid hg
      rw [hg] at post
      clear hg
      obtain ⟨b5, post⟩ := post
      obtain rfl := post
      have B5 := nxt B4 b5
      replace rb := rb.below b5
      clear B4 b5
      go_wp2_with fail
      refine (refOpen_calls _ la _ (ha.below B5) (by omega)).mono ?_
      rintro e w6 ⟨⟨q6, rfl⟩, post⟩
      rw [HG.out] at post
      obtain rfl := post
      have B6 := nxt B5 (below_drewN (Below.refl _ _) q6)
      replace rb := rb.below (below_drewN (Below.refl _ _) q6)
      clear B5
      generalize World.drewN _ q6 = w6 at *
      go_wp2_with fail
      refine (of_two _ _ _ _ _ (ha.below B6) (hb.below B6)).mono ?_
      rintro e w7 ⟨rfl, b7⟩
      have B7 := nxt B6 b7
      replace rb := rb.below b7
      clear B6 b7
      go_wp2_with fail
      refine (refSum_calls _ _ _ rb).mono ?_
      rintro e w8 ⟨rfl, rfl⟩
      go_wp2_with fail
      refine (of_one _ _ _ _ (ha.below B7)).mono ?_
      rintro e w9 ⟨rfl, b9⟩
      have B9 := nxt B7 b9
      replace rb := rb.below b9
      clear B7 b9
      go_wp2_with fail
      refine (more_calls _ _ lb _ (hb.below B9)).mono ?_
      rintro e w10 ⟨rfl, b10⟩
      have B10 := nxt B9 b10
      replace rb := rb.below b10
      clear B9 b10
      rw [show more (sum la) lb = sum (la ++ lb) by unfold sum; rw [more_append]]
      go_wp2_with fail
      refine (refSum_calls _ _ _ rb).mono ?_
      rintro e w11 ⟨rfl, rfl⟩
      go_wp2_with fail
      refine (seal_calls _ la _ (ha.below B10) (by omega)).mono ?_
      rintro e w12 ⟨v12, rfl, o12, b12⟩
      have B12 := nxt B10 b12
      have r12 := Rd.of_owns o12
      clear B10 b12 o12 rb
      go_wp2_with fail
      refine (refSeal_calls _ la _ (ha.below B12) (by omega)).mono ?_
      rintro e w13 ⟨v13, rfl, o13, b13⟩
      have B13 := nxt B12 b13
      replace r12 := r12.below b13
      have r13 := Rd.of_owns o13
      clear B12 b13 o13
      go_wp2_with fail
      refine (sameBytes_calls _ _ _ _ _ r12 r13).mono ?_
      rintro e w14 ⟨rfl, q14, rfl⟩
      have B14 := nxt B13 (below_drewN (Below.refl _ _) q14)
      clear B13 r12 r13
      generalize World.drewN _ q14 = w14 at *
      rw [show (sealed la == sealed la) = true by simp]
      go_wp2_with fail
      refine (sameBytes_calls _ _ [] [] _ (Rd.nil _ _) (Rd.nil _ _)).mono ?_
      rintro e w15 ⟨rfl, q15, rfl⟩
      have B15 := nxt B14 (below_drewN (Below.refl _ _) q15)
      clear B14
      generalize World.drewN _ q15 = w15 at *
      rw [show (([] : List UInt8) == []) = true by simp]
      go_wp2_with fail
      refine (is_calls (hS.below B15) hall _ (.bare 1) ?_ _).mono ?_
      · first | exact rfl | exact ⟨by omega, rfl⟩
      rintro e w16 ⟨rfl, b16⟩
      go_wp2_with fail
      go_ret
      exact ⟨rfl, nxt B15 b16⟩
    | ok b =>
      have HG := Lib.hid hg
      rw [hg] at post
      clear hg
      obtain ⟨b5, post⟩ := post
      obtain ⟨vx, rfl, rx⟩ := post
      obtain ⟨ax, cx, rfl⟩ := rx.slice
      have B5 := nxt B4 b5
      replace rb := rb.below b5
      clear B4 b5
      go_wp2_with fail
      refine (refOpen_calls _ la _ (ha.below B5) (by omega)).mono ?_
      rintro e w6 ⟨⟨q6, rfl⟩, post⟩
      rw [HG.out] at post
      obtain ⟨vy, rfl, ry⟩ := post
      obtain ⟨ay, cy, rfl⟩ := ry.slice
      have B6 := nxt B5 (below_drewN (Below.refl _ _) q6)
      replace rb := rb.below (below_drewN (Below.refl _ _) q6)
      replace rx := rx.below (below_drewN (Below.refl _ _) q6)
      clear B5
      generalize World.drewN _ q6 = w6 at *
      go_wp2_with fail
      refine (of_two _ _ _ _ _ (ha.below B6) (hb.below B6)).mono ?_
      rintro e w7 ⟨rfl, b7⟩
      have B7 := nxt B6 b7
      replace rb := rb.below b7
      replace rx := rx.below b7
      replace ry := ry.below b7
      clear B6 b7
      go_wp2_with fail
      refine (refSum_calls _ _ _ rb).mono ?_
      rintro e w8 ⟨rfl, rfl⟩
      go_wp2_with fail
      refine (of_one _ _ _ _ (ha.below B7)).mono ?_
      rintro e w9 ⟨rfl, b9⟩
      have B9 := nxt B7 b9
      replace rb := rb.below b9
      replace rx := rx.below b9
      replace ry := ry.below b9
      clear B7 b9
      go_wp2_with fail
      refine (more_calls _ _ lb _ (hb.below B9)).mono ?_
      rintro e w10 ⟨rfl, b10⟩
      have B10 := nxt B9 b10
      replace rb := rb.below b10
      replace rx := rx.below b10
      replace ry := ry.below b10
      clear B9 b10
      rw [show more (sum la) lb = sum (la ++ lb) by unfold sum; rw [more_append]]
      go_wp2_with fail
      refine (refSum_calls _ _ _ rb).mono ?_
      rintro e w11 ⟨rfl, rfl⟩
      go_wp2_with fail
      refine (seal_calls _ la _ (ha.below B10) (by omega)).mono ?_
      rintro e w12 ⟨v12, rfl, o12, b12⟩
      have B12 := nxt B10 b12
      replace rx := rx.below b12
      replace ry := ry.below b12
      have r12 := Rd.of_owns o12
      clear B10 b12 o12 rb
      go_wp2_with fail
      refine (refSeal_calls _ la _ (ha.below B12) (by omega)).mono ?_
      rintro e w13 ⟨v13, rfl, o13, b13⟩
      have B13 := nxt B12 b13
      replace rx := rx.below b13
      replace ry := ry.below b13
      replace r12 := r12.below b13
      have r13 := Rd.of_owns o13
      clear B12 b13 o13
      go_wp2_with fail
      refine (sameBytes_calls _ _ _ _ _ r12 r13).mono ?_
      rintro e w14 ⟨rfl, q14, rfl⟩
      have B14 := nxt B13 (below_drewN (Below.refl _ _) q14)
      replace rx := rx.below (below_drewN (Below.refl _ _) q14)
      replace ry := ry.below (below_drewN (Below.refl _ _) q14)
      clear B13 r12 r13
      generalize World.drewN _ q14 = w14 at *
      rw [show (sealed la == sealed la) = true by simp]
      go_wp2_with fail
      refine (sameBytes_calls _ _ _ _ _ rx ry).mono ?_
      rintro e w15 ⟨rfl, q15, rfl⟩
      have B15 := nxt B14 (below_drewN (Below.refl _ _) q15)
      clear B14
      generalize World.drewN _ q15 = w15 at *
      rw [show (b == b) = true by simp]
      go_wp2_with fail
      refine (is_calls (hS.below B15) hall _ .fine ?_ _).mono ?_
      · first | exact rfl | exact ⟨by omega, rfl⟩
      rintro e w16 ⟨rfl, b16⟩
      go_wp2_with fail
      go_ret
      exact ⟨rfl, nxt B15 b16⟩
end Go.Proofs.YtlgbdibfpboleaaDoor
