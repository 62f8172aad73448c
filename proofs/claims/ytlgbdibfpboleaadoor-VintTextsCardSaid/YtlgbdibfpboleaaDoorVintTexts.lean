/- VintTexts returns true at every input. -/
import Derived.Test.YtlgbdibfpboleaaDoorReaderBytes
import Derived.Test.YtlgbdibfpboleaaDoorTextMath
import Derived.Test.YtlgbdibfpboleaaDoorAppend
import Derived.Test.YtlgbdibfpboleaaDoorVintFirst
import Derived.Test.YtlgbdibfpboleaaDoorSameBytes
namespace Go.Proofs.YtlgbdibfpboleaaDoor
open Go Go.RowKit Vint

set_option maxRecDepth 100000 in
set_option maxHeartbeats 2000000 in
theorem vintTexts_walk (S : List Nat) (A : Nat → Addr) (vb : Value) (l : List UInt8) (most cut : Int) (w : World) (hS : Sents S w A) (hall : All S) (ha : Rd w 1 vb l.length (bvs l)) :
    Calls Tryd.prog 8 #[vb, .int .i64 most, .int .i64 cut] w (fun e w' => e = .returned (.bool true) ∧ Below w.heap.size w w') := by
  obtain ⟨i0, hi, hz0, hz1, hz2⟩ := info_parts info_u8
  obtain ⟨a1, c1, rfl⟩ := ha.slice
  have m1 := ha.len_le
  by_cases t1 : 60 < l.length
  · go_enter Tryd.func8, Tryd.ntmps8
    go_wp2_with fail
    refine (vintFirst_calls _).mono ?_
    rintro e w1 ⟨rfl, b1⟩
    go_wp2_with fail
    go_ret
    exact ⟨rfl, b1⟩
  · have hu : U64 l.length := by unfold U64; omega
    go_enter Tryd.func8, Tryd.ntmps8
    go_wp2_with fail
    refine (vintFirst_calls _).mono ?_
    rintro e w1 ⟨rfl, b1⟩
    go_wp2_with fail
    refine (number_calls most 80 _ (by omega) (by omega)).mono ?_
    rintro e w2 ⟨rfl, rfl⟩
    obtain ⟨m, hm, hm80⟩ : ∃ m : Nat, most % 80 = (m : Int) ∧ m < 80 := ⟨(most % 80).toNat, by omega, by omega⟩
    rw [hm]
    clear hm
    have lu := putL_len10 l.length hu
    have pu := putL_pos l.length
    go_wp2_with fail
    refine (put_calls _ 0 [] l.length _ (Rd.nil _ _) (by omega) hu).mono ?_
    rintro e w2 ⟨vp, rfl, op, b2⟩
    simp only [List.nil_append, Nat.zero_add] at op
    have B2 := nxt b1 b2
    go_wp2_with (at_builtin; refine wpList_append_rd rfl _ _ 23 rfl w1.heap.size 5 i0 (.int .u8 0) 1 1 Tryd.underlying23 hi hz0 hz1 hz2 rfl (by decide) _ (putL l.length).length (bvs (putL l.length)) rfl op _ _ (bvs l) rfl (ha.below B2) (bvs_one _) ?c3 ?c4 ?c5 ?_)
    case c3 => unfold maxLen; omega
    case c4 => omega
    case c5 => exact b2.size
    intro vx w3 hx3 Tr
    have B3 : Below w.heap.size w w3 := Tr w B2 b1.size
    obtain ⟨al, hal⟩ : ∃ al, al = putL l.length ++ l := ⟨_, rfl⟩
    have hlen : al.length = (putL l.length).length + l.length := by rw [hal, List.length_append]
    have r3 : Rd w3 1 vx al.length (bvs al) := by rw [hlen, hal, bvs_append]; exact Rd.of_owns hx3
    have hab : al.length ≤ 70 := by omega
    have hap : 0 < al.length := by omega
    have hB0 := bytes_put m l [] 0 [] (by omega) rfl
    rw [List.nil_append, List.append_nil, ← hal, Nat.zero_add] at hB0
    have HAL := Lib.hid hal
    obtain ⟨a3, c3, rfl⟩ := r3.slice
    rw [← hlen] at *
    clear hx3 Tr op hal hlen
    go_wp2_with fail
    refine (newReader_calls A _ al _ r3 (by omega)).mono ?_
    rintro e w4 ⟨g, rfl, hg, rr, b4⟩
    have B4 := nxt B3 b4
    have haw : Away S A g := Away.of_new hS (Nat.le_trans B3.size hg)
    go_wp2_with fail
    refine (bytes_calls (hS.below B4) hall haw rr (m : Int) (by omega)).mono ?_
    rintro e w5 ⟨v5, rfl, o5, r5, t5⟩
    have B5 := t5.new B4 (Nat.le_trans B3.size hg)
    have r3' := r3.below (t5.new b4 hg)
    obtain ⟨a5, c5, rfl⟩ := owns_slice o5
    by_cases hbig : m < l.length
    · rw [if_pos hbig] at hB0
      have HB := Lib.hid hB0
      clear hB0
      unfold rs0 at o5 r5
      rw [HB.out] at o5 r5
      rw [show (Vint.bytes (m : Int) (rs0 al)).1.length = 0 by unfold rs0; rw [HB.out]; rfl]
      go_wp2_with fail
      refine (readerErr_calls r5).mono ?_
      rintro e w6 ⟨v6, rfl, er, rfl⟩
      go_wp2_with fail
      refine (placed_calls 105 0 _ (by omega)).mono ?_
      rintro e w7 ⟨rfl, b7⟩
      have B7 := nxt B5 b7
      go_wp2_with fail
      refine (same_calls (hS.below B7) hall _ (.placed 4 0) (er.at.below b7) 105 0 true).mono ?_
      rintro e w8 ⟨rfl, b8⟩
      have B8 := nxt B7 b8
      rw [show decide ((Er.placed 4 0).code = 105 ∧ (Er.placed 4 0).has = true ∧ (Er.placed 4 0).pos = 0) = true by decide]
      go_wp2_with fail
      refine (readerAt_calls ((r5.below b7).below b8)).mono ?_
      rintro e w9 ⟨rfl, rfl⟩
      go_wp2_with fail
      go_ret
      exact ⟨rfl, B8⟩
    · rw [if_neg hbig] at hB0
      have hml : l.length ≤ m := by omega
      have hcut : ∀ k, k < al.length → Vint.bytes (m : Int) (rs0 (al.take k)) = ([], ⟨al.take k, 0, .bare 0⟩) := fun k hk => by
        have := bytes_cut m l k hml (by omega) (by rw [← HAL.out]; exact hk)
        rwa [← HAL.out] at this
      have HB := Lib.hid hB0
      clear hB0
      unfold rs0 at o5 r5
      rw [HB.out] at o5 r5
      rw [show (Vint.bytes (m : Int) (rs0 al)).1.length = l.length by unfold rs0; rw [HB.out]]
      have r6 := Rd.of_owns o5
      clear o5
      simp only at r6
      have HC := Lib.hid hcut
      clear hcut
      go_wp2_with fail
      refine (readerErr_calls r5).mono ?_
      rintro e w6 ⟨v6, rfl, er, rfl⟩
      obtain rfl := er
      go_wp2_with fail
      refine (sameBytes_calls _ _ _ _ _ r6 (ha.below B5)).mono ?_
      rintro e w7 ⟨rfl, q7, rfl⟩
      rw [show (l == l) = true by simp]
      go_wp2_with fail
      refine (left_calls (r5.drewN q7)).mono ?_
      rintro e w8 ⟨rfl, q8, rfl⟩
      rw [show (⟨al, al.length, Er.fine⟩ : Rs).left.length = 0 by rw [left_length]; simp]
      have B9 : Below w.heap.size w ((w6.drewN q7).drewN q8) := nxt B5 (below_drewN (below_drewN (Below.refl _ _) q7) q8)
      replace r3' := r3'.below (below_drewN (below_drewN (Below.refl _ _) q7) q8)
      generalize (w6.drewN q7).drewN q8 = w9 at *
      clear r6 r5 B5 t5 rr r3 b4 B4
      obtain ⟨k, hk, hka⟩ : ∃ k : Nat, cut % (al.length : Int) = (k : Int) ∧ k < al.length := by
        have e1 := Int.emod_nonneg cut (show (al.length : Int) ≠ 0 by omega)
        have e2 := Int.emod_lt_of_pos cut (show (0 : Int) < (al.length : Int) by omega)
        exact ⟨(cut % (al.length : Int)).toNat, by omega, by omega⟩
      have HK := Lib.hid hk
      clear hk
      go_wp2_with fail
      refine (number_calls cut (al.length : Int) _ (by omega) (by omega)).mono ?_
      rintro e w10 ⟨rfl, rfl⟩
      rw [HK.out]
      go_wp2_with (refine wpList_slice_h rfl 23 _ _ rfl sl_u8 1 sz_u8 _ al.length _ rfl _ _ rfl k rfl r3'.cap (by omega) ?_)
      intro a11 c11 r11
      have rk := r11 _ _ r3'
      have hlk : (al.take k).length = k := by rw [List.length_take]; omega
      have rk2 : Rd w9 1 (.slice a11 k c11) (al.take k).length (bvs (al.take k)) := by rw [hlk, bvs_take]; first | exact rk | (rw [Nat.mul_one] at rk; exact rk)
      clear rk hlk
      clear r11
      go_wp2_with fail
      refine (newReader_calls A _ (al.take k) _ rk2 (by rw [List.length_take]; omega)).mono ?_
      rintro e w12 ⟨g2, rfl, hg2, rr2, b12⟩
      have B12 := nxt B9 b12
      have haw2 : Away S A g2 := Away.of_new hS (Nat.le_trans B9.size hg2)
      go_wp2_with fail
      refine (bytes_calls (hS.below B12) hall haw2 rr2 (m : Int) (by omega)).mono ?_
      rintro e w13 ⟨v13, rfl, o13, r13, t13⟩
      have B13 := t13.new B12 (Nat.le_trans B9.size hg2)
      rw [HC.out k hka] at o13 r13
      simp only at o13 r13
      obtain ⟨a13, c13, rfl⟩ := owns_slice o13
      rw [show ([] : List UInt8).length = 0 from rfl]
      go_wp2_with fail
      refine (readerErr_calls r13).mono ?_
      rintro e w14 ⟨v14, rfl, er, rfl⟩
      go_wp2_with fail
      refine (is_calls (hS.below B13) hall _ (.bare 0) er.at 101).mono ?_
      rintro e w15 ⟨rfl, b15⟩
      rw [show decide ((Er.bare 0).code = 101 ∧ (Er.bare 0).has = false ∧ (Er.bare 0).pos = 0) = true by decide]
      go_wp2_with fail
      refine (readerAt_calls (r13.below b15)).mono ?_
      rintro e w16 ⟨rfl, rfl⟩
      go_wp2_with fail
      go_ret
      exact ⟨rfl, nxt B13 b15⟩
end Go.Proofs.YtlgbdibfpboleaaDoor
