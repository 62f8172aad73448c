/- VintBack returns true at every input. -/
import Derived.Test.YtlgbdibfpboleaaDoorSee
import Derived.Test.YtlgbdibfpboleaaDoorVintGetW
import Derived.Test.YtlgbdibfpboleaaDoorRefBytes
import Derived.Test.YtlgbdibfpboleaaDoorAppend
import Derived.Test.YtlgbdibfpboleaaDoorVintFirst
namespace Go.Proofs.YtlgbdibfpboleaaDoor
open Go Go.RowKit Vint

set_option maxRecDepth 100000 in
set_option maxHeartbeats 2000000 in
theorem vintBack_walk (S : List Nat) (A : Nat → Addr) (u : Nat) (n : Int) (vb : Value) (l : List UInt8) (w : World) (hS : Sents S w A) (hall : All S) (ha : Rd w 1 vb l.length (bvs l)) (hu : U64 u) (hn : I64 n) :
    Calls Tryd.prog 4 #[.int .u64 (u : Int), .int .i64 n, vb] w (fun e w' => e = .returned (.bool true) ∧ Below w.heap.size w w') := by
  obtain ⟨i0, hi, hz0, hz1, hz2⟩ := info_parts info_u8
  obtain ⟨a1, c1, rfl⟩ := ha.slice
  have m1 := ha.len_le
  have hf : U64 (fold n) := fold_lt n hn.out.1 hn.out.2
  have lu := putL_len10 u hu
  have lf := putL_len10 (fold n) hf
  have pu := putL_pos u
  have pf := putL_pos (fold n)
  by_cases t1 : 40 < l.length
  · go_enter Tryd.func4, Tryd.ntmps4
    go_wp2_with fail
    refine (vintFirst_calls _).mono ?_
    rintro e w1 ⟨rfl, b1⟩
    go_wp2_with fail
    go_ret
    exact ⟨rfl, b1⟩
  · go_enter Tryd.func4, Tryd.ntmps4
    go_wp2_with fail
    refine (vintFirst_calls _).mono ?_
    rintro e w1 ⟨rfl, b1⟩
    go_wp2_with fail
    refine (put_calls _ 0 [] u _ (Rd.nil _ _) (by omega) hu).mono ?_
    rintro e w2 ⟨vp, rfl, op, b2⟩
    have rp : Rd w2 1 vp (putL u).length (bvs (putL u)) := by have := Rd.of_owns op; simpa using this
    obtain ⟨ap, cp, rfl⟩ := rp.slice
    have B2 := nxt b1 b2
    clear b1 b2 op
    go_wp2_with fail
    refine (putInt_calls _ 0 [] n _ (Rd.nil _ _) (by omega) hn).mono ?_
    rintro e w3 ⟨vq, rfl, oq, b3⟩
    have rq : Rd w3 1 vq (putL (fold n)).length (bvs (putL (fold n))) := by have := Rd.of_owns oq; simpa using this
    replace rp := rp.below b3
    obtain ⟨aq, cq, rfl⟩ := rq.slice
    have B3 := nxt B2 b3
    clear B2 b3 oq
    go_wp2_with fail
    refine (refBytes_calls _ (putL u) _ rp (by omega)).mono ?_
    rintro e w4 ⟨v4, rfl, o4, b4⟩
    have B4 := nxt B3 b4
    go_wp2_with (at_builtin; refine wpList_append_rd rfl _ _ 23 rfl w3.heap.size 5 i0 (.int .u8 0) 1 1 Tryd.underlying23 hi hz0 hz1 hz2 rfl (by decide) _ (putL u).length (bvs (putL u)) rfl o4 _ _ (bvs l) rfl (ha.below B4) (bvs_one _) ?c3 ?c4 ?c5 ?_)
    case c3 => unfold maxLen; omega
    case c4 => omega
    case c5 => have := b4.size; omega
    intro vx w6 hx6 Tr
    have B36 : Below w3.heap.size w3 w6 := Tr w3 b4 (Nat.le_refl _)
    replace rp := rp.below B36
    replace rq := rq.below B36
    have B6 := nxt B3 B36
    have rx : Rd w6 1 vx (putL u ++ l).length (bvs (putL u ++ l)) := by rw [List.length_append, bvs_append]; exact Rd.of_owns hx6
    clear B3 B36 B4 hx6 Tr o4 b4
    have h0 := hall 0 (by omega)
    have h2 := hall 2 (by omega)
    have G1 := Lib.hid (get_put u l hu)
    have G2 := Lib.hid (get_put (fold n) l hf)
    have G3 := Lib.hid (get_cut u ((putL u).length - 1) hu (by omega))
    have G4 := Lib.hid (get_cut (fold n) ((putL (fold n)).length - 1) hf (by omega))
    have U1 := Lib.hid (unfold_fold n)
    go_wp2_with fail
    refine (get_calls S A h0 h2 _ _ _ (hS.below B6) rx).mono ?_
    rintro e w7 ⟨rfl, q7, rfl⟩
    have B7 := nxt B6 (below_drewN (Below.refl _ _) q7)
    replace rp := rp.below (below_drewN (Below.refl _ _) q7)
    replace rq := rq.below (below_drewN (Below.refl _ _) q7)
    clear B6 rx
    generalize World.drewN _ q7 = w7 at *
    simp only [G1.out, gr]
    go_wp2_with fail
    refine (refBytes_calls _ (putL (fold n)) _ rq (by omega)).mono ?_
    rintro e w8 ⟨v8, rfl, o8, b8⟩
    have B8 := nxt B7 b8
    go_wp2_with (at_builtin; refine wpList_append_rd rfl _ _ 23 rfl w7.heap.size 5 i0 (.int .u8 0) 1 1 Tryd.underlying23 hi hz0 hz1 hz2 rfl (by decide) _ (putL (fold n)).length (bvs (putL (fold n))) rfl o8 _ _ (bvs l) rfl (ha.below B8) (bvs_one _) ?c3 ?c4 ?c5 ?_)
    case c3 => unfold maxLen; omega
    case c4 => omega
    case c5 => have := b8.size; omega
    intro vy w9 hy9 Tr
    have B79 : Below w7.heap.size w7 w9 := Tr w7 b8 (Nat.le_refl _)
    replace rp := rp.below B79
    replace rq := rq.below B79
    have B9 := nxt B7 B79
    have ry : Rd w9 1 vy (putL (fold n) ++ l).length (bvs (putL (fold n) ++ l)) := by rw [List.length_append, bvs_append]; exact Rd.of_owns hy9
    clear B7 B79 B8 hy9 Tr o8 b8
    go_wp2_with fail
    refine (getInt_calls S A h0 h2 _ _ _ (hS.below B9) ry).mono ?_
    rintro e w10 ⟨rfl, q10, rfl⟩
    have B10 := nxt B9 (below_drewN (Below.refl _ _) q10)
    replace rp := rp.below (below_drewN (Below.refl _ _) q10)
    replace rq := rq.below (below_drewN (Below.refl _ _) q10)
    clear B9 ry
    generalize World.drewN _ q10 = w10 at *
    simp only [G2.out, gi, U1.out]
    go_wp2_with (refine wpList_slice_h rfl 23 _ _ rfl sl_u8 1 sz_u8 _ (putL u).length _ rfl _ _ rfl ((putL u).length - 1) (by omega) rp.cap (by omega) ?_)
    intro a5 c5 r5
    have r5' : Rd w10 1 (.slice a5 ((putL u).length - 1) c5) ((putL u).take ((putL u).length - 1)).length (bvs ((putL u).take ((putL u).length - 1))) := by
      have := r5 _ _ rp
      rw [List.length_take, Nat.min_eq_left (by omega)]
      rw [show ∀ z : List UInt8, ∀ k, bvs (z.take k) = (bvs z).take k from fun z k => by simp [bvs, List.map_take]]
      exact this
    clear r5
    go_wp2_with fail
    refine (get_calls S A h0 h2 _ _ _ (hS.below B10) r5').mono ?_
    rintro e w11 ⟨rfl, q11, rfl⟩
    have B11 := nxt B10 (below_drewN (Below.refl _ _) q11)
    replace rp := rp.below (below_drewN (Below.refl _ _) q11)
    replace rq := rq.below (below_drewN (Below.refl _ _) q11)
    clear B10 r5'
    generalize World.drewN _ q11 = w11 at *
    simp only [G3.out, gr]
    go_wp2_with (refine wpList_slice_h rfl 23 _ _ rfl sl_u8 1 sz_u8 _ (putL (fold n)).length _ rfl _ _ rfl ((putL (fold n)).length - 1) (by omega) rq.cap (by omega) ?_)
    intro a6 c6 r6
    have r6' : Rd w11 1 (.slice a6 ((putL (fold n)).length - 1) c6) ((putL (fold n)).take ((putL (fold n)).length - 1)).length (bvs ((putL (fold n)).take ((putL (fold n)).length - 1))) := by
      have := r6 _ _ rq
      rw [List.length_take, Nat.min_eq_left (by omega)]
      rw [show ∀ z : List UInt8, ∀ k, bvs (z.take k) = (bvs z).take k from fun z k => by simp [bvs, List.map_take]]
      exact this
    clear r6
    go_wp2_with fail
    refine (getInt_calls S A h0 h2 _ _ _ (hS.below B11) r6').mono ?_
    rintro e w12 ⟨rfl, q12, rfl⟩
    have B12 := nxt B11 (below_drewN (Below.refl _ _) q12)
    clear B11 r6' rp rq
    generalize World.drewN _ q12 = w12 at *
    simp only [G4.out, gi]
    go_wp2_with fail
    refine (is_calls (hS.below B12) hall _ (.bare 0) ⟨by omega, rfl⟩ _).mono ?_
    rintro e w18 ⟨rfl, b18⟩
    have B18 := nxt B12 b18
    clear B12 b18
    go_wp2_with fail
    refine (is_calls (hS.below B18) hall _ (.bare 0) ⟨by omega, rfl⟩ _).mono ?_
    rintro e w19 ⟨rfl, b19⟩
    have B19 := nxt B18 b19
    clear B18 b19
    go_wp2_with fail
    refine (size_calls u _ hu).mono ?_
    rintro e w20 ⟨rfl, b20⟩
    have B20 := nxt B19 b20
    clear B19 b20
    go_wp2_with fail
    go_ret
    exact ⟨rfl, B20⟩
end Go.Proofs.YtlgbdibfpboleaaDoor
