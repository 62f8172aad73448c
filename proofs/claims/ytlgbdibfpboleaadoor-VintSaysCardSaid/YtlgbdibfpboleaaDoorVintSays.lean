/- VintSays returns true at every input. -/
import Derived.Test.YtlgbdibfpboleaaDoorSee
import Derived.Test.YtlgbdibfpboleaaDoorVintGetW
import Derived.Test.YtlgbdibfpboleaaDoorRefPut
import Derived.Test.YtlgbdibfpboleaaDoorRefBytes
import Derived.Test.YtlgbdibfpboleaaDoorAppend
import Derived.Test.YtlgbdibfpboleaaDoorVintFirst
namespace Go.Proofs.YtlgbdibfpboleaaDoor
open Go Go.RowKit Vint

/-- What a reading's error is. -/
def gerr : GR → Er
  | .ok _ _ => .fine
  | .fin => .bare 0
  | .shape => .bare 2
def gcode : GR → Int
  | .ok _ _ => 0
  | .fin => 101
  | .shape => 103

set_option maxRecDepth 100000 in
set_option maxHeartbeats 2000000 in
theorem vintSays_walk (S : List Nat) (A : Nat → Addr) (u : Nat) (n : Int) (vb : Value) (l : List UInt8) (w : World) (hS : Sents S w A) (hall : All S) (ha : Rd w 1 vb l.length (bvs l)) (hu : U64 u) (hn : I64 n) :
    Calls Tryd.prog 3 #[.int .u64 (u : Int), .int .i64 n, vb] w (fun e w' => e = .returned (.bool true) ∧ Below w.heap.size w w') := by
  obtain ⟨i0, hi, hz0, hz1, hz2⟩ := info_parts info_u8
  obtain ⟨a1, c1, rfl⟩ := ha.slice
  have m1 := ha.len_le
  have lu := putL_len10 u hu
  have lf := putL_len10 (fold n) (fold_lt n hn.out.1 hn.out.2)
  by_cases t1 : 40 < l.length
  · go_enter Tryd.func3, Tryd.ntmps3
    go_wp2_with fail
    refine (vintFirst_calls _).mono ?_
    rintro e w1 ⟨rfl, b1⟩
    go_wp2_with fail
    go_ret
    exact ⟨rfl, b1⟩
  · go_enter Tryd.func3, Tryd.ntmps3
    go_wp2_with fail
    refine (vintFirst_calls _).mono ?_
    rintro e w1 ⟨rfl, b1⟩
    go_wp2_with fail
    refine (put_calls _ _ l u _ (ha.below b1) (by omega) hu).mono ?_
    rintro e w2 ⟨vp, rfl, op, b2⟩
    have rp : Rd w2 1 vp (l ++ putL u).length (bvs (l ++ putL u)) := by rw [List.length_append]; exact Rd.of_owns op
    have B2 := nxt b1 b2
    clear b1 b2 op
    go_wp2_with fail
    refine (putInt_calls _ _ l n _ (ha.below B2) (by omega) hn).mono ?_
    rintro e w3 ⟨vq, rfl, oq, b3⟩
    have rq : Rd w3 1 vq (l ++ putL (fold n)).length (bvs (l ++ putL (fold n))) := by rw [List.length_append]; exact Rd.of_owns oq
    replace rp := rp.below b3
    have B3 := nxt B2 b3
    clear B2 b3 oq
    go_wp2_with fail
    refine (refBytes_calls _ l _ (ha.below B3) (by omega)).mono ?_
    rintro e w4 ⟨v4, rfl, o4, b4⟩
    go_wp2_with fail
    refine (refPut_calls u _ hu).mono ?_
    rintro e w5 ⟨v5, rfl, o5, b5⟩
    have r5 := Rd.of_owns o5
    go_wp2_with (at_builtin; refine wpList_append_rd rfl _ _ 23 rfl w3.heap.size 5 i0 (.int .u8 0) 1 1 Tryd.underlying23 hi hz0 hz1 hz2 rfl (by decide) _ l.length (bvs l) rfl (owns_below o4 b5) _ _ (bvs (putL u)) rfl r5 (bvs_one _) ?c3 ?c4 ?c5 ?_)
    case c3 => unfold maxLen; omega
    case c4 => omega
    case c5 => have := (nxt b4 b5).size; omega
    intro vx w6 hx6 Tr
    have B36 : Below w3.heap.size w3 w6 := Tr w3 (nxt b4 b5) (Nat.le_refl _)
    replace rp := rp.below B36
    replace rq := rq.below B36
    have B6 := nxt B3 B36
    have rx : Rd w6 1 vx (l ++ putL u).length (bvs (l ++ putL u)) := by rw [List.length_append, bvs_append]; exact Rd.of_owns hx6
    clear B3 B36 hx6 Tr o4 b4 o5 b5 r5
    go_wp2_with fail
    refine (refBytes_calls _ l _ (ha.below B6) (by omega)).mono ?_
    rintro e w7 ⟨v7, rfl, o7, b7⟩
    go_wp2_with fail
    refine (refPutInt_calls n _ hn).mono ?_
    rintro e w8 ⟨v8, rfl, o8, b8⟩
    have r8 := Rd.of_owns o8
    go_wp2_with (at_builtin; refine wpList_append_rd rfl _ _ 23 rfl w6.heap.size 5 i0 (.int .u8 0) 1 1 Tryd.underlying23 hi hz0 hz1 hz2 rfl (by decide) _ l.length (bvs l) rfl (owns_below o7 b8) _ _ (bvs (putL (fold n))) rfl r8 (bvs_one _) ?c3 ?c4 ?c5 ?_)
    case c3 => unfold maxLen; omega
    case c4 => omega
    case c5 => have := (nxt b7 b8).size; omega
    intro vy w9 hy9 Tr
    have B69 : Below w6.heap.size w6 w9 := Tr w6 (nxt b7 b8) (Nat.le_refl _)
    replace rp := rp.below B69
    replace rq := rq.below B69
    replace rx := rx.below B69
    have B9 := nxt B6 B69
    have ry : Rd w9 1 vy (l ++ putL (fold n)).length (bvs (l ++ putL (fold n))) := by rw [List.length_append, bvs_append]; exact Rd.of_owns hy9
    clear B6 B69 hy9 Tr o7 b7 o8 b8 r8
    have h0 := hall 0 (by omega)
    have h2 := hall 2 (by omega)
    go_wp2_with fail
    refine (get_calls S A h0 h2 _ l _ (hS.below B9) (ha.below B9)).mono ?_
    rintro e w10 ⟨rfl, q10, rfl⟩
    have B10 := nxt B9 (below_drewN (Below.refl _ _) q10)
    replace rp := rp.below (below_drewN (Below.refl _ _) q10)
    replace rq := rq.below (below_drewN (Below.refl _ _) q10)
    replace rx := rx.below (below_drewN (Below.refl _ _) q10)
    replace ry := ry.below (below_drewN (Below.refl _ _) q10)
    clear B9
    generalize w9.drewN q10 = w10 at *
    cases hg : getL 0 0 l with
    | ok m k =>
      have HG := Lib.hid hg
      clear hg
      simp only [gr]
      go_wp2_with fail
      refine (refGet_calls _ l _ (ha.below B10)).mono ?_
      rintro e w11 ⟨rfl, rfl⟩
      simp only [HG.out, rr]
      go_wp2_with fail
      refine (getInt_calls S A h0 h2 _ l _ (hS.below B10) (ha.below B10)).mono ?_
      rintro e w12 ⟨rfl, q12, rfl⟩
      have B12 := nxt B10 (below_drewN (Below.refl _ _) q12)
      replace rp := rp.below (below_drewN (Below.refl _ _) q12)
      replace rq := rq.below (below_drewN (Below.refl _ _) q12)
      replace rx := rx.below (below_drewN (Below.refl _ _) q12)
      replace ry := ry.below (below_drewN (Below.refl _ _) q12)
      clear B10
      generalize World.drewN _ q12 = w12 at *
      simp only [HG.out, gi]
      go_wp2_with fail
      refine (refGetInt_calls _ l _ (ha.below B12)).mono ?_
      rintro e w13 ⟨rfl, rfl⟩
      simp only [HG.out, ri]
      go_wp2_with fail
      refine (sameBytes_calls _ _ _ _ _ rp rx).mono ?_
      rintro e w14 ⟨rfl, q14, rfl⟩
      replace rq := rq.below (below_drewN (Below.refl _ _) q14)
      replace ry := ry.below (below_drewN (Below.refl _ _) q14)
      have B14 := nxt B12 (below_drewN (Below.refl _ _) q14)
      clear B12 rp rx
      generalize World.drewN _ q14 = w14 at *
      rw [show ((l ++ putL u) == (l ++ putL u)) = true by simp]
      go_wp2_with fail
      refine (sameBytes_calls _ _ _ _ _ rq ry).mono ?_
      rintro e w15 ⟨rfl, q15, rfl⟩
      have B15 := nxt B14 (below_drewN (Below.refl _ _) q15)
      clear B14 rq ry
      generalize World.drewN _ q15 = w15 at *
      rw [show ((l ++ putL (fold n)) == (l ++ putL (fold n))) = true by simp]
      go_wp2_with fail
      refine (size_calls u _ hu).mono ?_
      rintro e w16 ⟨rfl, b16⟩
      have B16 := nxt B15 b16
      clear B15 b16
      go_wp2_with fail
      refine (refPut_calls u _ hu).mono ?_
      rintro e w17 ⟨v17, rfl, o17, b17⟩
      obtain ⟨a17, c17, rfl⟩ := owns_slice o17
      have B17 := nxt B16 b17
      clear B16 b17 o17
      go_wp2_with fail
      refine (is_calls (hS.below B17) hall _ .fine ?_ _).mono ?_
      · first | exact rfl | exact ⟨by omega, rfl⟩
      rintro e w18 ⟨rfl, b18⟩
      have B18 := nxt B17 b18
      clear B17 b18
      go_wp2_with fail
      refine (is_calls (hS.below B18) hall _ .fine ?_ _).mono ?_
      · first | exact rfl | exact ⟨by omega, rfl⟩
      rintro e w19 ⟨rfl, b19⟩
      have B19 := nxt B18 b19
      clear B18 b19
      go_wp2_with fail
      go_ret
      exact ⟨rfl, B19⟩
    | fin =>
      have HG := Lib.hid hg
      clear hg
      simp only [gr]
      go_wp2_with fail
      refine (refGet_calls _ l _ (ha.below B10)).mono ?_
      rintro e w11 ⟨rfl, rfl⟩
      simp only [HG.out, rr]
      go_wp2_with fail
      refine (getInt_calls S A h0 h2 _ l _ (hS.below B10) (ha.below B10)).mono ?_
      rintro e w12 ⟨rfl, q12, rfl⟩
      have B12 := nxt B10 (below_drewN (Below.refl _ _) q12)
      replace rp := rp.below (below_drewN (Below.refl _ _) q12)
      replace rq := rq.below (below_drewN (Below.refl _ _) q12)
      replace rx := rx.below (below_drewN (Below.refl _ _) q12)
      replace ry := ry.below (below_drewN (Below.refl _ _) q12)
      clear B10
      generalize World.drewN _ q12 = w12 at *
      simp only [HG.out, gi]
      go_wp2_with fail
      refine (refGetInt_calls _ l _ (ha.below B12)).mono ?_
      rintro e w13 ⟨rfl, rfl⟩
      simp only [HG.out, ri]
      go_wp2_with fail
      refine (sameBytes_calls _ _ _ _ _ rp rx).mono ?_
      rintro e w14 ⟨rfl, q14, rfl⟩
      replace rq := rq.below (below_drewN (Below.refl _ _) q14)
      replace ry := ry.below (below_drewN (Below.refl _ _) q14)
      have B14 := nxt B12 (below_drewN (Below.refl _ _) q14)
      clear B12 rp rx
      generalize World.drewN _ q14 = w14 at *
      rw [show ((l ++ putL u) == (l ++ putL u)) = true by simp]
      go_wp2_with fail
      refine (sameBytes_calls _ _ _ _ _ rq ry).mono ?_
      rintro e w15 ⟨rfl, q15, rfl⟩
      have B15 := nxt B14 (below_drewN (Below.refl _ _) q15)
      clear B14 rq ry
      generalize World.drewN _ q15 = w15 at *
      rw [show ((l ++ putL (fold n)) == (l ++ putL (fold n))) = true by simp]
      go_wp2_with fail
      refine (size_calls u _ hu).mono ?_
      rintro e w16 ⟨rfl, b16⟩
      have B16 := nxt B15 b16
      clear B15 b16
      go_wp2_with fail
      refine (refPut_calls u _ hu).mono ?_
      rintro e w17 ⟨v17, rfl, o17, b17⟩
      obtain ⟨a17, c17, rfl⟩ := owns_slice o17
      have B17 := nxt B16 b17
      clear B16 b17 o17
      go_wp2_with fail
      refine (is_calls (hS.below B17) hall _ (.bare 0) ?_ _).mono ?_
      · first | exact rfl | exact ⟨by omega, rfl⟩
      rintro e w18 ⟨rfl, b18⟩
      have B18 := nxt B17 b18
      clear B17 b18
      go_wp2_with fail
      refine (is_calls (hS.below B18) hall _ (.bare 0) ?_ _).mono ?_
      · first | exact rfl | exact ⟨by omega, rfl⟩
      rintro e w19 ⟨rfl, b19⟩
      have B19 := nxt B18 b19
      clear B18 b19
      go_wp2_with fail
      go_ret
      exact ⟨rfl, B19⟩
    | shape =>
      have HG := Lib.hid hg
      clear hg
      simp only [gr]
      go_wp2_with fail
      refine (refGet_calls _ l _ (ha.below B10)).mono ?_
      rintro e w11 ⟨rfl, rfl⟩
      simp only [HG.out, rr]
      go_wp2_with fail
      refine (getInt_calls S A h0 h2 _ l _ (hS.below B10) (ha.below B10)).mono ?_
      rintro e w12 ⟨rfl, q12, rfl⟩
      have B12 := nxt B10 (below_drewN (Below.refl _ _) q12)
      replace rp := rp.below (below_drewN (Below.refl _ _) q12)
      replace rq := rq.below (below_drewN (Below.refl _ _) q12)
      replace rx := rx.below (below_drewN (Below.refl _ _) q12)
      replace ry := ry.below (below_drewN (Below.refl _ _) q12)
      clear B10
      generalize World.drewN _ q12 = w12 at *
      simp only [HG.out, gi]
      go_wp2_with fail
      refine (refGetInt_calls _ l _ (ha.below B12)).mono ?_
      rintro e w13 ⟨rfl, rfl⟩
      simp only [HG.out, ri]
      go_wp2_with fail
      refine (sameBytes_calls _ _ _ _ _ rp rx).mono ?_
      rintro e w14 ⟨rfl, q14, rfl⟩
      replace rq := rq.below (below_drewN (Below.refl _ _) q14)
      replace ry := ry.below (below_drewN (Below.refl _ _) q14)
      have B14 := nxt B12 (below_drewN (Below.refl _ _) q14)
      clear B12 rp rx
      generalize World.drewN _ q14 = w14 at *
      rw [show ((l ++ putL u) == (l ++ putL u)) = true by simp]
      go_wp2_with fail
      refine (sameBytes_calls _ _ _ _ _ rq ry).mono ?_
      rintro e w15 ⟨rfl, q15, rfl⟩
      have B15 := nxt B14 (below_drewN (Below.refl _ _) q15)
      clear B14 rq ry
      generalize World.drewN _ q15 = w15 at *
      rw [show ((l ++ putL (fold n)) == (l ++ putL (fold n))) = true by simp]
      go_wp2_with fail
      refine (size_calls u _ hu).mono ?_
      rintro e w16 ⟨rfl, b16⟩
      have B16 := nxt B15 b16
      clear B15 b16
      go_wp2_with fail
      refine (refPut_calls u _ hu).mono ?_
      rintro e w17 ⟨v17, rfl, o17, b17⟩
      obtain ⟨a17, c17, rfl⟩ := owns_slice o17
      have B17 := nxt B16 b17
      clear B16 b17 o17
      go_wp2_with fail
      refine (is_calls (hS.below B17) hall _ (.bare 2) ?_ _).mono ?_
      · first | exact rfl | exact ⟨by omega, rfl⟩
      rintro e w18 ⟨rfl, b18⟩
      have B18 := nxt B17 b18
      clear B17 b18
      go_wp2_with fail
      refine (is_calls (hS.below B18) hall _ (.bare 2) ?_ _).mono ?_
      · first | exact rfl | exact ⟨by omega, rfl⟩
      rintro e w19 ⟨rfl, b19⟩
      have B19 := nxt B18 b19
      clear B18 b19
      go_wp2_with fail
      go_ret
      exact ⟨rfl, B19⟩
end Go.Proofs.YtlgbdibfpboleaaDoor
