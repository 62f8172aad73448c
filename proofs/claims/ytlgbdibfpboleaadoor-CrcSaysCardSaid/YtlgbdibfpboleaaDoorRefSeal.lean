/- The document's Seal and Open. -/
import Derived.Test.YtlgbdibfpboleaaDoorRefLittle
import Derived.Test.YtlgbdibfpboleaaDoorRefMore
import Derived.Test.YtlgbdibfpboleaaDoorRefBytes
import Derived.Test.YtlgbdibfpboleaaDoorCrcOpen
namespace Go.Proofs.YtlgbdibfpboleaaDoor
open Go Go.RowKit Vint Crc

theorem lit_le4 (x : BitVec 32) : lit x.toNat 4 = le4 x := by
  simp only [lit, le4, List.cons.injEq, and_true]
  refine ⟨?_, ?_, ?_, ?_⟩ <;> (apply UInt8.toNat_inj.1; rw [UInt8.toNat_ofNat']; show _ = BitVec.toNat _; rw [BitVec.toNat_setWidth])
  · rw [BitVec.toNat_ushiftRight, Nat.shiftRight_eq_div_pow]
  · rw [BitVec.toNat_ushiftRight, Nat.shiftRight_eq_div_pow]; omega
  · rw [BitVec.toNat_ushiftRight, Nat.shiftRight_eq_div_pow]; omega

theorem seal_little (p q : List UInt8) (h : q.length = 4) : sealed p = p ++ q ↔ little q = (sum p).toNat := by
  unfold sealed
  rw [List.append_cancel_left_eq, ← lit_le4]
  constructor
  · rintro rfl
    exact little_lit 4 _ (by have := (sum p).isLt; omega)
  · intro e
    rw [← e, ← h, lit_little]

set_option maxRecDepth 100000 in
set_option maxHeartbeats 1000000 in
theorem refSeal_calls (v : Value) (l : List UInt8) (w : World) (hR : Rd w 1 v l.length (bvs l)) (hl : l.length ≤ 1099511627776) :
    Calls Tryd.prog 32 #[v] w (NewRow 5 1 (sealed l).length (bvs (sealed l)) w) := by
  obtain ⟨i0, hi, hz0, hz1, hz2⟩ := info_parts info_u8
  go_enter Tryd.func32, Tryd.ntmps32
  go_wp2_with fail
  refine (refBytes_calls _ l _ hR (by omega)).mono ?_
  rintro e w1 ⟨v1, rfl, o1, b1⟩
  go_wp2_with fail
  refine (refSum_calls _ l _ (hR.below b1)).mono ?_
  rintro e w2 ⟨rfl, rfl⟩
  have hx := lit_le4 (sum l)
  have hs : sealed l = l ++ le4 (sum l) := rfl
  rw [← hx] at hs
  have HS := Lib.hid hs
  clear hs hx
  have hlt := (sum l).isLt
  generalize (sum l).toNat = x at *
  go_wp2_with fail
  refine (refLittle_calls x 4 _ (by omega)).mono ?_
  rintro e w3 ⟨v3, rfl, o3, b3⟩
  have r3 := Rd.of_owns o3
  go_wp2_with (at_builtin; refine wpList_append_rd rfl _ _ 23 rfl w.heap.size 5 i0 (.int .u8 0) 1 1 Tryd.underlying23 hi hz0 hz1 hz2 rfl (by decide) _ l.length (bvs l) rfl (owns_below o1 b3) _ _ (bvs (lit x 4)) rfl r3 (bvs_one _) ?c3 ?c4 ?c5 ?_)
  case c3 => unfold maxLen; omega
  case c4 => omega
  case c5 => have := (nxt b1 b3).size; omega
  intro v4 w4 o4 Tr
  have B4 : Below w.heap.size w w4 := Tr w (nxt b1 b3) (Nat.le_refl _)
  clear Tr
  go_wp2_with fail
  go_ret
  refine ⟨_, rfl, ?_, B4⟩
  rw [HS.out, List.length_append, lit_length, bvs_append]
  exact o4

/-- What the document's opening returns. -/
def ROpenPost (w : World) (r : OR) (e : Ending) (w' : World) : Prop :=
  (∃ m, w' = w.drewN m) ∧ match r with
  | .fin => e = .returned (.tuple #[.slice none 0 0, .int .i64 101])
  | .sum => e = .returned (.tuple #[.slice none 0 0, .int .i64 102])
  | .ok b => ∃ v, e = .returned (.tuple #[v, .int .i64 0]) ∧ Rd w' 1 v b.length (bvs b)

set_option maxRecDepth 100000 in
set_option maxHeartbeats 1000000 in
theorem refOpen_calls (v : Value) (l : List UInt8) (w : World) (ha : Rd w 1 v l.length (bvs l)) (hn : l.length ≤ 1099511627776) :
    Calls Tryd.prog 27 #[v] w (ROpenPost w (openL l)) := by
  obtain ⟨a1, c1, rfl⟩ := ha.slice
  have m1 := ha.len_le
  by_cases hl : l.length < 4
  · go_enter Tryd.func27, Tryd.ntmps27
    go_wp2_with fail
    go_ret2
    unfold openL
    rw [if_pos hl]
    exact ⟨⟨0, rfl⟩, rfl⟩
  · go_enter Tryd.func27, Tryd.ntmps27
    go_wp2_with fail
    obtain ⟨n, hn4⟩ : ∃ n, n = l.length - 4 := ⟨_, rfl⟩
    have en : (l.length : Int) - 4 = (n : Int) := by omega
    have hnl : n ≤ l.length := by omega
    rw [en]
    obtain ⟨a5, c5, s5, r5⟩ := part_all a1 l.length c1 1 0 n (by omega) hnl
    obtain ⟨a6, c6, s6, r6⟩ := part_all a1 l.length c1 1 n l.length hnl (Nat.le_refl _)
    rw [Nat.sub_zero] at s5
    have u5 : ∀ W, (Instr.sliceAt 23 (.slice a1 l.length c1) none (some (.int .i64 (n : Int))) none).run Tryd.prog W = .ok (.slice a5 n c5) W := fun W => by
      rw [run_cut_h 23 sl_u8 1 sz_u8 a1 l.length c1 n .i64 (by have := ha.cap; omega) W, s5]
    have u6 : ∀ W, (Instr.sliceAt 23 (.slice a1 l.length c1) (some (.int .i64 (n : Int))) none none).run Tryd.prog W = .ok (.slice a6 (l.length - n) c6) W := fun W => by
      rw [run_cut_l 23 sl_u8 1 sz_u8 a1 l.length c1 n .i64 hnl W, s6]
    have q5 : ∀ m, Rd (w.drewN m) 1 (.slice a5 n c5) (l.take n).length (bvs (l.take n)) := fun m => by
      have := r5 _ _ (ha.below (below_drewN (Below.refl _ _) m))
      rw [Nat.sub_zero, Nat.zero_mul, Nat.mul_one, List.drop_zero, ← bvs_take] at this
      rw [List.length_take, Nat.min_eq_left hnl]
      exact this
    have q6 : ∀ m, Rd (w.drewN m) 1 (.slice a6 (l.length - n) c6) (l.drop n).length (bvs (l.drop n)) := fun m => by
      have := r6 _ _ (ha.below (below_drewN (Below.refl _ _) m))
      rw [Nat.mul_one, Nat.mul_one, List.take_of_length_le (by simp), ← bvs_drop] at this
      rw [List.length_drop]
      exact this
    clear s5 s6 r5 r6
    have hd4 : (l.drop n).length = 4 := by rw [List.length_drop]; omega
    have hlit := little_lt (l.drop n)
    rw [hd4] at hlit
    have HN4 := Lib.hid hn4
    clear hn4 en
    go_quiet (first
      | (go_at_call 52; refine Calls.quiet_of_same (refFixed_calls _ (l.drop n) _ (q6 _) (by omega)))
      | (go_at_call 29; refine Calls.quiet_of_same (refSum_calls _ (l.take n) _ (q5 _))))
    clear u5 u6 q5 q6
    have hop : openL l = if sealed (l.take n) = l then .ok (l.take n) else .sum := by
      unfold openL; rw [if_neg hl, ← HN4.out]
    have HOP := Lib.hid hop
    have hiff := seal_little (l.take n) (l.drop n) hd4
    rw [List.take_append_drop] at hiff
    clear hop hlit
    by_cases he : sealed (l.take n) = l
    · have hb : (((little (l.drop n) : Nat) : Int) != (((sum (l.take n)).toNat : Nat) : Int)) = false := by rw [hiff.1 he]; simp
      have HE := Lib.hid he
      clear he hiff
      generalize little (l.drop n) = x at *
      generalize (sum (l.take n)).toNat = y at *
      go_wp2_with (refine wpList_slice_h rfl 23 _ _ rfl sl_u8 1 sz_u8 _ l.length _ rfl _ _ rfl n rfl ha.cap hnl ?_)
      intro a9 c9 r9
      have r9' : Rd (w.drewN nq) 1 (.slice a9 n c9) (l.take n).length (bvs (l.take n)) := by
        have := r9 _ _ (ha.below (below_drewN (Below.refl _ _) nq))
        rw [List.length_take, Nat.min_eq_left hnl, bvs_take]
        exact this
      clear r9
      go_wp2_with fail
      go_ret2
      rw [HOP.out, if_pos HE.out]
      exact ⟨⟨_, rfl⟩, _, rfl, r9'⟩
    · have hb : (((little (l.drop n) : Nat) : Int) != (((sum (l.take n)).toNat : Nat) : Int)) = true := by
        rw [bne_iff_ne]; intro e; exact he (hiff.2 (by omega))
      have HE := Lib.hid he
      clear he hiff
      generalize little (l.drop n) = x at *
      generalize (sum (l.take n)).toNat = y at *
      go_wp2_with fail
      go_ret2
      rw [HOP.out, if_neg HE.out]
      exact ⟨⟨_, rfl⟩, rfl⟩
end Go.Proofs.YtlgbdibfpboleaaDoor
