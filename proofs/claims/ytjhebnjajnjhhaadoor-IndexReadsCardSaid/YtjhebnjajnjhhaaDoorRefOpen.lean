/- The document's Open. -/
import Derived.Test.YtjhebnjajnjhhaaDoorRefFixed
import Derived.Test.YtjhebnjajnjhhaaDoorRefMore
import Derived.Test.YtjhebnjajnjhhaaDoorCrcOpen
namespace Go.Proofs.YtjhebnjajnjhhaaDoor
open Go Go.RowKit Vint Crc

theorem lit_le4 (x : BitVec 32) : lit x.toNat 4 = le4 x := by
  simp only [lit, le4, List.cons.injEq, and_true]
  refine ⟨?_, ?_, ?_, ?_⟩ <;> (apply UInt8.toNat_inj.1; rw [UInt8.toNat_ofNat']; show _ = BitVec.toNat _; rw [BitVec.toNat_setWidth])
  · rw [BitVec.toNat_ushiftRight, Nat.shiftRight_eq_div_pow]
  · rw [BitVec.toNat_ushiftRight, Nat.shiftRight_eq_div_pow]; omega
  · rw [BitVec.toNat_ushiftRight, Nat.shiftRight_eq_div_pow]; omega

theorem seal_little (p q : List UInt8) (h : q.length = 4) : sealed p = p ++ q ↔ little q = (sum p).toNat := by
  unfold sealed
  rw [List.append_cancel_left_eq, ← lit_le4]
  constructor
  · rintro rfl
    exact little_lit 4 _ (by have := (sum p).isLt; omega)
  · intro e
    rw [← e, ← h, lit_little]

/-- What the document's opening returns. -/
def ROpenPost (w : World) (r : OR) (e : Ending) (w' : World) : Prop :=
  (∃ m, w' = w.drewN m) ∧ match r with
  | .fin => e = .returned (.tuple #[.slice none 0 0, .int .i64 101])
  | .sum => e = .returned (.tuple #[.slice none 0 0, .int .i64 102])
  | .ok b => ∃ v, e = .returned (.tuple #[v, .int .i64 0]) ∧ Rd w' 1 v b.length (bvs b)

set_option maxRecDepth 100000 in
set_option maxHeartbeats 1000000 in
theorem refOpen_calls (v : Value) (l : List UInt8) (w : World) (ha : Rd w 1 v l.length (bvs l)) (hn : l.length ≤ 1099511627776) :
    Calls Tryd.prog 90 #[v] w (ROpenPost w (openL l)) := by
  obtain ⟨a1, c1, rfl⟩ := ha.slice
  have m1 := ha.len_le
  by_cases hl : l.length < 4
  · go_enter Tryd.func90, Tryd.ntmps90
    go_wp2_with fail
    go_ret2
    unfold openL
    rw [if_pos hl]
    exact ⟨⟨0, rfl⟩, rfl⟩
  · go_enter Tryd.func90, Tryd.ntmps90
    go_wp2_with fail
    obtain ⟨n, hn4⟩ : ∃ n, n = l.length - 4 := ⟨_, rfl⟩
    have en : (l.length : Int) - 4 = (n : Int) := by omega
    have hnl : n ≤ l.length := by omega
    rw [en]
    obtain ⟨a5, c5, s5, r5⟩ := part_all a1 l.length c1 1 0 n (by omega) hnl
    obtain ⟨a6, c6, s6, r6⟩ := part_all a1 l.length c1 1 n l.length hnl (Nat.le_refl _)
    rw [Nat.sub_zero] at s5
    have u5 : ∀ W, (Instr.sliceAt 64 (.slice a1 l.length c1) none (some (.int .i64 (n : Int))) none).run Tryd.prog W = .ok (.slice a5 n c5) W := fun W => by
      rw [run_cut_h 64 sl_u8 1 sz_u8 a1 l.length c1 n .i64 (by have := ha.cap; omega) W, s5]
    have u6 : ∀ W, (Instr.sliceAt 64 (.slice a1 l.length c1) (some (.int .i64 (n : Int))) none none).run Tryd.prog W = .ok (.slice a6 (l.length - n) c6) W := fun W => by
      rw [run_cut_l 64 sl_u8 1 sz_u8 a1 l.length c1 n .i64 hnl W, s6]
    have q5 : ∀ m, Rd (w.drewN m) 1 (.slice a5 n c5) (l.take n).length (bvs (l.take n)) := fun m => by
      have := r5 _ _ (ha.below (below_drewN (Below.refl _ _) m))
      rw [Nat.sub_zero, Nat.zero_mul, Nat.mul_one, List.drop_zero, ← bvs_take] at this
      rw [List.length_take, Nat.min_eq_left hnl]
      exact this
    have q6 : ∀ m, Rd (w.drewN m) 1 (.slice a6 (l.length - n) c6) (l.drop n).length (bvs (l.drop n)) := fun m => by
      have := r6 _ _ (ha.below (below_drewN (Below.refl _ _) m))
      rw [Nat.mul_one, Nat.mul_one, List.take_of_length_le (by simp), ← bvs_drop] at this
      rw [List.length_drop]
      exact this
    clear s5 s6 r5 r6
    have hd4 : (l.drop n).length = 4 := by rw [List.length_drop]; omega
    have hlit := little_lt (l.drop n)
    rw [hd4] at hlit
    have HN4 := Lib.hid hn4
    clear hn4 en
    go_quiet (first
      | (go_at_call 107; refine Calls.quiet_of_same (refFixed_calls _ (l.drop n) _ (q6 _) (by omega)))
      | (go_at_call 108; refine Calls.quiet_of_same (refSum_calls _ (l.take n) _ (q5 _))))
    clear u5 u6 q5 q6
    have hop : openL l = if sealed (l.take n) = l then .ok (l.take n) else .sum := by
      unfold openL; rw [if_neg hl, ← HN4.out]
    have HOP := Lib.hid hop
    have hiff := seal_little (l.take n) (l.drop n) hd4
    rw [List.take_append_drop] at hiff
    clear hop hlit
    by_cases he : sealed (l.take n) = l
    · have hb : (((little (l.drop n) : Nat) : Int) != (((sum (l.take n)).toNat : Nat) : Int)) = false := by rw [hiff.1 he]; simp
      have HE := Lib.hid he
      clear he hiff
      generalize little (l.drop n) = x at *
      generalize (sum (l.take n)).toNat = y at *
      go_wp2_with (refine wpList_slice_h rfl 64 _ _ rfl sl_u8 1 sz_u8 _ l.length _ rfl _ _ rfl n rfl ha.cap hnl ?_)
      intro a9 c9 r9
      have r9' : Rd (w.drewN nq) 1 (.slice a9 n c9) (l.take n).length (bvs (l.take n)) := by
        have := r9 _ _ (ha.below (below_drewN (Below.refl _ _) nq))
        rw [List.length_take, Nat.min_eq_left hnl, bvs_take]
        exact this
      clear r9
      go_wp2_with fail
      go_ret2
      rw [HOP.out, if_pos HE.out]
      exact ⟨⟨_, rfl⟩, _, rfl, r9'⟩
    · have hb : (((little (l.drop n) : Nat) : Int) != (((sum (l.take n)).toNat : Nat) : Int)) = true := by
        rw [bne_iff_ne]; intro e; exact he (hiff.2 (by omega))
      have HE := Lib.hid he
      clear he hiff
      generalize little (l.drop n) = x at *
      generalize (sum (l.take n)).toNat = y at *
      go_wp2_with fail
      go_ret2
      rw [HOP.out, if_neg HE.out]
      exact ⟨⟨_, rfl⟩, rfl⟩
end Go.Proofs.YtjhebnjajnjhhaaDoor
