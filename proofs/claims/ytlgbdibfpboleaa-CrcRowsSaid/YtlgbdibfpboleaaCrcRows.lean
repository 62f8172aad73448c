/- Gone on with byte by byte, and joined part by part, it is one sum: CrcRows returns true at every input. -/
import Derived.Test.YtlgbdibfpboleaaCrcFirst
import Derived.Test.YtlgbdibfpboleaaCrcJoin
import Derived.Test.YtlgbdibfpboleaaVintInt
namespace Go.Proofs.Ytlgbdibfpboleaa
open Go Go.RowKit Crc Vint

theorem more_append' (a b : List UInt8) : sum (a ++ b) = more (sum a) b := by
  unfold sum; rw [more_append]

theorem join_parts (l : List UInt8) (k : Nat) (N : Int) (w : World) (hk : k ≤ l.length) (hl : l.length ≤ 200) (hN : N = (l.length : Int) - k) :
    Calls Try.prog 15 #[.int .u32 ((sum (l.take k)).toNat : Int), .int .u32 ((sum (l.drop k)).toNat : Int), .int .i64 N] w (fun e w' => e = .returned (.int .u32 ((sum l).toNat : Int)) ∧ Below w.heap.size w w') := by
  refine (join_int _ _ N w (by omega) (by omega)).mono ?_
  rintro e w1 ⟨rfl, b1⟩
  refine ⟨?_, b1⟩
  have e : N.toNat = (l.drop k).length := by rw [List.length_drop]; omega
  rw [e]
  unfold joinS
  rw [← more_join, ← more_append', List.take_append_drop]

set_option maxRecDepth 100000 in
set_option maxHeartbeats 2000000 in
theorem crcRows_walk (va : Value) (l : List UInt8) (cut : Int) (w : World) (ha : Rd w 1 va l.length (bvs l)) :
    Calls Try.prog 5 #[va, .int .i64 cut] w (fun e w' => e = .returned (.bool true) ∧ Below w.heap.size w w') := by
  obtain ⟨a1, c1, rfl⟩ := ha.slice
  have m1 := ha.len_le
  by_cases t1 : 200 < l.length
  · go_enter Try.func5, Try.ntmps5
    go_wp2_with fail
    refine (crcFirst_calls _).mono ?_
    rintro e w1 ⟨rfl, b1⟩
    go_wp2_with fail
    go_ret
    exact ⟨rfl, b1⟩
  · go_enter Try.func5, Try.ntmps5
    go_wp2_with fail
    refine (crcFirst_calls _).mono ?_
    rintro e w1 ⟨rfl, b1⟩
    go_wp2_with fail
    refine (of_nil _).mono ?_
    rintro e w2 ⟨rfl, b2⟩
    have b12 := nxt b1 b2
    clear b1 b2
    go_wp2_with fail
    go_loopw [6, 7] (fun xv iv wr => ∃ k : Nat, k ≤ l.length ∧ iv = .int .i64 k ∧ xv = .int .u32 ((sum (l.take k)).toNat : Int) ∧ Below w.heap.size w wr) (fun _ iv _ => l.length - (intOf iv).toNat)
    case atStart => exact ⟨0, Nat.zero_le _, rfl, congrArg (Value.int .u32) (by simp [sum, more_nil]), b12⟩
    case round =>
      obtain ⟨k, hk, rfl, rfl, hb⟩ := hrel
      by_cases hlt : k < l.length
      · have hnext : sum (l.take (k + 1)) = more (sum (l.take k)) [l[k]] := by
          rw [List.take_succ_eq_append_getElem hlt]; unfold sum; rw [more_append]
        have HN := Lib.hid hnext
        have hpart : (bvs l |>.drop k).take 1 = bvs [l[k]] := by
          rw [← bvs_part, List.drop_eq_getElem_cons hlt]; rfl
        have HP := Lib.hid hpart
        clear hnext hpart
        go_wp2_with (refine wpList_slice_lh rfl 24 _ _ _ rfl sl_u8 1 sz_u8 _ l.length _ rfl _ _ _ _ rfl rfl k (k + 1) rfl (by omega) ha.cap (by omega) (by omega) ?_)
        intro a5 c5 r5
        have r5' := r5 _ _ (ha.below hb)
        rw [HP.out] at r5'
        clear r5
        generalize sum (l.take k) = x at *
        go_wp2_with fail
        refine (more_calls x _ [l[k]] _ r5').mono ?_
        rintro e w3 ⟨rfl, b3⟩
        go_wp2_with fail
        exact ⟨⟨k + 1, by omega, by go_num, congrArg (Value.int .u32) (by rw [HN.out]), nxt hb b3⟩, by simp [intOf]; omega⟩
      · have hkl : k = l.length := by omega
        subst hkl
        rw [List.take_of_length_le (Nat.le_refl _)]
        clear hk hlt
        go_wp2_with fail
        refine (number_calls cut ((l.length : Int) + 1) _ (by omega) (by omega)).mono ?_
        rintro e w3 ⟨rfl, rfl⟩
        have e1 := Int.emod_nonneg cut (show ((l.length : Int) + 1) ≠ 0 by omega)
        have e2 := Int.emod_lt_of_pos cut (show (0 : Int) < (l.length : Int) + 1 by omega)
        obtain ⟨k, hq⟩ : ∃ k : Nat, cut % ((l.length : Int) + 1) = (k : Int) := ⟨(cut % ((l.length : Int) + 1)).toNat, by omega⟩
        rw [hq] at e1 e2 ⊢
        clear hq
        have hk : k ≤ l.length := by omega
        obtain ⟨a5, c5, s5, r5⟩ := part_all a1 l.length c1 1 0 k (by omega) hk
        obtain ⟨a6, c6, s6, r6⟩ := part_all a1 l.length c1 1 k l.length hk (Nat.le_refl _)
        have r5' := r5 _ _ ha
        have r6' := r6 _ _ ha
        rw [Nat.sub_zero, Nat.zero_mul, Nat.mul_one, List.drop_zero, ← bvs_take] at r5'
        rw [Nat.mul_one, Nat.mul_one, List.take_of_length_le (by simp), ← bvs_drop] at r6'
        rw [Nat.sub_zero] at s5
        have u5 : ∀ W, (Instr.sliceAt 24 (.slice a1 l.length c1) none (some (.int .i64 (k : Int))) none).run Try.prog W = .ok (.slice a5 k c5) W := fun W => by
          rw [run_cut_h 24 sl_u8 1 sz_u8 a1 l.length c1 k .i64 (by have := ha.cap; omega) W, s5]
        have u6 : ∀ W, (Instr.sliceAt 24 (.slice a1 l.length c1) (some (.int .i64 (k : Int))) none none).run Try.prog W = .ok (.slice a6 (l.length - k) c6) W := fun W => by
          rw [run_cut_l 24 sl_u8 1 sz_u8 a1 l.length c1 k .i64 hk W, s6]
        have hw : IntKind.i64.wrap ((l.length : Int) - (k : Int)) = (l.length : Int) - (k : Int) := IntWalk.i64_in _ (by omega)
        clear s5 s6 r5 r6
        have m2 : l.length ≤ 200 := by omega
        go_wp2_with fail
        go_region_with (first
          | (go_at_call 13; refine (of_at w _ ?_ _ _ ?_ _ _ r5').mono ?_; (repeat (first | exact Below.refl _ _ | assumption | refine bAlloc ?_ _ | refine Below.drew ?_ | refine nxt ?_ (by assumption))); (first | exact heap_alloc_new _ _ | exact heap_alloc2_old _ _ _ | exact heap_alloc2_new _ _ _ | (refine heap_below (by assumption) ?_; first | exact heap_alloc2_old _ _ _ | exact heap_alloc2_new _ _ _)); rintro e w7 ⟨rfl, b7⟩)
          | (go_at_call 13; (refine (of_at w _ ?_ _ _ ?_ _ _ r6').mono ?_; (repeat (first | exact Below.refl _ _ | assumption | refine bAlloc ?_ _ | refine Below.drew ?_ | refine nxt ?_ (by assumption))); (first | exact heap_alloc_new _ _ | exact heap_alloc2_old _ _ _ | exact heap_alloc2_new _ _ _ | (refine heap_below (by assumption) ?_; first | exact heap_alloc2_old _ _ _ | exact heap_alloc2_new _ _ _)); rintro e w8 ⟨rfl, b8⟩))
          | (go_at_call 15; refine (join_parts l k _ _ hk m2 (by first | omega | (rw [hw]; done))).mono ?_; rintro e w9 ⟨rfl, b9⟩))
        all_goals (
          have hB : Below w.heap.size w w9 := by
            refine nxt (nxt (nxt hb (?_ : Below wr.heap.size wr w7)) (?_ : Below w7.heap.size w7 w8)) b9
            · refine nxt ?_ b7
              refine Below.drew ?_
              (repeat (first | exact Below.refl _ _ | refine bAlloc ?_ _))
            · (first | exact b8 | exact nxt (below_alloc w7 _) b8))
        all_goals clear b7 b8 b9 r5' r6' u5 u6 hw
        all_goals (
          clear hb
          go_wp2_with fail
          refine (of_one _ _ _ _ (ha.below hB)).mono ?_
          rintro e wa ⟨rfl, ba⟩
          have bA := nxt hB ba
          clear ba
          go_wp2_with fail
          refine (more_calls _ _ [] _ (Rd.nil _ _)).mono ?_
          rintro e wb ⟨rfl, bb⟩
          rw [more_nil]
          have bB := nxt bA bb
          clear bb
          go_wp2_with fail
          refine (seal_calls _ l _ (ha.below bB) (by omega)).mono ?_
          rintro e wc ⟨v1, rfl, ow1, bc⟩
          have q1 := Rd.of_owns ow1
          obtain ⟨ad1, cd1, rfl⟩ := q1.slice
          have bC := nxt bB bc
          clear bc ow1
          go_wp2_with fail
          refine (of_one _ _ _ _ q1).mono ?_
          rintro e wd ⟨rfl, bd⟩
          rw [sum_sealed]
          have bD := nxt bC bd
          clear bd q1
          go_wp2_with fail
          refine (seal_calls _ [] _ (Rd.nil _ _) (by simp)).mono ?_
          rintro e we ⟨v2, rfl, ow2, be⟩
          have q2 := Rd.of_owns ow2
          obtain ⟨ad2, cd2, rfl⟩ := q2.slice
          have bE := nxt bD be
          clear be ow2
          go_wp2_with fail
          refine (of_one _ _ _ _ q2).mono ?_
          rintro e wf ⟨rfl, bf⟩
          rw [sum_sealed]
          have bF := nxt bE bf
          clear bf q2
          go_wp2_with fail
          refine (of_nil _).mono ?_
          rintro e wg ⟨rfl, bg⟩
          have bG := nxt bF bg
          clear bg
          go_wp2_with fail
          go_ret
          exact ⟨rfl, bG⟩)
end Go.Proofs.Ytlgbdibfpboleaa
