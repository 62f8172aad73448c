/- The document's Segment and Base. -/
import Derived.Test.YtegiingcnhafbaaDoorNameLog
import Derived.Test.YtegiingcnhafbaaDoorRefNumber
import Derived.Test.YtegiingcnhafbaaDoorRefName
import Derived.Test.YtegiingcnhafbaaDoorNameVal
namespace Go.Proofs.YtegiingcnhafbaaDoor
open Go Go.RowKit

set_option maxRecDepth 100000 in
set_option maxHeartbeats 1000000 in
theorem refSegment_calls (base : Int) (w : World) :
    Calls Tryd.prog 15 #[.int .i64 base] w (fun e w' => e = .returned (.string (segO base)) ∧ Below w.heap.size w w') := by
  have hr := refRightN_calls base w
  obtain ⟨O, hO⟩ : ∃ O, O = offOk base := ⟨_, rfl⟩
  have HS : Hid (segO base = if O = true then ⟨(segL base.toNat).toArray⟩ else ⟨#[]⟩) := Lib.hid (by rw [hO]; rfl)
  have HO := Lib.hid hO
  rw [← hO] at hr
  clear hO
  generalize segO base = R at HS ⊢
  go_enter Tryd.func15, Tryd.ntmps15
  go_wp2_with fail
  with_reducible refine hr.mono ?_
  rintro e w2 ⟨rfl, hw2⟩
  subst hw2
  clear hr
  cases O
  · go_wp2_with fail
    go_ret
    exact ⟨by rw [HS.out]; rfl, Below.refl _ _⟩
  have ho := HO.out.symm
  unfold offOk at ho
  rw [decide_eq_true_eq] at ho
  obtain ⟨b, rfl⟩ : ∃ b : Nat, base = (b : Int) := ⟨base.toNat, by omega⟩
  have hw1 := digits_calls b 13 (by omega) (by omega) w2
  rw [← wide_dig 12 b (show b < 10 ^ (12 + 1) by omega)] at hw1
  have l2 := wideL_len b 12 (by omega)
  have HE : Hid (R = ⟨([108, 111, 103, 45] ++ wideL b 13).toArray⟩) := Lib.hid (by rw [HS.out, if_pos rfl]; rfl)
  generalize wideL b 13 = W1 at *
  clear ho
  go_wp2_with fail
  refine hw1.mono ?_
  rintro e w4 ⟨rfl, b4⟩
  clear hw1
  go_wp2_with fail
  go_ret
  refine ⟨?_, b4⟩
  rw [HE.out]
  refine congrArg (fun x => Ending.returned (.string x)) ?_
  apply ByteArray.ext
  simp [ByteArray.data_append]

theorem take_is (s : ByteArray) (c : List UInt8) (n : Nat) : ((s.extract 0 n).toList == c) = decide (s.data.toList.take n = c) := by
  rw [ByteArray.toList_eq]
  have e : (s.extract 0 n).data.toList = s.data.toList.take n := Lib.extract_from_zero s n
  rw [e]
  by_cases h : s.data.toList.take n = c
  · rw [decide_eq_true h, beq_iff_eq]; exact h
  · rw [decide_eq_false h, beq_eq_false_iff_ne]; exact h

set_option maxRecDepth 100000 in
set_option maxHeartbeats 1000000 in
theorem refBase_is (s : ByteArray) (w : World) (hm : s.size ≤ 1000000) : Calls Tryd.prog 9 #[.string s] w (fun e w' => ∃ v, e = .returned v ∧ BaseIs s.data.toList v ∧ w' = w) := by
  obtain ⟨L, hL⟩ : ∃ L, L = s.data.toList := ⟨_, rfl⟩
  have hLs : L.length = s.size := by rw [hL, kind_len]
  rw [← hL]
  by_cases t1 : s.size = 17
  · have t1' : ((s.size : Int) != 17) = false := by rw [bne_eq_false_iff_eq]; omega
    have h4 : 4 ≤ s.size := by omega
    have ht2 := take_is s [108, 111, 103, 45] 4
    rw [← hL] at ht2
    by_cases t2 : L.take 4 = kLog
    · have t2' : ((s.extract 0 4).toList == ([108, 111, 103, 45] : List UInt8)) = true := by rw [ht2]; exact decide_eq_true t2
      have t2n : (!((s.extract 0 4).toList == ([108, 111, 103, 45] : List UInt8))) = false := by rw [t2']; rfl
      have hRl : (s.extract 4 s.size).data.toList = L.drop 4 := by rw [Lib.extract_to_end, ← hL]
      have hR13 : (s.extract 4 s.size).size = 13 := by rw [ByteArray.size_extract]; omega
      have hnum := refNumber_is (s.extract 4 s.size) w (by omega)
      obtain ⟨N, hN⟩ : ∃ N, N = numL (s.extract 4 s.size).data.toList := ⟨_, rfl⟩
      rw [← hN] at hnum
      have hdr : L = kLog ++ L.drop 4 := by rw [← t2, List.take_append_drop]
      have HNO : Hid (N = none → BaseIs L (.tuple #[.int .i64 0, .bool false])) := Lib.hid (fun h => .inr ⟨fun n hn e => by
        have e2 : L.drop 4 = wideL n 13 := by rw [e]; rfl
        rw [hN, hRl, e2, numL_wide] at h
        exact absurd h (by simp), rfl⟩)
      have HYES : Hid (∀ n, N = some n → offOk (n : Int) = true → BaseIs L (.tuple #[.int .i64 (n : Int), .bool true])) := Lib.hid (fun n hn ho => by
        unfold offOk at ho
        rw [decide_eq_true_eq] at ho
        rw [hN] at hn
        have := (numL_iff 12 n _ (by rw [kind_len]; exact hR13)).1 hn
        refine .inl ⟨n, by omega, ?_, rfl⟩
        rw [hdr, ← hRl, this.2]; rfl)
      have HBIG : Hid (∀ n, N = some n → offOk (n : Int) = false → BaseIs L (.tuple #[.int .i64 0, .bool false])) := Lib.hid (fun n hn ho => .inr ⟨fun m hm e => by
        have e2 : L.drop 4 = wideL m 13 := by rw [e]; rfl
        rw [hN, hRl, e2, numL_wide] at hn
        simp only [Option.some.injEq] at hn
        subst hn
        unfold offOk at ho
        exact of_decide_eq_false ho (by omega), rfl⟩)
      clear hL hLs t1 ht2 t2 hRl hR13 hN hdr
      go_enter Tryd.func9, Tryd.ntmps9
      go_wp2_with fail
      with_reducible refine hnum.mono ?_
      rintro e w3 ⟨rfl, hw3⟩
      subst hw3
      clear hnum
      cases N with
      | none =>
        unfold numV
        go_wp2_with fail
        go_ret2
        exact ⟨_, rfl, HNO.out (by first | rfl | trivial), rfl⟩
      | some n =>
        unfold numV
        have hr := refRightN_calls (n : Int) w3
        obtain ⟨O, hO⟩ : ∃ O, O = offOk (n : Int) := ⟨_, rfl⟩
        rw [← hO] at hr
        have HO := Lib.hid hO
        clear hO
        go_wp2_with fail
        with_reducible refine hr.mono ?_
        rintro e w4 ⟨rfl, hw4⟩
        subst hw4
        clear hr
        cases O
        · go_wp2_with fail
          go_ret2
          exact ⟨_, rfl, HBIG.out n (by first | rfl | trivial) HO.out.symm, rfl⟩
        · go_wp2_with fail
          go_ret2
          exact ⟨_, rfl, HYES.out n (by first | rfl | trivial) HO.out.symm, rfl⟩
    · have t2' : ((s.extract 0 4).toList == ([108, 111, 103, 45] : List UInt8)) = false := by rw [ht2]; exact decide_eq_false t2
      have t2n : (!((s.extract 0 4).toList == ([108, 111, 103, 45] : List UInt8))) = true := by rw [t2']; rfl
      have HNO : Hid (BaseIs L (.tuple #[.int .i64 0, .bool false])) := Lib.hid (.inr ⟨fun n hn e => t2 (by rw [e]; rfl), rfl⟩)
      clear hL hLs t1 ht2 t2
      go_enter Tryd.func9, Tryd.ntmps9
      go_wp2_with fail
      go_ret2
      exact ⟨_, rfl, HNO.out, rfl⟩
  · have t1' : ((s.size : Int) != 17) = true := by rw [bne_iff_ne]; omega
    have HNO : Hid (BaseIs L (.tuple #[.int .i64 0, .bool false])) := Lib.hid (.inr ⟨fun n hn e => t1 (by rw [← hLs, e]; exact segL_len hn), rfl⟩)
    clear hL hLs t1
    go_enter Tryd.func9, Tryd.ntmps9
    go_wp2_with fail
    go_ret2
    exact ⟨_, rfl, HNO.out, rfl⟩
end Go.Proofs.YtegiingcnhafbaaDoor
