/- NameOrder: names stand in the order of what they name; numbers that may not be have none. -/
import Derived.Test.YtegiingcnhafbaaDoorUnder
import Derived.Test.YtegiingcnhafbaaDoorRising
import Derived.Test.YtegiingcnhafbaaDoorSameTexts
import Derived.Test.YtegiingcnhafbaaDoorNameFirst
import Derived.Test.YtegiingcnhafbaaDoorNumber
import Derived.Test.YtegiingcnhafbaaDoorLong
import Derived.Deep.CutBlock
import Derived.Deep.DeepCutAuto
namespace Go.Proofs.YtegiingcnhafbaaDoor
open Go Go.RowKit

def kD : ByteArray := ⟨#[100, 97, 116, 97]⟩
def kM : ByteArray := ⟨#[109, 97, 114, 107, 115]⟩
theorem kD_ok : kindOk kD = true := by decide +kernel
theorem kM_ok : kindOk kM = true := by decide +kernel
theorem obj_less {i j a b : Nat} (hi : i ≤ 2147483647) (hj : j ≤ 2147483647) (ha : a ≤ 1099511627776) (hb : b ≤ 1099511627776) (k : ByteArray) :
    Op.bytesLess (objectL i k a) (objectL j k b) = (decide (i < j) || (decide (i = j) && decide (a < b))) := by
  have e : ∀ i a, objectL i k a = [115, 101, 103, 45] ++ (wideL i 10 ++ (([45] ++ k.data.toList ++ [45]) ++ wideL a 13)) := fun i a => by unfold objectL; simp
  have hw : decide (wideL i 10 = wideL j 10) = decide (i = j) := by
    rw [decide_eq_decide]
    refine ⟨fun h => ?_, fun h => by rw [h]⟩
    have := congrArg valL h
    rwa [valL_wide, valL_wide] at this
  rw [e, e, less_pre, less_app _ _ _ _ (by rw [wideL_len i 9 (by omega), wideL_len j 9 (by omega)]), less_wide 9 i j (by omega) (by omega), less_pre, less_wide 12 a b (by omega) (by omega), hw]
theorem kind_less (i a : Nat) : Op.bytesLess (objectL i kD a) (objectL i kM a) = true := by
  have e1 : objectL i kD a = ([115, 101, 103, 45] ++ wideL i 10 ++ [45]) ++ (100 :: ([97, 116, 97, 45] ++ wideL a 13)) := by unfold objectL kD; simp
  have e2 : objectL i kM a = ([115, 101, 103, 45] ++ wideL i 10 ++ [45]) ++ (109 :: ([97, 114, 107, 115, 45] ++ wideL a 13)) := by unfold objectL kM; simp
  rw [e1, e2, less_pre]
  rfl
theorem segO_empty (a : Int) : ((segO a).toList == ([] : List UInt8)) = !offOk a := by
  rw [ByteArray.toList_eq]
  unfold segO
  by_cases h : offOk a = true
  · rw [if_pos h, h]
    rfl
  · rw [if_neg h, Bool.not_eq_true] at *
    rw [h]; rfl
theorem objO_empty (i : Int) : ((if objectOk i kD 5 = true then (⟨(objectL i.toNat kD (5 : Int).toNat).toArray⟩ : ByteArray) else ⟨#[]⟩).toList == ([] : List UInt8)) = !(decide (0 ≤ i ∧ i ≤ 2147483647)) := by
  rw [ByteArray.toList_eq]
  have ho : objectOk i kD 5 = decide (0 ≤ i ∧ i ≤ 2147483647) := by
    unfold objectOk
    rw [kD_ok, show offOk 5 = true from by decide, Bool.and_true, Bool.and_true]
  rw [ho]
  by_cases h : (0 ≤ i ∧ i ≤ 2147483647)
  · rw [decide_eq_true h]; rfl
  · rw [decide_eq_false h]; rfl
theorem objO_nat2 {i a : Nat} {k : ByteArray} (hi : i ≤ 2147483647) (hk : kindOk k = true) (ha : a ≤ 1099511627776) : (if objectOk (i : Int) k (a : Int) = true then (⟨(objectL (i : Int).toNat k (a : Int).toNat).toArray⟩ : ByteArray) else ⟨#[]⟩) = ⟨(objectL i k a).toArray⟩ := by
  rw [if_pos (by
    unfold objectOk offOk
    rw [hk, decide_eq_true (by omega), decide_eq_true (by omega)]
    rfl), Int.toNat_natCast, Int.toNat_natCast]
theorem seg_filter (i j a b : Nat) : [objectL i kD a, segL a, objectL j kD b].filter (fun t => Lib.hasPrefix t [115, 101, 103, 45]) = [objectL i kD a, objectL j kD b] := by
  have h1 : ∀ i a, Lib.hasPrefix (objectL i kD a) [115, 101, 103, 45] = true := fun i a => by unfold Lib.hasPrefix objectL; simp
  have h2 : Lib.hasPrefix (segL a) [115, 101, 103, 45] = false := by unfold Lib.hasPrefix segL; rfl
  rw [List.filter_cons, if_pos (h1 i a), List.filter_cons, if_neg (by rw [h2]; decide), List.filter_cons, if_pos (h1 j b), List.filter_nil]

theorem rd_new (w : World) (ts : List (List UInt8)) (hl : ts.length ≤ 1000) : Rd (w.alloc (.cells (ts.map encStr).toArray 9)) 1 (.slice (some ⟨w.heap.size, 0, none⟩) ts.length ts.length) ts.length (ts.map encStr) :=
  ⟨by simp, .inr ⟨⟨w.heap.size, 0, none⟩, ts.length, rfl, Nat.le_refl _, by unfold maxLen; omega, fun j u hu => by
    rw [add_none, cell_of_row _ w.heap.size _ _ _ _ (heap_alloc_new w _)]
    simpa using hu⟩⟩

set_option maxRecDepth 100000 in
set_option maxHeartbeats 4000000 in
theorem nameOrder_walk (a0 b0 i0 j0 : Int) (w : World) (ht : Tens w) :
    Calls Tryd.prog 6 #[.int .i64 a0, .int .i64 b0, .int .i64 i0, .int .i64 j0] w (fun e w' => e = .returned (.bool true) ∧ Below w.heap.size w w') := by
  have hf := nameFirst_calls w ht
  go_enter Tryd.func6, Tryd.ntmps6
  go_wp2_with fail
  with_reducible refine hf.mono ?_
  rintro e w2 ⟨rfl, b2⟩
  clear hf
  have hs1 := segment_calls a0 w2 (ht.below b2)
  have hE1 := segO_empty a0
  generalize segO a0 = X1 at hs1 hE1
  have ho1 := fun W hT => object_calls i0 kD 5 W (by decide) hT
  have hE2 := objO_empty i0
  generalize (if objectOk i0 kD 5 = true then (⟨(objectL i0.toNat kD (5 : Int).toNat).toArray⟩ : ByteArray) else ⟨#[]⟩) = X2 at ho1 hE2
  rw [show kD = ⟨#[100, 97, 116, 97]⟩ from rfl] at ho1
  unfold offOk at hE1
  have q1 : (decide (a0 < 0) = true ∧ (X1.toList == ([] : List UInt8)) = true) ∨ (decide (a0 < 0) = false ∧ decide (1099511627776 < a0) = true ∧ (X1.toList == ([] : List UInt8)) = true) ∨ (decide (a0 < 0) = false ∧ decide (1099511627776 < a0) = false ∧ (X1.toList == ([] : List UInt8)) = false) := by
    rw [hE1]
    by_cases h : a0 < 0
    · exact .inl ⟨decide_eq_true h, by rw [decide_eq_false (by omega)]; rfl⟩
    · by_cases h' : 1099511627776 < a0
      · exact .inr (.inl ⟨decide_eq_false h, decide_eq_true h', by rw [decide_eq_false (by omega)]; rfl⟩)
      · exact .inr (.inr ⟨decide_eq_false h, decide_eq_false h', by rw [decide_eq_true (by omega)]; rfl⟩)
  have q2 : (decide (i0 < 0) = true ∧ (X2.toList == ([] : List UInt8)) = true) ∨ (decide (i0 < 0) = false ∧ decide (2147483647 < i0) = true ∧ (X2.toList == ([] : List UInt8)) = true) ∨ (decide (i0 < 0) = false ∧ decide (2147483647 < i0) = false ∧ (X2.toList == ([] : List UInt8)) = false) := by
    rw [hE2]
    by_cases h : i0 < 0
    · exact .inl ⟨decide_eq_true h, by rw [decide_eq_false (by omega)]; rfl⟩
    · by_cases h' : 2147483647 < i0
      · exact .inr (.inl ⟨decide_eq_false h, decide_eq_true h', by rw [decide_eq_false (by omega)]; rfl⟩)
      · exact .inr (.inr ⟨decide_eq_false h, decide_eq_false h', by rw [decide_eq_true (by omega)]; rfl⟩)
  clear hE1 hE2
  go_upto_region 4 with fail
  go_cut [37] (fun z wx => z = .bool false ∧ Below w2.heap.size w2 wx)
  case first =>
    go_wp2_with fail
    with_reducible refine hs1.mono ?_
    rintro e w3 ⟨rfl, b3⟩
    clear hs1
    have B3 := nxt b2 b3
    rcases q1 with ⟨g1, g2⟩ | ⟨g1, g3, g2⟩ | ⟨g1, g3, g2⟩
    all_goals
      go_wp2_with fail
      with_reducible refine (ho1 _ (ht.below B3)).mono ?_
      rintro e w4 ⟨rfl, b4⟩
      rcases q2 with ⟨k1, k2⟩ | ⟨k1, k3, k2⟩ | ⟨k1, k3, k2⟩
      all_goals
        go_wp2_with fail
        go_meet
        exact ⟨rfl, nxt b3 b4⟩
  obtain ⟨rfl, bc⟩ := hcut
  have Bc := nxt b2 bc
  clear hs1 ho1 q1 q2
  have hnum := long_calls a0 1099511627776 wc (by omega) (by omega)
  go_wp2_with fail
  with_reducible refine hnum.mono ?_
  rintro e wz ⟨rfl, rfl⟩
  obtain ⟨a, ha, hal⟩ : ∃ a : Nat, a0 % 1099511627776 = (a : Int) ∧ a < 1099511627776 := by
    have e1 := Int.emod_nonneg a0 (show (1099511627776 : Int) ≠ 0 by omega)
    have e2 := Int.emod_lt_of_pos a0 (show (0 : Int) < 1099511627776 by omega)
    exact ⟨(a0 % 1099511627776).toNat, by omega, by omega⟩
  rw [ha]
  clear ha hnum
  have hnum := long_calls b0 1099511627776 wc (by omega) (by omega)
  go_wp2_with fail
  with_reducible refine hnum.mono ?_
  rintro e wz ⟨rfl, rfl⟩
  obtain ⟨b, hb, hbl⟩ : ∃ a : Nat, b0 % 1099511627776 = (a : Int) ∧ a < 1099511627776 := by
    have e1 := Int.emod_nonneg b0 (show (1099511627776 : Int) ≠ 0 by omega)
    have e2 := Int.emod_lt_of_pos b0 (show (0 : Int) < 1099511627776 by omega)
    exact ⟨(b0 % 1099511627776).toNat, by omega, by omega⟩
  rw [hb]
  clear hb hnum
  have hnum := number_calls i0 2147483648 wc (by omega) (by omega)
  go_wp2_with fail
  with_reducible refine hnum.mono ?_
  rintro e wz ⟨rfl, rfl⟩
  obtain ⟨i, hi, hil⟩ : ∃ a : Nat, i0 % 2147483648 = (a : Int) ∧ a < 2147483648 := by
    have e1 := Int.emod_nonneg i0 (show (2147483648 : Int) ≠ 0 by omega)
    have e2 := Int.emod_lt_of_pos i0 (show (0 : Int) < 2147483648 by omega)
    exact ⟨(i0 % 2147483648).toNat, by omega, by omega⟩
  rw [hi]
  clear hi hnum
  have hnum := number_calls j0 2147483648 wc (by omega) (by omega)
  go_wp2_with fail
  with_reducible refine hnum.mono ?_
  rintro e wz ⟨rfl, rfl⟩
  obtain ⟨j, hj, hjl⟩ : ∃ a : Nat, j0 % 2147483648 = (a : Int) ∧ a < 2147483648 := by
    have e1 := Int.emod_nonneg j0 (show (2147483648 : Int) ≠ 0 by omega)
    have e2 := Int.emod_lt_of_pos j0 (show (0 : Int) < 2147483648 by omega)
    exact ⟨(j0 % 2147483648).toNat, by omega, by omega⟩
  rw [hj]
  clear hj hnum
  obtain ⟨X, hX⟩ : ∃ X : ByteArray, X = ⟨(objectL i kD a).toArray⟩ := ⟨_, rfl⟩
  obtain ⟨Y, hY⟩ : ∃ Y : ByteArray, Y = ⟨(objectL j kD b).toArray⟩ := ⟨_, rfl⟩
  obtain ⟨Z, hZ⟩ : ∃ Z : ByteArray, Z = ⟨(objectL i kM a).toArray⟩ := ⟨_, rfl⟩
  obtain ⟨G, hG⟩ : ∃ G : ByteArray, G = ⟨(segL a).toArray⟩ := ⟨_, rfl⟩
  have hxy : Op.bytesLess X.toList Y.toList = (decide (i < j) || (decide (i = j) && decide (a < b))) := by rw [hX, hY, ByteArray.toList_eq, ByteArray.toList_eq]; exact obj_less (by omega) (by omega) (by omega) (by omega) kD
  have hxz : Op.bytesLess X.toList Z.toList = true := by rw [hX, hZ, ByteArray.toList_eq, ByteArray.toList_eq]; exact kind_less i a
  have hoX := fun W hT => object_calls (i : Int) kD (a : Int) W (by decide) hT
  have hoY := fun W hT => object_calls (j : Int) kD (b : Int) W (by decide) hT
  have hoZ := fun W hT => object_calls (i : Int) kM (a : Int) W (by decide) hT
  have hsG := fun W hT => segment_calls (a : Int) W hT
  rw [objO_nat2 (by omega) kD_ok (by omega), ← hX, show kD = ⟨#[100, 97, 116, 97]⟩ from rfl] at hoX
  rw [objO_nat2 (by omega) kD_ok (by omega), ← hY, show kD = ⟨#[100, 97, 116, 97]⟩ from rfl] at hoY
  rw [objO_nat2 (by omega) kM_ok (by omega), ← hZ, show kM = ⟨#[109, 97, 114, 107, 115]⟩ from rfl] at hoZ
  rw [show segO (a : Int) = ⟨(segL a).toArray⟩ from by unfold segO offOk; rw [if_pos (decide_eq_true (by omega))]; rfl, ← hG] at hsG
  have R3 : ∀ W : World, Rd (W.alloc (.cells #[.string X, .string G, .string Y] 9)) 1 (.slice (some ⟨W.heap.size, 0, none⟩) 3 3) [objectL i kD a, segL a, objectL j kD b].length ([objectL i kD a, segL a, objectL j kD b].map encStr) := fun W => by
    rw [hX, hG, hY]; exact rd_new W [objectL i kD a, segL a, objectL j kD b] (by simp)
  have R2 : ∀ W : World, Rd (W.alloc (.cells #[.string X, .string Y] 9)) 1 (.slice (some ⟨W.heap.size, 0, none⟩) 2 2) [objectL i kD a, objectL j kD b].length ([objectL i kD a, objectL j kD b].map encStr) := fun W => by
    rw [hX, hY]; exact rd_new W [objectL i kD a, objectL j kD b] (by simp)
  have hun := fun W => under_calls ⟨#[115, 101, 103, 45]⟩ _ _ _ (R3 W) (by simp)
  have hri := fun W => rising_calls _ _ _ (R2 W) (by simp) (fun t ht => by
    simp only [List.mem_cons, List.not_mem_nil, or_false] at ht
    rcases ht with rfl | rfl
    · rw [objectL_len i kD a (by omega) (by omega)]; decide
    · rw [objectL_len j kD b (by omega) (by omega)]; decide)
  rw [show (⟨#[115, 101, 103, 45]⟩ : ByteArray).data.toList = [115, 101, 103, 45] from rfl, seg_filter] at hun
  generalize onceL [objectL i kD a, objectL j kD b] = os at hun hri
  clear hX hY hZ hG R3 R2
  go_wp2_with fail
  with_reducible refine (hoX _ (ht.below Bc)).mono ?_
  rintro e w5 ⟨rfl, b5⟩
  have B5 := nxt Bc b5
  go_wp2_with fail
  with_reducible refine (hoY _ (ht.below B5)).mono ?_
  rintro e w6 ⟨rfl, b6⟩
  have B6 := nxt B5 b6
  clear hoY
  go_upto_region 12 with fail
  go_cut [77] (fun z wx => z = .bool false ∧ Below w6.heap.size w6 wx)
  case first =>
    by_cases hij : i = j
    · subst hij
      have hT : Op.bytesLess X.toList Y.toList = decide (a < b) := by rw [hxy, decide_eq_false (Nat.lt_irrefl i), decide_eq_true (rfl : i = i)]; simp
      clear hxy
      obtain ⟨t, htt⟩ : ∃ t, t = decide (a < b) := ⟨_, rfl⟩
      have h4 : decide (a < b) = t := htt.symm
      rw [h4] at hT
      clear htt
      cases t
      all_goals
        go_wp2_with fail
        go_meet
        exact ⟨rfl, Below.refl _ _⟩
    · have hT : Op.bytesLess X.toList Y.toList = decide (i < j) := by rw [hxy, decide_eq_false hij]; simp
      clear hxy
      have n1 : ((i : Int) != (j : Int)) = true := by rw [bne_iff_ne]; omega
      have n2 : ((i : Int) == (j : Int)) = false := by rw [beq_eq_false_iff_ne]; omega
      obtain ⟨t, htt⟩ : ∃ t, t = decide (i < j) := ⟨_, rfl⟩
      have h4 : decide (i < j) = t := htt.symm
      rw [h4] at hT
      clear htt hij
      cases t
      all_goals
        go_wp2_with fail
        go_meet
        exact ⟨rfl, Below.refl _ _⟩
  obtain ⟨rfl, bd⟩ := hcut
  have B7 := nxt B6 bd
  clear hxy
  go_wp2_with fail
  with_reducible refine (hsG _ (ht.below B7)).mono ?_
  rintro e w8 ⟨rfl, b8⟩
  have B8 := nxt B7 b8
  have hun8 := hun w8
  clear hsG hun
  go_wp2_with fail
  with_reducible refine hun8.mono ?_
  rintro e w9 ⟨uv, rfl, ur, b9⟩
  have B9 := nxt B8 (nxt (below_alloc w8 _) b9)
  obtain ⟨ua, uc, rfl⟩ := ur.slice
  have hri9 := hri w9
  clear hun8 hri
  go_wp2_with fail
  with_reducible refine hri9.mono ?_
  rintro e wa ⟨rv, rfl, rr, ba⟩
  have bA := nxt (below_alloc w9 _) ba
  have Ba := nxt B9 bA
  obtain ⟨ra, rc, rfl⟩ := rr.slice
  have hst := sameTexts_calls _ _ os wa (ur.below bA) rr
  clear hri9
  go_wp2_with fail
  with_reducible refine hst.mono ?_
  rintro e wb ⟨rfl, bb⟩
  have Bb := nxt Ba bb
  clear hst
  go_wp2_with fail
  with_reducible refine (hoX _ (ht.below Bb)).mono ?_
  rintro e wd ⟨rfl, bd'⟩
  have Bd := nxt Bb bd'
  clear hoX
  go_wp2_with fail
  with_reducible refine (hoZ _ (ht.below Bd)).mono ?_
  rintro e we ⟨rfl, be⟩
  clear hoZ
  go_wp2_with fail
  go_ret
  exact ⟨by first | rfl | rw [hxz] | simp [hxz], nxt Bd be⟩
end Go.Proofs.YtegiingcnhafbaaDoor
