/- NameBack: what is named is read back; it is a name; later offsets have later names. -/
import Derived.Test.YtegiingcnhafbaaDoorNameFirst
import Derived.Test.YtegiingcnhafbaaDoorNameParts
import Derived.Test.YtegiingcnhafbaaDoorNameVal
import Derived.Test.YtegiingcnhafbaaDoorNumber
import Derived.Test.YtegiingcnhafbaaDoorLong
import Derived.Test.YtegiingcnhafbaaDoorStrIn
namespace Go.Proofs.YtegiingcnhafbaaDoor
open Go Go.RowKit

theorem base_seg {n : Nat} (h : n ≤ 1099511627776) {v : Value} (hv : BaseIs (segL n) v) : v = .tuple #[.int .i64 (n : Int), .bool true] := hv.uniq (.inl ⟨n, h, rfl, rfl⟩)
theorem seg_obj_ne {n i a : Nat} {k : ByteArray} : segL n ≠ objectL i k a := fun h => by
  have := congrArg List.head? h
  simp [segL, objectL] at this
theorem base_obj {i a : Nat} {k : ByteArray} {v : Value} (hv : BaseIs (objectL i k a) v) : v = .tuple #[.int .i64 0, .bool false] := hv.uniq (.inr ⟨fun _ _ h => seg_obj_ne h.symm, rfl⟩)
theorem parts_seg {n : Nat} {v : Value} (hv : PartsIs (segL n) v) : v = .tuple #[.int .i64 0, .string ⟨#[]⟩, .int .i64 0, .bool false] := hv.uniq (.inr ⟨fun _ _ _ h => seg_obj_ne h.2.2.2, rfl⟩)
theorem parts_obj {i a : Nat} {k : ByteArray} (hi : i ≤ 2147483647) (hk : kindOk k = true) (ha : a ≤ 1099511627776) {v : Value} (hv : PartsIs (objectL i k a) v) : v = .tuple #[.int .i64 (i : Nat), .string k, .int .i64 (a : Nat), .bool true] :=
  hv.uniq (.inl ⟨i, k, a, ⟨hi, hk, ha, rfl⟩, rfl⟩)
theorem seg_nameOk {n : Nat} (h : n ≤ 1099511627776) : nameOk (⟨(segL n).toArray⟩ : ByteArray) = true := by
  have hl := segL_len h
  have hsz : (⟨(segL n).toArray⟩ : ByteArray).size = (segL n).length := by show (segL n).toArray.size = _; rw [List.size_toArray]
  unfold nameOk
  rw [decide_eq_true_eq]
  refine ⟨by rw [hsz, hl]; omega, by rw [hsz, hl]; omega, fun j hj => ?_⟩
  have hall : ∀ x ∈ segL n, okC x.toNat = true := by
    intro x hx
    unfold segL at hx
    rcases List.mem_append.1 hx with hx | hx
    · simp only [List.mem_cons, List.not_mem_nil, or_false] at hx
      rcases hx with rfl | rfl | rfl | rfl <;> decide
    · exact okC_digit (wide_digit n 13 x hx)
  have hj' : j < (segL n).length := by rw [← hsz]; exact hj
  exact hall _ (List.getElem_mem hj')
theorem seg_less {n m : Nat} (h : n ≤ 1099511627776) (h' : m ≤ 1099511627776) : Op.bytesLess (segL n) (segL m) = decide (n < m) := by
  unfold segL
  rw [less_pre, less_wide 12 n m (by omega) (by omega)]
theorem segO_nat {n : Nat} (h : n ≤ 1099511627776) : segO (n : Int) = ⟨(segL n).toArray⟩ := by
  unfold segO offOk
  rw [if_pos (decide_eq_true (by omega))]
  rfl
theorem objO_nat {i a : Nat} {k : ByteArray} (hi : i ≤ 2147483647) (hk : kindOk k = true) (ha : a ≤ 1099511627776) : (if objectOk (i : Int) k (a : Int) = true then (⟨(objectL (i : Int).toNat k (a : Int).toNat).toArray⟩ : ByteArray) else ⟨#[]⟩) = ⟨(objectL i k a).toArray⟩ := by
  rw [if_pos (by
    unfold objectOk offOk
    rw [hk, decide_eq_true (by omega), decide_eq_true (by omega)]
    rfl), Int.toNat_natCast, Int.toNat_natCast]
theorem objO_size (id : Int) (k : ByteArray) (a : Int) : (if objectOk id k a = true then (⟨(objectL id.toNat k a.toNat).toArray⟩ : ByteArray) else ⟨#[]⟩) = ⟨#[]⟩ ∨ ((if objectOk id k a = true then (⟨(objectL id.toNat k a.toNat).toArray⟩ : ByteArray) else ⟨#[]⟩).size = 29 + k.size ∧ k.size ≤ 8) := by
  by_cases h : objectOk id k a = true
  · rw [if_pos h]
    refine .inr ?_
    unfold objectOk at h
    rw [Bool.and_eq_true, Bool.and_eq_true, decide_eq_true_eq] at h
    obtain ⟨⟨h1, h2⟩, h3⟩ := h
    unfold kindOk at h2
    unfold offOk at h3
    rw [decide_eq_true_eq] at h2 h3
    have := objectL_len id.toNat k a.toNat (by omega) (by omega)
    exact ⟨by show (objectL id.toNat k a.toNat).toArray.size = _; rw [List.size_toArray]; exact this, h2.2.1⟩
  · rw [if_neg h]; exact .inl rfl
def kDat : ByteArray := ⟨#[100, 97, 116, 97]⟩
theorem kDat_ok : kindOk kDat = true := by decide +kernel

theorem one_string {w : World} (z : ByteArray) : Rd (w.alloc (.cells #[.string z] 9)) 1 (.slice (some ⟨w.heap.size, 0, none⟩) 1 1) ([z] : List ByteArray).length (([z] : List ByteArray).map Value.string) :=
  ⟨rfl, .inr ⟨⟨w.heap.size, 0, none⟩, 1, rfl, Nat.le_refl _, by decide, fun j u hu => by
    rw [add_none, cell_of_row _ w.heap.size _ _ _ _ (heap_alloc_new w _)]
    simpa using hu⟩⟩

set_option maxRecDepth 100000 in
set_option maxHeartbeats 4000000 in
theorem nameBack_walk (id0 a0 b0 : Int) (kind : ByteArray) (hk0 : kind.size ≤ 9223372036854775807) (w : World) (ht : Tens w) (hsh : MaxL w) :
    Calls Tryd.prog 4 #[.int .i64 id0, .string kind, .int .i64 a0, .int .i64 b0] w (fun e w' => e = .returned (.bool true) ∧ Below w.heap.size w w') := by
  have hf := nameFirst_calls w ht
  go_enter Tryd.func4, Tryd.ntmps4
  go_wp2_with fail
  with_reducible refine hf.mono ?_
  rintro e w2 ⟨rfl, b2⟩
  clear hf
  have hnum := long_calls a0 1099511627777 w2 (by omega) (by omega)
  go_wp2_with fail
  with_reducible refine hnum.mono ?_
  rintro e w2' ⟨rfl, rfl⟩
  obtain ⟨a, ha, hal⟩ : ∃ a : Nat, a0 % 1099511627777 = (a : Int) ∧ a ≤ 1099511627776 := by
    have e1 := Int.emod_nonneg a0 (show (1099511627777 : Int) ≠ 0 by omega)
    have e2 := Int.emod_lt_of_pos a0 (show (0 : Int) < 1099511627777 by omega)
    exact ⟨(a0 % 1099511627777).toNat, by omega, by omega⟩
  rw [ha]
  clear ha hnum
  have hnum := long_calls b0 1099511627777 w2 (by omega) (by omega)
  go_wp2_with fail
  with_reducible refine hnum.mono ?_
  rintro e w2' ⟨rfl, rfl⟩
  obtain ⟨b, hb, hbl⟩ : ∃ a : Nat, b0 % 1099511627777 = (a : Int) ∧ a ≤ 1099511627776 := by
    have e1 := Int.emod_nonneg b0 (show (1099511627777 : Int) ≠ 0 by omega)
    have e2 := Int.emod_lt_of_pos b0 (show (0 : Int) < 1099511627777 by omega)
    exact ⟨(b0 % 1099511627777).toNat, by omega, by omega⟩
  rw [hb]
  clear hb hnum
  have hnum := number_calls id0 2147483648 w2 (by omega) (by omega)
  go_wp2_with fail
  with_reducible refine hnum.mono ?_
  rintro e w2' ⟨rfl, rfl⟩
  obtain ⟨i, hi, hil⟩ : ∃ i : Nat, id0 % 2147483648 = (i : Int) ∧ i ≤ 2147483647 := by
    have e1 := Int.emod_nonneg id0 (show (2147483648 : Int) ≠ 0 by omega)
    have e2 := Int.emod_lt_of_pos id0 (show (0 : Int) < 2147483648 by omega)
    exact ⟨(id0 % 2147483648).toNat, by omega, by omega⟩
  rw [hi]
  clear hi hnum
  obtain ⟨X, hX⟩ : ∃ X : ByteArray, X = ⟨(segL a).toArray⟩ := ⟨_, rfl⟩
  obtain ⟨Y, hY⟩ : ∃ Y : ByteArray, Y = ⟨(segL b).toArray⟩ := ⟨_, rfl⟩
  obtain ⟨O, hO⟩ : ∃ O : ByteArray, O = ⟨(objectL i kDat a).toArray⟩ := ⟨_, rfl⟩
  have hXs : X.size ≤ 1000000 := by rw [hX]; show (segL a).toArray.size ≤ _; rw [List.size_toArray, segL_len hal]; omega
  have hOs : O.size ≤ 1000000 := by rw [hO]; show (objectL i kDat a).toArray.size ≤ _; rw [List.size_toArray, objectL_len i kDat a (by omega) (by omega)]; decide
  have hXl : X.data.toList = segL a := by rw [hX]
  have hOl : O.data.toList = objectL i kDat a := by rw [hO]
  have hxy : Op.bytesLess X.toList Y.toList = decide (a < b) := by rw [hX, hY, ByteArray.toList_eq, ByteArray.toList_eq]; exact seg_less hal hbl
  have hs1 := fun W hT => segment_calls (a : Int) W hT
  have hs2 := fun W hT => segment_calls (b : Int) W hT
  rw [segO_nat hal, ← hX] at hs1
  rw [segO_nat hbl, ← hY] at hs2
  have ho1 := fun W hT => object_calls (i : Int) kDat (a : Int) W (by decide) hT
  rw [objO_nat hil kDat_ok hal, ← hO] at ho1
  have hvX : nameOk X = true := by rw [hX]; exact seg_nameOk hal
  have hvO : nameOk O = true := by rw [hO]; exact object_nameOk kDat_ok hil hal
  have hbX := fun W => base_is X W hXs
  have hpO := fun W hM => parts_is O W hOs hM
  have hbO := fun W => base_is O W hOs
  have hpX := fun W hM => parts_is X W hXs hM
  have hvalX := fun W => nameValid_is X W hXs
  have hvalO := fun W => nameValid_is O W hOs
  rw [hXl] at hbX hpX
  rw [hOl] at hpO hbO
  rw [hvX] at hvalX
  rw [hvO] at hvalO
  clear hX hY hO hXl hOl hvX hvO hXs hOs
  have hkd : kDat = ⟨#[100, 97, 116, 97]⟩ := rfl
  rw [hkd] at ho1
  clear hkd
  have ho2 := fun W hT => object_calls (id := (i : Int)) (kind := kind) (base := (a : Int)) W (by omega) hT
  have hz := objO_size (i : Int) kind (a : Int)
  generalize (if objectOk (i : Int) kind (a : Int) = true then (⟨(objectL (i : Int).toNat kind (a : Int).toNat).toArray⟩ : ByteArray) else ⟨#[]⟩) = Z at ho2 hz
  have HZ := Lib.hid hz
  clear hz
  obtain ⟨t, htt⟩ : ∃ t, t = decide (a < b) := ⟨_, rfl⟩
  have hlt' : decide (a < b) = t := htt.symm
  rw [← htt] at hxy
  clear htt
  go_wp2_with fail
  with_reducible refine (hs1 _ (ht.below b2)).mono ?_
  rintro e w3 ⟨rfl, b3⟩
  have B3 := nxt b2 b3
  go_wp2_with fail
  with_reducible refine (hs2 _ (ht.below B3)).mono ?_
  rintro e w4 ⟨rfl, b4⟩
  have B4 := nxt B3 b4
  clear hs1 hs2
  go_wp2_with fail
  with_reducible refine (hbX _).mono ?_
  rintro e w5 ⟨v, rfl, hv, hw⟩
  subst hw
  obtain rfl := base_seg hal hv
  clear hbX hv
  go_wp2_with fail
  with_reducible refine (hvalX _).mono ?_
  rintro e w6 ⟨rfl, hw⟩
  subst hw
  clear hvalX
  cases t
  all_goals
    go_wp2_with fail
    with_reducible refine (ho1 _ (ht.below B4)).mono ?_
    rintro e w7 ⟨rfl, b7⟩
    clear ho1 hxy hlt'
    have B7 := nxt B4 b7
    go_wp2_with fail
    with_reducible refine (hpO _ (hsh.below B7)).mono ?_
    rintro e w8 ⟨v, rfl, hv, b8⟩
    have hv' := parts_obj hil kDat_ok hal hv
    rw [show kDat = ⟨#[100, 97, 116, 97]⟩ from rfl] at hv'
    subst hv'
    clear hpO hv
    have B8 := nxt B7 b8
    go_wp2_with fail
    with_reducible refine (hvalO _).mono ?_
    rintro e w9 ⟨rfl, hw⟩
    subst hw
    clear hvalO
    go_wp2_with fail
    with_reducible refine (hbO _).mono ?_
    rintro e wa ⟨v, rfl, hv, hw⟩
    subst hw
    have hv' := base_obj hv
    subst hv'
    clear hbO hv
    go_wp2_with fail
    with_reducible refine (hpX _ (hsh.below B8)).mono ?_
    rintro e wb ⟨v, rfl, hv, bb⟩
    have hv' := parts_seg hv
    subst hv'
    clear hpX hv
    have Bb := nxt B8 bb
    go_wp2_with fail
    with_reducible refine (ho2 _ (ht.below Bb)).mono ?_
    rintro e wd ⟨rfl, bd⟩
    clear ho2
    have Bd := nxt Bb bd
    by_cases hz0 : Z = ⟨#[]⟩
    · subst hz0
      clear HZ
      go_wp2_with fail
      go_ret
      exact ⟨rfl, Bd⟩
    · have hz1 : (Z.toList == ([] : List UInt8)) = false := by
        rw [beq_eq_false_iff_ne, ByteArray.toList_eq]
        exact fun h => hz0 (ByteArray.ext (Array.ext' h))
      obtain ⟨hzs, hk8⟩ := HZ.out.resolve_left hz0
      have hin := in_calls (.slice (some ⟨wd.heap.size, 0, none⟩) 1 1) [Z] Z (wd.alloc (.cells #[.string Z] 9)) (one_string Z)
      have hyes : inT [Z] Z = true := inT_iff.2 (List.mem_singleton.2 rfl)
      rw [hyes] at hin
      have HZS := Lib.hid hzs
      have hk9 : kind.size ≤ 8 := hk8
      have hE : ((Z.size : Int) == 29 + (kind.size : Int)) = true := by rw [beq_iff_eq]; omega
      have hE' : (Z.size == 29 + kind.size) = true := by rw [beq_iff_eq]; omega
      clear hz0 HZ hyes hzs
      go_wp2_with fail
      with_reducible refine hin.mono ?_
      rintro e we ⟨rfl, hw⟩
      subst hw
      clear hin
      go_wp2_with fail
      go_ret
      exact ⟨by first | rfl | simp [HZS.out], nxt Bd (below_alloc wd _)⟩
end Go.Proofs.YtegiingcnhafbaaDoor
