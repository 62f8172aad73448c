/- ManiNames: the objects of a segment are named by its ID, their kinds, its first offset. -/
import Derived.Test.YtldopocmmeidkaaDoorNameMath
import Derived.Test.YtldopocmmeidkaaDoorManFirst
import Derived.Test.YtldopocmmeidkaaDoorNumber
import Derived.Test.YtldopocmmeidkaaDoorLong
namespace Go.Proofs.YtldopocmmeidkaaDoor
open Go Go.RowKit Man Vint Crc

def kData : ByteArray := ⟨#[100, 97, 116, 97]⟩
def kMarks : ByteArray := ⟨#[109, 97, 114, 107, 115]⟩
theorem kData_ok : kindOk kData = true := by decide +kernel
theorem kMarks_ok : kindOk kMarks = true := by decide +kernel
/-- The names of a segment's two objects. -/
def nameD (i a : Nat) : ByteArray := ⟨(objectL i kData a).toArray⟩
def nameM (i a : Nat) : ByteArray := ⟨(objectL i kMarks a).toArray⟩
theorem nameD_size {i a : Nat} (hi : i ≤ 2147483647) (ha : a ≤ 1099511627776) : (nameD i a).size = 33 := by
  show (objectL i kData a).toArray.size = 33
  rw [List.size_toArray, objectL_len i kData a (by omega) (by omega)]; rfl
theorem nameM_size {i a : Nat} (hi : i ≤ 2147483647) (ha : a ≤ 1099511627776) : (nameM i a).size = 34 := by
  show (objectL i kMarks a).toArray.size = 34
  rw [List.size_toArray, objectL_len i kMarks a (by omega) (by omega)]; rfl
theorem name_ne {i a j b : Nat} (hi : i ≤ 2147483647) (ha : a ≤ 1099511627776) (hj : j ≤ 2147483647) (hb : b ≤ 1099511627776) : nameD i a ≠ nameM j b := fun h => by
  have := congrArg ByteArray.size h
  rw [nameD_size hi ha, nameM_size hj hb] at this
  omega
theorem nameD_inj {i a j b : Nat} (hi : i ≤ 2147483647) (ha : a ≤ 1099511627776) (hj : j ≤ 2147483647) (hb : b ≤ 1099511627776) (h : nameD i a = nameD j b) : i = j ∧ a = b := by
  have h1 : objectL i kData a = objectL j kData b := by
    have := congrArg (fun x : ByteArray => x.data.toList) h
    simpa [nameD] using this
  exact objectL_inj i j kData a b (by omega) (by omega) (by omega) (by omega) h1
theorem nameM_inj {i a j b : Nat} (hi : i ≤ 2147483647) (ha : a ≤ 1099511627776) (hj : j ≤ 2147483647) (hb : b ≤ 1099511627776) (h : nameM i a = nameM j b) : i = j ∧ a = b := by
  have h1 : objectL i kMarks a = objectL j kMarks b := by
    have := congrArg (fun x : ByteArray => x.data.toList) h
    simpa [nameM] using this
  exact objectL_inj i j kMarks a b (by omega) (by omega) (by omega) (by omega) h1

def madeM (i a : Nat) : ManD := makeM (i : Int) (a : Int) ((a : Int) + 5) 0 [⟨1, (a : Int)⟩] [100] []
theorem made_objs {i a : Nat} (hi : i ≤ 2147483647) (ha : a ≤ 1099511627776) : (madeM i a).objs = [⟨nameD i a, 1, (sum [100]).toNat⟩, ⟨nameM i a, 0, (sum []).toNat⟩] := by
  unfold madeM makeM objectOf
  simp only [List.length_cons, List.length_nil]
  rw [show objectName (i : Int) ⟨#[100, 97, 116, 97]⟩ (a : Int) = nameD i a from objectName_ok kData_ok hi ha, show objectName (i : Int) ⟨#[109, 97, 114, 107, 115]⟩ (a : Int) = nameM i a from objectName_ok kMarks_ok hi ha]
  rfl
theorem made_ok {i a : Nat} (hi : i ≤ 2147483647) (ha : a < 549755813888) : manOk (madeM i a) := by
  have ho := made_objs hi (show a ≤ 1099511627776 by omega)
  unfold manOk
  rw [ho]
  refine ⟨?_, ?_, ?_, ?_⟩
  · show rangeOk (i : Int) (a : Int) ((a : Int) + 5) 0
    unfold rangeOk; omega
  · show Epo.valid [⟨1, (a : Int)⟩] = 0
    rw [Epo.valid_iff]
    refine ⟨by simp, ?_, rfl⟩
    simp only [List.all_cons, List.all_nil, Bool.and_true]
    unfold Epo.right
    rw [decide_eq_true_eq]
    simp only
    omega
  · show shapeOk (a : Int) ((a : Int) + 5) [⟨1, (a : Int)⟩]
    unfold shapeOk
    refine ⟨by simp, fun p h => ?_, fun p h => ?_⟩
    · simp at h; rw [← h]
    · simp at h; rw [← h]; simp only; omega
  · unfold objsOk
    have n1 : nameOk (nameD i a) = true := object_nameOk kData_ok hi (by omega)
    have n2 : nameOk (nameM i a) = true := object_nameOk kMarks_ok hi (by omega)
    refine ⟨by simp, by simp, fun k hk => ?_, fun k hk => ?_⟩
    · have hk2 : k = 0 ∨ k = 1 := by simp at hk; omega
      rcases hk2 with rfl | rfl
      · exact ⟨n1, by simp, by simp⟩
      · exact ⟨n2, by simp, by simp⟩
    · have hk2 : k = 0 ∨ k = 1 := by simp at hk; omega
      rcases hk2 with rfl | rfl
      · rfl
      · show (([⟨nameD i a, 1, (sum [100]).toNat⟩] : List ObjD).any fun o => decide (o.name = nameM i a)) = false
        simp only [List.any_cons, List.any_nil, Bool.or_false]
        exact decide_eq_false (name_ne hi (by omega) hi (by omega))

set_option maxRecDepth 100000 in
set_option maxHeartbeats 4000000 in
theorem maniNames_walk (S : List Nat) (A : Nat → Addr) (i0 j0 a0 b0 : Int) (w : World) (hS : Sents S w A) (hall : All S) (ht : Tens w) :
    Calls Tryd.prog 8 #[.int .i64 i0, .int .i64 j0, .int .i64 a0, .int .i64 b0] w (fun e w' => e = .returned (.bool true) ∧ Below w.heap.size w w') := by
  have hf := manFirst_calls S A hS hall
  go_enter Tryd.func8, Tryd.ntmps8
  go_wp2_with fail
  with_reducible refine hf.mono ?_
  rintro e w2 ⟨rfl, b2⟩
  clear hf
  have hnum := number_calls i0 2147483648 w2 (by omega) (by omega)
  go_wp2_with fail
  with_reducible refine hnum.mono ?_
  rintro e w2' ⟨rfl, rfl⟩
  obtain ⟨i, hi, hil⟩ : ∃ i : Nat, i0 % 2147483648 = (i : Int) ∧ i < 2147483648 := by
    have e1 := Int.emod_nonneg i0 (show (2147483648 : Int) ≠ 0 by omega)
    have e2 := Int.emod_lt_of_pos i0 (show (0 : Int) < 2147483648 by omega)
    exact ⟨(i0 % 2147483648).toNat, by omega, by omega⟩
  rw [hi]
  clear hi hnum
  have hnum := number_calls j0 2147483648 w2 (by omega) (by omega)
  go_wp2_with fail
  with_reducible refine hnum.mono ?_
  rintro e w2' ⟨rfl, rfl⟩
  obtain ⟨j, hj, hjl⟩ : ∃ j : Nat, j0 % 2147483648 = (j : Int) ∧ j < 2147483648 := by
    have e1 := Int.emod_nonneg j0 (show (2147483648 : Int) ≠ 0 by omega)
    have e2 := Int.emod_lt_of_pos j0 (show (0 : Int) < 2147483648 by omega)
    exact ⟨(j0 % 2147483648).toNat, by omega, by omega⟩
  rw [hj]
  clear hj hnum
  have hnum := long_calls a0 549755813888 w2 (by omega) (by omega)
  go_wp2_with fail
  with_reducible refine hnum.mono ?_
  rintro e w2' ⟨rfl, rfl⟩
  obtain ⟨a, ha, hal⟩ : ∃ a : Nat, a0 % 549755813888 = (a : Int) ∧ a < 549755813888 := by
    have e1 := Int.emod_nonneg a0 (show (549755813888 : Int) ≠ 0 by omega)
    have e2 := Int.emod_lt_of_pos a0 (show (0 : Int) < 549755813888 by omega)
    exact ⟨(a0 % 549755813888).toNat, by omega, by omega⟩
  rw [ha]
  clear ha hnum
  have hnum := long_calls b0 549755813888 w2 (by omega) (by omega)
  go_wp2_with fail
  with_reducible refine hnum.mono ?_
  rintro e w2' ⟨rfl, rfl⟩
  obtain ⟨b, hb, hbl⟩ : ∃ b : Nat, b0 % 549755813888 = (b : Int) ∧ b < 549755813888 := by
    have e1 := Int.emod_nonneg b0 (show (549755813888 : Int) ≠ 0 by omega)
    have e2 := Int.emod_lt_of_pos b0 (show (0 : Int) < 549755813888 by omega)
    exact ⟨(b0 % 549755813888).toNat, by omega, by omega⟩
  rw [hb]
  clear hb hnum
  have c1 := below_alloc w2 (.cells #[.int .i64 1, .int .i64 (a : Int)] 48)
  have rp1 := heap_alloc_new w2 (.cells #[.int .i64 1, .int .i64 (a : Int)] 48)
  have e1 := below_alloc (w2.alloc (.cells #[.int .i64 1, .int .i64 (a : Int)] 48)) (.cells #[.int .u8 100] 5 (1, 2))
  have rd1 := heap_alloc_new (w2.alloc (.cells #[.int .i64 1, .int .i64 (a : Int)] 48)) (.cells #[.int .u8 100] 5 (1, 2))
  have kc1 := Lib.run_convert_bytes_const (P := Tryd.prog) (w2.alloc (.cells #[.int .i64 1, .int .i64 (a : Int)] 48)) 30 5 #[.int .u8 100] 1 1 Tryd.underlying30 Tryd.underlying5
  rw [show (w2.alloc (.cells #[.int .i64 1, .int .i64 (a : Int)] 48)).heap.size = w2.heap.size + 1 by simp] at kc1
  have g1 := nxt c1 e1
  have G1 := nxt b2 g1
  have wy1 : IntKind.i64.wrap ((a : Int) + 5) = (a : Int) + 5 := by rw [IntKind.wrap_i64]; omega
  have hmk1 := maniMake_calls S A (i : Int) (a : Int) ((a : Int) + 5) 0 (eps := [⟨1, (a : Int)⟩]) (ld := [100]) (lm := []) (hS.below G1) (hall 2 (by decide)) (hall 3 (by decide)) (hall 4 (by decide)) (hall 5 (by decide)) (ht.below G1) (by simp) (rd_row (heap_below e1 rp1) 2 1 rfl (by decide)) (rd_row rd1 1 1 rfl (by decide)) (Rd.nil _ _)
  rw [show makeM (i : Int) (a : Int) ((a : Int) + 5) 0 [⟨1, (a : Int)⟩] [100] [] = madeM i a from rfl] at hmk1
  rw [show (w2.alloc (.cells #[.int .i64 1, .int .i64 (a : Int)] 48)).heap.size = w2.heap.size + 1 by simp] at hmk1
  simp only [List.length_cons, List.length_nil, Nat.zero_add] at hmk1
  clear rp1 rd1 c1 e1
  go_wp2_with fail
  with_reducible refine hmk1.mono ?_
  rintro e u1 ⟨f1, hm1⟩
  clear hmk1
  rcases hm1 with ⟨-, ve1, vo1, rfl, hr1⟩ | ⟨hno, -⟩
  case inr => exact absurd (made_ok (by omega) hal) hno
  have F1 := nxt G1 f1
  obtain ⟨ae1, ce1, rfl⟩ := hr1.1.slice
  obtain ⟨ao1, co1, rfl⟩ := hr1.2.slice
  have hMA1 : ∀ ve vo, manA (madeM i a) ve vo = .agg #[.int .i64 (i : Int), .int .i64 (a : Int), .int .i64 ((a : Int) + 5), .int .i64 0, ve, vo] := fun _ _ => rfl
  have hle1 : (madeM i a).eps.length = 1 := rfl
  have hlo1 : (madeM i a).objs.length = 2 := rfl
  rw [hMA1, hle1, hlo1]
  have HMA1 := Lib.hid hMA1
  have HR1 := Lib.hid hr1
  have z1 := below_alloc u1 (.cells #[.int .i64 0, .int .i64 0, .int .i64 0, .int .i64 0, .slice none 0 0, .slice none 0 0] 25)
  have rz1 := heap_alloc_new u1 (.cells #[.int .i64 0, .int .i64 0, .int .i64 0, .int .i64 0, .slice none 0 0, .slice none 0 0] 25)
  clear hMA1 hle1 hlo1 hr1
  go_wp2_with (refine wpList_store_row_g rfl 25 _ _ rfl u1.heap.size _ rfl rfl 25 _ rz1 manSize rfl (by simp [Value.oneCell']) ?_)
  intro v1 rv1 gr1 hs1
  have k1 : Below u1.heap.size u1 v1 := z1.grown gr1 z1.size (fun k hk => by simp only [Option.some.injEq] at hk; omega)
  have V1 := nxt F1 k1
  have hr1 := HR1.out.below k1
  clear z1 rz1 gr1 hs1 HR1
  obtain ⟨q1, hq1⟩ : ∃ q, q = u1.heap.size := ⟨_, rfl⟩
  rw [← hq1] at rv1 ⊢
  clear hq1
  have HR1 := Lib.hid hr1
  have HV1 := Lib.hid rv1
  clear hr1 rv1
  have c2 := below_alloc v1 (.cells #[.int .i64 1, .int .i64 (b : Int)] 48)
  have rp2 := heap_alloc_new v1 (.cells #[.int .i64 1, .int .i64 (b : Int)] 48)
  have e2 := below_alloc (v1.alloc (.cells #[.int .i64 1, .int .i64 (b : Int)] 48)) (.cells #[.int .u8 100] 5 (1, 2))
  have rd2 := heap_alloc_new (v1.alloc (.cells #[.int .i64 1, .int .i64 (b : Int)] 48)) (.cells #[.int .u8 100] 5 (1, 2))
  have kc2 := Lib.run_convert_bytes_const (P := Tryd.prog) (v1.alloc (.cells #[.int .i64 1, .int .i64 (b : Int)] 48)) 30 5 #[.int .u8 100] 1 1 Tryd.underlying30 Tryd.underlying5
  rw [show (v1.alloc (.cells #[.int .i64 1, .int .i64 (b : Int)] 48)).heap.size = v1.heap.size + 1 by simp] at kc2
  have g2 := nxt c2 e2
  have G2 := nxt V1 g2
  have wy2 : IntKind.i64.wrap ((b : Int) + 5) = (b : Int) + 5 := by rw [IntKind.wrap_i64]; omega
  have hmk2 := maniMake_calls S A (j : Int) (b : Int) ((b : Int) + 5) 0 (eps := [⟨1, (b : Int)⟩]) (ld := [100]) (lm := []) (hS.below G2) (hall 2 (by decide)) (hall 3 (by decide)) (hall 4 (by decide)) (hall 5 (by decide)) (ht.below G2) (by simp) (rd_row (heap_below e2 rp2) 2 1 rfl (by decide)) (rd_row rd2 1 1 rfl (by decide)) (Rd.nil _ _)
  rw [show makeM (j : Int) (b : Int) ((b : Int) + 5) 0 [⟨1, (b : Int)⟩] [100] [] = madeM j b from rfl] at hmk2
  rw [show (v1.alloc (.cells #[.int .i64 1, .int .i64 (b : Int)] 48)).heap.size = v1.heap.size + 1 by simp] at hmk2
  simp only [List.length_cons, List.length_nil, Nat.zero_add] at hmk2
  clear rp2 rd2 c2 e2
  go_wp2_with fail
  with_reducible refine hmk2.mono ?_
  rintro e u2 ⟨f2, hm2⟩
  clear hmk2
  rcases hm2 with ⟨-, ve2, vo2, rfl, hr2⟩ | ⟨hno, -⟩
  case inr => exact absurd (made_ok (by omega) hbl) hno
  have F2 := nxt G2 f2
  obtain ⟨ae2, ce2, rfl⟩ := hr2.1.slice
  obtain ⟨ao2, co2, rfl⟩ := hr2.2.slice
  have hMA2 : ∀ ve vo, manA (madeM j b) ve vo = .agg #[.int .i64 (j : Int), .int .i64 (b : Int), .int .i64 ((b : Int) + 5), .int .i64 0, ve, vo] := fun _ _ => rfl
  have hle2 : (madeM j b).eps.length = 1 := rfl
  have hlo2 : (madeM j b).objs.length = 2 := rfl
  rw [hMA2, hle2, hlo2]
  have HMA2 := Lib.hid hMA2
  have HR2 := Lib.hid hr2
  have z2 := below_alloc u2 (.cells #[.int .i64 0, .int .i64 0, .int .i64 0, .int .i64 0, .slice none 0 0, .slice none 0 0] 25)
  have rz2 := heap_alloc_new u2 (.cells #[.int .i64 0, .int .i64 0, .int .i64 0, .int .i64 0, .slice none 0 0, .slice none 0 0] 25)
  clear hMA2 hle2 hlo2 hr2
  go_wp2_with (refine wpList_store_row_g rfl 25 _ _ rfl u2.heap.size _ rfl rfl 25 _ rz2 manSize rfl (by simp [Value.oneCell']) ?_)
  intro v2 rv2 gr2 hs2
  have k2 : Below u2.heap.size u2 v2 := z2.grown gr2 z2.size (fun k hk => by simp only [Option.some.injEq] at hk; omega)
  have V2 := nxt F2 k2
  have hr2 := HR2.out.below k2
  clear z2 rz2 gr2 hs2 HR2
  obtain ⟨q2, hq2⟩ : ∃ q, q = u2.heap.size := ⟨_, rfl⟩
  rw [← hq2] at rv2 ⊢
  clear hq2
  have HR2 := Lib.hid hr2
  have HV2 := Lib.hid rv2
  clear hr2 rv2
  have k12 := nxt g2 (nxt f2 k2)
  have rA := heap_below k12 HV1.out
  have rB := HV2.out
  have hr1 := HR1.out.below k12
  have hr2 := HR2.out
  have nm1 := maniNames_calls hr1 (by show 2 ≤ 1000; omega)
  have nm2 := fun W (hB : Below v2.heap.size v2 W) => maniNames_calls (hr2.below hB) (by show 2 ≤ 1000; omega)
  have ho1 : (madeM i a).objs.map (fun o => Value.string o.name) = [.string (nameD i a), .string (nameM i a)] := by rw [made_objs (by omega) (by omega)]; rfl
  have ho2 : (madeM j b).objs.map (fun o => Value.string o.name) = [.string (nameD j b), .string (nameM j b)] := by rw [made_objs (by omega) (by omega)]; rfl
  rw [ho1, HMA1.out, show (madeM i a).eps.length = 1 from rfl, show (madeM i a).objs.length = 2 from rfl] at nm1
  rw [ho2, HMA2.out, show (madeM j b).eps.length = 1 from rfl, show (madeM j b).objs.length = 2 from rfl] at nm2
  have W2 := V2
  have DA : ∀ W : World, W.heap[q1]? = some (.cells #[.int .i64 (i : Int), .int .i64 (a : Int), .int .i64 ((a : Int) + 5), .int .i64 0, .slice ae1 1 ce1, .slice ao1 2 co1] 25 (0, 0)) → W.cell? ⟨q1, 0, none⟩ = some (.int .i64 (i : Int)) ∧ W.cell? ⟨q1, 1, none⟩ = some (.int .i64 (a : Int)) ∧ W.cell? ⟨q1, 2, none⟩ = some (.int .i64 ((a : Int) + 5)) ∧ W.cell? ⟨q1, 3, none⟩ = some (.int .i64 0) ∧ W.cell? ⟨q1, 4, none⟩ = some (.slice ae1 1 ce1) ∧ W.cell? ⟨q1, 5, none⟩ = some (.slice ao1 2 co1) := fun W r =>
    ⟨cell_of_row _ _ 0 _ _ _ r, cell_of_row _ _ 1 _ _ _ r, cell_of_row _ _ 2 _ _ _ r, cell_of_row _ _ 3 _ _ _ r, cell_of_row _ _ 4 _ _ _ r, cell_of_row _ _ 5 _ _ _ r⟩
  have DB : ∀ W : World, W.heap[q2]? = some (.cells #[.int .i64 (j : Int), .int .i64 (b : Int), .int .i64 ((b : Int) + 5), .int .i64 0, .slice ae2 1 ce2, .slice ao2 2 co2] 25 (0, 0)) → W.cell? ⟨q2, 0, none⟩ = some (.int .i64 (j : Int)) ∧ W.cell? ⟨q2, 1, none⟩ = some (.int .i64 (b : Int)) ∧ W.cell? ⟨q2, 2, none⟩ = some (.int .i64 ((b : Int) + 5)) ∧ W.cell? ⟨q2, 3, none⟩ = some (.int .i64 0) ∧ W.cell? ⟨q2, 4, none⟩ = some (.slice ae2 1 ce2) ∧ W.cell? ⟨q2, 5, none⟩ = some (.slice ao2 2 co2) := fun W r =>
    ⟨cell_of_row _ _ 0 _ _ _ r, cell_of_row _ _ 1 _ _ _ r, cell_of_row _ _ 2 _ _ _ r, cell_of_row _ _ 3 _ _ _ r, cell_of_row _ _ 4 _ _ _ r, cell_of_row _ _ 5 _ _ _ r⟩
  obtain ⟨d0, d1, d2, d3, d4, d5⟩ := DA v2 rA
  clear hr1 ho1 ho2 HR1 HR2 HV1 HV2 HMA1 HMA2 g1 G1 f1 F1 k1 V1 g2 G2 f2 F2 k2 V2 k12 rA
  go_wp2_with fail
  with_reducible refine nm1.mono ?_
  rintro e w5 ⟨p, rfl, op, b5⟩
  clear nm1 d0 d1 d2 d3 d4 d5 DA
  have W5 := nxt W2 b5
  have nm2' := nm2 w5 b5
  obtain ⟨ap, cp, rfl⟩ := owns_slice op
  obtain ⟨d0, d1, d2, d3, d4, d5⟩ := DB w5 (heap_below b5 rB)
  clear nm2
  go_wp2_with fail
  with_reducible refine nm2'.mono ?_
  rintro e w6 ⟨q, rfl, oq, b6⟩
  have W6 := nxt W5 b6
  have op6 := owns_below op b6
  obtain ⟨aq, cq, rfl⟩ := owns_slice oq
  obtain ⟨gp, rfl, -⟩ := owns_at op6 (by omega)
  obtain ⟨gq, rfl, -⟩ := owns_at oq (by omega)
  have p0 : w6.cell? ⟨gp, 0, none⟩ = some (.string (nameD i a)) := World.ownsRow.cellAt op6 0 (by omega)
  have p1 : w6.cell? ⟨gp, 1, none⟩ = some (.string (nameM i a)) := World.ownsRow.cellAt op6 1 (by omega)
  have q0 : w6.cell? ⟨gq, 0, none⟩ = some (.string (nameD j b)) := World.ownsRow.cellAt oq 0 (by omega)
  have q1' : w6.cell? ⟨gq, 1, none⟩ = some (.string (nameM j b)) := World.ownsRow.cellAt oq 1 (by omega)
  clear d0 d1 d2 d3 d4 d5 DB nm2' op op6 oq
  have n1 : nameD i a ≠ nameM i a := name_ne (by omega) (by omega) (by omega) (by omega)
  have n2 : nameD i a ≠ nameM j b := name_ne (by omega) (by omega) (by omega) (by omega)
  have n3 : nameM i a ≠ nameD j b := fun h => name_ne (by omega) (by omega) (by omega) (by omega) h.symm
  have HD := Lib.hid (fun h => nameD_inj (i := i) (a := a) (j := j) (b := b) (by omega) (by omega) (by omega) (by omega) h)
  have HM := Lib.hid (fun h => nameM_inj (i := i) (a := a) (j := j) (b := b) (by omega) (by omega) (by omega) (by omega) h)
  go_upto_region 14 with fail
  have t1 : ((nameD i a).toList == (nameM i a).toList) = false := by rw [name_beq]; exact decide_eq_false n1
  have t2 : ((nameD i a).toList == (nameM j b).toList) = false := by rw [name_beq]; exact decide_eq_false n2
  have t3 : ((nameM i a).toList == (nameD j b).toList) = false := by rw [name_beq]; exact decide_eq_false n3
  clear n1 n2 n3
  by_cases hs : i = j ∧ a = b
  · obtain ⟨rfl, rfl⟩ := hs
    have t4 : ((nameD i a).toList == (nameD i a).toList) = true := by rw [name_beq]; exact decide_eq_true rfl
    have t5 : ((nameM i a).toList == (nameM i a).toList) = true := by rw [name_beq]; exact decide_eq_true rfl
    go_region
    all_goals
      go_wp2_with fail
      go_region
      all_goals
        go_wp2_with fail
        go_ret
        exact ⟨rfl, W6.drew.drew⟩
  · have t4 : ((nameD i a).toList == (nameD j b).toList) = false := by rw [name_beq]; exact decide_eq_false (fun h => hs (HD.out h))
    have t5 : ((nameM i a).toList == (nameM j b).toList) = false := by rw [name_beq]; exact decide_eq_false (fun h => hs (HM.out h))
    by_cases hij : i = j
    · subst hij
      have hab : ¬ ((a : Int) = (b : Int)) := by omega
      have hab1 : decide ((a : Int) = (b : Int)) = false := decide_eq_false hab
      have hab2 : ((a : Int) == (b : Int)) = false := by rw [beq_eq_false_iff_ne]; exact hab
      clear hs
      go_region
      all_goals
        go_wp2_with fail
        go_region
        all_goals
          go_wp2_with fail
          go_ret
          exact ⟨rfl, W6.drew.drew⟩
    · have hij' : ¬ ((i : Int) = (j : Int)) := by omega
      have hij1 : decide ((i : Int) = (j : Int)) = false := decide_eq_false hij'
      have hij2 : ((i : Int) == (j : Int)) = false := by rw [beq_eq_false_iff_ne]; exact hij'
      clear hs hij
      go_region
      all_goals
        go_wp2_with fail
        go_region
        all_goals
          go_wp2_with fail
          go_ret
          exact ⟨rfl, W6.drew.drew⟩
end Go.Proofs.YtldopocmmeidkaaDoor
