/- ManiMakes: the manifest of a segment names its objects, with their lengths and sums, that check them, and no others of one length; as bytes, and back, it is the same. -/
import Derived.Test.YtegiingcnhafbaaGreatDoorMakesMath
import Derived.Test.YtegiingcnhafbaaGreatDoorRefMake
import Derived.Test.YtegiingcnhafbaaGreatDoorRefSameMan
import Derived.Test.YtegiingcnhafbaaGreatDoorManRead
import Derived.Test.YtegiingcnhafbaaGreatDoorManBy
import Derived.Test.YtegiingcnhafbaaGreatDoorManFirst
import Derived.Test.YtegiingcnhafbaaGreatDoorRefBytes
import Derived.Test.YtegiingcnhafbaaGreatDoorNumber
import Derived.Deep.CutBlock
namespace Go.Proofs.YtegiingcnhafbaaGreatDoor
open Go Go.RowKit Man Vint Crc

def zM : ManD := ⟨0, 0, 0, 0, [], []⟩
theorem zM_rd (w : World) : ManRd w zM (.slice none 0 0) (.slice none 0 0) := ⟨Rd.nil _ _, Rd.nil _ _⟩

theorem putOk_mk {m : ManD} (h : manOk m) (hk : Man.Ok m) : PutOk m := by
  unfold manOk rangeOk objsOk at h
  obtain ⟨⟨g1, g2, g3, g4, g5, g6, g7, g8, g9⟩, hev, -, ⟨-, h8, h9, -⟩⟩ := h
  obtain ⟨e1, e2, -⟩ := (Epo.valid_iff m.eps).1 hev
  refine ⟨by omega, by omega, by omega, by omega, e1, fun p hp => ?_, h8, fun o ho => ?_⟩
  · rw [List.all_eq_true] at e2
    have := e2 p hp
    unfold Epo.right at this
    rw [decide_eq_true_eq] at this
    omega
  · obtain ⟨i, hi, rfl⟩ := List.mem_iff_getElem.1 ho
    obtain ⟨q1, q2, q3⟩ := h9 i hi
    have := (hk.objs _ ho).2
    unfold nameOk at q1
    rw [decide_eq_true_eq] at q1
    exact ⟨q1.2.1, by omega, by omega⟩

set_option maxRecDepth 100000 in
set_option maxHeartbeats 4000000 in
theorem maniMakes_walk (S : List Nat) (A : Nat → Addr) (id base fin time at' : Int) (eps : List Epo.Pr) (ld lm : List UInt8) (vp vd vm : Value) (w : World) (hS : Sents S w A) (hall : All S) (ht : Tens w)
    (hp : Rd w 2 vp eps.length (eps.flatMap prV)) (hd : Rd w 1 vd ld.length (bvs ld)) (hm : Rd w 1 vm lm.length (bvs lm)) (k1 : I64 id) (k2 : I64 base) (k3 : I64 fin) (k4 : I64 time) (kp : ∀ p ∈ eps, I64 p.ep ∧ I64 p.st) :
    Calls Tryz.prog 3 #[.int .i64 id, .int .i64 base, .int .i64 fin, .int .i64 time, vp, vd, vm, .int .i64 at'] w (fun e w' => e = .returned (.bool true) ∧ Below w.heap.size w w') := by
  obtain ⟨ap, cp, rfl⟩ := hp.slice
  obtain ⟨ad, cd, rfl⟩ := hd.slice
  obtain ⟨am, cm, rfl⟩ := hm.slice
  have hf := manFirst_calls S A hS hall
  by_cases t1 : 20 < eps.length
  case pos =>
    have t1' : decide (20 < (eps.length : Int)) = true := decide_eq_true (by omega)
    clear t1 hp hd hm kp
    go_enter Tryz.func3, Tryz.ntmps3
    go_wp2_with fail
    with_reducible refine hf.mono ?_
    rintro e w2 ⟨rfl, b2⟩
    go_wp2_with fail
    go_ret
    exact ⟨rfl, b2⟩
  have t1' : decide (20 < (eps.length : Int)) = false := decide_eq_false (by omega)
  by_cases t2 : 200 < ld.length
  case pos =>
    have t2' : decide (200 < (ld.length : Int)) = true := decide_eq_true (by omega)
    clear t1 t2 hp hd hm kp
    go_enter Tryz.func3, Tryz.ntmps3
    go_wp2_with fail
    with_reducible refine hf.mono ?_
    rintro e w2 ⟨rfl, b2⟩
    go_wp2_with fail
    go_ret
    exact ⟨rfl, b2⟩
  have t2' : decide (200 < (ld.length : Int)) = false := decide_eq_false (by omega)
  by_cases t3 : 200 < lm.length
  case pos =>
    have t3' : decide (200 < (lm.length : Int)) = true := decide_eq_true (by omega)
    clear t1 t2 t3 hp hd hm kp
    go_enter Tryz.func3, Tryz.ntmps3
    go_wp2_with fail
    with_reducible refine hf.mono ?_
    rintro e w2 ⟨rfl, b2⟩
    go_wp2_with fail
    go_ret
    exact ⟨rfl, b2⟩
  have t3' : decide (200 < (lm.length : Int)) = false := decide_eq_false (by omega)
  have he : eps.length ≤ 300 := by omega
  have hld : ld.length ≤ 200 := by omega
  have hlm : lm.length ≤ 200 := by omega
  clear t1 t2 t3
  obtain ⟨M, hM⟩ : ∃ M, M = makeM id base fin time eps ld lm := ⟨_, rfl⟩
  have hmk := fun W (hB : Below w.heap.size w W) => maniMake_calls S A id base fin time (hS.below hB) (hall 2 (by decide)) (hall 3 (by decide)) (hall 4 (by decide)) (hall 5 (by decide)) (ht.below hB) he (hp.below hB) (hd.below hB) (hm.below hB)
  have hrm := fun W (hB : Below w.heap.size w W) => refMake_calls id base fin time he (hp.below hB) (hd.below hB) (hm.below hB)
  rw [← hM] at hmk hrm
  have hMA : ∀ ve vo, manA M ve vo = .agg #[.int .i64 id, .int .i64 base, .int .i64 fin, .int .i64 time, ve, vo] := fun _ _ => by rw [hM]; rfl
  have hre : M.eps.length = eps.length := by rw [hM]; rfl
  have hro : M.objs.length = 2 := by rw [hM]; rfl
  have hsm : Small M := by
    unfold Small
    rw [hre, hro]
    refine ⟨he, by omega, ?_⟩
    rw [hM]
    intro o ho
    unfold makeM at ho
    simp only [List.mem_cons, List.not_mem_nil, or_false] at ho
    rcases ho with rfl | rfl
    · unfold objectOf; have := objectName_size id ⟨#[100, 97, 116, 97]⟩ base; simp only; omega
    · unfold objectOf; have := objectName_size id ⟨#[109, 97, 114, 107, 115]⟩ base; simp only; omega
  have hOk : Man.Ok M := by rw [hM]; exact made_Ok k1 k2 k3 k4 kp (by omega) (by omega)
  obtain ⟨O1, hO1⟩ : ∃ o, o = objectOf id ⟨#[100, 97, 116, 97]⟩ base ld := ⟨_, rfl⟩
  obtain ⟨O2, hO2⟩ : ∃ o, o = objectOf id ⟨#[109, 97, 114, 107, 115]⟩ base lm := ⟨_, rfl⟩
  have HOV : Hid (M.objs.flatMap obV = [.string O1.name, .int .i64 O1.len, .int .u32 (O1.sum : Int), .string O2.name, .int .i64 O2.len, .int .u32 (O2.sum : Int)]) := Lib.hid (by rw [hM, hO1, hO2]; rfl)
  have K1 : Hid (chk O1 ld = .fine) := Lib.hid (by rw [hO1]; exact chk_of _ _ _ _)
  have K2 : Hid (chk O2 lm = .fine) := Lib.hid (by rw [hO2]; exact chk_of _ _ _ _)
  have K3 : Hid (∀ (j : Nat) (hj : j < ld.length), chk O1 (ld.set j (ld[j] ^^^ 64)) = .bare 1) := Lib.hid (fun j hj => by rw [hO1]; exact chk_turned _ _ _ _ j hj (by decide))
  have K4 : Hid (∀ x : List UInt8, x.length < ld.length → chk O1 x = .bare 2) := Lib.hid (fun x hx => by rw [hO1]; exact chk_short _ _ _ _ _ hx)
  clear hO1 hO2
  have HM := Lib.hid hM
  have HMA := Lib.hid hMA
  have HRE := Lib.hid hre
  have HRO := Lib.hid hro
  have HSM := Lib.hid hsm
  have HOK := Lib.hid hOk
  have HP := Lib.hid hp
  have HD := Lib.hid hd
  have HMR := Lib.hid hm
  clear hM hMA hre hro hsm hOk kp hp hd hm
  go_enter Tryz.func3, Tryz.ntmps3
  go_wp2_with fail
  with_reducible refine hf.mono ?_
  rintro e w2 ⟨rfl, b2⟩
  clear hf
  have hmk2 := hmk w2 b2
  go_wp2_with fail
  with_reducible refine hmk2.mono ?_
  rintro e u1 ⟨f1, hm1⟩
  clear hmk hmk2
  have F1 := nxt b2 f1
  have z1 := below_alloc u1 (.cells #[.int .i64 0, .int .i64 0, .int .i64 0, .int .i64 0, .slice none 0 0, .slice none 0 0] 27)
  have rz1 := heap_alloc_new u1 (.cells #[.int .i64 0, .int .i64 0, .int .i64 0, .int .i64 0, .slice none 0 0, .slice none 0 0] 27)
  rcases hm1 with ⟨hok, ve1, vo1, rfl, hr1⟩ | ⟨hno, er1, T, u, rfl, hmb1, her1⟩
  case inr =>
    have HNO := Lib.hid hno
    have HMB := Lib.hid hmb1
    have HER := Lib.hid her1
    clear hno hmb1 her1
    go_wp2_with (refine wpList_store_row_g rfl 27 _ _ rfl u1.heap.size _ rfl rfl 27 _ rz1 manSize rfl (by simp [Value.oneCell']) ?_)
    intro v1 rv1 gr1 hs1
    have kk1 : Below u1.heap.size u1 v1 := z1.grown gr1 z1.size (fun k hk => by simp only [Option.some.injEq] at hk; omega)
    have V1 := nxt F1 kk1
    have her2 := Lib.hid (HER.out.below kk1)
    clear z1 rz1 gr1 hs1 HER
    obtain ⟨q1, hq1⟩ : ∃ q, q = u1.heap.size := ⟨_, rfl⟩
    rw [← hq1] at rv1 ⊢
    clear hq1 f1 kk1 F1
    have hrm2 := hrm v1 V1
    go_wp2_with fail
    with_reducible refine hrm2.mono ?_
    rintro e u2 ⟨f2, hm2⟩
    clear hrm hrm2
    rcases hm2 with ⟨hok, -⟩ | ⟨-, er2, rfl, hmb2⟩
    case inl => exact absurd hok HNO.out
    obtain rfl := HMB.out.uniq hmb2
    have F2 := nxt V1 f2
    obtain ⟨cd', hcd⟩ : ∃ c, c = er1.code := ⟨_, rfl⟩
    obtain ⟨ch, hch⟩ : ∃ c, c = er1.has := ⟨_, rfl⟩
    obtain ⟨cp', hcp⟩ : ∃ c, c = er1.pos := ⟨_, rfl⟩
    have hfv : er1.fault = fv cd' ch cp' := by rw [hcd, hch, hcp]; exact er1.fault_eq
    rw [hfv]
    have HTT : Hid (decide (er1.code = cd' ∧ er1.has = ch ∧ er1.pos = cp') = true) := Lib.hid (by rw [hcd, hch, hcp]; simp)
    clear hfv hcd hch hcp hmb2
    unfold fv
    have y1 := below_alloc u2 (.cells #[.int .i64 0, .int .i64 0, .int .i64 0, .int .i64 0, .slice none 0 0, .slice none 0 0] 27)
    have ry1 := heap_alloc_new u2 (.cells #[.int .i64 0, .int .i64 0, .int .i64 0, .int .i64 0, .slice none 0 0, .slice none 0 0] 27)
    have y2 := below_alloc (u2.alloc (.cells #[.int .i64 0, .int .i64 0, .int .i64 0, .int .i64 0, .slice none 0 0, .slice none 0 0] 27)) (.cells #[.int .i64 0, .bool false, .int .i64 0] 33)
    have ry2 := heap_alloc_new (u2.alloc (.cells #[.int .i64 0, .int .i64 0, .int .i64 0, .int .i64 0, .slice none 0 0, .slice none 0 0] 27)) (.cells #[.int .i64 0, .bool false, .int .i64 0] 33)
    rw [show (u2.alloc (.cells #[.int .i64 0, .int .i64 0, .int .i64 0, .int .i64 0, .slice none 0 0, .slice none 0 0] 27)).heap.size = u2.heap.size + 1 by simp] at ry2
    have ry1 := heap_below y2 ry1
    have y12 := nxt y1 y2
    have hsz2 : ((u2.alloc (.cells #[.int .i64 0, .int .i64 0, .int .i64 0, .int .i64 0, .slice none 0 0, .slice none 0 0] 27)).alloc (.cells #[.int .i64 0, .bool false, .int .i64 0] 33)).heap.size = u2.heap.size + 2 := by simp
    go_wp2_with (refine wpList_store_row_g rfl 27 _ _ rfl u2.heap.size _ rfl rfl 27 _ ry1 manSize rfl (by simp [Value.oneCell']) ?_)
    intro v2 rv2 gr2 hs2
    have ry3 : v2.heap[u2.heap.size + 1]? = some _ := (gr2.block (u2.heap.size + 1) (by rw [hsz2]; omega) (by simp)).trans ry2
    have c2 : Below u2.heap.size u2 v2 := y12.grown gr2 y12.size (fun k hk => by simp only [Option.some.injEq] at hk; omega)
    clear ry1 ry2 y1 y2 gr2
    go_wp2_with (refine wpList_store_row_g rfl 33 _ _ rfl (u2.heap.size + 1) _ rfl rfl 33 _ ry3 faultSize rfl (by simp [Value.oneCell']) ?_)
    intro v3 rv3 gr3 hs3
    have rv2' : v3.heap[u2.heap.size]? = some _ := (gr3.block u2.heap.size (by omega) (by simp)).trans rv2
    have c3 : Below u2.heap.size u2 v3 := c2.grown gr3 c2.size (fun k hk => by simp only [Option.some.injEq] at hk; omega)
    have V3 := nxt F2 c3
    have c13 := nxt f2 c3
    have rv1' := heap_below c13 rv1
    have her3 := (her2.out.below c13).at
    clear ry3 c2 gr3 hs3 hs2 rv2 hsz2 y12 rv1
    obtain ⟨q2, hq2⟩ : ∃ q, q = u2.heap.size := ⟨_, rfl⟩
    rw [← hq2] at rv2' rv3 ⊢
    clear hq2 c13 c3 F2 V1 f2 her2
    have D1 : ∀ W, Below v3.heap.size v3 W → W.cell? ⟨q1, 0, none⟩ = some (.int .i64 0) ∧ W.cell? ⟨q1, 1, none⟩ = some (.int .i64 0) ∧ W.cell? ⟨q1, 2, none⟩ = some (.int .i64 0) ∧ W.cell? ⟨q1, 3, none⟩ = some (.int .i64 0) ∧ W.cell? ⟨q1, 4, none⟩ = some (.slice none 0 0) ∧ W.cell? ⟨q1, 5, none⟩ = some (.slice none 0 0) := fun W hB => by
      have r := heap_below hB rv1'
      exact ⟨cell_of_row _ _ 0 _ _ _ r, cell_of_row _ _ 1 _ _ _ r, cell_of_row _ _ 2 _ _ _ r, cell_of_row _ _ 3 _ _ _ r, cell_of_row _ _ 4 _ _ _ r, cell_of_row _ _ 5 _ _ _ r⟩
    have D2 : ∀ W, Below v3.heap.size v3 W → W.cell? ⟨q2, 0, none⟩ = some (.int .i64 0) ∧ W.cell? ⟨q2, 1, none⟩ = some (.int .i64 0) ∧ W.cell? ⟨q2, 2, none⟩ = some (.int .i64 0) ∧ W.cell? ⟨q2, 3, none⟩ = some (.int .i64 0) ∧ W.cell? ⟨q2, 4, none⟩ = some (.slice none 0 0) ∧ W.cell? ⟨q2, 5, none⟩ = some (.slice none 0 0) := fun W hB => by
      have r := heap_below hB rv2'
      exact ⟨cell_of_row _ _ 0 _ _ _ r, cell_of_row _ _ 1 _ _ _ r, cell_of_row _ _ 2 _ _ _ r, cell_of_row _ _ 3 _ _ _ r, cell_of_row _ _ 4 _ _ _ r, cell_of_row _ _ 5 _ _ _ r⟩
    have h0 : v3.cell? ⟨q2 + 1, 0, none⟩ = some (.int .i64 cd') := cell_of_row _ _ 0 _ _ _ rv3
    have h1 : v3.cell? ⟨q2 + 1, 1, none⟩ = some (.bool ch) := cell_of_row _ _ 1 _ _ _ rv3
    have h2 : v3.cell? ⟨q2 + 1, 2, none⟩ = some (.int .i64 cp') := cell_of_row _ _ 2 _ _ _ rv3
    have hsame := same_calls (hS.below V3) hall (.iface T u) er1 her3 cd' cp' ch
    rw [HTT.out] at hsame
    unfold fv at hsame
    clear rv1' rv2' rv3 her3
    go_wp2_with fail
    with_reducible refine hsame.mono ?_
    rintro e w4 ⟨rfl, b4⟩
    clear hsame h0 h1 h2
    have V4 := nxt V3 b4
    obtain ⟨d0, d1, d2, d3, d4, d5⟩ := D1 w4 b4
    obtain ⟨e0, e1, e2, e3, e4, e5⟩ := D2 w4 b4
    have hsm1 := sameMan_calls (zM_rd w4) (zM_rd w4)
    rw [decide_eq_true (rfl : zM = zM), show manA zM (.slice none 0 0) (.slice none 0 0) = .agg #[.int .i64 0, .int .i64 0, .int .i64 0, .int .i64 0, .slice none 0 0, .slice none 0 0] from rfl] at hsm1
    clear D2 D1
    go_wp2_with fail
    with_reducible refine hsm1.mono ?_
    rintro e w5 ⟨rfl, b5⟩
    go_wp2_with fail
    go_ret
    exact ⟨rfl, nxt V4 b5⟩
  obtain ⟨ae1, ce1, rfl⟩ := hr1.1.slice
  obtain ⟨ao1, co1, rfl⟩ := hr1.2.slice
  obtain ⟨gb, oo, rfl, -, -, hx1⟩ := hr1.2.at (by rw [HRO.out]; omega)
  rw [HOV.out] at hx1
  rw [HMA.out, HRE.out, HRO.out]
  have HR1 := Lib.hid hr1
  have HYES := Lib.hid hok
  have OB1 : ∀ W, Below u1.heap.size u1 W → W.cell? ⟨gb, oo, none⟩ = some (.string O1.name) ∧ W.cell? ⟨gb, oo + 1, none⟩ = some (.int .i64 O1.len) ∧ W.cell? ⟨gb, oo + 2, none⟩ = some (.int .u32 (O1.sum : Int)) ∧ W.cell? ⟨gb, oo + 3, none⟩ = some (.string O2.name) ∧ W.cell? ⟨gb, oo + 4, none⟩ = some (.int .i64 O2.len) ∧ W.cell? ⟨gb, oo + 5, none⟩ = some (.int .u32 (O2.sum : Int)) := fun W hB => by
    have P : ∀ j u, ([.string O1.name, .int .i64 O1.len, .int .u32 (O1.sum : Int), .string O2.name, .int .i64 O2.len, .int .u32 (O2.sum : Int)] : List Value)[j]? = some u → W.cell? ⟨gb, oo + j, none⟩ = some u := fun j u hu => (hB.cell (World.block_lt_of_cell? _ _ (hx1 j u hu))).trans (hx1 j u hu)
    exact ⟨P 0 _ rfl, P 1 _ rfl, P 2 _ rfl, P 3 _ rfl, P 4 _ rfl, P 5 _ rfl⟩
  clear hr1 hok hx1
  go_wp2_with (refine wpList_store_row_g rfl 27 _ _ rfl u1.heap.size _ rfl rfl 27 _ rz1 manSize rfl (by simp [Value.oneCell']) ?_)
  intro v1 rv1 gr1 hs1
  have kk1 : Below u1.heap.size u1 v1 := z1.grown gr1 z1.size (fun k hk => by simp only [Option.some.injEq] at hk; omega)
  have V1 := nxt F1 kk1
  have hr1 := HR1.out.below kk1
  clear z1 rz1 gr1 hs1 HR1
  have OB2 := fun W (hB : Below v1.heap.size v1 W) => OB1 W (nxt kk1 hB)
  clear OB1
  obtain ⟨q1, hq1⟩ : ∃ q, q = u1.heap.size := ⟨_, rfl⟩
  rw [← hq1] at rv1 ⊢
  clear hq1 f1 kk1 F1
  have hrm2 := hrm v1 V1
  go_wp2_with fail
  with_reducible refine hrm2.mono ?_
  rintro e u2 ⟨f2, hm2⟩
  clear hrm hrm2
  rcases hm2 with ⟨-, ve2, vo2, rfl, hr2⟩ | ⟨hno, -⟩
  case inr => exact absurd HYES.out hno
  obtain ⟨ae2, ce2, rfl⟩ := hr2.1.slice
  obtain ⟨ao2, co2, rfl⟩ := hr2.2.slice
  rw [HMA.out, HRE.out, HRO.out]
  unfold fv
  have F2 := nxt V1 f2
  have HR2 := Lib.hid hr2
  clear hr2
  have y1 := below_alloc u2 (.cells #[.int .i64 0, .int .i64 0, .int .i64 0, .int .i64 0, .slice none 0 0, .slice none 0 0] 27)
  have ry1 := heap_alloc_new u2 (.cells #[.int .i64 0, .int .i64 0, .int .i64 0, .int .i64 0, .slice none 0 0, .slice none 0 0] 27)
  have y2 := below_alloc (u2.alloc (.cells #[.int .i64 0, .int .i64 0, .int .i64 0, .int .i64 0, .slice none 0 0, .slice none 0 0] 27)) (.cells #[.int .i64 0, .bool false, .int .i64 0] 33)
  have ry2 := heap_alloc_new (u2.alloc (.cells #[.int .i64 0, .int .i64 0, .int .i64 0, .int .i64 0, .slice none 0 0, .slice none 0 0] 27)) (.cells #[.int .i64 0, .bool false, .int .i64 0] 33)
  rw [show (u2.alloc (.cells #[.int .i64 0, .int .i64 0, .int .i64 0, .int .i64 0, .slice none 0 0, .slice none 0 0] 27)).heap.size = u2.heap.size + 1 by simp] at ry2
  have ry1 := heap_below y2 ry1
  have y12 := nxt y1 y2
  have hsz2 : ((u2.alloc (.cells #[.int .i64 0, .int .i64 0, .int .i64 0, .int .i64 0, .slice none 0 0, .slice none 0 0] 27)).alloc (.cells #[.int .i64 0, .bool false, .int .i64 0] 33)).heap.size = u2.heap.size + 2 := by simp
  go_wp2_with (refine wpList_store_row_g rfl 27 _ _ rfl u2.heap.size _ rfl rfl 27 _ ry1 manSize rfl (by simp [Value.oneCell']) ?_)
  intro v2 rv2 gr2 hs2
  have ry3 : v2.heap[u2.heap.size + 1]? = some _ := (gr2.block (u2.heap.size + 1) (by rw [hsz2]; omega) (by simp)).trans ry2
  have c2 : Below u2.heap.size u2 v2 := y12.grown gr2 y12.size (fun k hk => by simp only [Option.some.injEq] at hk; omega)
  clear ry1 ry2 y1 y2 gr2
  go_wp2_with (refine wpList_store_row_g rfl 33 _ _ rfl (u2.heap.size + 1) _ rfl rfl 33 _ ry3 faultSize rfl (by simp [Value.oneCell']) ?_)
  intro v3 rv3 gr3 hs3
  have rv2' : v3.heap[u2.heap.size]? = some _ := (gr3.block u2.heap.size (by omega) (by simp)).trans rv2
  have c3 : Below u2.heap.size u2 v3 := c2.grown gr3 c2.size (fun k hk => by simp only [Option.some.injEq] at hk; omega)
  have V3 := nxt F2 c3
  have hr2 := HR2.out.below c3
  have c13 := nxt f2 c3
  have rv1' := heap_below c13 rv1
  have OB := fun W (hB : Below v3.heap.size v3 W) => OB2 W (nxt c13 hB)
  clear OB2
  have hr1' := hr1.below c13
  clear ry3 c2 gr3 hs3 hs2 rv2 HR2 hsz2 y12 rv1 hr1
  obtain ⟨q2, hq2⟩ : ∃ q, q = u2.heap.size := ⟨_, rfl⟩
  rw [← hq2] at rv2' rv3 ⊢
  clear hq2 c13 c3 F2 V1 f2
  have D1 : ∀ W, Below v3.heap.size v3 W → W.cell? ⟨q1, 0, none⟩ = some (.int .i64 id) ∧ W.cell? ⟨q1, 1, none⟩ = some (.int .i64 base) ∧ W.cell? ⟨q1, 2, none⟩ = some (.int .i64 fin) ∧ W.cell? ⟨q1, 3, none⟩ = some (.int .i64 time) ∧ W.cell? ⟨q1, 4, none⟩ = some (.slice ae1 eps.length ce1) ∧ W.cell? ⟨q1, 5, none⟩ = some (.slice (some ⟨gb, oo, none⟩) 2 co1) := fun W hB => by
    have r := heap_below hB rv1'
    exact ⟨cell_of_row _ _ 0 _ _ _ r, cell_of_row _ _ 1 _ _ _ r, cell_of_row _ _ 2 _ _ _ r, cell_of_row _ _ 3 _ _ _ r, cell_of_row _ _ 4 _ _ _ r, cell_of_row _ _ 5 _ _ _ r⟩
  have D2 : ∀ W, Below v3.heap.size v3 W → W.cell? ⟨q2, 0, none⟩ = some (.int .i64 id) ∧ W.cell? ⟨q2, 1, none⟩ = some (.int .i64 base) ∧ W.cell? ⟨q2, 2, none⟩ = some (.int .i64 fin) ∧ W.cell? ⟨q2, 3, none⟩ = some (.int .i64 time) ∧ W.cell? ⟨q2, 4, none⟩ = some (.slice ae2 eps.length ce2) ∧ W.cell? ⟨q2, 5, none⟩ = some (.slice ao2 2 co2) := fun W hB => by
    have r := heap_below hB rv2'
    exact ⟨cell_of_row _ _ 0 _ _ _ r, cell_of_row _ _ 1 _ _ _ r, cell_of_row _ _ 2 _ _ _ r, cell_of_row _ _ 3 _ _ _ r, cell_of_row _ _ 4 _ _ _ r, cell_of_row _ _ 5 _ _ _ r⟩
  have h0 : v3.cell? ⟨q2 + 1, 0, none⟩ = some (.int .i64 0) := cell_of_row _ _ 0 _ _ _ rv3
  have h1 : v3.cell? ⟨q2 + 1, 1, none⟩ = some (.bool false) := cell_of_row _ _ 1 _ _ _ rv3
  have h2 : v3.cell? ⟨q2 + 1, 2, none⟩ = some (.int .i64 0) := cell_of_row _ _ 2 _ _ _ rv3
  have hsame := same_calls (hS.below V3) hall .nilIface .fine rfl 0 0 false
  rw [show decide (Er.fine.code = 0 ∧ Er.fine.has = false ∧ Er.fine.pos = 0) = true from by decide] at hsame
  unfold fv at hsame
  clear rv1' rv2' rv3
  have HR1 := Lib.hid hr1'
  have HR2 := Lib.hid hr2
  clear hr1' hr2
  go_wp2_with fail
  with_reducible refine hsame.mono ?_
  rintro e w4 ⟨rfl, b4⟩
  clear hsame h0 h1 h2
  have V4 := nxt V3 b4
  obtain ⟨d0, d1, d2, d3, d4, d5⟩ := D1 w4 b4
  obtain ⟨e0, e1, e2, e3, e4, e5⟩ := D2 w4 b4
  have hsm1 := sameMan_calls (HR1.out.below b4) (HR2.out.below b4)
  rw [HMA.out, HMA.out, decide_eq_true (rfl : M = M), HRE.out, HRO.out] at hsm1
  clear D2
  go_wp2_with fail
  with_reducible refine hsm1.mono ?_
  rintro e w5 ⟨rfl, b5⟩
  clear hsm1 d0 d1 d2 d3 d4 d5 e0 e1 e2 e3 e4 e5
  have b45 := nxt b4 b5
  have V5 := nxt V3 b45
  obtain ⟨d0, d1, d2, d3, d4, d5⟩ := D1 w5 b45
  have hby := maniBytes_is S A (hS.below V5) (hall 2 (by decide)) (hall 3 (by decide)) (hall 4 (by decide)) (hall 5 (by decide)) (HR1.out.below b45) HSM.out HOK.out
  rw [HMA.out, HRE.out, HRO.out] at hby
  go_wp2_with fail
  with_reducible refine hby.mono ?_
  rintro e w6 ⟨hby6, b6⟩
  clear hby d0 d1 d2 d3 d4 d5
  rcases hby6 with ⟨-, vb, rfl, ob, hbl⟩ | ⟨hno, -⟩
  case inr => exact absurd HYES.out hno
  have V6 := nxt V5 b6
  have b46 := nxt b45 b6
  obtain ⟨ab, cb, rfl⟩ := owns_slice ob
  have hsl := sealed_len (mbody M)
  have hrd := maniRead_calls S A (hS.below V6) (hall 0 (by decide)) (hall 1 (by decide)) (hall 2 (by decide)) (hall 3 (by decide)) (hall 4 (by decide)) (hall 5 (by decide)) (Rd.of_owns ob) (by omega)
  have hro : openL (sealed (mbody M)) = .ok (mbody M) := openL_sealed _
  have hrr : readM (mbody M) = some M := by
    have := readM_put M (putOk_mk HYES.out HOK.out) []
    rw [List.append_nil] at this
    simpa using this
  obtain ⟨SL, hSL⟩ : ∃ n, n = (sealed (mbody M)).length := ⟨_, rfl⟩
  obtain ⟨SB, hSB⟩ : ∃ n, n = sealed (mbody M) := ⟨_, rfl⟩
  rw [← hSL] at hrd ⊢
  rw [← hSB] at hrd hro
  have HRO2 := Lib.hid hro
  have HRR := Lib.hid hrr
  clear hSL hSB hsl hbl ob hro hrr
  go_wp2_with fail
  with_reducible refine hrd.mono ?_
  rintro e u7 ⟨b7, h7⟩
  clear hrd
  rcases h7 with ⟨b', m', ve3, vo3, g1, g2, -, rfl, g3, g4⟩ | ⟨T, u, rfl, -, g1⟩
  case inr => exact absurd HYES.out (g1 _ _ HRO2.out HRR.out)
  rw [HRO2.out] at g1
  simp only [OR.ok.injEq] at g1
  subst g1
  rw [HRR.out] at g2
  simp only [Option.some.injEq] at g2
  subst g2
  have hr3 : ManRd u7 M ve3 vo3 := ⟨Rd.of_owns g3, Rd.of_owns g4⟩
  obtain ⟨ae3, ce3, rfl⟩ := hr3.1.slice
  obtain ⟨ao3, co3, rfl⟩ := hr3.2.slice
  rw [HMA.out, HRE.out, HRO.out]
  have HR3 := Lib.hid hr3
  have z1 := below_alloc u7 (.cells #[.int .i64 0, .int .i64 0, .int .i64 0, .int .i64 0, .slice none 0 0, .slice none 0 0] 27)
  have rz1 := heap_alloc_new u7 (.cells #[.int .i64 0, .int .i64 0, .int .i64 0, .int .i64 0, .slice none 0 0, .slice none 0 0] 27)
  clear g3 g4 hr3
  go_wp2_with (refine wpList_store_row_g rfl 27 _ _ rfl u7.heap.size _ rfl rfl 27 _ rz1 manSize rfl (by simp [Value.oneCell']) ?_)
  intro v7 rv7 gr7 hs7
  have c7 : Below u7.heap.size u7 v7 := z1.grown gr7 z1.size (fun k hk => by simp only [Option.some.injEq] at hk; omega)
  have hr3 := HR3.out.below c7
  have b47 := nxt b46 (nxt b7 c7)
  have V7 := nxt V3 b47
  clear z1 rz1 gr7 hs7 HR3
  obtain ⟨q3, hq3⟩ : ∃ q, q = u7.heap.size := ⟨_, rfl⟩
  rw [← hq3] at rv7 ⊢
  clear hq3 c7 b7 b46 V6 V5 V4 b4 b5 b45 b6 HRO2 HRR
  obtain ⟨d0, d1, d2, d3, d4, d5⟩ := D1 v7 b47
  have e0 : v7.cell? ⟨q3, 0, none⟩ = some (.int .i64 id) := cell_of_row _ _ 0 _ _ _ rv7
  have e1 : v7.cell? ⟨q3, 1, none⟩ = some (.int .i64 base) := cell_of_row _ _ 1 _ _ _ rv7
  have e2 : v7.cell? ⟨q3, 2, none⟩ = some (.int .i64 fin) := cell_of_row _ _ 2 _ _ _ rv7
  have e3 : v7.cell? ⟨q3, 3, none⟩ = some (.int .i64 time) := cell_of_row _ _ 3 _ _ _ rv7
  have e4 : v7.cell? ⟨q3, 4, none⟩ = some (.slice ae3 eps.length ce3) := cell_of_row _ _ 4 _ _ _ rv7
  have e5 : v7.cell? ⟨q3, 5, none⟩ = some (.slice ao3 2 co3) := cell_of_row _ _ 5 _ _ _ rv7
  have hsm2 := maniSame_calls (HR1.out.below b47) hr3
  rw [HMA.out, HMA.out, decide_eq_true (rfl : M = M), HRE.out, HRO.out] at hsm2
  clear hr3 rv7
  go_wp2_with fail
  with_reducible refine hsm2.mono ?_
  rintro e w8 ⟨rfl, b8⟩
  clear hsm2 d0 d1 d2 d3 d4 d5 e0 e1 e2 e3 e4 e5
  have b48 := nxt b47 b8
  have V8 := nxt V3 b48
  obtain ⟨d0, d1, d2, d3, d4, d5⟩ := D1 w8 b48
  obtain ⟨e0, e1, e2, e3, e4, e5⟩ := OB w8 b48
  have hc1 := maniCheck_calls S A O1 (hS.below V8) (hall 1 (by decide)) (hall 2 (by decide)) (HD.out.below V8)
  go_wp2_with fail
  with_reducible refine hc1.mono ?_
  rintro e w9 ⟨u, rfl, hu, b9⟩
  rw [K1.out] at hu
  obtain rfl : u = .nilIface := hu
  clear hc1 d0 d1 d2 d3 d4 d5 e0 e1 e2 e3 e4 e5
  have b49 := nxt b48 b9
  have V9 := nxt V3 b49
  obtain ⟨d0, d1, d2, d3, d4, d5⟩ := D1 w9 b49
  obtain ⟨e0, e1, e2, e3, e4, e5⟩ := OB w9 b49
  have hc2 := maniCheck_calls S A O2 (hS.below V9) (hall 1 (by decide)) (hall 2 (by decide)) (HMR.out.below V9)
  go_wp2_with fail
  with_reducible refine hc2.mono ?_
  rintro e wa ⟨u, rfl, hu, ba⟩
  rw [K2.out] at hu
  obtain rfl : u = .nilIface := hu
  clear hc2 d0 d1 d2 d3 d4 d5 e0 e1 e2 e3 e4 e5
  have b4a := nxt b49 ba
  have Va := nxt V3 b4a
  by_cases h0 : ld.length = 0
  · have h0' : ((ld.length : Int) == 0) = true := by rw [beq_iff_eq]; omega
    have h0'' : (ld.length == 0) = true := by rw [beq_iff_eq]; omega
    clear h0 D1 OB
    go_wp2_with fail
    go_ret
    exact ⟨rfl, Va⟩
  have h0' : ((ld.length : Int) == 0) = false := by rw [beq_eq_false_iff_ne]; omega
  have h0'' : (ld.length == 0) = false := by rw [beq_eq_false_iff_ne]; omega
  have hlp : 0 < ld.length := by omega
  have hrb := refBytes_calls (.slice ad ld.length cd) ld wa (HD.out.below Va) (by omega)
  clear h0
  go_wp2_with fail
  with_reducible refine hrb.mono ?_
  rintro e wb ⟨vb2, rfl, ob, bb⟩
  clear hrb
  obtain ⟨ab, cb', rfl⟩ := owns_slice ob
  obtain ⟨gx, rfl, hgx⟩ := owns_at ob hlp
  have b4b := nxt b4a bb
  have Vb := nxt V3 b4b
  have hnum := number_calls at' (ld.length : Int) wb (by omega) (by omega)
  go_wp2_with fail
  with_reducible refine hnum.mono ?_
  rintro e wb' ⟨rfl, rfl⟩
  obtain ⟨j, hj, hjl⟩ : ∃ j : Nat, at' % (ld.length : Int) = (j : Int) ∧ j < ld.length := by
    have e1 := Int.emod_nonneg at' (show (ld.length : Int) ≠ 0 by omega)
    have e2 := Int.emod_lt_of_pos at' (show (0 : Int) < (ld.length : Int) by omega)
    exact ⟨(at' % (ld.length : Int)).toNat, by omega, by omega⟩
  rw [hj]
  clear hj hnum
  have k1 := World.ownsRow.cellAt ob j (by simpa [bvs] using hjl)
  rw [bvs_at ld j hjl] at k1
  have hfr := World.ownsRow.frozenAt ob j
  have x1 := u8x ld[j] 64
  rw [show (((64 : UInt8).toNat : Nat) : Int) = 64 from rfl] at x1
  have hst := (World.ownsRow.stored ob j (.int .u8 (((ld[j] ^^^ 64).toNat : Nat) : Int))).1
  rw [bvs_set] at hst
  have hgx3 : v3.heap.size ≤ gx := Nat.le_trans b4a.size hgx
  have Bc : Below v3.heap.size v3 (wb.setCell ⟨gx, j, none⟩ (.int .u8 (((ld[j] ^^^ 64).toNat : Nat) : Int))) := b4b.setCell (p := ⟨gx, j, none⟩) hgx3 _
  have hch1 := K3.out j hjl
  obtain ⟨z, hz⟩ : ∃ z, z = ld[j] ^^^ 64 := ⟨_, rfl⟩
  rw [← hz] at x1 hst Bc hch1
  have hlen : (ld.set j z).length = ld.length := by simp
  have hch2 := K4.out ((ld.set j z).drop 1) (by rw [List.length_drop, hlen]; omega)
  have HT := Lib.hid hst
  have HB := Lib.hid Bc
  have HC1 := Lib.hid hch1
  have HC2 := Lib.hid hch2
  clear hst Bc hch1 hch2 hz ob bb b4b ba
  generalize ld[j] = x at *
  go_upto_region 20 with fail
  have B13 := HB.out
  have o13 := HT.out
  clear HT HB k1 hfr x1
  generalize World.setCell _ _ _ = wc at *
  have rc : Rd wc 1 (.slice (some ⟨gx, 0, none⟩) ld.length cb') (ld.set j z).length (bvs (ld.set j z)) := by rw [hlen]; exact Rd.of_owns o13
  obtain ⟨ar, cr, hq, hr⟩ := run_rest 23 sl_u8 1 sz_u8 (some ⟨gx, 0, none⟩) ld.length cb' 1 .i64 (by omega)
  have rd1 := hr wc (bvs (ld.set j z)) (by rw [← hlen]; have := rc; rw [hlen] at this ⊢; exact this)
  rw [show ((1 : Nat) : Int) = 1 from rfl] at hq
  obtain ⟨N1, hN1⟩ : ∃ n, n = ld.length - 1 := ⟨_, rfl⟩
  have hl1 : ((ld.set j z).drop 1).length = N1 := by rw [List.length_drop, hlen, hN1]
  rw [← hN1] at hq rd1
  have rd1' : Rd wc 1 (.slice ar N1 cr) ((ld.set j z).drop 1).length (bvs ((ld.set j z).drop 1)) := by
    rw [hl1]
    have e : (bvs (ld.set j z)).drop (1 * 1) = bvs ((ld.set j z).drop 1) := by unfold bvs; rw [Nat.mul_one, List.map_drop]
    rw [e] at rd1
    exact rd1
  have RC := Lib.hid rc
  have RD1 := Lib.hid rd1'
  have Vc := nxt V3 B13
  clear rc rd1 rd1' o13 hr hl1 hN1 hlen
  obtain ⟨d0, d1, d2, d3, d4, d5⟩ := D1 wc B13
  obtain ⟨e0, e1, e2, e3, e4, e5⟩ := OB wc B13
  have SF : ∀ W, Below wc.heap.size wc W → W.cell? ⟨q1, 5, none⟩ = some (.slice (some ⟨gb, oo, none⟩) 2 co1) ∧ W.cell? ⟨gb, oo, none⟩ = some (.string O1.name) ∧ W.cell? ⟨gb, oo + 1, none⟩ = some (.int .i64 O1.len) ∧ W.cell? ⟨gb, oo + 2, none⟩ = some (.int .u32 (O1.sum : Int)) := fun W hB => by
    obtain ⟨_, _, _, _, _, g5⟩ := D1 W (nxt B13 hB)
    obtain ⟨f0, f1, f2, _, _, _⟩ := OB W (nxt B13 hB)
    exact ⟨g5, f0, f1, f2⟩
  have hcc1 := fun W (hB : Below wc.heap.size wc W) => maniCheck_calls S A O1 (hS.below (nxt Vc hB)) (hall 1 (by decide)) (hall 2 (by decide)) (RC.out.below hB)
  have hcc2 := fun W (hB : Below wc.heap.size wc W) => maniCheck_calls S A O1 (hS.below (nxt Vc hB)) (hall 1 (by decide)) (hall 2 (by decide)) (RD1.out.below hB)
  clear d0 d1 d2 d3 d4 e3 e4 e5 D1 OB HR1 HR2
  refine wp_region_ord (S := (fun W => W.cell? ⟨q1, 5, none⟩ = some (.slice (some ⟨gb, oo, none⟩) 2 co1) ∧ W.cell? ⟨gb, oo, none⟩ = some (.string O1.name) ∧ W.cell? ⟨gb, oo + 1, none⟩ = some (.int .i64 O1.len) ∧ W.cell? ⟨gb, oo + 2, none⟩ = some (.int .u32 (O1.sum : Int)))) [(0, true), (1, true), (2, true), (3, true), (4, true), (5, false), (6, false), (7, true), (8, true), (9, true), (10, true), (11, true), (12, true), (13, true), (14, false), (15, false), (16, true), (17, true)] (by kernel_rfl) (by kernel_rfl) rfl (by kernel_rfl) (fun _ _ _ _ _ h => h) ⟨d5, e0, e1, e2⟩ ?_
  simp only [List.map_cons, List.map_nil, List.getElem?_toArray, List.getElem?_cons_succ, List.getElem?_cons_zero]
  iterate 5 (refine ord_take (v := ?_) (by kernel_rfl) (fun w hSw => ?_) ?_; rotate_left; (focus ((obtain ⟨s0, s1, s2, s3⟩ := hSw); (try dsimp only at s0 s1 s2 s3); go_simp; (first | done | with_reducible rfl))); simp only [Act.put, List.setIfInBounds_toArray, List.set_cons_zero, List.set_cons_succ])
  refine ord_do (by kernel_rfl) (fun K hK => ?_)
  go_simp
  go_at_call 12
  have bD : Below wc.heap.size wc wc.drew := (Below.refl _ _).drew
  with_reducible refine (hcc1 _ bD).mono ?_
  rintro e wd ⟨u, rfl, hu, bd⟩
  have bcd := nxt bD bd
  rw [HC1.out] at hu
  obtain ⟨-, rfl⟩ : 1 < 19 ∧ u = senV A 1 := hu
  clear hcc1
  have hi1 := is_calls (hS.below (nxt Vc bcd)) hall (senV A 1) (.bare 1) ⟨by omega, rfl⟩ 102
  rw [show decide ((Er.bare 1).code = 102 ∧ (Er.bare 1).has = false ∧ (Er.bare 1).pos = 0) = true from by decide] at hi1
  show K _ _
  refine hK.out _ _ (SF _ bcd) ?_
  clear hK
  try simp only [Act.put, List.setIfInBounds_toArray, List.set_cons_zero, List.set_cons_succ]
  refine ord_do (by kernel_rfl) (fun K hK => ?_)
  go_simp
  go_at_call 15
  with_reducible refine hi1.mono ?_
  rintro e we ⟨rfl, be⟩
  have bce := nxt bcd be
  clear hi1
  show K _ _
  refine hK.out _ _ (SF _ bce) ?_
  clear hK
  try simp only [Act.put, List.setIfInBounds_toArray, List.set_cons_zero, List.set_cons_succ]
  iterate 7 (refine ord_take (v := ?_) (by kernel_rfl) (fun w hSw => ?_) ?_; rotate_left; (focus ((obtain ⟨s0, s1, s2, s3⟩ := hSw); (try dsimp only at s0 s1 s2 s3); go_simp; (first | done | with_reducible rfl))); simp only [Act.put, List.setIfInBounds_toArray, List.set_cons_zero, List.set_cons_succ])
  refine ord_do (by kernel_rfl) (fun K hK => ?_)
  go_simp
  go_at_call 12
  with_reducible refine (hcc2 _ bce).mono ?_
  rintro e wf ⟨u, rfl, hu, bf⟩
  have bcf := nxt bce bf
  rw [HC2.out] at hu
  obtain ⟨-, rfl⟩ : 2 < 19 ∧ u = senV A 2 := hu
  clear hcc2
  have hi2 := is_calls (hS.below (nxt Vc bcf)) hall (senV A 2) (.bare 2) ⟨by omega, rfl⟩ 103
  rw [show decide ((Er.bare 2).code = 103 ∧ (Er.bare 2).has = false ∧ (Er.bare 2).pos = 0) = true from by decide] at hi2
  show K _ _
  refine hK.out _ _ (SF _ bcf) ?_
  clear hK
  try simp only [Act.put, List.setIfInBounds_toArray, List.set_cons_zero, List.set_cons_succ]
  refine ord_do (by kernel_rfl) (fun K hK => ?_)
  go_simp
  go_at_call 15
  with_reducible refine hi2.mono ?_
  rintro e wg ⟨rfl, bg⟩
  have bcg := nxt bcf bg
  clear hi2
  show K _ _
  refine hK.out _ _ (SF _ bcg) ?_
  clear hK
  try simp only [Act.put, List.setIfInBounds_toArray, List.set_cons_zero, List.set_cons_succ]
  iterate 2 (refine ord_take (v := ?_) (by kernel_rfl) (fun w hSw => ?_) ?_; rotate_left; (focus ((obtain ⟨s0, s1, s2, s3⟩ := hSw); (try dsimp only at s0 s1 s2 s3); go_simp; (first | done | with_reducible rfl))); simp only [Act.put, List.setIfInBounds_toArray, List.set_cons_zero, List.set_cons_succ])
  refine ord_nil ?_
  go_wp2_with fail
  go_ret
  exact ⟨rfl, nxt Vc bcg⟩
end Go.Proofs.YtegiingcnhafbaaGreatDoor
