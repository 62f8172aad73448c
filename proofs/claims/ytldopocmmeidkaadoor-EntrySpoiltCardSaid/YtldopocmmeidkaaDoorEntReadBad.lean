/- entry.Read on bytes that are none's: why not. -/
import Derived.Test.YtldopocmmeidkaaDoorEntFirst
import Derived.Test.YtldopocmmeidkaaDoorReaderFixed
import Derived.Deep.CutBlock
namespace Go.Proofs.YtldopocmmeidkaaDoor
open Go Go.RowKit Man Vint Crc

def zeroE : Value := .agg #[.int .i64 0, .int .i64 0, .int .i64 0, .int .i64 0, .int .i64 0, .slice none 0 0, .slice none 0 0]
def BadPost (v : Value) (w : World) (e : Ending) (w' : World) : Prop := e = .returned (.tuple #[.int .i64 0, zeroE, .int .i64 0, v]) ∧ Below w.heap.size w w'

set_option maxRecDepth 100000 in
set_option maxHeartbeats 1000000 in
theorem readBad_calls (T : TypeId) (u : Value) (w : World) : Calls Tryd.prog 69 #[.iface T u] w (BadPost (.iface T u) w) := by
  have b1 := below_alloc w (.cells #[.int .i64 0, .int .i64 0, .int .i64 0, .int .i64 0, .int .i64 0, .slice none 0 0, .slice none 0 0] 27)
  have row1 := heap_alloc_new w (.cells #[.int .i64 0, .int .i64 0, .int .i64 0, .int .i64 0, .int .i64 0, .slice none 0 0, .slice none 0 0] 27)
  go_enter Tryd.func69, Tryd.ntmps69
  go_wp2_with fail
  generalize w.alloc (.cells #[.int .i64 0, .int .i64 0, .int .i64 0, .int .i64 0, .int .i64 0, .slice none 0 0, .slice none 0 0] 27) = w1 at *
  have q0 : w1.cell? ⟨w.heap.size, 0, none⟩ = some (.int .i64 0) := cell_of_row _ _ 0 _ _ _ row1
  have q1 : w1.cell? ⟨w.heap.size, 1, none⟩ = some (.int .i64 0) := cell_of_row _ _ 1 _ _ _ row1
  have q2 : w1.cell? ⟨w.heap.size, 2, none⟩ = some (.int .i64 0) := cell_of_row _ _ 2 _ _ _ row1
  have q3 : w1.cell? ⟨w.heap.size, 3, none⟩ = some (.int .i64 0) := cell_of_row _ _ 3 _ _ _ row1
  have q4 : w1.cell? ⟨w.heap.size, 4, none⟩ = some (.int .i64 0) := cell_of_row _ _ 4 _ _ _ row1
  have q5 : w1.cell? ⟨w.heap.size, 5, none⟩ = some (.slice none 0 0) := cell_of_row _ _ 5 _ _ _ row1
  have q6 : w1.cell? ⟨w.heap.size, 6, none⟩ = some (.slice none 0 0) := cell_of_row _ _ 6 _ _ _ row1
  refine bodyPost_ret (v := .tuple #[.int .i64 0, zeroE, .int .i64 0, .iface T u]) (by simp [results, go_sem, q0, q1, q2, q3, q4, q5, q6, zeroE]) rfl ?_
  exact ⟨rfl, b1⟩

theorem zeroed {w W : World} {g : Nat} (row : W.heap[g]? = some (.cells #[.int .i64 0, .int .i64 0, .int .i64 0, .int .i64 0, .int .i64 0, .slice none 0 0, .slice none 0 0] 27 (0, 0))) (B : Below w.heap.size w W) (hg : w.heap.size ≤ g) :
    (((((((W.setCell ⟨g, 0, none⟩ (.int .i64 0)).setCell ⟨g, 1, none⟩ (.int .i64 0)).setCell ⟨g, 2, none⟩ (.int .i64 0)).setCell ⟨g, 3, none⟩ (.int .i64 0)).setCell ⟨g, 4, none⟩ (.int .i64 0)).setCell ⟨g, 5, none⟩ (.slice none 0 0)).setCell ⟨g, 6, none⟩ (.slice none 0 0)).heap[g]? = some (.cells #[.int .i64 0, .int .i64 0, .int .i64 0, .int .i64 0, .int .i64 0, .slice none 0 0, .slice none 0 0] 27 (0, 0)) ∧ Below w.heap.size w (((((((W.setCell ⟨g, 0, none⟩ (.int .i64 0)).setCell ⟨g, 1, none⟩ (.int .i64 0)).setCell ⟨g, 2, none⟩ (.int .i64 0)).setCell ⟨g, 3, none⟩ (.int .i64 0)).setCell ⟨g, 4, none⟩ (.int .i64 0)).setCell ⟨g, 5, none⟩ (.slice none 0 0)).setCell ⟨g, 6, none⟩ (.slice none 0 0)) :=
  ⟨heap_setCell_same _ g 6 _ _ _ (heap_setCell_same _ g 5 _ _ _ (heap_setCell_same _ g 4 _ _ _ (heap_setCell_same _ g 3 _ _ _ (heap_setCell_same _ g 2 _ _ _ (heap_setCell_same _ g 1 _ _ _ (heap_setCell_same W g 0 _ _ _ row)))))),
    ((((((B.setCell (p := ⟨g, 0, none⟩) hg _).setCell (p := ⟨g, 1, none⟩) hg _).setCell (p := ⟨g, 2, none⟩) hg _).setCell (p := ⟨g, 3, none⟩) hg _).setCell (p := ⟨g, 4, none⟩) hg _).setCell (p := ⟨g, 5, none⟩) hg _).setCell (p := ⟨g, 6, none⟩) hg _⟩

/-- Why there is no entry, as far as the sum. -/
def BadWhy (bs : List UInt8) (n i : Nat) : Prop :=
  (i = 3 ∧ 65536 < n) ∨ (i = 0 ∧ n ≤ 65536 ∧ bs.length < 4 + n) ∨ (i = 1 ∧ n ≤ 65536 ∧ 4 + n ≤ bs.length ∧ openL ((bs.drop 4).take n) = .sum)

set_option maxRecDepth 100000 in
set_option maxHeartbeats 2000000 in
theorem entRead_bad (S : List Nat) (A : Nat → Addr) {w : World} {v : Value} {bs : List UInt8} (hS : Sents S w A) (h0 : 0 ∈ S) (h1 : 1 ∈ S) (h3 : 3 ∈ S) (hR : Rd w 1 v bs.length (bvs bs)) (h4 : 4 ≤ bs.length) (hl : bs.length ≤ 100000) (n i : Nat) (hn : little (bs.take 4) = n) (hb : BadWhy bs n i) :
    Calls Tryd.prog 25 #[v] w (BadPost (senV A i) w) := by
  obtain ⟨a, c, rfl⟩ := hR.slice
  have hcap := hR.cap
  obtain ⟨x1, y1, s1, p1⟩ := part_all a bs.length c 1 0 4 (by omega) (by omega)
  have u1 : ∀ W, (Instr.sliceAt 30 (.slice a bs.length c) none (some (.int .i64 4)) none).run Tryd.prog W = .ok (.slice x1 4 y1) W := fun W => by
    have := run_cut_h 30 sl_u8 1 sz_u8 a bs.length c 4 .i64 (by omega) W
    rw [s1] at this
    exact this
  have b1 := below_alloc w (.cells #[.int .i64 0, .int .i64 0, .int .i64 0, .int .i64 0, .int .i64 0, .slice none 0 0, .slice none 0 0] 27)
  have row1 := heap_alloc_new w (.cells #[.int .i64 0, .int .i64 0, .int .i64 0, .int .i64 0, .int .i64 0, .slice none 0 0, .slice none 0 0] 27)
  have htl : (bs.take 4).length = 4 := by rw [List.length_take]; omega
  have HB := Lib.hid hb
  have HNN := Lib.hid hn
  clear hb hn
  go_enter Tryd.func25, Tryd.ntmps25
  go_upto_region 2 with fail
  obtain ⟨w1, hw1⟩ : ∃ w1, w1 = w.alloc (.cells #[.int .i64 0, .int .i64 0, .int .i64 0, .int .i64 0, .int .i64 0, .slice none 0 0, .slice none 0 0] 27) := ⟨_, rfl⟩
  obtain ⟨g, hg⟩ : ∃ g, g = w.heap.size := ⟨_, rfl⟩
  rw [← hw1] at b1 row1 ⊢
  have hgw : w.heap.size ≤ g := by omega
  rw [← hg] at row1 ⊢
  clear hw1 hg
  have rA := p1 w1 _ (hR.below b1)
  rw [Nat.sub_zero, Nat.zero_mul, Nat.mul_one, List.drop_zero, ← bvs_take] at rA
  have hnr := newReader_calls A (.slice x1 4 y1) (bs.take 4) w1 (by rw [htl]; exact rA) (by omega)
  have t4 : decide ((bs.length : Int) < 4) = false := decide_eq_false (by omega)
  clear rA p1 s1
  go_wp2_with fail
  with_reducible refine hnr.mono ?_
  rintro e w2 ⟨gr, rfl, hgr, r2, b2⟩
  have B2 := nxt b1 b2
  have row2 := heap_below b2 row1
  have hgl : g < w1.heap.size := (Array.getElem?_eq_some_iff.1 row1).1
  have haw : Away S A gr := Away.of_new hS (by omega)
  have f4 := fixed_calls' (hS.below B2) h0 haw r2 4
  unfold FixedPost at f4
  rw [fixed_yes (n := (4 : Int)) (s := rs0 (bs.take 4)) rfl 4 rfl (by decide) (by show ¬ ((bs.take 4).drop 0).length < 4; rw [List.drop_zero, htl]; omega)] at f4
  rw [show (rs0 (bs.take 4)).left.take 4 = bs.take 4 by show ((bs.take 4).drop 0).take 4 = _; rw [List.drop_zero, List.take_take]; rfl, HNN.out] at f4
  simp only at f4
  clear hnr b2
  go_wp2_with fail
  with_reducible refine f4.mono ?_
  rintro e w3 ⟨rfl, _, t3⟩
  have B3 := t3.new B2 (by omega)
  have row3 := t3.heap row2 (by omega)
  have hS3 := hS.below B3
  clear f4 t3 r2
  rcases HB.out with ⟨rfl, e1⟩ | ⟨rfl, e1, e2⟩ | ⟨rfl, e1, e2, e3⟩
  · have k3 : w3.cell? ⟨4, 0, none⟩ = some (.iface 180 (.pointer (some (A 3)))) := hS3.cell 3 h3
    have hbd := readBad_calls 180 (.pointer (some (A 3))) w3
    go_wp2_with fail
    have hwg := B3.size
    with_reducible refine hbd.mono ?_
    rintro e wb ⟨rfl, bb⟩
    have Bb := nxt B3 bb
    have rowb := heap_below bb row3
    unfold zeroE
    have f0 : wb.cell? ⟨g, 0, none⟩ = some (.int .i64 0) := cell_of_row _ _ 0 _ _ _ rowb
    have z0 : wb.frozen? ⟨g, 0, none⟩ = false := frozen_of_row _ g 0 _ _ rowb
    have f1 : wb.cell? ⟨g, 1, none⟩ = some (.int .i64 0) := cell_of_row _ _ 1 _ _ _ rowb
    have z1 : wb.frozen? ⟨g, 1, none⟩ = false := frozen_of_row _ g 1 _ _ rowb
    have f2 : wb.cell? ⟨g, 2, none⟩ = some (.int .i64 0) := cell_of_row _ _ 2 _ _ _ rowb
    have z2 : wb.frozen? ⟨g, 2, none⟩ = false := frozen_of_row _ g 2 _ _ rowb
    have f3 : wb.cell? ⟨g, 3, none⟩ = some (.int .i64 0) := cell_of_row _ _ 3 _ _ _ rowb
    have z3 : wb.frozen? ⟨g, 3, none⟩ = false := frozen_of_row _ g 3 _ _ rowb
    have f4 : wb.cell? ⟨g, 4, none⟩ = some (.int .i64 0) := cell_of_row _ _ 4 _ _ _ rowb
    have z4 : wb.frozen? ⟨g, 4, none⟩ = false := frozen_of_row _ g 4 _ _ rowb
    have f5 : wb.cell? ⟨g, 5, none⟩ = some (.slice none 0 0) := cell_of_row _ _ 5 _ _ _ rowb
    have z5 : wb.frozen? ⟨g, 5, none⟩ = false := frozen_of_row _ g 5 _ _ rowb
    have f6 : wb.cell? ⟨g, 6, none⟩ = some (.slice none 0 0) := cell_of_row _ _ 6 _ _ _ rowb
    have z6 : wb.frozen? ⟨g, 6, none⟩ = false := frozen_of_row _ g 6 _ _ rowb
    obtain ⟨rz, Bz⟩ := zeroed rowb Bb hgw
    clear hbd rowb bb
    go_wp2_with fail
    clear f0 f1 f2 f3 f4 f5 f6 z0 z1 z2 z3 z4 z5 z6
    generalize (((((((wb.setCell ⟨g, 0, none⟩ (.int .i64 0)).setCell ⟨g, 1, none⟩ (.int .i64 0)).setCell ⟨g, 2, none⟩ (.int .i64 0)).setCell ⟨g, 3, none⟩ (.int .i64 0)).setCell ⟨g, 4, none⟩ (.int .i64 0)).setCell ⟨g, 5, none⟩ (.slice none 0 0)).setCell ⟨g, 6, none⟩ (.slice none 0 0)) = wz at *
    have q0 : wz.cell? ⟨g, 0, none⟩ = some (.int .i64 0) := cell_of_row _ _ 0 _ _ _ rz
    have q1 : wz.cell? ⟨g, 1, none⟩ = some (.int .i64 0) := cell_of_row _ _ 1 _ _ _ rz
    have q2 : wz.cell? ⟨g, 2, none⟩ = some (.int .i64 0) := cell_of_row _ _ 2 _ _ _ rz
    have q3 : wz.cell? ⟨g, 3, none⟩ = some (.int .i64 0) := cell_of_row _ _ 3 _ _ _ rz
    have q4 : wz.cell? ⟨g, 4, none⟩ = some (.int .i64 0) := cell_of_row _ _ 4 _ _ _ rz
    have q5 : wz.cell? ⟨g, 5, none⟩ = some (.slice none 0 0) := cell_of_row _ _ 5 _ _ _ rz
    have q6 : wz.cell? ⟨g, 6, none⟩ = some (.slice none 0 0) := cell_of_row _ _ 6 _ _ _ rz
    refine bodyPost_ret (v := .tuple #[.int .i64 0, zeroE, .int .i64 0, senV A 3]) (by simp [results, go_sem, q0, q1, q2, q3, q4, q5, q6, zeroE, senV]) rfl ?_
    exact ⟨rfl, Bz⟩
  · have k0 : w3.cell? ⟨3, 0, none⟩ = some (.iface 180 (.pointer (some (A 0)))) := hS3.cell 0 h0
    have e1' : decide ((65536 : Int) < (n : Int)) = false := decide_eq_false (by omega)
    obtain ⟨L4, hL4⟩ : ∃ L4, L4 = bs.length - 4 := ⟨_, rfl⟩
    have m1 : IntKind.i64.wrap ((bs.length : Int) - 4) = (L4 : Int) := by rw [IntKind.wrap_i64]; omega
    have m2 : IntKind.u64.wrap (L4 : Int) = (L4 : Int) := by rw [IntKind.wrap_u64]; omega
    have m3 : L4 < n := by omega
    clear hL4
    have hbd := readBad_calls 180 (.pointer (some (A 0))) w3
    go_wp2_with fail
    have hwg := B3.size
    with_reducible refine hbd.mono ?_
    rintro e wb ⟨rfl, bb⟩
    have Bb := nxt B3 bb
    have rowb := heap_below bb row3
    unfold zeroE
    have f0 : wb.cell? ⟨g, 0, none⟩ = some (.int .i64 0) := cell_of_row _ _ 0 _ _ _ rowb
    have z0 : wb.frozen? ⟨g, 0, none⟩ = false := frozen_of_row _ g 0 _ _ rowb
    have f1 : wb.cell? ⟨g, 1, none⟩ = some (.int .i64 0) := cell_of_row _ _ 1 _ _ _ rowb
    have z1 : wb.frozen? ⟨g, 1, none⟩ = false := frozen_of_row _ g 1 _ _ rowb
    have f2 : wb.cell? ⟨g, 2, none⟩ = some (.int .i64 0) := cell_of_row _ _ 2 _ _ _ rowb
    have z2 : wb.frozen? ⟨g, 2, none⟩ = false := frozen_of_row _ g 2 _ _ rowb
    have f3 : wb.cell? ⟨g, 3, none⟩ = some (.int .i64 0) := cell_of_row _ _ 3 _ _ _ rowb
    have z3 : wb.frozen? ⟨g, 3, none⟩ = false := frozen_of_row _ g 3 _ _ rowb
    have f4 : wb.cell? ⟨g, 4, none⟩ = some (.int .i64 0) := cell_of_row _ _ 4 _ _ _ rowb
    have z4 : wb.frozen? ⟨g, 4, none⟩ = false := frozen_of_row _ g 4 _ _ rowb
    have f5 : wb.cell? ⟨g, 5, none⟩ = some (.slice none 0 0) := cell_of_row _ _ 5 _ _ _ rowb
    have z5 : wb.frozen? ⟨g, 5, none⟩ = false := frozen_of_row _ g 5 _ _ rowb
    have f6 : wb.cell? ⟨g, 6, none⟩ = some (.slice none 0 0) := cell_of_row _ _ 6 _ _ _ rowb
    have z6 : wb.frozen? ⟨g, 6, none⟩ = false := frozen_of_row _ g 6 _ _ rowb
    obtain ⟨rz, Bz⟩ := zeroed rowb Bb hgw
    clear hbd rowb bb
    go_wp2_with fail
    clear f0 f1 f2 f3 f4 f5 f6 z0 z1 z2 z3 z4 z5 z6
    generalize (((((((wb.setCell ⟨g, 0, none⟩ (.int .i64 0)).setCell ⟨g, 1, none⟩ (.int .i64 0)).setCell ⟨g, 2, none⟩ (.int .i64 0)).setCell ⟨g, 3, none⟩ (.int .i64 0)).setCell ⟨g, 4, none⟩ (.int .i64 0)).setCell ⟨g, 5, none⟩ (.slice none 0 0)).setCell ⟨g, 6, none⟩ (.slice none 0 0)) = wz at *
    have q0 : wz.cell? ⟨g, 0, none⟩ = some (.int .i64 0) := cell_of_row _ _ 0 _ _ _ rz
    have q1 : wz.cell? ⟨g, 1, none⟩ = some (.int .i64 0) := cell_of_row _ _ 1 _ _ _ rz
    have q2 : wz.cell? ⟨g, 2, none⟩ = some (.int .i64 0) := cell_of_row _ _ 2 _ _ _ rz
    have q3 : wz.cell? ⟨g, 3, none⟩ = some (.int .i64 0) := cell_of_row _ _ 3 _ _ _ rz
    have q4 : wz.cell? ⟨g, 4, none⟩ = some (.int .i64 0) := cell_of_row _ _ 4 _ _ _ rz
    have q5 : wz.cell? ⟨g, 5, none⟩ = some (.slice none 0 0) := cell_of_row _ _ 5 _ _ _ rz
    have q6 : wz.cell? ⟨g, 6, none⟩ = some (.slice none 0 0) := cell_of_row _ _ 6 _ _ _ rz
    refine bodyPost_ret (v := .tuple #[.int .i64 0, zeroE, .int .i64 0, senV A 0]) (by simp [results, go_sem, q0, q1, q2, q3, q4, q5, q6, zeroE, senV]) rfl ?_
    exact ⟨rfl, Bz⟩
  · have e1' : decide ((65536 : Int) < (n : Int)) = false := decide_eq_false (by omega)
    obtain ⟨L4, hL4⟩ : ∃ L4, L4 = bs.length - 4 := ⟨_, rfl⟩
    have m1 : IntKind.i64.wrap ((bs.length : Int) - 4) = (L4 : Int) := by rw [IntKind.wrap_i64]; omega
    have m2 : IntKind.u64.wrap (L4 : Int) = (L4 : Int) := by rw [IntKind.wrap_u64]; omega
    have m3 : decide (L4 < n) = false := decide_eq_false (by omega)
    obtain ⟨n4, hn4⟩ : ∃ n4, n4 = 4 + n := ⟨_, rfl⟩
    have m4 : IntKind.i64.wrap (n : Int) = (n : Int) := by rw [IntKind.wrap_i64]; omega
    have m5 : IntKind.i64.wrap (4 + (n : Int)) = (n4 : Int) := by rw [IntKind.wrap_i64]; omega
    obtain ⟨x2, y2, s2, p2⟩ := part_all a bs.length c 1 4 n4 (by omega) (by omega)
    rw [show n4 - 4 = n by omega] at s2 p2
    have u2 : ∀ W, (Instr.sliceAt 30 (.slice a bs.length c) (some (.int .i64 4)) (some (.int .i64 (n4 : Int))) none).run Tryd.prog W = .ok (.slice x2 n y2) W := fun W => by
      have := run_cut_lh 30 sl_u8 1 sz_u8 a bs.length c 4 n4 .i64 .i64 (by omega) (by omega) W
      rw [s2] at this
      exact this
    have rB := p2 w3 _ (hR.below B3)
    rw [Nat.mul_one, Nat.mul_one, ← bvs_part] at rB
    have hll : ((bs.drop 4).take n).length = n := by rw [List.length_take, List.length_drop]; omega
    have hop := open_calls S A h0 h1 (.slice x2 n y2) ((bs.drop 4).take n) w3 hS3 (by rw [hll]; exact rB) (by omega)
    rw [e3] at hop
    clear hL4 hn4 s2 p2 rB hll e3
    go_wp2_with fail
    with_reducible refine hop.mono ?_
    rintro e w4 ⟨b4, rfl⟩
    have B4 := nxt B3 b4
    have row4 := heap_below b4 row3
    unfold senV
    clear hop
    have hbd := readBad_calls 180 (.pointer (some (A 1))) w4
    go_wp2_with fail
    have hwg := B4.size
    with_reducible refine hbd.mono ?_
    rintro e wb ⟨rfl, bb⟩
    have Bb := nxt B4 bb
    have rowb := heap_below bb row4
    unfold zeroE
    have f0 : wb.cell? ⟨g, 0, none⟩ = some (.int .i64 0) := cell_of_row _ _ 0 _ _ _ rowb
    have z0 : wb.frozen? ⟨g, 0, none⟩ = false := frozen_of_row _ g 0 _ _ rowb
    have f1 : wb.cell? ⟨g, 1, none⟩ = some (.int .i64 0) := cell_of_row _ _ 1 _ _ _ rowb
    have z1 : wb.frozen? ⟨g, 1, none⟩ = false := frozen_of_row _ g 1 _ _ rowb
    have f2 : wb.cell? ⟨g, 2, none⟩ = some (.int .i64 0) := cell_of_row _ _ 2 _ _ _ rowb
    have z2 : wb.frozen? ⟨g, 2, none⟩ = false := frozen_of_row _ g 2 _ _ rowb
    have f3 : wb.cell? ⟨g, 3, none⟩ = some (.int .i64 0) := cell_of_row _ _ 3 _ _ _ rowb
    have z3 : wb.frozen? ⟨g, 3, none⟩ = false := frozen_of_row _ g 3 _ _ rowb
    have f4 : wb.cell? ⟨g, 4, none⟩ = some (.int .i64 0) := cell_of_row _ _ 4 _ _ _ rowb
    have z4 : wb.frozen? ⟨g, 4, none⟩ = false := frozen_of_row _ g 4 _ _ rowb
    have f5 : wb.cell? ⟨g, 5, none⟩ = some (.slice none 0 0) := cell_of_row _ _ 5 _ _ _ rowb
    have z5 : wb.frozen? ⟨g, 5, none⟩ = false := frozen_of_row _ g 5 _ _ rowb
    have f6 : wb.cell? ⟨g, 6, none⟩ = some (.slice none 0 0) := cell_of_row _ _ 6 _ _ _ rowb
    have z6 : wb.frozen? ⟨g, 6, none⟩ = false := frozen_of_row _ g 6 _ _ rowb
    obtain ⟨rz, Bz⟩ := zeroed rowb Bb hgw
    clear hbd rowb bb
    go_wp2_with fail
    clear f0 f1 f2 f3 f4 f5 f6 z0 z1 z2 z3 z4 z5 z6
    generalize (((((((wb.setCell ⟨g, 0, none⟩ (.int .i64 0)).setCell ⟨g, 1, none⟩ (.int .i64 0)).setCell ⟨g, 2, none⟩ (.int .i64 0)).setCell ⟨g, 3, none⟩ (.int .i64 0)).setCell ⟨g, 4, none⟩ (.int .i64 0)).setCell ⟨g, 5, none⟩ (.slice none 0 0)).setCell ⟨g, 6, none⟩ (.slice none 0 0)) = wz at *
    have q0 : wz.cell? ⟨g, 0, none⟩ = some (.int .i64 0) := cell_of_row _ _ 0 _ _ _ rz
    have q1 : wz.cell? ⟨g, 1, none⟩ = some (.int .i64 0) := cell_of_row _ _ 1 _ _ _ rz
    have q2 : wz.cell? ⟨g, 2, none⟩ = some (.int .i64 0) := cell_of_row _ _ 2 _ _ _ rz
    have q3 : wz.cell? ⟨g, 3, none⟩ = some (.int .i64 0) := cell_of_row _ _ 3 _ _ _ rz
    have q4 : wz.cell? ⟨g, 4, none⟩ = some (.int .i64 0) := cell_of_row _ _ 4 _ _ _ rz
    have q5 : wz.cell? ⟨g, 5, none⟩ = some (.slice none 0 0) := cell_of_row _ _ 5 _ _ _ rz
    have q6 : wz.cell? ⟨g, 6, none⟩ = some (.slice none 0 0) := cell_of_row _ _ 6 _ _ _ rz
    refine bodyPost_ret (v := .tuple #[.int .i64 0, zeroE, .int .i64 0, senV A 1]) (by simp [results, go_sem, q0, q1, q2, q3, q4, q5, q6, zeroE, senV]) rfl ?_
    exact ⟨rfl, Bz⟩
end Go.Proofs.YtldopocmmeidkaaDoor
