/- cordwoodlaw15.first. Merged of: EntFirst, EntReadBad, EntRead, EntMath. -/
import Derived.Test.YtldopocmmeidkaaDoorEntBy
import Derived.Test.YtldopocmmeidkaaDoorSee
import Derived.Test.YtldopocmmeidkaaDoorSameBytes
import Derived.Test.YtldopocmmeidkaaDoorReaderFixed
import Derived.Deep.CutBlock
import Derived.Test.YtldopocmmeidkaaDoorManRead
import Derived.Test.YtldopocmmeidkaaDoorManRM

/-! cordwoodlaw15.first. -/
namespace Go.Proofs.YtldopocmmeidkaaDoor
open Go Go.RowKit Man Vint Crc

theorem entNext_calls (w : World) : Calls Tryd.prog 28 #[.int .i64 2, .int .i64 4] w (fun e w' => e = .returned (.bool false) ∧ ∃ n, w' = w.drewN n) := by
  go_enter Tryd.func28, Tryd.ntmps28
  go_wp2_with fail
  go_ret
  exact ⟨rfl, 0, rfl⟩
theorem entFirst_calls (w : World) : Calls Tryd.prog 9 #[] w (fun e w' => e = .returned (.bool true) ∧ ∃ n, w' = w.drewN n) := by
  have hn := entNext_calls w
  go_enter Tryd.func9, Tryd.ntmps9
  go_wp2_with fail
  with_reducible refine hn.mono ?_
  rintro e w1 ⟨rfl, n, rfl⟩
  go_wp2_with fail
  go_ret
  exact ⟨rfl, n, rfl⟩
end Go.Proofs.YtldopocmmeidkaaDoor

/-! entry.Read on bytes that are none's: why not. -/
namespace Go.Proofs.YtldopocmmeidkaaDoor
open Go Go.RowKit Man Vint Crc

def zeroE : Value := .agg #[.int .i64 0, .int .i64 0, .int .i64 0, .int .i64 0, .int .i64 0, .slice none 0 0, .slice none 0 0]
def BadPost (v : Value) (w : World) (e : Ending) (w' : World) : Prop := e = .returned (.tuple #[.int .i64 0, zeroE, .int .i64 0, v]) ∧ Below w.heap.size w w'

set_option maxRecDepth 100000 in
set_option maxHeartbeats 1000000 in
theorem readBad_calls (T : TypeId) (u : Value) (w : World) : Calls Tryd.prog 69 #[.iface T u] w (BadPost (.iface T u) w) := by
  have b1 := below_alloc w (.cells #[.int .i64 0, .int .i64 0, .int .i64 0, .int .i64 0, .int .i64 0, .slice none 0 0, .slice none 0 0] 27)
  have row1 := heap_alloc_new w (.cells #[.int .i64 0, .int .i64 0, .int .i64 0, .int .i64 0, .int .i64 0, .slice none 0 0, .slice none 0 0] 27)
  go_enter Tryd.func69, Tryd.ntmps69
  go_wp2_with fail
  generalize w.alloc (.cells #[.int .i64 0, .int .i64 0, .int .i64 0, .int .i64 0, .int .i64 0, .slice none 0 0, .slice none 0 0] 27) = w1 at *
  have q0 : w1.cell? ⟨w.heap.size, 0, none⟩ = some (.int .i64 0) := cell_of_row _ _ 0 _ _ _ row1
  have q1 : w1.cell? ⟨w.heap.size, 1, none⟩ = some (.int .i64 0) := cell_of_row _ _ 1 _ _ _ row1
  have q2 : w1.cell? ⟨w.heap.size, 2, none⟩ = some (.int .i64 0) := cell_of_row _ _ 2 _ _ _ row1
  have q3 : w1.cell? ⟨w.heap.size, 3, none⟩ = some (.int .i64 0) := cell_of_row _ _ 3 _ _ _ row1
  have q4 : w1.cell? ⟨w.heap.size, 4, none⟩ = some (.int .i64 0) := cell_of_row _ _ 4 _ _ _ row1
  have q5 : w1.cell? ⟨w.heap.size, 5, none⟩ = some (.slice none 0 0) := cell_of_row _ _ 5 _ _ _ row1
  have q6 : w1.cell? ⟨w.heap.size, 6, none⟩ = some (.slice none 0 0) := cell_of_row _ _ 6 _ _ _ row1
  refine bodyPost_ret (v := .tuple #[.int .i64 0, zeroE, .int .i64 0, .iface T u]) (by simp [results, go_sem, q0, q1, q2, q3, q4, q5, q6, zeroE]) rfl ?_
  exact ⟨rfl, b1⟩

theorem zeroed {w W : World} {g : Nat} (row : W.heap[g]? = some (.cells #[.int .i64 0, .int .i64 0, .int .i64 0, .int .i64 0, .int .i64 0, .slice none 0 0, .slice none 0 0] 27 (0, 0))) (B : Below w.heap.size w W) (hg : w.heap.size ≤ g) :
    (((((((W.setCell ⟨g, 0, none⟩ (.int .i64 0)).setCell ⟨g, 1, none⟩ (.int .i64 0)).setCell ⟨g, 2, none⟩ (.int .i64 0)).setCell ⟨g, 3, none⟩ (.int .i64 0)).setCell ⟨g, 4, none⟩ (.int .i64 0)).setCell ⟨g, 5, none⟩ (.slice none 0 0)).setCell ⟨g, 6, none⟩ (.slice none 0 0)).heap[g]? = some (.cells #[.int .i64 0, .int .i64 0, .int .i64 0, .int .i64 0, .int .i64 0, .slice none 0 0, .slice none 0 0] 27 (0, 0)) ∧ Below w.heap.size w (((((((W.setCell ⟨g, 0, none⟩ (.int .i64 0)).setCell ⟨g, 1, none⟩ (.int .i64 0)).setCell ⟨g, 2, none⟩ (.int .i64 0)).setCell ⟨g, 3, none⟩ (.int .i64 0)).setCell ⟨g, 4, none⟩ (.int .i64 0)).setCell ⟨g, 5, none⟩ (.slice none 0 0)).setCell ⟨g, 6, none⟩ (.slice none 0 0)) :=
  ⟨heap_setCell_same _ g 6 _ _ _ (heap_setCell_same _ g 5 _ _ _ (heap_setCell_same _ g 4 _ _ _ (heap_setCell_same _ g 3 _ _ _ (heap_setCell_same _ g 2 _ _ _ (heap_setCell_same _ g 1 _ _ _ (heap_setCell_same W g 0 _ _ _ row)))))),
    ((((((B.setCell (p := ⟨g, 0, none⟩) hg _).setCell (p := ⟨g, 1, none⟩) hg _).setCell (p := ⟨g, 2, none⟩) hg _).setCell (p := ⟨g, 3, none⟩) hg _).setCell (p := ⟨g, 4, none⟩) hg _).setCell (p := ⟨g, 5, none⟩) hg _).setCell (p := ⟨g, 6, none⟩) hg _⟩

/-- Why there is no entry, as far as the sum. -/
def BadWhy (bs : List UInt8) (n i : Nat) : Prop :=
  (i = 3 ∧ 65536 < n) ∨ (i = 0 ∧ n ≤ 65536 ∧ bs.length < 4 + n) ∨ (i = 1 ∧ n ≤ 65536 ∧ 4 + n ≤ bs.length ∧ openL ((bs.drop 4).take n) = .sum)

set_option maxRecDepth 100000 in
set_option maxHeartbeats 2000000 in
theorem entRead_bad (S : List Nat) (A : Nat → Addr) {w : World} {v : Value} {bs : List UInt8} (hS : Sents S w A) (h0 : 0 ∈ S) (h1 : 1 ∈ S) (h3 : 3 ∈ S) (hR : Rd w 1 v bs.length (bvs bs)) (h4 : 4 ≤ bs.length) (hl : bs.length ≤ 100000) (n i : Nat) (hn : little (bs.take 4) = n) (hb : BadWhy bs n i) :
    Calls Tryd.prog 25 #[v] w (BadPost (senV A i) w) := by
  obtain ⟨a, c, rfl⟩ := hR.slice
  have hcap := hR.cap
  obtain ⟨x1, y1, s1, p1⟩ := part_all a bs.length c 1 0 4 (by omega) (by omega)
  have u1 : ∀ W, (Instr.sliceAt 30 (.slice a bs.length c) none (some (.int .i64 4)) none).run Tryd.prog W = .ok (.slice x1 4 y1) W := fun W => by
    have := run_cut_h 30 sl_u8 1 sz_u8 a bs.length c 4 .i64 (by omega) W
    rw [s1] at this
    exact this
  have b1 := below_alloc w (.cells #[.int .i64 0, .int .i64 0, .int .i64 0, .int .i64 0, .int .i64 0, .slice none 0 0, .slice none 0 0] 27)
  have row1 := heap_alloc_new w (.cells #[.int .i64 0, .int .i64 0, .int .i64 0, .int .i64 0, .int .i64 0, .slice none 0 0, .slice none 0 0] 27)
  have htl : (bs.take 4).length = 4 := by rw [List.length_take]; omega
  have HB := Lib.hid hb
  have HNN := Lib.hid hn
  clear hb hn
  go_enter Tryd.func25, Tryd.ntmps25
  go_upto_region 2 with fail
  obtain ⟨w1, hw1⟩ : ∃ w1, w1 = w.alloc (.cells #[.int .i64 0, .int .i64 0, .int .i64 0, .int .i64 0, .int .i64 0, .slice none 0 0, .slice none 0 0] 27) := ⟨_, rfl⟩
  obtain ⟨g, hg⟩ : ∃ g, g = w.heap.size := ⟨_, rfl⟩
  rw [← hw1] at b1 row1 ⊢
  have hgw : w.heap.size ≤ g := by omega
  rw [← hg] at row1 ⊢
  clear hw1 hg
  have rA := p1 w1 _ (hR.below b1)
  rw [Nat.sub_zero, Nat.zero_mul, Nat.mul_one, List.drop_zero, ← bvs_take] at rA
  have hnr := newReader_calls A (.slice x1 4 y1) (bs.take 4) w1 (by rw [htl]; exact rA) (by omega)
  have t4 : decide ((bs.length : Int) < 4) = false := decide_eq_false (by omega)
  clear rA p1 s1
  go_wp2_with fail
  with_reducible refine hnr.mono ?_
  rintro e w2 ⟨gr, rfl, hgr, r2, b2⟩
  have B2 := nxt b1 b2
  have row2 := heap_below b2 row1
  have hgl : g < w1.heap.size := (Array.getElem?_eq_some_iff.1 row1).1
  have haw : Away S A gr := Away.of_new hS (by omega)
  have f4 := fixed_calls' (hS.below B2) h0 haw r2 4
  unfold FixedPost at f4
  rw [fixed_yes (n := (4 : Int)) (s := rs0 (bs.take 4)) rfl 4 rfl (by decide) (by show ¬ ((bs.take 4).drop 0).length < 4; rw [List.drop_zero, htl]; omega)] at f4
  rw [show (rs0 (bs.take 4)).left.take 4 = bs.take 4 by show ((bs.take 4).drop 0).take 4 = _; rw [List.drop_zero, List.take_take]; rfl, HNN.out] at f4
  simp only at f4
  clear hnr b2
  go_wp2_with fail
  with_reducible refine f4.mono ?_
  rintro e w3 ⟨rfl, _, t3⟩
  have B3 := t3.new B2 (by omega)
  have row3 := t3.heap row2 (by omega)
  have hS3 := hS.below B3
  clear f4 t3 r2
  rcases HB.out with ⟨rfl, e1⟩ | ⟨rfl, e1, e2⟩ | ⟨rfl, e1, e2, e3⟩
  · have k3 : w3.cell? ⟨4, 0, none⟩ = some (.iface 180 (.pointer (some (A 3)))) := hS3.cell 3 h3
    have hbd := readBad_calls 180 (.pointer (some (A 3))) w3
    go_wp2_with fail
    have hwg := B3.size
    with_reducible refine hbd.mono ?_
    rintro e wb ⟨rfl, bb⟩
    have Bb := nxt B3 bb
    have rowb := heap_below bb row3
    unfold zeroE
    have f0 : wb.cell? ⟨g, 0, none⟩ = some (.int .i64 0) := cell_of_row _ _ 0 _ _ _ rowb
    have z0 : wb.frozen? ⟨g, 0, none⟩ = false := frozen_of_row _ g 0 _ _ rowb
    have f1 : wb.cell? ⟨g, 1, none⟩ = some (.int .i64 0) := cell_of_row _ _ 1 _ _ _ rowb
    have z1 : wb.frozen? ⟨g, 1, none⟩ = false := frozen_of_row _ g 1 _ _ rowb
    have f2 : wb.cell? ⟨g, 2, none⟩ = some (.int .i64 0) := cell_of_row _ _ 2 _ _ _ rowb
    have z2 : wb.frozen? ⟨g, 2, none⟩ = false := frozen_of_row _ g 2 _ _ rowb
    have f3 : wb.cell? ⟨g, 3, none⟩ = some (.int .i64 0) := cell_of_row _ _ 3 _ _ _ rowb
    have z3 : wb.frozen? ⟨g, 3, none⟩ = false := frozen_of_row _ g 3 _ _ rowb
    have f4 : wb.cell? ⟨g, 4, none⟩ = some (.int .i64 0) := cell_of_row _ _ 4 _ _ _ rowb
    have z4 : wb.frozen? ⟨g, 4, none⟩ = false := frozen_of_row _ g 4 _ _ rowb
    have f5 : wb.cell? ⟨g, 5, none⟩ = some (.slice none 0 0) := cell_of_row _ _ 5 _ _ _ rowb
    have z5 : wb.frozen? ⟨g, 5, none⟩ = false := frozen_of_row _ g 5 _ _ rowb
    have f6 : wb.cell? ⟨g, 6, none⟩ = some (.slice none 0 0) := cell_of_row _ _ 6 _ _ _ rowb
    have z6 : wb.frozen? ⟨g, 6, none⟩ = false := frozen_of_row _ g 6 _ _ rowb
    obtain ⟨rz, Bz⟩ := zeroed rowb Bb hgw
    clear hbd rowb bb
    go_wp2_with fail
    clear f0 f1 f2 f3 f4 f5 f6 z0 z1 z2 z3 z4 z5 z6
    generalize (((((((wb.setCell ⟨g, 0, none⟩ (.int .i64 0)).setCell ⟨g, 1, none⟩ (.int .i64 0)).setCell ⟨g, 2, none⟩ (.int .i64 0)).setCell ⟨g, 3, none⟩ (.int .i64 0)).setCell ⟨g, 4, none⟩ (.int .i64 0)).setCell ⟨g, 5, none⟩ (.slice none 0 0)).setCell ⟨g, 6, none⟩ (.slice none 0 0)) = wz at *
    have q0 : wz.cell? ⟨g, 0, none⟩ = some (.int .i64 0) := cell_of_row _ _ 0 _ _ _ rz
    have q1 : wz.cell? ⟨g, 1, none⟩ = some (.int .i64 0) := cell_of_row _ _ 1 _ _ _ rz
    have q2 : wz.cell? ⟨g, 2, none⟩ = some (.int .i64 0) := cell_of_row _ _ 2 _ _ _ rz
    have q3 : wz.cell? ⟨g, 3, none⟩ = some (.int .i64 0) := cell_of_row _ _ 3 _ _ _ rz
    have q4 : wz.cell? ⟨g, 4, none⟩ = some (.int .i64 0) := cell_of_row _ _ 4 _ _ _ rz
    have q5 : wz.cell? ⟨g, 5, none⟩ = some (.slice none 0 0) := cell_of_row _ _ 5 _ _ _ rz
    have q6 : wz.cell? ⟨g, 6, none⟩ = some (.slice none 0 0) := cell_of_row _ _ 6 _ _ _ rz
    refine bodyPost_ret (v := .tuple #[.int .i64 0, zeroE, .int .i64 0, senV A 3]) (by simp [results, go_sem, q0, q1, q2, q3, q4, q5, q6, zeroE, senV]) rfl ?_
    exact ⟨rfl, Bz⟩
  · have k0 : w3.cell? ⟨3, 0, none⟩ = some (.iface 180 (.pointer (some (A 0)))) := hS3.cell 0 h0
    have e1' : decide ((65536 : Int) < (n : Int)) = false := decide_eq_false (by omega)
    obtain ⟨L4, hL4⟩ : ∃ L4, L4 = bs.length - 4 := ⟨_, rfl⟩
    have m1 : IntKind.i64.wrap ((bs.length : Int) - 4) = (L4 : Int) := by rw [IntKind.wrap_i64]; omega
    have m2 : IntKind.u64.wrap (L4 : Int) = (L4 : Int) := by rw [IntKind.wrap_u64]; omega
    have m3 : L4 < n := by omega
    clear hL4
    have hbd := readBad_calls 180 (.pointer (some (A 0))) w3
    go_wp2_with fail
    have hwg := B3.size
    with_reducible refine hbd.mono ?_
    rintro e wb ⟨rfl, bb⟩
    have Bb := nxt B3 bb
    have rowb := heap_below bb row3
    unfold zeroE
    have f0 : wb.cell? ⟨g, 0, none⟩ = some (.int .i64 0) := cell_of_row _ _ 0 _ _ _ rowb
    have z0 : wb.frozen? ⟨g, 0, none⟩ = false := frozen_of_row _ g 0 _ _ rowb
    have f1 : wb.cell? ⟨g, 1, none⟩ = some (.int .i64 0) := cell_of_row _ _ 1 _ _ _ rowb
    have z1 : wb.frozen? ⟨g, 1, none⟩ = false := frozen_of_row _ g 1 _ _ rowb
    have f2 : wb.cell? ⟨g, 2, none⟩ = some (.int .i64 0) := cell_of_row _ _ 2 _ _ _ rowb
    have z2 : wb.frozen? ⟨g, 2, none⟩ = false := frozen_of_row _ g 2 _ _ rowb
    have f3 : wb.cell? ⟨g, 3, none⟩ = some (.int .i64 0) := cell_of_row _ _ 3 _ _ _ rowb
    have z3 : wb.frozen? ⟨g, 3, none⟩ = false := frozen_of_row _ g 3 _ _ rowb
    have f4 : wb.cell? ⟨g, 4, none⟩ = some (.int .i64 0) := cell_of_row _ _ 4 _ _ _ rowb
    have z4 : wb.frozen? ⟨g, 4, none⟩ = false := frozen_of_row _ g 4 _ _ rowb
    have f5 : wb.cell? ⟨g, 5, none⟩ = some (.slice none 0 0) := cell_of_row _ _ 5 _ _ _ rowb
    have z5 : wb.frozen? ⟨g, 5, none⟩ = false := frozen_of_row _ g 5 _ _ rowb
    have f6 : wb.cell? ⟨g, 6, none⟩ = some (.slice none 0 0) := cell_of_row _ _ 6 _ _ _ rowb
    have z6 : wb.frozen? ⟨g, 6, none⟩ = false := frozen_of_row _ g 6 _ _ rowb
    obtain ⟨rz, Bz⟩ := zeroed rowb Bb hgw
    clear hbd rowb bb
    go_wp2_with fail
    clear f0 f1 f2 f3 f4 f5 f6 z0 z1 z2 z3 z4 z5 z6
    generalize (((((((wb.setCell ⟨g, 0, none⟩ (.int .i64 0)).setCell ⟨g, 1, none⟩ (.int .i64 0)).setCell ⟨g, 2, none⟩ (.int .i64 0)).setCell ⟨g, 3, none⟩ (.int .i64 0)).setCell ⟨g, 4, none⟩ (.int .i64 0)).setCell ⟨g, 5, none⟩ (.slice none 0 0)).setCell ⟨g, 6, none⟩ (.slice none 0 0)) = wz at *
    have q0 : wz.cell? ⟨g, 0, none⟩ = some (.int .i64 0) := cell_of_row _ _ 0 _ _ _ rz
    have q1 : wz.cell? ⟨g, 1, none⟩ = some (.int .i64 0) := cell_of_row _ _ 1 _ _ _ rz
    have q2 : wz.cell? ⟨g, 2, none⟩ = some (.int .i64 0) := cell_of_row _ _ 2 _ _ _ rz
    have q3 : wz.cell? ⟨g, 3, none⟩ = some (.int .i64 0) := cell_of_row _ _ 3 _ _ _ rz
    have q4 : wz.cell? ⟨g, 4, none⟩ = some (.int .i64 0) := cell_of_row _ _ 4 _ _ _ rz
    have q5 : wz.cell? ⟨g, 5, none⟩ = some (.slice none 0 0) := cell_of_row _ _ 5 _ _ _ rz
    have q6 : wz.cell? ⟨g, 6, none⟩ = some (.slice none 0 0) := cell_of_row _ _ 6 _ _ _ rz
    refine bodyPost_ret (v := .tuple #[.int .i64 0, zeroE, .int .i64 0, senV A 0]) (by simp [results, go_sem, q0, q1, q2, q3, q4, q5, q6, zeroE, senV]) rfl ?_
    exact ⟨rfl, Bz⟩
  · have e1' : decide ((65536 : Int) < (n : Int)) = false := decide_eq_false (by omega)
    obtain ⟨L4, hL4⟩ : ∃ L4, L4 = bs.length - 4 := ⟨_, rfl⟩
    have m1 : IntKind.i64.wrap ((bs.length : Int) - 4) = (L4 : Int) := by rw [IntKind.wrap_i64]; omega
    have m2 : IntKind.u64.wrap (L4 : Int) = (L4 : Int) := by rw [IntKind.wrap_u64]; omega
    have m3 : decide (L4 < n) = false := decide_eq_false (by omega)
    obtain ⟨n4, hn4⟩ : ∃ n4, n4 = 4 + n := ⟨_, rfl⟩
    have m4 : IntKind.i64.wrap (n : Int) = (n : Int) := by rw [IntKind.wrap_i64]; omega
    have m5 : IntKind.i64.wrap (4 + (n : Int)) = (n4 : Int) := by rw [IntKind.wrap_i64]; omega
    obtain ⟨x2, y2, s2, p2⟩ := part_all a bs.length c 1 4 n4 (by omega) (by omega)
    rw [show n4 - 4 = n by omega] at s2 p2
    have u2 : ∀ W, (Instr.sliceAt 30 (.slice a bs.length c) (some (.int .i64 4)) (some (.int .i64 (n4 : Int))) none).run Tryd.prog W = .ok (.slice x2 n y2) W := fun W => by
      have := run_cut_lh 30 sl_u8 1 sz_u8 a bs.length c 4 n4 .i64 .i64 (by omega) (by omega) W
      rw [s2] at this
      exact this
    have rB := p2 w3 _ (hR.below B3)
    rw [Nat.mul_one, Nat.mul_one, ← bvs_part] at rB
    have hll : ((bs.drop 4).take n).length = n := by rw [List.length_take, List.length_drop]; omega
    have hop := open_calls S A h0 h1 (.slice x2 n y2) ((bs.drop 4).take n) w3 hS3 (by rw [hll]; exact rB) (by omega)
    rw [e3] at hop
    clear hL4 hn4 s2 p2 rB hll e3
    go_wp2_with fail
    with_reducible refine hop.mono ?_
    rintro e w4 ⟨b4, rfl⟩
    have B4 := nxt B3 b4
    have row4 := heap_below b4 row3
    unfold senV
    clear hop
    have hbd := readBad_calls 180 (.pointer (some (A 1))) w4
    go_wp2_with fail
    have hwg := B4.size
    with_reducible refine hbd.mono ?_
    rintro e wb ⟨rfl, bb⟩
    have Bb := nxt B4 bb
    have rowb := heap_below bb row4
    unfold zeroE
    have f0 : wb.cell? ⟨g, 0, none⟩ = some (.int .i64 0) := cell_of_row _ _ 0 _ _ _ rowb
    have z0 : wb.frozen? ⟨g, 0, none⟩ = false := frozen_of_row _ g 0 _ _ rowb
    have f1 : wb.cell? ⟨g, 1, none⟩ = some (.int .i64 0) := cell_of_row _ _ 1 _ _ _ rowb
    have z1 : wb.frozen? ⟨g, 1, none⟩ = false := frozen_of_row _ g 1 _ _ rowb
    have f2 : wb.cell? ⟨g, 2, none⟩ = some (.int .i64 0) := cell_of_row _ _ 2 _ _ _ rowb
    have z2 : wb.frozen? ⟨g, 2, none⟩ = false := frozen_of_row _ g 2 _ _ rowb
    have f3 : wb.cell? ⟨g, 3, none⟩ = some (.int .i64 0) := cell_of_row _ _ 3 _ _ _ rowb
    have z3 : wb.frozen? ⟨g, 3, none⟩ = false := frozen_of_row _ g 3 _ _ rowb
    have f4 : wb.cell? ⟨g, 4, none⟩ = some (.int .i64 0) := cell_of_row _ _ 4 _ _ _ rowb
    have z4 : wb.frozen? ⟨g, 4, none⟩ = false := frozen_of_row _ g 4 _ _ rowb
    have f5 : wb.cell? ⟨g, 5, none⟩ = some (.slice none 0 0) := cell_of_row _ _ 5 _ _ _ rowb
    have z5 : wb.frozen? ⟨g, 5, none⟩ = false := frozen_of_row _ g 5 _ _ rowb
    have f6 : wb.cell? ⟨g, 6, none⟩ = some (.slice none 0 0) := cell_of_row _ _ 6 _ _ _ rowb
    have z6 : wb.frozen? ⟨g, 6, none⟩ = false := frozen_of_row _ g 6 _ _ rowb
    obtain ⟨rz, Bz⟩ := zeroed rowb Bb hgw
    clear hbd rowb bb
    go_wp2_with fail
    clear f0 f1 f2 f3 f4 f5 f6 z0 z1 z2 z3 z4 z5 z6
    generalize (((((((wb.setCell ⟨g, 0, none⟩ (.int .i64 0)).setCell ⟨g, 1, none⟩ (.int .i64 0)).setCell ⟨g, 2, none⟩ (.int .i64 0)).setCell ⟨g, 3, none⟩ (.int .i64 0)).setCell ⟨g, 4, none⟩ (.int .i64 0)).setCell ⟨g, 5, none⟩ (.slice none 0 0)).setCell ⟨g, 6, none⟩ (.slice none 0 0)) = wz at *
    have q0 : wz.cell? ⟨g, 0, none⟩ = some (.int .i64 0) := cell_of_row _ _ 0 _ _ _ rz
    have q1 : wz.cell? ⟨g, 1, none⟩ = some (.int .i64 0) := cell_of_row _ _ 1 _ _ _ rz
    have q2 : wz.cell? ⟨g, 2, none⟩ = some (.int .i64 0) := cell_of_row _ _ 2 _ _ _ rz
    have q3 : wz.cell? ⟨g, 3, none⟩ = some (.int .i64 0) := cell_of_row _ _ 3 _ _ _ rz
    have q4 : wz.cell? ⟨g, 4, none⟩ = some (.int .i64 0) := cell_of_row _ _ 4 _ _ _ rz
    have q5 : wz.cell? ⟨g, 5, none⟩ = some (.slice none 0 0) := cell_of_row _ _ 5 _ _ _ rz
    have q6 : wz.cell? ⟨g, 6, none⟩ = some (.slice none 0 0) := cell_of_row _ _ 6 _ _ _ rz
    refine bodyPost_ret (v := .tuple #[.int .i64 0, zeroE, .int .i64 0, senV A 1]) (by simp [results, go_sem, q0, q1, q2, q3, q4, q5, q6, zeroE, senV]) rfl ?_
    exact ⟨rfl, Bz⟩
end Go.Proofs.YtldopocmmeidkaaDoor

/-! entry.Read: the entry at the beginning of bytes, or an error. -/
namespace Go.Proofs.YtldopocmmeidkaaDoor
open Go Go.RowKit Man Vint Crc

def i64' (x : Nat) : Int := if x < 9223372036854775808 then (x : Int) else (x : Int) - 18446744073709551616
theorem i64_wrap' (n : Nat) (h : n < 18446744073709551616) : IntKind.i64.wrap (n : Int) = i64' n := by
  rw [IntKind.wrap_i64]
  unfold i64'
  split <;> omega
def MGood (l : List UInt8) (m : ManD) : Prop := ∃ b, openL l = .ok b ∧ readM b = some m ∧ manOk m
/-- There is an entry. -/
def EGood (bs : List UInt8) (seq kind : Int) (m : ManD) (n : Nat) : Prop :=
  4 ≤ bs.length ∧ little (bs.take 4) ≤ 65536 ∧ 4 + little (bs.take 4) ≤ bs.length ∧ n = 4 + little (bs.take 4) ∧
  ∃ b, openL ((bs.drop 4).take (little (bs.take 4))) = .ok b ∧ 9 ≤ b.length ∧ seq = i64' (little (b.take 8)) ∧ 0 ≤ seq ∧ (∃ c, b[8]? = some c ∧ kind = (c.toNat : Int)) ∧ 1 ≤ kind ∧ kind ≤ 4 ∧ MGood (b.drop 9) m
def EntReadPost (A : Nat → Addr) (bs : List UInt8) (w : World) (e : Ending) (w' : World) : Prop := Below w.heap.size w w' ∧
  ((∃ seq kind m ve vo n, EGood bs seq kind m n ∧ e = .returned (.tuple #[.int .i64 seq, entA kind m ve vo, .int .i64 (n : Int), .nilIface]) ∧ w'.ownsRow w.heap.size 48 2 ve m.eps.length (m.eps.flatMap prV) ∧ w'.ownsRow w.heap.size 46 3 vo m.objs.length (m.objs.flatMap obV)) ∨
   ∃ T u, e = .returned (.tuple #[.int .i64 0, zeroE, .int .i64 0, .iface T u]) ∧ (∀ seq kind m n, ¬ EGood bs seq kind m n) ∧ (bs.length < 4 ∨ (little (bs.take 4) ≤ 65536 ∧ bs.length < 4 + little (bs.take 4)) → Value.iface T u = senV A 0))

set_option maxHeartbeats 2000000 in
theorem setE {W : World} {g : Nat} {a0 a1 a2 a3 a4 a5 a6 : Value} (b0 b1 b2 b3 b4 b5 b6 : Value) (row : W.heap[g]? = some (.cells #[a0, a1, a2, a3, a4, a5, a6] 27 (0, 0))) :
    (((((((W.setCell ⟨g, 0, none⟩ b0).setCell ⟨g, 1, none⟩ b1).setCell ⟨g, 2, none⟩ b2).setCell ⟨g, 3, none⟩ b3).setCell ⟨g, 4, none⟩ b4).setCell ⟨g, 5, none⟩ b5).setCell ⟨g, 6, none⟩ b6).heap[g]? = some (.cells #[b0, b1, b2, b3, b4, b5, b6] 27 (0, 0)) ∧
    Touch g W (((((((W.setCell ⟨g, 0, none⟩ b0).setCell ⟨g, 1, none⟩ b1).setCell ⟨g, 2, none⟩ b2).setCell ⟨g, 3, none⟩ b3).setCell ⟨g, 4, none⟩ b4).setCell ⟨g, 5, none⟩ b5).setCell ⟨g, 6, none⟩ b6) :=
  ⟨heap_setCell_same _ g 6 _ _ _ (heap_setCell_same _ g 5 _ _ _ (heap_setCell_same _ g 4 _ _ _ (heap_setCell_same _ g 3 _ _ _ (heap_setCell_same _ g 2 _ _ _ (heap_setCell_same _ g 1 _ _ _ (heap_setCell_same W g 0 _ _ _ row)))))),
   ((((((Touch.setCell W 0 b0).set 1 b1).set 2 b2).set 3 b3).set 4 b4).set 5 b5).set 6 b6⟩
set_option maxHeartbeats 2000000 in
theorem setE1 {W : World} {g : Nat} {a0 a1 a2 a3 a4 a5 a6 : Value} (b1 b2 b3 b4 b5 b6 : Value) (row : W.heap[g]? = some (.cells #[a0, a1, a2, a3, a4, a5, a6] 27 (0, 0))) :
    ((((((W.setCell ⟨g, 1, none⟩ b1).setCell ⟨g, 2, none⟩ b2).setCell ⟨g, 3, none⟩ b3).setCell ⟨g, 4, none⟩ b4).setCell ⟨g, 5, none⟩ b5).setCell ⟨g, 6, none⟩ b6).heap[g]? = some (.cells #[a0, b1, b2, b3, b4, b5, b6] 27 (0, 0)) ∧
    Touch g W ((((((W.setCell ⟨g, 1, none⟩ b1).setCell ⟨g, 2, none⟩ b2).setCell ⟨g, 3, none⟩ b3).setCell ⟨g, 4, none⟩ b4).setCell ⟨g, 5, none⟩ b5).setCell ⟨g, 6, none⟩ b6) :=
  ⟨heap_setCell_same _ g 6 _ _ _ (heap_setCell_same _ g 5 _ _ _ (heap_setCell_same _ g 4 _ _ _ (heap_setCell_same _ g 3 _ _ _ (heap_setCell_same _ g 2 _ _ _ (heap_setCell_same W g 1 _ _ _ row))))),
   (((((Touch.setCell W 1 b1).set 2 b2).set 3 b3).set 4 b4).set 5 b5).set 6 b6⟩

set_option maxRecDepth 100000 in
set_option maxHeartbeats 4000000 in
theorem entRead_calls (S : List Nat) (A : Nat → Addr) {w : World} {v : Value} {bs : List UInt8} (hS : Sents S w A) (hE0 : 0 ∈ S) (hE1 : 1 ∈ S) (hE2 : 2 ∈ S) (hE3 : 3 ∈ S) (hE4 : 4 ∈ S) (hE5 : 5 ∈ S) (hE11 : 11 ∈ S) (hR : Rd w 1 v bs.length (bvs bs)) (hl : bs.length ≤ 1099511627776) :
    Calls Tryd.prog 25 #[v] w (EntReadPost A bs w) := by
  obtain ⟨a, c, rfl⟩ := hR.slice
  have hcap := hR.cap
  have b1 := below_alloc w (.cells #[.int .i64 0, .int .i64 0, .int .i64 0, .int .i64 0, .int .i64 0, .slice none 0 0, .slice none 0 0] 27)
  have row1 := heap_alloc_new w (.cells #[.int .i64 0, .int .i64 0, .int .i64 0, .int .i64 0, .int .i64 0, .slice none 0 0, .slice none 0 0] 27)
  go_enter Tryd.func25, Tryd.ntmps25
  go_upto_region 2 with fail
  obtain ⟨w1, hw1⟩ : ∃ w1, w1 = w.alloc (.cells #[.int .i64 0, .int .i64 0, .int .i64 0, .int .i64 0, .int .i64 0, .slice none 0 0, .slice none 0 0] 27) := ⟨_, rfl⟩
  obtain ⟨g, hg⟩ : ∃ g, g = w.heap.size := ⟨_, rfl⟩
  rw [← hw1] at b1 row1 ⊢
  have hgw : w.heap.size ≤ g := by omega
  rw [← hg] at row1 ⊢
  clear hw1 hg
  by_cases t4 : bs.length < 4
  case pos =>
    have k0 : w1.cell? ⟨3, 0, none⟩ = some (.iface 180 (.pointer (some (A 0)))) := (hS.below b1).cell 0 hE0
    have hbd := readBad_calls 180 (.pointer (some (A 0))) w1
    go_wp2_with fail
    have hwg := b1.size
    with_reducible refine hbd.mono ?_
    rintro e wb ⟨rfl, bb⟩
    have Bb := nxt b1 bb
    have rowb := heap_below bb row1
    unfold zeroE
    have f0 : wb.cell? ⟨g, 0, none⟩ = some (.int .i64 0) := cell_of_row _ _ 0 _ _ _ rowb
    have z0 : wb.frozen? ⟨g, 0, none⟩ = false := frozen_of_row _ g 0 _ _ rowb
    have f1 : wb.cell? ⟨g, 1, none⟩ = some (.int .i64 0) := cell_of_row _ _ 1 _ _ _ rowb
    have z1 : wb.frozen? ⟨g, 1, none⟩ = false := frozen_of_row _ g 1 _ _ rowb
    have f2 : wb.cell? ⟨g, 2, none⟩ = some (.int .i64 0) := cell_of_row _ _ 2 _ _ _ rowb
    have z2 : wb.frozen? ⟨g, 2, none⟩ = false := frozen_of_row _ g 2 _ _ rowb
    have f3 : wb.cell? ⟨g, 3, none⟩ = some (.int .i64 0) := cell_of_row _ _ 3 _ _ _ rowb
    have z3 : wb.frozen? ⟨g, 3, none⟩ = false := frozen_of_row _ g 3 _ _ rowb
    have f4 : wb.cell? ⟨g, 4, none⟩ = some (.int .i64 0) := cell_of_row _ _ 4 _ _ _ rowb
    have z4 : wb.frozen? ⟨g, 4, none⟩ = false := frozen_of_row _ g 4 _ _ rowb
    have f5 : wb.cell? ⟨g, 5, none⟩ = some (.slice none 0 0) := cell_of_row _ _ 5 _ _ _ rowb
    have z5 : wb.frozen? ⟨g, 5, none⟩ = false := frozen_of_row _ g 5 _ _ rowb
    have f6 : wb.cell? ⟨g, 6, none⟩ = some (.slice none 0 0) := cell_of_row _ _ 6 _ _ _ rowb
    have z6 : wb.frozen? ⟨g, 6, none⟩ = false := frozen_of_row _ g 6 _ _ rowb
    obtain ⟨rz, Bz⟩ := zeroed rowb Bb hgw
    clear hbd rowb bb
    go_wp2_with fail
    clear f0 f1 f2 f3 f4 f5 f6 z0 z1 z2 z3 z4 z5 z6
    generalize (((((((wb.setCell ⟨g, 0, none⟩ (.int .i64 0)).setCell ⟨g, 1, none⟩ (.int .i64 0)).setCell ⟨g, 2, none⟩ (.int .i64 0)).setCell ⟨g, 3, none⟩ (.int .i64 0)).setCell ⟨g, 4, none⟩ (.int .i64 0)).setCell ⟨g, 5, none⟩ (.slice none 0 0)).setCell ⟨g, 6, none⟩ (.slice none 0 0)) = wz at *
    have q0 : wz.cell? ⟨g, 0, none⟩ = some (.int .i64 0) := cell_of_row _ _ 0 _ _ _ rz
    have q1 : wz.cell? ⟨g, 1, none⟩ = some (.int .i64 0) := cell_of_row _ _ 1 _ _ _ rz
    have q2 : wz.cell? ⟨g, 2, none⟩ = some (.int .i64 0) := cell_of_row _ _ 2 _ _ _ rz
    have q3 : wz.cell? ⟨g, 3, none⟩ = some (.int .i64 0) := cell_of_row _ _ 3 _ _ _ rz
    have q4 : wz.cell? ⟨g, 4, none⟩ = some (.int .i64 0) := cell_of_row _ _ 4 _ _ _ rz
    have q5 : wz.cell? ⟨g, 5, none⟩ = some (.slice none 0 0) := cell_of_row _ _ 5 _ _ _ rz
    have q6 : wz.cell? ⟨g, 6, none⟩ = some (.slice none 0 0) := cell_of_row _ _ 6 _ _ _ rz
    refine bodyPost_ret (v := .tuple #[.int .i64 0, zeroE, .int .i64 0, .iface 180 (.pointer (some (A 0)))]) (by simp [results, go_sem, q0, q1, q2, q3, q4, q5, q6, zeroE]) rfl ?_
    exact ⟨Bz, .inr ⟨_, _, rfl, fun _ _ _ _ h => absurd h.1 (by omega), fun _ => rfl⟩⟩
  have h4 : 4 ≤ bs.length := by omega
  have t4' : decide ((bs.length : Int) < 4) = false := decide_eq_false (by omega)
  obtain ⟨x1, y1, s1, p1⟩ := part_all a bs.length c 1 0 4 (by omega) (by omega)
  have u1 : ∀ W, (Instr.sliceAt 30 (.slice a bs.length c) none (some (.int .i64 4)) none).run Tryd.prog W = .ok (.slice x1 4 y1) W := fun W => by
    have := run_cut_h 30 sl_u8 1 sz_u8 a bs.length c 4 .i64 (by omega) W
    rw [s1] at this
    exact this
  have htl : (bs.take 4).length = 4 := by rw [List.length_take]; omega
  have rA := p1 w1 _ (hR.below b1)
  rw [Nat.sub_zero, Nat.zero_mul, Nat.mul_one, List.drop_zero, ← bvs_take] at rA
  have hnr := newReader_calls A (.slice x1 4 y1) (bs.take 4) w1 (by rw [htl]; exact rA) (by omega)
  obtain ⟨n, hn⟩ : ∃ n, n = little (bs.take 4) := ⟨_, rfl⟩
  have hnb : n < 4294967296 := by rw [hn]; have := little_lt (bs.take 4); rw [htl] at this; simpa using this
  have HNN := Lib.hid hn.symm
  have HTL := Lib.hid htl
  clear rA p1 s1 hn htl t4
  go_wp2_with fail
  with_reducible refine hnr.mono ?_
  rintro e w2 ⟨gr, rfl, hgr, r2, b2⟩
  have B2 := nxt b1 b2
  have row2 := heap_below b2 row1
  have hgl : g < w1.heap.size := (Array.getElem?_eq_some_iff.1 row1).1
  have haw : Away S A gr := Away.of_new hS (by omega)
  have f4 := fixed_calls' (hS.below B2) hE0 haw r2 4
  unfold FixedPost at f4
  rw [fixed_yes (n := (4 : Int)) (s := rs0 (bs.take 4)) rfl 4 rfl (by decide) (by show ¬ ((bs.take 4).drop 0).length < 4; rw [List.drop_zero, HTL.out]; omega)] at f4
  rw [show (rs0 (bs.take 4)).left.take 4 = bs.take 4 by show ((bs.take 4).drop 0).take 4 = _; rw [List.drop_zero, List.take_take]; rfl, HNN.out] at f4
  simp only at f4
  clear hnr b2
  go_wp2_with fail
  with_reducible refine f4.mono ?_
  rintro e w3 ⟨rfl, _, t3⟩
  have B3 := t3.new B2 (by omega)
  have row3 := t3.heap row2 (by omega)
  have hS3 := hS.below B3
  clear f4 t3 r2 haw hgr hgl row2 B2
  by_cases hnm : 65536 < n
  case pos =>
    have k3 : w3.cell? ⟨4, 0, none⟩ = some (.iface 180 (.pointer (some (A 3)))) := hS3.cell 3 hE3
    have hbd := readBad_calls 180 (.pointer (some (A 3))) w3
    go_wp2_with fail
    have hwg := B3.size
    with_reducible refine hbd.mono ?_
    rintro e wb ⟨rfl, bb⟩
    have Bb := nxt B3 bb
    have rowb := heap_below bb row3
    unfold zeroE
    have f0 : wb.cell? ⟨g, 0, none⟩ = some (.int .i64 0) := cell_of_row _ _ 0 _ _ _ rowb
    have z0 : wb.frozen? ⟨g, 0, none⟩ = false := frozen_of_row _ g 0 _ _ rowb
    have f1 : wb.cell? ⟨g, 1, none⟩ = some (.int .i64 0) := cell_of_row _ _ 1 _ _ _ rowb
    have z1 : wb.frozen? ⟨g, 1, none⟩ = false := frozen_of_row _ g 1 _ _ rowb
    have f2 : wb.cell? ⟨g, 2, none⟩ = some (.int .i64 0) := cell_of_row _ _ 2 _ _ _ rowb
    have z2 : wb.frozen? ⟨g, 2, none⟩ = false := frozen_of_row _ g 2 _ _ rowb
    have f3 : wb.cell? ⟨g, 3, none⟩ = some (.int .i64 0) := cell_of_row _ _ 3 _ _ _ rowb
    have z3 : wb.frozen? ⟨g, 3, none⟩ = false := frozen_of_row _ g 3 _ _ rowb
    have f4 : wb.cell? ⟨g, 4, none⟩ = some (.int .i64 0) := cell_of_row _ _ 4 _ _ _ rowb
    have z4 : wb.frozen? ⟨g, 4, none⟩ = false := frozen_of_row _ g 4 _ _ rowb
    have f5 : wb.cell? ⟨g, 5, none⟩ = some (.slice none 0 0) := cell_of_row _ _ 5 _ _ _ rowb
    have z5 : wb.frozen? ⟨g, 5, none⟩ = false := frozen_of_row _ g 5 _ _ rowb
    have f6 : wb.cell? ⟨g, 6, none⟩ = some (.slice none 0 0) := cell_of_row _ _ 6 _ _ _ rowb
    have z6 : wb.frozen? ⟨g, 6, none⟩ = false := frozen_of_row _ g 6 _ _ rowb
    obtain ⟨rz, Bz⟩ := zeroed rowb Bb hgw
    clear hbd rowb bb
    go_wp2_with fail
    clear f0 f1 f2 f3 f4 f5 f6 z0 z1 z2 z3 z4 z5 z6
    generalize (((((((wb.setCell ⟨g, 0, none⟩ (.int .i64 0)).setCell ⟨g, 1, none⟩ (.int .i64 0)).setCell ⟨g, 2, none⟩ (.int .i64 0)).setCell ⟨g, 3, none⟩ (.int .i64 0)).setCell ⟨g, 4, none⟩ (.int .i64 0)).setCell ⟨g, 5, none⟩ (.slice none 0 0)).setCell ⟨g, 6, none⟩ (.slice none 0 0)) = wz at *
    have q0 : wz.cell? ⟨g, 0, none⟩ = some (.int .i64 0) := cell_of_row _ _ 0 _ _ _ rz
    have q1 : wz.cell? ⟨g, 1, none⟩ = some (.int .i64 0) := cell_of_row _ _ 1 _ _ _ rz
    have q2 : wz.cell? ⟨g, 2, none⟩ = some (.int .i64 0) := cell_of_row _ _ 2 _ _ _ rz
    have q3 : wz.cell? ⟨g, 3, none⟩ = some (.int .i64 0) := cell_of_row _ _ 3 _ _ _ rz
    have q4 : wz.cell? ⟨g, 4, none⟩ = some (.int .i64 0) := cell_of_row _ _ 4 _ _ _ rz
    have q5 : wz.cell? ⟨g, 5, none⟩ = some (.slice none 0 0) := cell_of_row _ _ 5 _ _ _ rz
    have q6 : wz.cell? ⟨g, 6, none⟩ = some (.slice none 0 0) := cell_of_row _ _ 6 _ _ _ rz
    refine bodyPost_ret (v := .tuple #[.int .i64 0, zeroE, .int .i64 0, .iface 180 (.pointer (some (A 3)))]) (by simp [results, go_sem, q0, q1, q2, q3, q4, q5, q6, zeroE]) rfl ?_
    exact ⟨Bz, .inr ⟨_, _, rfl, fun _ _ _ _ h => absurd h.2.1 (by rw [HNN.out]; omega), fun h => by rw [HNN.out] at h; omega⟩⟩
  have e1' : decide ((65536 : Int) < (n : Int)) = false := decide_eq_false (by omega)
  obtain ⟨L4, hL4⟩ : ∃ L4, L4 = bs.length - 4 := ⟨_, rfl⟩
  have m1 : IntKind.i64.wrap ((bs.length : Int) - 4) = (L4 : Int) := by rw [IntKind.wrap_i64]; omega
  have m2 : IntKind.u64.wrap (L4 : Int) = (L4 : Int) := by rw [IntKind.wrap_u64]; omega
  by_cases hne : bs.length < 4 + n
  case pos =>
    have k0 : w3.cell? ⟨3, 0, none⟩ = some (.iface 180 (.pointer (some (A 0)))) := hS3.cell 0 hE0
    have m3 : L4 < n := by omega
    clear hL4
    have hbd := readBad_calls 180 (.pointer (some (A 0))) w3
    go_wp2_with fail
    have hwg := B3.size
    with_reducible refine hbd.mono ?_
    rintro e wb ⟨rfl, bb⟩
    have Bb := nxt B3 bb
    have rowb := heap_below bb row3
    unfold zeroE
    have f0 : wb.cell? ⟨g, 0, none⟩ = some (.int .i64 0) := cell_of_row _ _ 0 _ _ _ rowb
    have z0 : wb.frozen? ⟨g, 0, none⟩ = false := frozen_of_row _ g 0 _ _ rowb
    have f1 : wb.cell? ⟨g, 1, none⟩ = some (.int .i64 0) := cell_of_row _ _ 1 _ _ _ rowb
    have z1 : wb.frozen? ⟨g, 1, none⟩ = false := frozen_of_row _ g 1 _ _ rowb
    have f2 : wb.cell? ⟨g, 2, none⟩ = some (.int .i64 0) := cell_of_row _ _ 2 _ _ _ rowb
    have z2 : wb.frozen? ⟨g, 2, none⟩ = false := frozen_of_row _ g 2 _ _ rowb
    have f3 : wb.cell? ⟨g, 3, none⟩ = some (.int .i64 0) := cell_of_row _ _ 3 _ _ _ rowb
    have z3 : wb.frozen? ⟨g, 3, none⟩ = false := frozen_of_row _ g 3 _ _ rowb
    have f4 : wb.cell? ⟨g, 4, none⟩ = some (.int .i64 0) := cell_of_row _ _ 4 _ _ _ rowb
    have z4 : wb.frozen? ⟨g, 4, none⟩ = false := frozen_of_row _ g 4 _ _ rowb
    have f5 : wb.cell? ⟨g, 5, none⟩ = some (.slice none 0 0) := cell_of_row _ _ 5 _ _ _ rowb
    have z5 : wb.frozen? ⟨g, 5, none⟩ = false := frozen_of_row _ g 5 _ _ rowb
    have f6 : wb.cell? ⟨g, 6, none⟩ = some (.slice none 0 0) := cell_of_row _ _ 6 _ _ _ rowb
    have z6 : wb.frozen? ⟨g, 6, none⟩ = false := frozen_of_row _ g 6 _ _ rowb
    obtain ⟨rz, Bz⟩ := zeroed rowb Bb hgw
    clear hbd rowb bb
    go_wp2_with fail
    clear f0 f1 f2 f3 f4 f5 f6 z0 z1 z2 z3 z4 z5 z6
    generalize (((((((wb.setCell ⟨g, 0, none⟩ (.int .i64 0)).setCell ⟨g, 1, none⟩ (.int .i64 0)).setCell ⟨g, 2, none⟩ (.int .i64 0)).setCell ⟨g, 3, none⟩ (.int .i64 0)).setCell ⟨g, 4, none⟩ (.int .i64 0)).setCell ⟨g, 5, none⟩ (.slice none 0 0)).setCell ⟨g, 6, none⟩ (.slice none 0 0)) = wz at *
    have q0 : wz.cell? ⟨g, 0, none⟩ = some (.int .i64 0) := cell_of_row _ _ 0 _ _ _ rz
    have q1 : wz.cell? ⟨g, 1, none⟩ = some (.int .i64 0) := cell_of_row _ _ 1 _ _ _ rz
    have q2 : wz.cell? ⟨g, 2, none⟩ = some (.int .i64 0) := cell_of_row _ _ 2 _ _ _ rz
    have q3 : wz.cell? ⟨g, 3, none⟩ = some (.int .i64 0) := cell_of_row _ _ 3 _ _ _ rz
    have q4 : wz.cell? ⟨g, 4, none⟩ = some (.int .i64 0) := cell_of_row _ _ 4 _ _ _ rz
    have q5 : wz.cell? ⟨g, 5, none⟩ = some (.slice none 0 0) := cell_of_row _ _ 5 _ _ _ rz
    have q6 : wz.cell? ⟨g, 6, none⟩ = some (.slice none 0 0) := cell_of_row _ _ 6 _ _ _ rz
    refine bodyPost_ret (v := .tuple #[.int .i64 0, zeroE, .int .i64 0, .iface 180 (.pointer (some (A 0)))]) (by simp [results, go_sem, q0, q1, q2, q3, q4, q5, q6, zeroE]) rfl ?_
    exact ⟨Bz, .inr ⟨_, _, rfl, fun _ _ _ _ h => absurd h.2.2.1 (by rw [HNN.out]; omega), fun _ => rfl⟩⟩
  have m3 : decide (L4 < n) = false := decide_eq_false (by omega)
  obtain ⟨n4, hn4⟩ : ∃ n4, n4 = 4 + n := ⟨_, rfl⟩
  have m4 : IntKind.i64.wrap (n : Int) = (n : Int) := by rw [IntKind.wrap_i64]; omega
  have m5 : IntKind.i64.wrap (4 + (n : Int)) = (n4 : Int) := by rw [IntKind.wrap_i64]; omega
  obtain ⟨x2, y2, s2, p2⟩ := part_all a bs.length c 1 4 n4 (by omega) (by omega)
  rw [show n4 - 4 = n by omega] at s2 p2
  have u2 : ∀ W, (Instr.sliceAt 30 (.slice a bs.length c) (some (.int .i64 4)) (some (.int .i64 (n4 : Int))) none).run Tryd.prog W = .ok (.slice x2 n y2) W := fun W => by
    have := run_cut_lh 30 sl_u8 1 sz_u8 a bs.length c 4 n4 .i64 .i64 (by omega) (by omega) W
    rw [s2] at this
    exact this
  have rB := p2 w3 _ (hR.below B3)
  rw [Nat.mul_one, Nat.mul_one, ← bvs_part] at rB
  have hll : ((bs.drop 4).take n).length = n := by rw [List.length_take, List.length_drop]; omega
  have hop := open_calls S A hE0 hE1 (.slice x2 n y2) ((bs.drop 4).take n) w3 hS3 (by rw [hll]; exact rB) (by omega)
  unfold OpenPost at hop
  have HLL := Lib.hid hll
  have HN4 := Lib.hid hn4
  have HNE := Lib.hid hne
  have HNM := Lib.hid hnm
  clear hL4 hn4 s2 p2 rB hll hne hnm u1
  by_cases hok : ∃ b, openL ((bs.drop 4).take n) = .ok b
  case neg =>
    go_wp2_with fail
    with_reducible refine hop.mono ?_
    rintro e w4 ⟨b4, hr⟩
    have B4 := nxt B3 b4
    have row4 := heap_below b4 row3
    have hr' : ∃ T u, e = .returned (.tuple #[.slice none 0 0, .iface T u]) := by
      cases ho : openL ((bs.drop 4).take n) with
      | fin => rw [ho] at hr; exact ⟨_, _, hr⟩
      | sum => rw [ho] at hr; exact ⟨_, _, hr⟩
      | ok b => exact absurd ⟨b, ho⟩ hok
    obtain ⟨T, u, rfl⟩ := hr'
    have HNK := Lib.hid hok
    clear hr hok hop u2
    have hbd := readBad_calls T u w4
    go_wp2_with fail
    have hwg := B4.size
    with_reducible refine hbd.mono ?_
    rintro e wb ⟨rfl, bb⟩
    have Bb := nxt B4 bb
    have rowb := heap_below bb row4
    unfold zeroE
    have f0 : wb.cell? ⟨g, 0, none⟩ = some (.int .i64 0) := cell_of_row _ _ 0 _ _ _ rowb
    have z0 : wb.frozen? ⟨g, 0, none⟩ = false := frozen_of_row _ g 0 _ _ rowb
    have f1 : wb.cell? ⟨g, 1, none⟩ = some (.int .i64 0) := cell_of_row _ _ 1 _ _ _ rowb
    have z1 : wb.frozen? ⟨g, 1, none⟩ = false := frozen_of_row _ g 1 _ _ rowb
    have f2 : wb.cell? ⟨g, 2, none⟩ = some (.int .i64 0) := cell_of_row _ _ 2 _ _ _ rowb
    have z2 : wb.frozen? ⟨g, 2, none⟩ = false := frozen_of_row _ g 2 _ _ rowb
    have f3 : wb.cell? ⟨g, 3, none⟩ = some (.int .i64 0) := cell_of_row _ _ 3 _ _ _ rowb
    have z3 : wb.frozen? ⟨g, 3, none⟩ = false := frozen_of_row _ g 3 _ _ rowb
    have f4 : wb.cell? ⟨g, 4, none⟩ = some (.int .i64 0) := cell_of_row _ _ 4 _ _ _ rowb
    have z4 : wb.frozen? ⟨g, 4, none⟩ = false := frozen_of_row _ g 4 _ _ rowb
    have f5 : wb.cell? ⟨g, 5, none⟩ = some (.slice none 0 0) := cell_of_row _ _ 5 _ _ _ rowb
    have z5 : wb.frozen? ⟨g, 5, none⟩ = false := frozen_of_row _ g 5 _ _ rowb
    have f6 : wb.cell? ⟨g, 6, none⟩ = some (.slice none 0 0) := cell_of_row _ _ 6 _ _ _ rowb
    have z6 : wb.frozen? ⟨g, 6, none⟩ = false := frozen_of_row _ g 6 _ _ rowb
    obtain ⟨rz, Bz⟩ := zeroed rowb Bb hgw
    clear hbd rowb bb
    go_wp2_with fail
    clear f0 f1 f2 f3 f4 f5 f6 z0 z1 z2 z3 z4 z5 z6
    generalize (((((((wb.setCell ⟨g, 0, none⟩ (.int .i64 0)).setCell ⟨g, 1, none⟩ (.int .i64 0)).setCell ⟨g, 2, none⟩ (.int .i64 0)).setCell ⟨g, 3, none⟩ (.int .i64 0)).setCell ⟨g, 4, none⟩ (.int .i64 0)).setCell ⟨g, 5, none⟩ (.slice none 0 0)).setCell ⟨g, 6, none⟩ (.slice none 0 0)) = wz at *
    have q0 : wz.cell? ⟨g, 0, none⟩ = some (.int .i64 0) := cell_of_row _ _ 0 _ _ _ rz
    have q1 : wz.cell? ⟨g, 1, none⟩ = some (.int .i64 0) := cell_of_row _ _ 1 _ _ _ rz
    have q2 : wz.cell? ⟨g, 2, none⟩ = some (.int .i64 0) := cell_of_row _ _ 2 _ _ _ rz
    have q3 : wz.cell? ⟨g, 3, none⟩ = some (.int .i64 0) := cell_of_row _ _ 3 _ _ _ rz
    have q4 : wz.cell? ⟨g, 4, none⟩ = some (.int .i64 0) := cell_of_row _ _ 4 _ _ _ rz
    have q5 : wz.cell? ⟨g, 5, none⟩ = some (.slice none 0 0) := cell_of_row _ _ 5 _ _ _ rz
    have q6 : wz.cell? ⟨g, 6, none⟩ = some (.slice none 0 0) := cell_of_row _ _ 6 _ _ _ rz
    refine bodyPost_ret (v := .tuple #[.int .i64 0, zeroE, .int .i64 0, .iface T u]) (by simp [results, go_sem, q0, q1, q2, q3, q4, q5, q6, zeroE]) rfl ?_
    exact ⟨Bz, .inr ⟨_, _, rfl, fun _ _ _ _ h => (by obtain ⟨-, -, -, -, b, hb, -⟩ := h; rw [HNN.out] at hb; exact HNK.out ⟨b, hb⟩), fun h => by rw [HNN.out] at h; have := HNE.out; have := HNM.out; omega⟩⟩
  obtain ⟨b, hob⟩ := hok
  rw [hob] at hop
  simp only at hop
  have hbl : b.length + 4 = n := by
    have h1 := hob
    unfold openL at h1
    split at h1
    · cases h1
    · split at h1
      · rename_i h2 h3
        simp only [OR.ok.injEq] at h1
        rw [← h1, List.length_take, HLL.out]
        rw [HLL.out] at h2
        omega
      · cases h1
  have HOB := Lib.hid hob
  have HBL := Lib.hid hbl
  have HUQ := Lib.hid (show ∀ (seq kind : Int) (m : ManD) (k : Nat), EGood bs seq kind m k → 9 ≤ b.length ∧ seq = i64' (little (b.take 8)) ∧ 0 ≤ seq ∧ (∃ c, b[8]? = some c ∧ kind = (c.toNat : Int)) ∧ 1 ≤ kind ∧ kind ≤ 4 ∧ MGood (b.drop 9) m from fun seq kind m k h => by
    obtain ⟨-, -, -, -, b', hb', h1⟩ := h
    rw [HNN.out, hob] at hb'
    cases hb'
    exact h1)
  clear hob hbl
  go_wp2_with fail
  with_reducible refine hop.mono ?_
  rintro e w4 ⟨b4, vb, rfl, rb⟩
  obtain ⟨ab, cb, rfl⟩ := rb.slice
  have B4 := nxt B3 b4
  have row4 := heap_below b4 row3
  have hS4 := hS.below B4
  clear hop u2 m4 m5 row3 b4
  by_cases h9 : b.length < 9
  case pos =>
    have k0 : w4.cell? ⟨3, 0, none⟩ = some (.iface 180 (.pointer (some (A 0)))) := hS4.cell 0 hE0
    have hbd := readBad_calls 180 (.pointer (some (A 0))) w4
    go_wp2_with fail
    have hwg := B4.size
    with_reducible refine hbd.mono ?_
    rintro e wb ⟨rfl, bb⟩
    have Bb := nxt B4 bb
    have rowb := heap_below bb row4
    unfold zeroE
    have f0 : wb.cell? ⟨g, 0, none⟩ = some (.int .i64 0) := cell_of_row _ _ 0 _ _ _ rowb
    have z0 : wb.frozen? ⟨g, 0, none⟩ = false := frozen_of_row _ g 0 _ _ rowb
    have f1 : wb.cell? ⟨g, 1, none⟩ = some (.int .i64 0) := cell_of_row _ _ 1 _ _ _ rowb
    have z1 : wb.frozen? ⟨g, 1, none⟩ = false := frozen_of_row _ g 1 _ _ rowb
    have f2 : wb.cell? ⟨g, 2, none⟩ = some (.int .i64 0) := cell_of_row _ _ 2 _ _ _ rowb
    have z2 : wb.frozen? ⟨g, 2, none⟩ = false := frozen_of_row _ g 2 _ _ rowb
    have f3 : wb.cell? ⟨g, 3, none⟩ = some (.int .i64 0) := cell_of_row _ _ 3 _ _ _ rowb
    have z3 : wb.frozen? ⟨g, 3, none⟩ = false := frozen_of_row _ g 3 _ _ rowb
    have f4 : wb.cell? ⟨g, 4, none⟩ = some (.int .i64 0) := cell_of_row _ _ 4 _ _ _ rowb
    have z4 : wb.frozen? ⟨g, 4, none⟩ = false := frozen_of_row _ g 4 _ _ rowb
    have f5 : wb.cell? ⟨g, 5, none⟩ = some (.slice none 0 0) := cell_of_row _ _ 5 _ _ _ rowb
    have z5 : wb.frozen? ⟨g, 5, none⟩ = false := frozen_of_row _ g 5 _ _ rowb
    have f6 : wb.cell? ⟨g, 6, none⟩ = some (.slice none 0 0) := cell_of_row _ _ 6 _ _ _ rowb
    have z6 : wb.frozen? ⟨g, 6, none⟩ = false := frozen_of_row _ g 6 _ _ rowb
    obtain ⟨rz, Bz⟩ := zeroed rowb Bb hgw
    clear hbd rowb bb
    go_wp2_with fail
    clear f0 f1 f2 f3 f4 f5 f6 z0 z1 z2 z3 z4 z5 z6
    generalize (((((((wb.setCell ⟨g, 0, none⟩ (.int .i64 0)).setCell ⟨g, 1, none⟩ (.int .i64 0)).setCell ⟨g, 2, none⟩ (.int .i64 0)).setCell ⟨g, 3, none⟩ (.int .i64 0)).setCell ⟨g, 4, none⟩ (.int .i64 0)).setCell ⟨g, 5, none⟩ (.slice none 0 0)).setCell ⟨g, 6, none⟩ (.slice none 0 0)) = wz at *
    have q0 : wz.cell? ⟨g, 0, none⟩ = some (.int .i64 0) := cell_of_row _ _ 0 _ _ _ rz
    have q1 : wz.cell? ⟨g, 1, none⟩ = some (.int .i64 0) := cell_of_row _ _ 1 _ _ _ rz
    have q2 : wz.cell? ⟨g, 2, none⟩ = some (.int .i64 0) := cell_of_row _ _ 2 _ _ _ rz
    have q3 : wz.cell? ⟨g, 3, none⟩ = some (.int .i64 0) := cell_of_row _ _ 3 _ _ _ rz
    have q4 : wz.cell? ⟨g, 4, none⟩ = some (.int .i64 0) := cell_of_row _ _ 4 _ _ _ rz
    have q5 : wz.cell? ⟨g, 5, none⟩ = some (.slice none 0 0) := cell_of_row _ _ 5 _ _ _ rz
    have q6 : wz.cell? ⟨g, 6, none⟩ = some (.slice none 0 0) := cell_of_row _ _ 6 _ _ _ rz
    refine bodyPost_ret (v := .tuple #[.int .i64 0, zeroE, .int .i64 0, .iface 180 (.pointer (some (A 0)))]) (by simp [results, go_sem, q0, q1, q2, q3, q4, q5, q6, zeroE]) rfl ?_
    exact ⟨Bz, .inr ⟨_, _, rfl, fun _ _ _ _ h => absurd (HUQ.out _ _ _ _ h).1 (by omega), fun _ => rfl⟩⟩
  have h9' : decide ((b.length : Int) < 9) = false := decide_eq_false (by omega)
  have h9n : 9 ≤ b.length := by omega
  have hbn : b.length ≤ 65536 := by have := HBL.out; have := HNM.out; omega
  have hnr := newReader_calls A (.slice ab b.length cb) b w4 rb (by omega)
  obtain ⟨sq, hsq⟩ : ∃ s, s = little (b.take 8) := ⟨_, rfl⟩
  have hsb : sq < 18446744073709551616 := by rw [hsq]; have := little_lt (b.take 8); rw [show (b.take 8).length = 8 by rw [List.length_take]; omega] at this; simpa using this
  have HSQ := Lib.hid hsq
  clear hsq h9
  go_wp2_with fail
  with_reducible refine hnr.mono ?_
  rintro e w5 ⟨gr, rfl, hgr, r5, b5⟩
  have B5 := nxt B4 b5
  have row5 := heap_below b5 row4
  have rb5 := rb.below b5
  have hgl : g < w4.heap.size := (Array.getElem?_eq_some_iff.1 row4).1
  have haw : Away S A gr := Away.of_new hS (by have := B4.size; omega)
  have f8 := fixed_calls' (hS.below B5) hE0 haw r5 8
  unfold FixedPost at f8
  rw [fixed_yes (n := (8 : Int)) (s := rs0 b) rfl 8 rfl (by decide) (by show ¬ (b.drop 0).length < 8; rw [List.drop_zero]; omega)] at f8
  rw [show (rs0 b).left.take 8 = b.take 8 by show (b.drop 0).take 8 = _; rw [List.drop_zero], ← HSQ.out] at f8
  simp only at f8
  have iw := i64_wrap' sq hsb
  clear hnr
  go_wp2_with fail
  with_reducible refine f8.mono ?_
  rintro e w6 ⟨rfl, _, t6⟩
  have t46 : Below w4.heap.size w4 w6 := t6.new b5 hgr
  have B6 := nxt B4 t46
  have row6 := heap_below t46 row4
  have rb6 := rb.below t46
  have hS6 := hS.below B6
  obtain ⟨kk, hkk⟩ : ∃ k, k = b[8].toNat := ⟨_, rfl⟩
  have hkb : kk < 256 := by rw [hkk]; exact b[8].toNat_lt
  have c8 : ∃ ga go, ab = some ⟨ga, go, none⟩ ∧ w6.cell? ⟨ga, go + 8, none⟩ = some (.int .u8 (kk : Int)) := by
    obtain ⟨ga, go, rfl, hx1, hx2, hx3⟩ := rb6.at (by omega)
    exact ⟨ga, go, rfl, by rw [hkk]; exact hx3 8 _ (bvs_at b 8 (by omega))⟩
  obtain ⟨ga, go, rfl, hc8⟩ := c8
  have HKK := Lib.hid (show b[8]? = some b[8] from List.getElem?_eq_getElem (by omega))
  have HKV := Lib.hid hkk
  have kw : IntKind.i64.wrap (kk : Int) = (kk : Int) := by rw [IntKind.wrap_i64]; omega
  have h8l : (8 : Int) < (b.length : Int) := by omega
  have h8n : 8 < b.length := by omega
  clear f8 t6 r5 haw hkk row5 rb5 b5 B5
  obtain ⟨sv, hsv⟩ : ∃ s, s = i64' sq := ⟨_, rfl⟩
  rw [← hsv] at iw
  have HSV := Lib.hid hsv
  have be := below_alloc w6 (.cells #[.int .i64 (kk : Int), .int .i64 0, .int .i64 0, .int .i64 0, .int .i64 0, .slice none 0 0, .slice none 0 0] 27)
  have rowe := heap_alloc_new w6 (.cells #[.int .i64 (kk : Int), .int .i64 0, .int .i64 0, .int .i64 0, .int .i64 0, .slice none 0 0, .slice none 0 0] 27)
  clear hsv
  go_upto_region 16 with fail
  obtain ⟨w7, hw7⟩ : ∃ w7, w7 = w6.alloc (.cells #[.int .i64 (kk : Int), .int .i64 0, .int .i64 0, .int .i64 0, .int .i64 0, .slice none 0 0, .slice none 0 0] 27) := ⟨_, rfl⟩
  obtain ⟨ge, hge⟩ : ∃ ge, ge = w6.heap.size := ⟨_, rfl⟩
  rw [← hw7] at be rowe ⊢
  rw [← hge] at rowe ⊢
  have hgge : g < ge := by have := t46.size; omega
  have B7 := nxt B6 be
  have row7 := heap_below be row6
  have rb7 := rb6.below be
  have hS7 := hS.below B7
  clear hw7 hge be row6 rb6 hc8 t46
  by_cases hs0 : sv < 0
  case pos =>
    have k4 : w7.cell? ⟨0, 0, none⟩ = some (.iface 180 (.pointer (some (A 4)))) := hS7.cell 4 hE4
    have hbd := readBad_calls 180 (.pointer (some (A 4))) w7
    go_wp2_with fail
    have hwg := B7.size
    with_reducible refine hbd.mono ?_
    rintro e wb ⟨rfl, bb⟩
    have Bb := nxt B7 bb
    have rowb := heap_below bb row7
    unfold zeroE
    have f0 : wb.cell? ⟨g, 0, none⟩ = some (.int .i64 0) := cell_of_row _ _ 0 _ _ _ rowb
    have z0 : wb.frozen? ⟨g, 0, none⟩ = false := frozen_of_row _ g 0 _ _ rowb
    have f1 : wb.cell? ⟨g, 1, none⟩ = some (.int .i64 0) := cell_of_row _ _ 1 _ _ _ rowb
    have z1 : wb.frozen? ⟨g, 1, none⟩ = false := frozen_of_row _ g 1 _ _ rowb
    have f2 : wb.cell? ⟨g, 2, none⟩ = some (.int .i64 0) := cell_of_row _ _ 2 _ _ _ rowb
    have z2 : wb.frozen? ⟨g, 2, none⟩ = false := frozen_of_row _ g 2 _ _ rowb
    have f3 : wb.cell? ⟨g, 3, none⟩ = some (.int .i64 0) := cell_of_row _ _ 3 _ _ _ rowb
    have z3 : wb.frozen? ⟨g, 3, none⟩ = false := frozen_of_row _ g 3 _ _ rowb
    have f4 : wb.cell? ⟨g, 4, none⟩ = some (.int .i64 0) := cell_of_row _ _ 4 _ _ _ rowb
    have z4 : wb.frozen? ⟨g, 4, none⟩ = false := frozen_of_row _ g 4 _ _ rowb
    have f5 : wb.cell? ⟨g, 5, none⟩ = some (.slice none 0 0) := cell_of_row _ _ 5 _ _ _ rowb
    have z5 : wb.frozen? ⟨g, 5, none⟩ = false := frozen_of_row _ g 5 _ _ rowb
    have f6 : wb.cell? ⟨g, 6, none⟩ = some (.slice none 0 0) := cell_of_row _ _ 6 _ _ _ rowb
    have z6 : wb.frozen? ⟨g, 6, none⟩ = false := frozen_of_row _ g 6 _ _ rowb
    obtain ⟨rz, Bz⟩ := zeroed rowb Bb hgw
    clear hbd rowb bb
    go_wp2_with fail
    clear f0 f1 f2 f3 f4 f5 f6 z0 z1 z2 z3 z4 z5 z6
    generalize (((((((wb.setCell ⟨g, 0, none⟩ (.int .i64 0)).setCell ⟨g, 1, none⟩ (.int .i64 0)).setCell ⟨g, 2, none⟩ (.int .i64 0)).setCell ⟨g, 3, none⟩ (.int .i64 0)).setCell ⟨g, 4, none⟩ (.int .i64 0)).setCell ⟨g, 5, none⟩ (.slice none 0 0)).setCell ⟨g, 6, none⟩ (.slice none 0 0)) = wz at *
    have q0 : wz.cell? ⟨g, 0, none⟩ = some (.int .i64 0) := cell_of_row _ _ 0 _ _ _ rz
    have q1 : wz.cell? ⟨g, 1, none⟩ = some (.int .i64 0) := cell_of_row _ _ 1 _ _ _ rz
    have q2 : wz.cell? ⟨g, 2, none⟩ = some (.int .i64 0) := cell_of_row _ _ 2 _ _ _ rz
    have q3 : wz.cell? ⟨g, 3, none⟩ = some (.int .i64 0) := cell_of_row _ _ 3 _ _ _ rz
    have q4 : wz.cell? ⟨g, 4, none⟩ = some (.int .i64 0) := cell_of_row _ _ 4 _ _ _ rz
    have q5 : wz.cell? ⟨g, 5, none⟩ = some (.slice none 0 0) := cell_of_row _ _ 5 _ _ _ rz
    have q6 : wz.cell? ⟨g, 6, none⟩ = some (.slice none 0 0) := cell_of_row _ _ 6 _ _ _ rz
    refine bodyPost_ret (v := .tuple #[.int .i64 0, zeroE, .int .i64 0, .iface 180 (.pointer (some (A 4)))]) (by simp [results, go_sem, q0, q1, q2, q3, q4, q5, q6, zeroE]) rfl ?_
    exact ⟨Bz, .inr ⟨_, _, rfl, fun _ _ _ _ h => absurd (HUQ.out _ _ _ _ h) (by rintro ⟨-, h1, h2, -⟩; rw [← HSQ.out, ← HSV.out] at h1; omega), fun h => by rw [HNN.out] at h; have := HNE.out; have := HNM.out; omega⟩⟩
  have hs0' : decide (sv < 0) = false := decide_eq_false hs0
  have g0 : w7.cell? ⟨ge, 0, none⟩ = some (.int .i64 (kk : Int)) := cell_of_row _ _ 0 _ _ _ rowe
  have hkn := known_calls (kk : Int) w7
  have HS0 := Lib.hid hs0
  clear hs0
  go_wp2_with fail
  with_reducible refine hkn.mono ?_
  rintro e w8 ⟨rfl, rfl⟩
  by_cases hkd : (1 : Int) ≤ (kk : Int) ∧ (kk : Int) ≤ 4
  case neg =>
    rw [decide_eq_false hkd]
    have k11 : w8.cell? ⟨1, 0, none⟩ = some (.iface 180 (.pointer (some (A 11)))) := hS7.cell 11 hE11
    have HKD := Lib.hid hkd
    clear hkd hkn g0
    have hbd := readBad_calls 180 (.pointer (some (A 11))) w8
    go_wp2_with fail
    have hwg := B7.size
    with_reducible refine hbd.mono ?_
    rintro e wb ⟨rfl, bb⟩
    have Bb := nxt B7 bb
    have rowb := heap_below bb row7
    unfold zeroE
    have f0 : wb.cell? ⟨g, 0, none⟩ = some (.int .i64 0) := cell_of_row _ _ 0 _ _ _ rowb
    have z0 : wb.frozen? ⟨g, 0, none⟩ = false := frozen_of_row _ g 0 _ _ rowb
    have f1 : wb.cell? ⟨g, 1, none⟩ = some (.int .i64 0) := cell_of_row _ _ 1 _ _ _ rowb
    have z1 : wb.frozen? ⟨g, 1, none⟩ = false := frozen_of_row _ g 1 _ _ rowb
    have f2 : wb.cell? ⟨g, 2, none⟩ = some (.int .i64 0) := cell_of_row _ _ 2 _ _ _ rowb
    have z2 : wb.frozen? ⟨g, 2, none⟩ = false := frozen_of_row _ g 2 _ _ rowb
    have f3 : wb.cell? ⟨g, 3, none⟩ = some (.int .i64 0) := cell_of_row _ _ 3 _ _ _ rowb
    have z3 : wb.frozen? ⟨g, 3, none⟩ = false := frozen_of_row _ g 3 _ _ rowb
    have f4 : wb.cell? ⟨g, 4, none⟩ = some (.int .i64 0) := cell_of_row _ _ 4 _ _ _ rowb
    have z4 : wb.frozen? ⟨g, 4, none⟩ = false := frozen_of_row _ g 4 _ _ rowb
    have f5 : wb.cell? ⟨g, 5, none⟩ = some (.slice none 0 0) := cell_of_row _ _ 5 _ _ _ rowb
    have z5 : wb.frozen? ⟨g, 5, none⟩ = false := frozen_of_row _ g 5 _ _ rowb
    have f6 : wb.cell? ⟨g, 6, none⟩ = some (.slice none 0 0) := cell_of_row _ _ 6 _ _ _ rowb
    have z6 : wb.frozen? ⟨g, 6, none⟩ = false := frozen_of_row _ g 6 _ _ rowb
    obtain ⟨rz, Bz⟩ := zeroed rowb Bb hgw
    clear hbd rowb bb
    go_wp2_with fail
    clear f0 f1 f2 f3 f4 f5 f6 z0 z1 z2 z3 z4 z5 z6
    generalize (((((((wb.setCell ⟨g, 0, none⟩ (.int .i64 0)).setCell ⟨g, 1, none⟩ (.int .i64 0)).setCell ⟨g, 2, none⟩ (.int .i64 0)).setCell ⟨g, 3, none⟩ (.int .i64 0)).setCell ⟨g, 4, none⟩ (.int .i64 0)).setCell ⟨g, 5, none⟩ (.slice none 0 0)).setCell ⟨g, 6, none⟩ (.slice none 0 0)) = wz at *
    have q0 : wz.cell? ⟨g, 0, none⟩ = some (.int .i64 0) := cell_of_row _ _ 0 _ _ _ rz
    have q1 : wz.cell? ⟨g, 1, none⟩ = some (.int .i64 0) := cell_of_row _ _ 1 _ _ _ rz
    have q2 : wz.cell? ⟨g, 2, none⟩ = some (.int .i64 0) := cell_of_row _ _ 2 _ _ _ rz
    have q3 : wz.cell? ⟨g, 3, none⟩ = some (.int .i64 0) := cell_of_row _ _ 3 _ _ _ rz
    have q4 : wz.cell? ⟨g, 4, none⟩ = some (.int .i64 0) := cell_of_row _ _ 4 _ _ _ rz
    have q5 : wz.cell? ⟨g, 5, none⟩ = some (.slice none 0 0) := cell_of_row _ _ 5 _ _ _ rz
    have q6 : wz.cell? ⟨g, 6, none⟩ = some (.slice none 0 0) := cell_of_row _ _ 6 _ _ _ rz
    refine bodyPost_ret (v := .tuple #[.int .i64 0, zeroE, .int .i64 0, .iface 180 (.pointer (some (A 11)))]) (by simp [results, go_sem, q0, q1, q2, q3, q4, q5, q6, zeroE]) rfl ?_
    exact ⟨Bz, .inr ⟨_, _, rfl, fun _ _ _ _ h => absurd (HUQ.out _ _ _ _ h) (by rintro ⟨-, -, -, ⟨c, h1, h2⟩, h3, h4, -⟩; rw [HKK.out] at h1; cases h1; rw [← HKV.out] at h2; exact HKD.out ⟨by omega, by omega⟩), fun h => by rw [HNN.out] at h; have := HNE.out; have := HNM.out; omega⟩⟩
  rw [decide_eq_true hkd]
  have HKD := Lib.hid hkd
  obtain ⟨bl9, hbl9⟩ : ∃ x, x = b.length - 9 := ⟨_, rfl⟩
  obtain ⟨x3, y3, s3, p3⟩ := run_rest 30 sl_u8 1 sz_u8 (some ⟨ga, go, none⟩) b.length cb 9 .i64 (by omega)
  rw [← hbl9] at s3 p3
  have s3b : ∀ W, (Instr.sliceAt 30 (.slice (some ⟨ga, go, none⟩) b.length cb) (some (.int .i64 9)) none none).run Tryd.prog W = .ok (.slice x3 bl9 y3) W := s3
  have rC := p3 w8 _ rb7
  rw [Nat.mul_one, ← bvs_drop] at rC
  have hdl : (b.drop 9).length = bl9 := by rw [List.length_drop]; omega
  have hmr := maniRead_calls S A hS7 hE0 hE1 hE2 hE3 hE4 hE5 (v := .slice x3 bl9 y3) (bs := b.drop 9) (by rw [hdl]; exact rC) (by omega)
  clear hkd hkn g0 p3 rC hdl hbl9 s3
  go_wp2_with fail
  with_reducible refine hmr.mono ?_
  rintro e w9 ⟨b9, hc9⟩
  have B9 := nxt B7 b9
  have row9 := heap_below b9 row7
  have rowe9 := heap_below b9 rowe
  have hgel : ge < w8.heap.size := (Array.getElem?_eq_some_iff.1 rowe).1
  clear hmr s3b
  have e1 : w9.cell? ⟨ge, 1, none⟩ = some (.int .i64 0) := cell_of_row _ _ 1 _ _ _ rowe9
  have y1 : w9.frozen? ⟨ge, 1, none⟩ = false := frozen_of_row _ ge 1 _ _ rowe9
  have e2 : w9.cell? ⟨ge, 2, none⟩ = some (.int .i64 0) := cell_of_row _ _ 2 _ _ _ rowe9
  have y2 : w9.frozen? ⟨ge, 2, none⟩ = false := frozen_of_row _ ge 2 _ _ rowe9
  have e3 : w9.cell? ⟨ge, 3, none⟩ = some (.int .i64 0) := cell_of_row _ _ 3 _ _ _ rowe9
  have y3 : w9.frozen? ⟨ge, 3, none⟩ = false := frozen_of_row _ ge 3 _ _ rowe9
  have e4 : w9.cell? ⟨ge, 4, none⟩ = some (.int .i64 0) := cell_of_row _ _ 4 _ _ _ rowe9
  have y4 : w9.frozen? ⟨ge, 4, none⟩ = false := frozen_of_row _ ge 4 _ _ rowe9
  have e5 : w9.cell? ⟨ge, 5, none⟩ = some (.slice none 0 0) := cell_of_row _ _ 5 _ _ _ rowe9
  have y5 : w9.frozen? ⟨ge, 5, none⟩ = false := frozen_of_row _ ge 5 _ _ rowe9
  have e6 : w9.cell? ⟨ge, 6, none⟩ = some (.slice none 0 0) := cell_of_row _ _ 6 _ _ _ rowe9
  have y6 : w9.frozen? ⟨ge, 6, none⟩ = false := frozen_of_row _ ge 6 _ _ rowe9
  rcases hc9 with ⟨b', m, ve, vo, ho1, ho2, ho3, rfl, oe, oo⟩ | ⟨T, u, rfl, -, hno⟩
  case inr =>
    obtain ⟨rowE, TE⟩ := setE1 (.int .i64 0) (.int .i64 0) (.int .i64 0) (.int .i64 0) (.slice none 0 0) (.slice none 0 0) rowe9
    have rowG := TE.heap row9 (by omega)
    have BE := TE.new B9 (by have := B7.size; omega)
    have HNO := Lib.hid hno
    unfold manZ
    clear hno rowe9 TE
    go_upto_region 21 with fail
    clear e1 e2 e3 e4 e5 e6 y1 y2 y3 y4 y5 y6
    generalize ((((((w9.setCell ⟨ge, 1, none⟩ (.int .i64 0)).setCell ⟨ge, 2, none⟩ (.int .i64 0)).setCell ⟨ge, 3, none⟩ (.int .i64 0)).setCell ⟨ge, 4, none⟩ (.int .i64 0)).setCell ⟨ge, 5, none⟩ (.slice none 0 0)).setCell ⟨ge, 6, none⟩ (.slice none 0 0)) = wE at *
    have hbd := readBad_calls T u wE
    go_wp2_with fail
    have hwg := BE.size
    with_reducible refine hbd.mono ?_
    rintro e wb ⟨rfl, bb⟩
    have Bb := nxt BE bb
    have rowb := heap_below bb rowG
    unfold zeroE
    have f0 : wb.cell? ⟨g, 0, none⟩ = some (.int .i64 0) := cell_of_row _ _ 0 _ _ _ rowb
    have z0 : wb.frozen? ⟨g, 0, none⟩ = false := frozen_of_row _ g 0 _ _ rowb
    have f1 : wb.cell? ⟨g, 1, none⟩ = some (.int .i64 0) := cell_of_row _ _ 1 _ _ _ rowb
    have z1 : wb.frozen? ⟨g, 1, none⟩ = false := frozen_of_row _ g 1 _ _ rowb
    have f2 : wb.cell? ⟨g, 2, none⟩ = some (.int .i64 0) := cell_of_row _ _ 2 _ _ _ rowb
    have z2 : wb.frozen? ⟨g, 2, none⟩ = false := frozen_of_row _ g 2 _ _ rowb
    have f3 : wb.cell? ⟨g, 3, none⟩ = some (.int .i64 0) := cell_of_row _ _ 3 _ _ _ rowb
    have z3 : wb.frozen? ⟨g, 3, none⟩ = false := frozen_of_row _ g 3 _ _ rowb
    have f4 : wb.cell? ⟨g, 4, none⟩ = some (.int .i64 0) := cell_of_row _ _ 4 _ _ _ rowb
    have z4 : wb.frozen? ⟨g, 4, none⟩ = false := frozen_of_row _ g 4 _ _ rowb
    have f5 : wb.cell? ⟨g, 5, none⟩ = some (.slice none 0 0) := cell_of_row _ _ 5 _ _ _ rowb
    have z5 : wb.frozen? ⟨g, 5, none⟩ = false := frozen_of_row _ g 5 _ _ rowb
    have f6 : wb.cell? ⟨g, 6, none⟩ = some (.slice none 0 0) := cell_of_row _ _ 6 _ _ _ rowb
    have z6 : wb.frozen? ⟨g, 6, none⟩ = false := frozen_of_row _ g 6 _ _ rowb
    obtain ⟨rz, Bz⟩ := zeroed rowb Bb hgw
    clear hbd rowb bb
    go_wp2_with fail
    clear f0 f1 f2 f3 f4 f5 f6 z0 z1 z2 z3 z4 z5 z6
    generalize (((((((wb.setCell ⟨g, 0, none⟩ (.int .i64 0)).setCell ⟨g, 1, none⟩ (.int .i64 0)).setCell ⟨g, 2, none⟩ (.int .i64 0)).setCell ⟨g, 3, none⟩ (.int .i64 0)).setCell ⟨g, 4, none⟩ (.int .i64 0)).setCell ⟨g, 5, none⟩ (.slice none 0 0)).setCell ⟨g, 6, none⟩ (.slice none 0 0)) = wz at *
    have q0 : wz.cell? ⟨g, 0, none⟩ = some (.int .i64 0) := cell_of_row _ _ 0 _ _ _ rz
    have q1 : wz.cell? ⟨g, 1, none⟩ = some (.int .i64 0) := cell_of_row _ _ 1 _ _ _ rz
    have q2 : wz.cell? ⟨g, 2, none⟩ = some (.int .i64 0) := cell_of_row _ _ 2 _ _ _ rz
    have q3 : wz.cell? ⟨g, 3, none⟩ = some (.int .i64 0) := cell_of_row _ _ 3 _ _ _ rz
    have q4 : wz.cell? ⟨g, 4, none⟩ = some (.int .i64 0) := cell_of_row _ _ 4 _ _ _ rz
    have q5 : wz.cell? ⟨g, 5, none⟩ = some (.slice none 0 0) := cell_of_row _ _ 5 _ _ _ rz
    have q6 : wz.cell? ⟨g, 6, none⟩ = some (.slice none 0 0) := cell_of_row _ _ 6 _ _ _ rz
    refine bodyPost_ret (v := .tuple #[.int .i64 0, zeroE, .int .i64 0, .iface T u]) (by simp [results, go_sem, q0, q1, q2, q3, q4, q5, q6, zeroE]) rfl ?_
    exact ⟨Bz, .inr ⟨_, _, rfl, fun _ _ _ _ h => absurd (HUQ.out _ _ _ _ h) (by rintro ⟨-, -, -, -, -, -, b1, q1, q2, q3⟩; exact HNO.out b1 _ q1 q2 q3), fun h => by rw [HNN.out] at h; have := HNE.out; have := HNM.out; omega⟩⟩
  obtain ⟨ae, ce, rfl⟩ := owns_slice oe
  obtain ⟨ao, co, rfl⟩ := owns_slice oo
  obtain ⟨rowE, TE⟩ := setE1 (.int .i64 m.id) (.int .i64 m.base) (.int .i64 m.fin) (.int .i64 m.time) (.slice ae m.eps.length ce) (.slice ao m.objs.length co) rowe9
  have rowG := TE.heap row9 (by omega)
  have BE := TE.new B9 (by have := B7.size; omega)
  have OE := TE.owns_from oe (by omega)
  have OO := TE.owns_from oo (by omega)
  have HM := Lib.hid (show MGood (b.drop 9) m from ⟨b', ho1, ho2, ho3⟩)
  unfold manA
  clear rowe9 TE ho1 ho2 ho3 oe oo
  go_upto_region 21 with fail
  clear e1 e2 e3 e4 e5 e6 y1 y2 y3 y4 y5 y6
  generalize ((((((w9.setCell ⟨ge, 1, none⟩ (.int .i64 m.id)).setCell ⟨ge, 2, none⟩ (.int .i64 m.base)).setCell ⟨ge, 3, none⟩ (.int .i64 m.fin)).setCell ⟨ge, 4, none⟩ (.int .i64 m.time)).setCell ⟨ge, 5, none⟩ (.slice ae m.eps.length ce)).setCell ⟨ge, 6, none⟩ (.slice ao m.objs.length co)) = wE at *
  have m4 : IntKind.i64.wrap (n : Int) = (n : Int) := by rw [IntKind.wrap_i64]; have := HNM.out; omega
  have m5 : IntKind.i64.wrap (4 + (n : Int)) = (n4 : Int) := by rw [IntKind.wrap_i64]; have := HNM.out; have := HN4.out; omega
  have e0 : wE.cell? ⟨ge, 0, none⟩ = some (.int .i64 (kk : Int)) := cell_of_row _ _ 0 _ _ _ rowE
  have f0 : wE.cell? ⟨g, 0, none⟩ = some (.int .i64 0) := cell_of_row _ _ 0 _ _ _ rowG
  have z0 : wE.frozen? ⟨g, 0, none⟩ = false := frozen_of_row _ g 0 _ _ rowG
  have e1 : wE.cell? ⟨ge, 1, none⟩ = some (.int .i64 m.id) := cell_of_row _ _ 1 _ _ _ rowE
  have f1 : wE.cell? ⟨g, 1, none⟩ = some (.int .i64 0) := cell_of_row _ _ 1 _ _ _ rowG
  have z1 : wE.frozen? ⟨g, 1, none⟩ = false := frozen_of_row _ g 1 _ _ rowG
  have e2 : wE.cell? ⟨ge, 2, none⟩ = some (.int .i64 m.base) := cell_of_row _ _ 2 _ _ _ rowE
  have f2 : wE.cell? ⟨g, 2, none⟩ = some (.int .i64 0) := cell_of_row _ _ 2 _ _ _ rowG
  have z2 : wE.frozen? ⟨g, 2, none⟩ = false := frozen_of_row _ g 2 _ _ rowG
  have e3 : wE.cell? ⟨ge, 3, none⟩ = some (.int .i64 m.fin) := cell_of_row _ _ 3 _ _ _ rowE
  have f3 : wE.cell? ⟨g, 3, none⟩ = some (.int .i64 0) := cell_of_row _ _ 3 _ _ _ rowG
  have z3 : wE.frozen? ⟨g, 3, none⟩ = false := frozen_of_row _ g 3 _ _ rowG
  have e4 : wE.cell? ⟨ge, 4, none⟩ = some (.int .i64 m.time) := cell_of_row _ _ 4 _ _ _ rowE
  have f4 : wE.cell? ⟨g, 4, none⟩ = some (.int .i64 0) := cell_of_row _ _ 4 _ _ _ rowG
  have z4 : wE.frozen? ⟨g, 4, none⟩ = false := frozen_of_row _ g 4 _ _ rowG
  have e5 : wE.cell? ⟨ge, 5, none⟩ = some (.slice ae m.eps.length ce) := cell_of_row _ _ 5 _ _ _ rowE
  have f5 : wE.cell? ⟨g, 5, none⟩ = some (.slice none 0 0) := cell_of_row _ _ 5 _ _ _ rowG
  have z5 : wE.frozen? ⟨g, 5, none⟩ = false := frozen_of_row _ g 5 _ _ rowG
  have e6 : wE.cell? ⟨ge, 6, none⟩ = some (.slice ao m.objs.length co) := cell_of_row _ _ 6 _ _ _ rowE
  have f6 : wE.cell? ⟨g, 6, none⟩ = some (.slice none 0 0) := cell_of_row _ _ 6 _ _ _ rowG
  have z6 : wE.frozen? ⟨g, 6, none⟩ = false := frozen_of_row _ g 6 _ _ rowG
  obtain ⟨rowz, TZ⟩ := setE (.int .i64 (kk : Int)) (.int .i64 m.id) (.int .i64 m.base) (.int .i64 m.fin) (.int .i64 m.time) (.slice ae m.eps.length ce) (.slice ao m.objs.length co) rowG
  have BZ := TZ.new BE hgw
  have OE2 := owns_base (base' := w.heap.size) (TZ.owns_from OE (by omega)) (by omega)
  have OO2 := owns_base (base' := w.heap.size) (TZ.owns_from OO (by omega)) (by omega)
  clear TZ
  go_wp2_with fail
  go_region
  all_goals
    generalize (((((((wE.setCell ⟨g, 0, none⟩ (.int .i64 (kk : Int))).setCell ⟨g, 1, none⟩ (.int .i64 m.id)).setCell ⟨g, 2, none⟩ (.int .i64 m.base)).setCell ⟨g, 3, none⟩ (.int .i64 m.fin)).setCell ⟨g, 4, none⟩ (.int .i64 m.time)).setCell ⟨g, 5, none⟩ (.slice ae m.eps.length ce)).setCell ⟨g, 6, none⟩ (.slice ao m.objs.length co)) = wz at *
    have q0 : wz.cell? ⟨g, 0, none⟩ = some (.int .i64 (kk : Int)) := cell_of_row _ _ 0 _ _ _ rowz
    have q1 : wz.cell? ⟨g, 1, none⟩ = some (.int .i64 m.id) := cell_of_row _ _ 1 _ _ _ rowz
    have q2 : wz.cell? ⟨g, 2, none⟩ = some (.int .i64 m.base) := cell_of_row _ _ 2 _ _ _ rowz
    have q3 : wz.cell? ⟨g, 3, none⟩ = some (.int .i64 m.fin) := cell_of_row _ _ 3 _ _ _ rowz
    have q4 : wz.cell? ⟨g, 4, none⟩ = some (.int .i64 m.time) := cell_of_row _ _ 4 _ _ _ rowz
    have q5 : wz.cell? ⟨g, 5, none⟩ = some (.slice ae m.eps.length ce) := cell_of_row _ _ 5 _ _ _ rowz
    have q6 : wz.cell? ⟨g, 6, none⟩ = some (.slice ao m.objs.length co) := cell_of_row _ _ 6 _ _ _ rowz
    go_wp2_with fail
    refine bodyPost_ret (v := .tuple #[.int .i64 sv, entA (kk : Int) m (.slice ae m.eps.length ce) (.slice ao m.objs.length co), .int .i64 (n4 : Int), .nilIface]) (by simp [results, go_sem, q0, q1, q2, q3, q4, q5, q6, entA]) rfl ?_
    refine ⟨BZ.drew, .inl ⟨sv, (kk : Int), m, _, _, n4, ⟨h4, by rw [HNN.out]; have := HNM.out; omega, by rw [HNN.out]; have := HNE.out; omega, by rw [HNN.out]; exact HN4.out, b, by rw [HNN.out]; exact HOB.out, h9n, by rw [HSV.out, HSQ.out], by have := HS0.out; omega, ⟨_, HKK.out, by rw [HKV.out]⟩, HKD.out.1, HKD.out.2, HM.out⟩, rfl, ?_, ?_⟩⟩
    · exact owns_below OE2 (Below.refl _ _).drew
    · exact owns_below OO2 (Below.refl _ _).drew
end Go.Proofs.YtldopocmmeidkaaDoor

/-! Plain: an entry's bytes are read as it, whatever stands behind; cut off they end too early. -/
namespace Go.Proofs.YtldopocmmeidkaaDoor
open Go Go.RowKit Man Vint Crc

theorem openL_of (X : List UInt8) : openL (sealed X) = .ok X := by
  unfold openL
  have h1 : (sealed X).take ((sealed X).length - 4) = X := by
    have : (sealed X).length - 4 = X.length := by rw [sealed_len]; omega
    rw [this]
    unfold sealed
    rw [List.take_left]
  rw [if_neg (by rw [sealed_len]; omega), h1, if_pos rfl]

theorem MGood.uniq {l : List UInt8} {m m' : ManD} (h : MGood l m) (h' : MGood l m') : m = m' := by
  obtain ⟨b, h1, h2, -⟩ := h
  obtain ⟨b', k1, k2, -⟩ := h'
  rw [h1] at k1
  cases k1
  rw [h2] at k2
  cases k2
  rfl
theorem EGood.uniq {bs : List UInt8} {s s' k k' : Int} {m m' : ManD} {n n' : Nat} (h : EGood bs s k m n) (h' : EGood bs s' k' m' n') : s = s' ∧ k = k' ∧ m = m' ∧ n = n' := by
  obtain ⟨-, -, -, h1, b, h2, -, h3, -, ⟨c, h4, h5⟩, -, -, h6⟩ := h
  obtain ⟨-, -, -, k1, b', k2, -, k3, -, ⟨c', k4, k5⟩, -, -, k6⟩ := h'
  rw [h2] at k2
  cases k2
  rw [h4] at k4
  cases k4
  exact ⟨by rw [h3, k3], by rw [h5, k5], h6.uniq k6, by rw [h1, k1]⟩

theorem entL_len (seq k : Int) (m : ManD) : (entL seq k m).length = 13 + (mbody m).length := by
  unfold entL
  rw [List.length_append, List.length_cons, lit_length, sealed_len]
  omega
theorem entB_len (seq k : Int) (m : ManD) : (entB seq k m).length = 21 + (mbody m).length := by
  unfold entB
  rw [List.length_append, lit_length, sealed_len, entL_len]
  omega
theorem entB_take (seq k : Int) (m : ManD) (rest : List UInt8) : (entB seq k m ++ rest).take 4 = lit (sealed (entL seq k m)).length 4 := by
  unfold entB
  rw [List.append_assoc, List.take_left' (lit_length 4 _)]
theorem entB_little (seq k : Int) (m : ManD) (h : (mbody m).length ≤ 10000) (rest : List UInt8) : little ((entB seq k m ++ rest).take 4) = (sealed (entL seq k m)).length := by
  rw [entB_take, little_lit 4 _ (by rw [sealed_len, entL_len]; omega)]
theorem i64_u64 (seq : Int) (h0 : 0 ≤ seq) (h1 : I64 seq) : i64' (u64 seq) = seq := by
  have h2 := h1.out
  unfold i64' u64
  rw [if_pos (by omega)]
  omega
theorem entL_take (seq k : Int) (m : ManD) : (entL seq k m).take 8 = lit (u64 seq) 8 := by
  unfold entL
  rw [List.take_left' (lit_length 8 _)]
theorem entL_8 (seq k : Int) (m : ManD) : (entL seq k m)[8]? = some (UInt8.ofNat k.toNat) := by
  unfold entL
  rw [List.getElem?_append_right (by rw [lit_length]; omega), lit_length]
  rfl
theorem entL_drop (seq k : Int) (m : ManD) : (entL seq k m).drop 9 = sealed (mbody m) := by
  unfold entL
  rw [show (9 : Nat) = 8 + 1 from rfl, ← List.drop_drop, List.drop_left' (lit_length 8 _)]
  rfl
theorem little8 (seq : Int) : little (lit (u64 seq) 8) = u64 seq := little_lit 8 _ (by have := u64_lt seq; simpa using this)

theorem mgood_put {m : ManD} (h : manOk m) (hk : Man.Ok m) : MGood (sealed (mbody m)) m := by
  refine ⟨mbody m, openL_of _, ?_, h⟩
  have := readM_put m (putOk_of2 h hk) []
  rw [List.append_nil, if_pos (show ([] : List UInt8).length = 0 from rfl)] at this
  exact this

theorem egood_put {seq k : Int} {m : ManD} (h : manOk m) (hk : Man.Ok m) (h0 : 0 ≤ seq) (h1 : I64 seq) (hk1 : 1 ≤ k) (hk4 : k ≤ 4) (rest : List UInt8) : EGood (entB seq k m ++ rest) seq k m (entB seq k m).length := by
  have hl := mbody_len m h hk
  have hq := entB_little seq k m hl rest
  have hL : (sealed (entL seq k m)).length = 17 + (mbody m).length := by rw [sealed_len, entL_len]; omega
  unfold EGood
  rw [hq]
  refine ⟨by rw [List.length_append, entB_len]; omega, by omega, by rw [List.length_append, entB_len]; omega, by rw [entB_len]; omega, entL seq k m, ?_, by rw [entL_len]; omega, ?_, h0, ⟨_, entL_8 seq k m, ?_⟩, hk1, hk4, ?_⟩
  · rw [show ((entB seq k m ++ rest).drop 4).take (sealed (entL seq k m)).length = sealed (entL seq k m) from ?_]
    · exact openL_of _
    · unfold entB
      rw [List.append_assoc, List.drop_left' (lit_length 4 _), List.take_left]
  · rw [entL_take, little8, i64_u64 seq h0 h1]
  · rw [UInt8.toNat_ofNat']; omega
  · rw [entL_drop]; exact mgood_put h hk

theorem egood_cut {seq k : Int} {m : ManD} (h : manOk m) (hk : Man.Ok m) (j : Nat) (hj : j < (entB seq k m).length) :
    (∀ s' k' m' n', ¬ EGood ((entB seq k m).take j) s' k' m' n') ∧ (((entB seq k m).take j).length < 4 ∨ (little (((entB seq k m).take j).take 4) ≤ 65536 ∧ ((entB seq k m).take j).length < 4 + little (((entB seq k m).take j).take 4))) := by
  have hl := mbody_len m h hk
  have hlen : ((entB seq k m).take j).length = j := by rw [List.length_take]; omega
  have hb := entB_len seq k m
  by_cases h4 : j < 4
  · exact ⟨fun s' k' m' n' hg => absurd hg.1 (by omega), .inl (by omega)⟩
  · have hq : little (((entB seq k m).take j).take 4) = (sealed (entL seq k m)).length := by
      rw [List.take_take, Nat.min_eq_left (by omega)]
      have := entB_little seq k m hl []
      rw [List.append_nil] at this
      exact this
    have hL : (sealed (entL seq k m)).length = 17 + (mbody m).length := by rw [sealed_len, entL_len]; omega
    refine ⟨fun s' k' m' n' hg => absurd hg.2.2.1 (by rw [hq]; omega), .inr ⟨by rw [hq]; omega, by rw [hq]; omega⟩⟩
end Go.Proofs.YtldopocmmeidkaaDoor
