/- rec.Read: the batch at the beginning of bytes, and how many it has, or what is amiss. -/
import Derived.Test.YtlfbdcgojbfcaaaDoorRecRead
import Derived.Test.YtlfbdcgojbfcaaaDoorRecBytes
import Derived.Test.YtlfbdcgojbfcaaaDoorEqual
import Derived.Deep.DeepCutAuto
namespace Go.Proofs.YtlfbdcgojbfcaaaDoor
open Go Go.RowKit Rec Vint

theorem fixed4_a (bs : List UInt8) (h : 8 ≤ bs.length) : fixed 4 (rs0 (bs.take 8)) = (little (bs.take 4), (rs0 (bs.take 8)).on 4) := by
  unfold fixed
  have hl : (rs0 (bs.take 8)).left = bs.take 8 := by simp [Rs.left, rs0]
  rw [if_neg (by simp [rs0]), hl, if_neg (by rw [List.length_take]; omega)]
  rw [show (4 : Int).toNat = 4 from rfl, List.take_take]
  rfl
theorem fixed4_b (bs : List UInt8) (h : 8 ≤ bs.length) : (fixed 4 ((rs0 (bs.take 8)).on 4)).1 = little ((bs.drop 4).take 4) := by
  unfold fixed
  have hl : ((rs0 (bs.take 8)).on 4).left = (bs.drop 4).take 4 := by
    simp only [Rs.left, rs0, Rs.on]
    rw [List.drop_take]
  rw [if_neg (by simp [rs0, Rs.on]), hl, if_neg (by rw [List.length_take, List.length_drop]; omega)]
  rw [show (4 : Int).toNat = 4 from rfl, List.take_take]
  rfl
theorem little4 (l : List UInt8) (h : l.length ≤ 4) : little l < 4294967296 := by
  have h1 := little_lt l
  have h2 := Nat.pow_le_pow_right (n := 256) (by omega) h
  omega

theorem batSize : (Tryd.prog.info? 34).map (·.size) = some 3 := by kernel_rfl

def ReadBPost (A : Nat → Addr) (l : List UInt8) (w : World) (e : Ending) (w' : World) : Prop :=
  ∃ v, e = .returned (.tuple #[batA (readB l).2.1 v, .int .i64 ((readB l).2.2 : Nat), if (readB l).1 = 0 then .nilIface else senV A ((readB l).1 - 101)]) ∧ RecsOwn w' w.heap.size v (readB l).2.1.recs ∧ Below w.heap.size w w'

set_option maxRecDepth 100000 in
set_option maxHeartbeats 4000000 in
theorem recReadB_calls (S : List Nat) (A : Nat → Addr) {w : World} (hS : Sents S w A) (hE0 : 0 ∈ S) (hE1 : 1 ∈ S) (hE2 : 2 ∈ S) (hE3 : 3 ∈ S) (hE4 : 4 ∈ S) {v : Value} {bs : List UInt8} (h : Rd w 1 v bs.length (bvs bs)) (hl : bs.length ≤ 1099511627776) :
    Calls Tryd.prog 29 #[v] w (ReadBPost A bs w) := by
  obtain ⟨a, c, rfl⟩ := h.slice
  have hcap := h.cap
  have b0 := below_alloc w (.cells #[.int .i64 0, .int .i64 0, .slice none 0 0] 34)
  have row0 := heap_alloc_new w (.cells #[.int .i64 0, .int .i64 0, .slice none 0 0] 34)
  have hrb : readB bs = readB bs := rfl
  conv at hrb => rhs; unfold readB
  have HRB := Lib.hid hrb
  clear hrb
  have h0 := h.below b0
  go_enter Tryd.func29, Tryd.ntmps29
  go_upto_region 1 with fail
  generalize w.alloc (.cells #[.int .i64 0, .int .i64 0, .slice none 0 0] 34) = w0 at *
  by_cases t1 : bs.length < 8
  · have t1' : decide ((bs.length : Int) < 8) = true := decide_eq_true (by omega)
    have HB := Lib.hid (HRB.out.trans (if_pos t1))
    clear t1
    have k0 : w0.cell? ⟨2, 0, none⟩ = some (.iface 138 (.pointer (some (A 0)))) := (hS.below b0).cell 0 hE0
    have k1 : (w0.setCell ⟨w.heap.size, 0, none⟩ (.int .i64 0)).cell? ⟨2, 0, none⟩ = some (.iface 138 (.pointer (some (A 0)))) := World.grownBy.cell (Touch.setCell (g := w.heap.size) w0 0 (.int .i64 0)) k0 (fun e => absurd (World.block_lt_of_cell? w _ (hS.cell 0 hE0)) (by rw [show glob 0 = w.heap.size from Option.some.inj e]; exact Nat.lt_irrefl _))
    have f0 : w0.cell? ⟨w.heap.size, 0, none⟩ = some (.int .i64 0) := cell_of_row _ _ 0 _ _ _ row0
    have f1 : w0.cell? ⟨w.heap.size, 1, none⟩ = some (.int .i64 0) := cell_of_row _ _ 1 _ _ _ row0
    have f2 : w0.cell? ⟨w.heap.size, 2, none⟩ = some (.slice none 0 0) := cell_of_row _ _ 2 _ _ _ row0
    have z0 : w0.frozen? ⟨w.heap.size, 0, none⟩ = false := frozen_of_row _ w.heap.size 0 _ _ row0
    have z1 : w0.frozen? ⟨w.heap.size, 1, none⟩ = false := frozen_of_row _ w.heap.size 1 _ _ row0
    have z2 : w0.frozen? ⟨w.heap.size, 2, none⟩ = false := frozen_of_row _ w.heap.size 2 _ _ row0
    have TT := ((Touch.setCell (g := w.heap.size) w0 0 (.int .i64 0)).set 1 (.int .i64 0)).set 2 (.slice none 0 0)
    have rowz : (((w0.setCell ⟨w.heap.size, 0, none⟩ (.int .i64 0)).setCell ⟨w.heap.size, 1, none⟩ (.int .i64 0)).setCell ⟨w.heap.size, 2, none⟩ (.slice none 0 0)).heap[w.heap.size]? = some (.cells #[.int .i64 0, .int .i64 0, .slice none 0 0] 34 (0, 0)) := heap_setCell_same _ w.heap.size 2 _ _ _ (heap_setCell_same _ w.heap.size 1 _ _ _ (heap_setCell_same w0 w.heap.size 0 _ _ _ row0))
    have belz := TT.new b0 (Nat.le_refl _)
    go_wp2_with fail
    go_region
    all_goals
      generalize ((w0.setCell ⟨w.heap.size, 0, none⟩ (.int .i64 0)).setCell ⟨w.heap.size, 1, none⟩ (.int .i64 0)).setCell ⟨w.heap.size, 2, none⟩ (.slice none 0 0) = wz at *
      have q0 : wz.cell? ⟨w.heap.size, 0, none⟩ = some (.int .i64 0) := cell_of_row _ _ 0 _ _ _ rowz
      have q1 : wz.cell? ⟨w.heap.size, 1, none⟩ = some (.int .i64 0) := cell_of_row _ _ 1 _ _ _ rowz
      have q2 : wz.cell? ⟨w.heap.size, 2, none⟩ = some (.slice none 0 0) := cell_of_row _ _ 2 _ _ _ rowz
      clear k0 k1 f0 f1 f2 z0 z1 z2 TT rowz
      go_wp2_with fail
      refine bodyPost_ret (v := .tuple #[.agg #[.int .i64 0, .int .i64 0, .slice none 0 0], .int .i64 0, senV A 0]) (by simp [results, go_sem, q0, q1, q2, senV]) rfl ?_
      unfold ReadBPost
      rw [HB.out]
      exact ⟨.slice none 0 0, rfl, RecsOwn.nil _ _, belz.drew⟩
  · have h8 : 8 ≤ bs.length := by omega
    have t1' : decide ((bs.length : Int) < 8) = false := decide_eq_false (by omega)
    obtain ⟨n, hn⟩ : ∃ n, n = little (bs.take 4) := ⟨_, rfl⟩
    obtain ⟨sm, hsm⟩ : ∃ sm, sm = little ((bs.drop 4).take 4) := ⟨_, rfl⟩
    have hnb : n < 4294967296 := by rw [hn]; exact little4 _ (by rw [List.length_take]; omega)
    have hsb : sm < 4294967296 := by rw [hsm]; exact little4 _ (by rw [List.length_take]; omega)
    have hR := HRB.out
    rw [if_neg t1, ← hn, ← hsm] at hR
    have RB := Lib.hid hR
    have hfa := fixed4_a bs h8
    have hfb := fixed4_b bs h8
    rw [← hn] at hfa
    rw [← hsm] at hfb
    obtain ⟨a8, c8, s8, r8⟩ := part_all a bs.length c 1 0 8 (by omega) h8
    rw [Nat.sub_zero] at s8
    have u8' : ∀ W, (Instr.sliceAt 42 (.slice a bs.length c) none (some (.int .i64 8)) none).run Tryd.prog W = .ok (.slice a8 8 c8) W := fun W => by
      have := run_cut_h (P := Tryd.prog) 42 sl_u8 1 sz_u8 a bs.length c 8 .i64 (by omega) W
      rw [s8] at this
      exact this
    have rs := r8 w0 _ h0
    rw [Nat.sub_zero, Nat.zero_mul, Nat.mul_one, List.drop_zero, ← bvs_take] at rs
    have htk : (bs.take 8).length = 8 := by rw [List.length_take]; omega
    have rs' : Rd w0 1 (.slice a8 8 c8) (bs.take 8).length (bvs (bs.take 8)) := by rw [htk]; exact rs
    have hnr := newReader_calls A _ (bs.take 8) w0 rs' (by omega)
    have us : IntKind.u32.wrap (sm : Int) = (sm : Int) := by simp [IntKind.wrap, IntKind.bits, IntKind.signed]; omega
    clear t1 hR HRB hn hsm s8 r8 rs htk rs'
    go_wp2_with fail
    refine hnr.mono ?_
    rintro e w1 ⟨gr, rfl, hgr, r1, b1⟩
    have hww : w.heap.size < w0.heap.size := (Array.getElem?_eq_some_iff.1 row0).1
    have B1 := nxt b0 b1
    have row1 := heap_below b1 row0
    have haw : Away S A gr := Away.of_new hS (by omega)
    have f4 := fixed_calls' (hS.below B1) hE0 haw r1 4
    unfold FixedPost at f4
    rw [hfa] at f4
    simp only at f4
    clear hnr u8' b1 row0
    go_wp2_with fail
    refine f4.mono ?_
    rintro e w2 ⟨rfl, r2, t2⟩
    have B2 := t2.new B1 (by omega)
    have row2 := t2.heap row1 (by omega)
    have f5 := fixed_calls' (hS.below B2) hE0 haw r2 4
    unfold FixedPost at f5
    rw [hfb] at f5
    clear f4 r1 B1 row1 hfa hfb t2
    go_wp2_with fail
    refine f5.mono ?_
    rintro e w3 ⟨rfl, _, t3⟩
    have B3 := t3.new B2 (by omega)
    have row3 := t3.heap row2 (by omega)
    clear f5 r2 B2 row2 t3 haw
    by_cases t2 : 65536 < n
    · have t2' : decide ((65536 : Int) < (n : Int)) = true := decide_eq_true (by omega)
      have HB := Lib.hid (RB.out.trans (if_pos t2))
      clear t2
      have k0 : w3.cell? ⟨0, 0, none⟩ = some (.iface 138 (.pointer (some (A 3)))) := (hS.below B3).cell 3 hE3
      have k1 : (w3.setCell ⟨w.heap.size, 0, none⟩ (.int .i64 0)).cell? ⟨0, 0, none⟩ = some (.iface 138 (.pointer (some (A 3)))) := World.grownBy.cell (Touch.setCell (g := w.heap.size) w3 0 (.int .i64 0)) k0 (fun e => absurd (World.block_lt_of_cell? w _ (hS.cell 3 hE3)) (by rw [show glob 3 = w.heap.size from Option.some.inj e]; exact Nat.lt_irrefl _))
      have f0 : w3.cell? ⟨w.heap.size, 0, none⟩ = some (.int .i64 0) := cell_of_row _ _ 0 _ _ _ row3
      have f1 : w3.cell? ⟨w.heap.size, 1, none⟩ = some (.int .i64 0) := cell_of_row _ _ 1 _ _ _ row3
      have f2 : w3.cell? ⟨w.heap.size, 2, none⟩ = some (.slice none 0 0) := cell_of_row _ _ 2 _ _ _ row3
      have z0 : w3.frozen? ⟨w.heap.size, 0, none⟩ = false := frozen_of_row _ w.heap.size 0 _ _ row3
      have z1 : w3.frozen? ⟨w.heap.size, 1, none⟩ = false := frozen_of_row _ w.heap.size 1 _ _ row3
      have z2 : w3.frozen? ⟨w.heap.size, 2, none⟩ = false := frozen_of_row _ w.heap.size 2 _ _ row3
      have TT := ((Touch.setCell (g := w.heap.size) w3 0 (.int .i64 0)).set 1 (.int .i64 0)).set 2 (.slice none 0 0)
      have rowz : (((w3.setCell ⟨w.heap.size, 0, none⟩ (.int .i64 0)).setCell ⟨w.heap.size, 1, none⟩ (.int .i64 0)).setCell ⟨w.heap.size, 2, none⟩ (.slice none 0 0)).heap[w.heap.size]? = some (.cells #[.int .i64 0, .int .i64 0, .slice none 0 0] 34 (0, 0)) := heap_setCell_same _ w.heap.size 2 _ _ _ (heap_setCell_same _ w.heap.size 1 _ _ _ (heap_setCell_same w3 w.heap.size 0 _ _ _ row3))
      have belz := TT.new B3 (Nat.le_refl _)
      go_wp2_with fail
      go_region
      all_goals
        generalize ((w3.setCell ⟨w.heap.size, 0, none⟩ (.int .i64 0)).setCell ⟨w.heap.size, 1, none⟩ (.int .i64 0)).setCell ⟨w.heap.size, 2, none⟩ (.slice none 0 0) = wz at *
        have q0 : wz.cell? ⟨w.heap.size, 0, none⟩ = some (.int .i64 0) := cell_of_row _ _ 0 _ _ _ rowz
        have q1 : wz.cell? ⟨w.heap.size, 1, none⟩ = some (.int .i64 0) := cell_of_row _ _ 1 _ _ _ rowz
        have q2 : wz.cell? ⟨w.heap.size, 2, none⟩ = some (.slice none 0 0) := cell_of_row _ _ 2 _ _ _ rowz
        clear k0 k1 f0 f1 f2 z0 z1 z2 TT rowz
        go_wp2_with fail
        refine bodyPost_ret (v := .tuple #[.agg #[.int .i64 0, .int .i64 0, .slice none 0 0], .int .i64 0, senV A 3]) (by simp [results, go_sem, q0, q1, q2, senV]) rfl ?_
        unfold ReadBPost
        rw [HB.out]
        exact ⟨.slice none 0 0, rfl, RecsOwn.nil _ _, belz.drew⟩
    · have t2' : decide ((65536 : Int) < (n : Int)) = false := decide_eq_false (by omega)
      have RB2 := Lib.hid (RB.out.trans (if_neg t2))
      clear RB
      obtain ⟨m, hm⟩ : ∃ m, m = bs.length - 8 := ⟨_, rfl⟩
      have w7 : IntKind.i64.wrap ((bs.length : Int) - 8) = (m : Int) := by rw [IntKind.wrap_i64]; omega
      have u7 : IntKind.u64.wrap (m : Int) = (m : Int) := by rw [IntKind.wrap_u64]; omega
      by_cases t3 : m < n
      · have t3' : decide (m < n) = true := decide_eq_true t3
        have HB := Lib.hid (RB2.out.trans (if_pos (by rw [← hm]; exact t3)))
        clear t2 t3 hm
        have k0 : w3.cell? ⟨2, 0, none⟩ = some (.iface 138 (.pointer (some (A 0)))) := (hS.below B3).cell 0 hE0
        have k1 : (w3.setCell ⟨w.heap.size, 0, none⟩ (.int .i64 0)).cell? ⟨2, 0, none⟩ = some (.iface 138 (.pointer (some (A 0)))) := World.grownBy.cell (Touch.setCell (g := w.heap.size) w3 0 (.int .i64 0)) k0 (fun e => absurd (World.block_lt_of_cell? w _ (hS.cell 0 hE0)) (by rw [show glob 0 = w.heap.size from Option.some.inj e]; exact Nat.lt_irrefl _))
        have f0 : w3.cell? ⟨w.heap.size, 0, none⟩ = some (.int .i64 0) := cell_of_row _ _ 0 _ _ _ row3
        have f1 : w3.cell? ⟨w.heap.size, 1, none⟩ = some (.int .i64 0) := cell_of_row _ _ 1 _ _ _ row3
        have f2 : w3.cell? ⟨w.heap.size, 2, none⟩ = some (.slice none 0 0) := cell_of_row _ _ 2 _ _ _ row3
        have z0 : w3.frozen? ⟨w.heap.size, 0, none⟩ = false := frozen_of_row _ w.heap.size 0 _ _ row3
        have z1 : w3.frozen? ⟨w.heap.size, 1, none⟩ = false := frozen_of_row _ w.heap.size 1 _ _ row3
        have z2 : w3.frozen? ⟨w.heap.size, 2, none⟩ = false := frozen_of_row _ w.heap.size 2 _ _ row3
        have TT := ((Touch.setCell (g := w.heap.size) w3 0 (.int .i64 0)).set 1 (.int .i64 0)).set 2 (.slice none 0 0)
        have rowz : (((w3.setCell ⟨w.heap.size, 0, none⟩ (.int .i64 0)).setCell ⟨w.heap.size, 1, none⟩ (.int .i64 0)).setCell ⟨w.heap.size, 2, none⟩ (.slice none 0 0)).heap[w.heap.size]? = some (.cells #[.int .i64 0, .int .i64 0, .slice none 0 0] 34 (0, 0)) := heap_setCell_same _ w.heap.size 2 _ _ _ (heap_setCell_same _ w.heap.size 1 _ _ _ (heap_setCell_same w3 w.heap.size 0 _ _ _ row3))
        have belz := TT.new B3 (Nat.le_refl _)
        go_wp2_with fail
        go_region
        all_goals
          generalize ((w3.setCell ⟨w.heap.size, 0, none⟩ (.int .i64 0)).setCell ⟨w.heap.size, 1, none⟩ (.int .i64 0)).setCell ⟨w.heap.size, 2, none⟩ (.slice none 0 0) = wz at *
          have q0 : wz.cell? ⟨w.heap.size, 0, none⟩ = some (.int .i64 0) := cell_of_row _ _ 0 _ _ _ rowz
          have q1 : wz.cell? ⟨w.heap.size, 1, none⟩ = some (.int .i64 0) := cell_of_row _ _ 1 _ _ _ rowz
          have q2 : wz.cell? ⟨w.heap.size, 2, none⟩ = some (.slice none 0 0) := cell_of_row _ _ 2 _ _ _ rowz
          clear k0 k1 f0 f1 f2 z0 z1 z2 TT rowz
          go_wp2_with fail
          refine bodyPost_ret (v := .tuple #[.agg #[.int .i64 0, .int .i64 0, .slice none 0 0], .int .i64 0, senV A 0]) (by simp [results, go_sem, q0, q1, q2, senV]) rfl ?_
          unfold ReadBPost
          rw [HB.out]
          exact ⟨.slice none 0 0, rfl, RecsOwn.nil _ _, belz.drew⟩
      · have t3' : decide (m < n) = false := decide_eq_false t3
        have RB3 := Lib.hid (RB2.out.trans (if_neg (by rw [← hm]; exact t3)))
        have un : IntKind.i64.wrap (n : Int) = (n : Int) := by rw [IntKind.wrap_i64]; omega
        have w9' : IntKind.i64.wrap (8 + (n : Int)) = 8 + (n : Int) := by rw [IntKind.wrap_i64]; omega
        obtain ⟨IN, hIN⟩ : ∃ IN, IN = (bs.drop 8).take n := ⟨_, rfl⟩
        have hINl : IN.length = n := by rw [hIN, List.length_take, List.length_drop]; omega
        rw [← hIN] at RB3
        obtain ⟨a9, c9, s9, r9⟩ := run_part (P := Tryd.prog) 42 sl_u8 1 sz_u8 a bs.length c 8 (8 + n) .i64 .i64 (by omega) (by omega) (by omega)
        rw [show 8 + n - 8 = n by omega, show (((8 + n : Nat)) : Int) = 8 + (n : Int) by push_cast; rfl, show ((8 : Nat) : Int) = 8 from rfl] at s9
        have R9 : ∀ W, Below w.heap.size w W → Rd W 1 (.slice a9 n c9) IN.length (bvs IN) := fun W hW => by
          have := r9 W _ (h.below hW)
          rw [show 8 + n - 8 = n by omega, Nat.mul_one, Nat.mul_one, ← bvs_drop, ← bvs_take, ← hIN] at this
          rw [hINl]; exact this
        have h8n : decide ((8 : Int) ≤ 8 + (n : Int)) = true := decide_eq_true (by omega)
        clear r9 hIN t2 t3 hm RB2
        have hof := of_one (.slice a9 n c9) IN.length IN w3 (R9 _ B3)
        obtain ⟨x, hx⟩ : ∃ x, x = (Crc.sum IN).toNat := ⟨_, rfl⟩
        rw [← hx] at hof RB3
        go_wp2_with fail
        refine hof.mono ?_
        rintro e w4 ⟨rfl, b4⟩
        have B4 := nxt B3 b4
        have row4 := heap_below b4 row3
        clear hof
        by_cases t4 : sm = x
        · have t4' : ((x : Int) != (sm : Int)) = false := by rw [t4]; simp
          have RB4 := Lib.hid (RB3.out.trans (if_neg (fun e => e t4)))
          have hrd := recRead_calls S A (hS.below B4) hE0 hE2 hE4 (R9 _ B4) (by omega)
          unfold RecReadPost at hrd
          clear t4 RB3 B3 row3 b4
          go_wp2_with fail
          refine hrd.mono ?_
          rintro e w5 ⟨vr, rfl, rr5, b5⟩
          have B5 := nxt B4 b5
          have row5 := heap_below b5 row4
          have hsp : specIn IN = if (readP IN).2.bad = .fine ∧ (readP IN).2.left.length = 0 ∧ valid (readP IN).1 = 0 ∧ bodyL (readP IN).1 = IN then some (readP IN).1 else none := rfl
          obtain ⟨okb, hok⟩ : ∃ okb, okb = decide ((readP IN).2.bad = .fine ∧ (readP IN).2.left.length = 0) := ⟨_, rfl⟩
          rw [← hok]
          obtain ⟨P, hP⟩ : ∃ P, P = (readP IN).1 := ⟨_, rfl⟩
          rw [← hP] at hsp rr5 ⊢
          have HSP := Lib.hid hsp
          have HOK := Lib.hid hok
          clear hrd hsp hok hP B4
          have row4' := row4
          clear row4
          have hbase : w.heap.size < w4.heap.size := (Array.getElem?_eq_some_iff.1 row4').1
          obtain ⟨ar, cr, rfl⟩ := rr5.rd.slice
          have hpb : batA P (.slice ar P.recs.length cr) = .agg #[.int .i64 P.base, .int .i64 P.epoch, .slice ar P.recs.length cr] := rfl
          rw [hpb]
          have b6 := below_alloc w5 (.cells #[.int .i64 P.base, .int .i64 P.epoch, .slice ar P.recs.length cr] 34)
          have rowp := heap_alloc_new w5 (.cells #[.int .i64 P.base, .int .i64 P.epoch, .slice ar P.recs.length cr] 34)
          have B6 := nxt B5 b6
          have row6 := heap_below b6 row5
          have rr6 := rr5.below b6
          go_upto_region 13 with fail
          generalize w5.alloc (.cells #[.int .i64 P.base, .int .i64 P.epoch, .slice ar P.recs.length cr] 34) = w6 at *
          generalize w5.heap.size = g6 at *
          have d0 : w6.cell? ⟨g6, 0, none⟩ = some (.int .i64 P.base) := cell_of_row _ _ 0 _ _ _ rowp
          have d1 : w6.cell? ⟨g6, 1, none⟩ = some (.int .i64 P.epoch) := cell_of_row _ _ 1 _ _ _ rowp
          have d2 : w6.cell? ⟨g6, 2, none⟩ = some (.slice ar P.recs.length cr) := cell_of_row _ _ 2 _ _ _ rowp
          clear b6 rr5
          cases okb with
          | false =>
            have hno : specIn IN = none := by
              rw [HSP.out, if_neg]
              intro h
              have := HOK.out
              rw [decide_eq_true ⟨h.1, h.2.1⟩] at this
              cases this
            have HB : Hid (readB bs = (103, Rec.b0, 0)) := Lib.hid (by rw [RB4.out, hno])
            clear hno
            go_wp2_with fail
            have k0 : w6.cell? ⟨4, 0, none⟩ = some (.iface 138 (.pointer (some (A 2)))) := (hS.below B6).cell 2 hE2
            have k1 : (w6.setCell ⟨w.heap.size, 0, none⟩ (.int .i64 0)).cell? ⟨4, 0, none⟩ = some (.iface 138 (.pointer (some (A 2)))) := World.grownBy.cell (Touch.setCell (g := w.heap.size) w6 0 (.int .i64 0)) k0 (fun e => absurd (World.block_lt_of_cell? w _ (hS.cell 2 hE2)) (by rw [show glob 2 = w.heap.size from Option.some.inj e]; exact Nat.lt_irrefl _))
            have f0 : w6.cell? ⟨w.heap.size, 0, none⟩ = some (.int .i64 0) := cell_of_row _ _ 0 _ _ _ row6
            have f1 : w6.cell? ⟨w.heap.size, 1, none⟩ = some (.int .i64 0) := cell_of_row _ _ 1 _ _ _ row6
            have f2 : w6.cell? ⟨w.heap.size, 2, none⟩ = some (.slice none 0 0) := cell_of_row _ _ 2 _ _ _ row6
            have z0 : w6.frozen? ⟨w.heap.size, 0, none⟩ = false := frozen_of_row _ w.heap.size 0 _ _ row6
            have z1 : w6.frozen? ⟨w.heap.size, 1, none⟩ = false := frozen_of_row _ w.heap.size 1 _ _ row6
            have z2 : w6.frozen? ⟨w.heap.size, 2, none⟩ = false := frozen_of_row _ w.heap.size 2 _ _ row6
            have TT := ((Touch.setCell (g := w.heap.size) w6 0 (.int .i64 0)).set 1 (.int .i64 0)).set 2 (.slice none 0 0)
            have rowz : (((w6.setCell ⟨w.heap.size, 0, none⟩ (.int .i64 0)).setCell ⟨w.heap.size, 1, none⟩ (.int .i64 0)).setCell ⟨w.heap.size, 2, none⟩ (.slice none 0 0)).heap[w.heap.size]? = some (.cells #[.int .i64 0, .int .i64 0, .slice none 0 0] 34 (0, 0)) := heap_setCell_same _ w.heap.size 2 _ _ _ (heap_setCell_same _ w.heap.size 1 _ _ _ (heap_setCell_same w6 w.heap.size 0 _ _ _ row6))
            have belz := TT.new B6 (Nat.le_refl _)
            go_wp2_with fail
            go_region
            all_goals
              generalize ((w6.setCell ⟨w.heap.size, 0, none⟩ (.int .i64 0)).setCell ⟨w.heap.size, 1, none⟩ (.int .i64 0)).setCell ⟨w.heap.size, 2, none⟩ (.slice none 0 0) = wz at *
              have q0 : wz.cell? ⟨w.heap.size, 0, none⟩ = some (.int .i64 0) := cell_of_row _ _ 0 _ _ _ rowz
              have q1 : wz.cell? ⟨w.heap.size, 1, none⟩ = some (.int .i64 0) := cell_of_row _ _ 1 _ _ _ rowz
              have q2 : wz.cell? ⟨w.heap.size, 2, none⟩ = some (.slice none 0 0) := cell_of_row _ _ 2 _ _ _ rowz
              clear k0 k1 f0 f1 f2 z0 z1 z2 TT rowz
              go_wp2_with fail
              refine bodyPost_ret (v := .tuple #[.agg #[.int .i64 0, .int .i64 0, .slice none 0 0], .int .i64 0, senV A 2]) (by simp [results, go_sem, q0, q1, q2, senV]) rfl ?_
              unfold ReadBPost
              rw [HB.out]
              exact ⟨.slice none 0 0, rfl, RecsOwn.nil _ _, belz.drew⟩
          | true =>
            have hfin := of_decide_eq_true HOK.out.symm
            have HFIN := Lib.hid hfin
            have hval := recValid_calls S A (hS.below B6) hE3 hE4 rr6.rd
            have hbody := fun (hv : valid P = 0) W (hB : Below w6.heap.size w6 W) => recBody_calls hv (rr6.rd.below hB)
            unfold batA at hval hbody
            unfold ValidB at hval
            clear hfin
            go_wp2_with fail
            refine hval.mono ?_
            rintro e w7 ⟨hve, b7⟩
            have B7 := nxt B6 b7
            have row7 := heap_below b7 row6
            have rowp7 := heap_below b7 rowp
            clear hval d0 d1 d2
            have d0 : w7.cell? ⟨g6, 0, none⟩ = some (.int .i64 P.base) := cell_of_row _ _ 0 _ _ _ rowp7
            have d1 : w7.cell? ⟨g6, 1, none⟩ = some (.int .i64 P.epoch) := cell_of_row _ _ 1 _ _ _ rowp7
            have d2 : w7.cell? ⟨g6, 2, none⟩ = some (.slice ar P.recs.length cr) := cell_of_row _ _ 2 _ _ _ rowp7
            by_cases hv0 : valid P = 0
            · have he : e = .returned .nilIface := by
                rcases hve with ⟨_, h⟩ | ⟨h, _⟩
                · exact h
                · exact absurd hv0 h
              subst he
              have hbo := hbody hv0 w7 b7
              have HV0 := Lib.hid hv0
              clear hve hbody hv0
              go_wp2_with fail
              refine hbo.mono ?_
              rintro e w8 ⟨v8, rfl, o8, b8⟩
              have B8 := nxt B7 b8
              have row8 := heap_below b8 row7
              have rowp8 := heap_below b8 rowp7
              have heq := equal_calls v8 (.slice a9 n c9) (bodyL P) IN w8 (Rd.of_owns o8) (R9 _ B8)
              obtain ⟨q, hq⟩ : ∃ q, q = (bodyL P == IN) := ⟨_, rfl⟩
              rw [← hq] at heq
              obtain ⟨a8', c8', rfl⟩ := owns_slice o8
              have HQ := Lib.hid hq
              clear hbo hq d0 d1 d2 o8
              go_wp2_with fail
              refine heq.mono ?_
              rintro e wq ⟨rfl, nq, hwq⟩
              have bq : Below w8.heap.size w8 wq := by rw [hwq]; exact below_drewN (Below.refl _ _) nq
              have Bq := nxt B8 bq
              have rowq := heap_below bq row8
              have rowpq := heap_below bq rowp8
              have rrq := rr6.below (nxt b7 (nxt b8 bq))
              clear heq hwq rowp8 rowp7 rowp row8 row7 row6
              cases q with
              | false =>
                have hno : specIn IN = none := by
                  rw [HSP.out, if_neg]
                  intro h
                  have := HQ.out
                  rw [h.2.2.2, beq_self_eq_true] at this
                  cases this
                have HB : Hid (readB bs = (103, Rec.b0, 0)) := Lib.hid (by rw [RB4.out, hno])
                clear hno
                go_wp2_with fail
                have k0 : wq.cell? ⟨4, 0, none⟩ = some (.iface 138 (.pointer (some (A 2)))) := (hS.below Bq).cell 2 hE2
                have k1 : (wq.setCell ⟨w.heap.size, 0, none⟩ (.int .i64 0)).cell? ⟨4, 0, none⟩ = some (.iface 138 (.pointer (some (A 2)))) := World.grownBy.cell (Touch.setCell (g := w.heap.size) wq 0 (.int .i64 0)) k0 (fun e => absurd (World.block_lt_of_cell? w _ (hS.cell 2 hE2)) (by rw [show glob 2 = w.heap.size from Option.some.inj e]; exact Nat.lt_irrefl _))
                have f0 : wq.cell? ⟨w.heap.size, 0, none⟩ = some (.int .i64 0) := cell_of_row _ _ 0 _ _ _ rowq
                have f1 : wq.cell? ⟨w.heap.size, 1, none⟩ = some (.int .i64 0) := cell_of_row _ _ 1 _ _ _ rowq
                have f2 : wq.cell? ⟨w.heap.size, 2, none⟩ = some (.slice none 0 0) := cell_of_row _ _ 2 _ _ _ rowq
                have z0 : wq.frozen? ⟨w.heap.size, 0, none⟩ = false := frozen_of_row _ w.heap.size 0 _ _ rowq
                have z1 : wq.frozen? ⟨w.heap.size, 1, none⟩ = false := frozen_of_row _ w.heap.size 1 _ _ rowq
                have z2 : wq.frozen? ⟨w.heap.size, 2, none⟩ = false := frozen_of_row _ w.heap.size 2 _ _ rowq
                have TT := ((Touch.setCell (g := w.heap.size) wq 0 (.int .i64 0)).set 1 (.int .i64 0)).set 2 (.slice none 0 0)
                have rowz : (((wq.setCell ⟨w.heap.size, 0, none⟩ (.int .i64 0)).setCell ⟨w.heap.size, 1, none⟩ (.int .i64 0)).setCell ⟨w.heap.size, 2, none⟩ (.slice none 0 0)).heap[w.heap.size]? = some (.cells #[.int .i64 0, .int .i64 0, .slice none 0 0] 34 (0, 0)) := heap_setCell_same _ w.heap.size 2 _ _ _ (heap_setCell_same _ w.heap.size 1 _ _ _ (heap_setCell_same wq w.heap.size 0 _ _ _ rowq))
                have belz := TT.new Bq (Nat.le_refl _)
                go_wp2_with fail
                go_region
                all_goals
                  generalize ((wq.setCell ⟨w.heap.size, 0, none⟩ (.int .i64 0)).setCell ⟨w.heap.size, 1, none⟩ (.int .i64 0)).setCell ⟨w.heap.size, 2, none⟩ (.slice none 0 0) = wz at *
                  have q0 : wz.cell? ⟨w.heap.size, 0, none⟩ = some (.int .i64 0) := cell_of_row _ _ 0 _ _ _ rowz
                  have q1 : wz.cell? ⟨w.heap.size, 1, none⟩ = some (.int .i64 0) := cell_of_row _ _ 1 _ _ _ rowz
                  have q2 : wz.cell? ⟨w.heap.size, 2, none⟩ = some (.slice none 0 0) := cell_of_row _ _ 2 _ _ _ rowz
                  clear k0 k1 f0 f1 f2 z0 z1 z2 TT rowz
                  go_wp2_with fail
                  refine bodyPost_ret (v := .tuple #[.agg #[.int .i64 0, .int .i64 0, .slice none 0 0], .int .i64 0, senV A 2]) (by simp [results, go_sem, q0, q1, q2, senV]) rfl ?_
                  unfold ReadBPost
                  rw [HB.out]
                  exact ⟨.slice none 0 0, rfl, RecsOwn.nil _ _, belz.drew⟩
              | true =>
                have hyes : specIn IN = some P := by
                  rw [HSP.out, if_pos ⟨HFIN.out.1, HFIN.out.2, HV0.out, by have := HQ.out; exact eq_of_beq this.symm⟩]
                have HB : Hid (readB bs = (0, P, 8 + n)) := Lib.hid (by rw [RB4.out, hyes])
                have d0 : wq.cell? ⟨g6, 0, none⟩ = some (.int .i64 P.base) := cell_of_row _ _ 0 _ _ _ rowpq
                have d1 : wq.cell? ⟨g6, 1, none⟩ = some (.int .i64 P.epoch) := cell_of_row _ _ 1 _ _ _ rowpq
                have d2 : wq.cell? ⟨g6, 2, none⟩ = some (.slice ar P.recs.length cr) := cell_of_row _ _ 2 _ _ _ rowpq
                clear hyes
                go_wp2_with (refine wpList_store_row_g rfl 34 _ _ rfl w.heap.size _ rfl rfl 34 _ rowq batSize rfl (by simp [Value.oneCell']) ?_)
                intro wz rowz gz _
                have belz : Below w.heap.size w wz := Touch.new (g := w.heap.size) gz Bq (Nat.le_refl _)
                have rrz := rrq.touch (g := w.heap.size) gz hbase
                have q0 : wz.cell? ⟨w.heap.size, 0, none⟩ = some (.int .i64 P.base) := cell_of_row _ _ 0 _ _ _ rowz
                have q1 : wz.cell? ⟨w.heap.size, 1, none⟩ = some (.int .i64 P.epoch) := cell_of_row _ _ 1 _ _ _ rowz
                have q2 : wz.cell? ⟨w.heap.size, 2, none⟩ = some (.slice ar P.recs.length cr) := cell_of_row _ _ 2 _ _ _ rowz
                clear d0 d1 d2 rowz gz rowq rowpq
                go_wp2_with fail
                refine bodyPost_ret (v := .tuple #[.agg #[.int .i64 P.base, .int .i64 P.epoch, .slice ar P.recs.length cr], .int .i64 (8 + (n : Int)), .nilIface]) (by simp [results, go_sem, q0, q1, q2]) rfl ?_
                unfold ReadBPost
                rw [HB.out]
                refine ⟨.slice ar P.recs.length cr, ?_, rrz.base (Nat.le_of_lt hbase), belz⟩
                rw [show (((8 + n : Nat)) : Int) = 8 + (n : Int) by push_cast; rfl]
                rfl
            · have he : e = .returned (senV A (valid P - 101)) := by
                rcases hve with ⟨h, _⟩ | ⟨_, h⟩
                · exact absurd h hv0
                · exact h
              subst he
              have hno : specIn IN = none := by
                rw [HSP.out, if_neg]
                exact fun h => hv0 h.2.2.1
              have HB : Hid (readB bs = (103, Rec.b0, 0)) := Lib.hid (by rw [RB4.out, hno])
              clear hno hve hbody hv0 d0 d1 d2
              unfold senV
              go_wp2_with fail
              have k0 : w7.cell? ⟨4, 0, none⟩ = some (.iface 138 (.pointer (some (A 2)))) := (hS.below B7).cell 2 hE2
              have k1 : (w7.setCell ⟨w.heap.size, 0, none⟩ (.int .i64 0)).cell? ⟨4, 0, none⟩ = some (.iface 138 (.pointer (some (A 2)))) := World.grownBy.cell (Touch.setCell (g := w.heap.size) w7 0 (.int .i64 0)) k0 (fun e => absurd (World.block_lt_of_cell? w _ (hS.cell 2 hE2)) (by rw [show glob 2 = w.heap.size from Option.some.inj e]; exact Nat.lt_irrefl _))
              have f0 : w7.cell? ⟨w.heap.size, 0, none⟩ = some (.int .i64 0) := cell_of_row _ _ 0 _ _ _ row7
              have f1 : w7.cell? ⟨w.heap.size, 1, none⟩ = some (.int .i64 0) := cell_of_row _ _ 1 _ _ _ row7
              have f2 : w7.cell? ⟨w.heap.size, 2, none⟩ = some (.slice none 0 0) := cell_of_row _ _ 2 _ _ _ row7
              have z0 : w7.frozen? ⟨w.heap.size, 0, none⟩ = false := frozen_of_row _ w.heap.size 0 _ _ row7
              have z1 : w7.frozen? ⟨w.heap.size, 1, none⟩ = false := frozen_of_row _ w.heap.size 1 _ _ row7
              have z2 : w7.frozen? ⟨w.heap.size, 2, none⟩ = false := frozen_of_row _ w.heap.size 2 _ _ row7
              have TT := ((Touch.setCell (g := w.heap.size) w7 0 (.int .i64 0)).set 1 (.int .i64 0)).set 2 (.slice none 0 0)
              have rowz : (((w7.setCell ⟨w.heap.size, 0, none⟩ (.int .i64 0)).setCell ⟨w.heap.size, 1, none⟩ (.int .i64 0)).setCell ⟨w.heap.size, 2, none⟩ (.slice none 0 0)).heap[w.heap.size]? = some (.cells #[.int .i64 0, .int .i64 0, .slice none 0 0] 34 (0, 0)) := heap_setCell_same _ w.heap.size 2 _ _ _ (heap_setCell_same _ w.heap.size 1 _ _ _ (heap_setCell_same w7 w.heap.size 0 _ _ _ row7))
              have belz := TT.new B7 (Nat.le_refl _)
              go_wp2_with fail
              go_region
              all_goals
                generalize ((w7.setCell ⟨w.heap.size, 0, none⟩ (.int .i64 0)).setCell ⟨w.heap.size, 1, none⟩ (.int .i64 0)).setCell ⟨w.heap.size, 2, none⟩ (.slice none 0 0) = wz at *
                have q0 : wz.cell? ⟨w.heap.size, 0, none⟩ = some (.int .i64 0) := cell_of_row _ _ 0 _ _ _ rowz
                have q1 : wz.cell? ⟨w.heap.size, 1, none⟩ = some (.int .i64 0) := cell_of_row _ _ 1 _ _ _ rowz
                have q2 : wz.cell? ⟨w.heap.size, 2, none⟩ = some (.slice none 0 0) := cell_of_row _ _ 2 _ _ _ rowz
                clear k0 k1 f0 f1 f2 z0 z1 z2 TT rowz
                go_wp2_with fail
                refine bodyPost_ret (v := .tuple #[.agg #[.int .i64 0, .int .i64 0, .slice none 0 0], .int .i64 0, senV A 2]) (by simp [results, go_sem, q0, q1, q2, senV]) rfl ?_
                unfold ReadBPost
                rw [HB.out]
                exact ⟨.slice none 0 0, rfl, RecsOwn.nil _ _, belz.drew⟩
        · have t4' : ((x : Int) != (sm : Int)) = true := by rw [bne_iff_ne]; omega
          have HB := Lib.hid (RB3.out.trans (if_pos t4))
          clear t4
          have k0 : w4.cell? ⟨3, 0, none⟩ = some (.iface 138 (.pointer (some (A 1)))) := (hS.below B4).cell 1 hE1
          have k1 : (w4.setCell ⟨w.heap.size, 0, none⟩ (.int .i64 0)).cell? ⟨3, 0, none⟩ = some (.iface 138 (.pointer (some (A 1)))) := World.grownBy.cell (Touch.setCell (g := w.heap.size) w4 0 (.int .i64 0)) k0 (fun e => absurd (World.block_lt_of_cell? w _ (hS.cell 1 hE1)) (by rw [show glob 1 = w.heap.size from Option.some.inj e]; exact Nat.lt_irrefl _))
          have f0 : w4.cell? ⟨w.heap.size, 0, none⟩ = some (.int .i64 0) := cell_of_row _ _ 0 _ _ _ row4
          have f1 : w4.cell? ⟨w.heap.size, 1, none⟩ = some (.int .i64 0) := cell_of_row _ _ 1 _ _ _ row4
          have f2 : w4.cell? ⟨w.heap.size, 2, none⟩ = some (.slice none 0 0) := cell_of_row _ _ 2 _ _ _ row4
          have z0 : w4.frozen? ⟨w.heap.size, 0, none⟩ = false := frozen_of_row _ w.heap.size 0 _ _ row4
          have z1 : w4.frozen? ⟨w.heap.size, 1, none⟩ = false := frozen_of_row _ w.heap.size 1 _ _ row4
          have z2 : w4.frozen? ⟨w.heap.size, 2, none⟩ = false := frozen_of_row _ w.heap.size 2 _ _ row4
          have TT := ((Touch.setCell (g := w.heap.size) w4 0 (.int .i64 0)).set 1 (.int .i64 0)).set 2 (.slice none 0 0)
          have rowz : (((w4.setCell ⟨w.heap.size, 0, none⟩ (.int .i64 0)).setCell ⟨w.heap.size, 1, none⟩ (.int .i64 0)).setCell ⟨w.heap.size, 2, none⟩ (.slice none 0 0)).heap[w.heap.size]? = some (.cells #[.int .i64 0, .int .i64 0, .slice none 0 0] 34 (0, 0)) := heap_setCell_same _ w.heap.size 2 _ _ _ (heap_setCell_same _ w.heap.size 1 _ _ _ (heap_setCell_same w4 w.heap.size 0 _ _ _ row4))
          have belz := TT.new B4 (Nat.le_refl _)
          go_wp2_with fail
          go_region
          all_goals
            generalize ((w4.setCell ⟨w.heap.size, 0, none⟩ (.int .i64 0)).setCell ⟨w.heap.size, 1, none⟩ (.int .i64 0)).setCell ⟨w.heap.size, 2, none⟩ (.slice none 0 0) = wz at *
            have q0 : wz.cell? ⟨w.heap.size, 0, none⟩ = some (.int .i64 0) := cell_of_row _ _ 0 _ _ _ rowz
            have q1 : wz.cell? ⟨w.heap.size, 1, none⟩ = some (.int .i64 0) := cell_of_row _ _ 1 _ _ _ rowz
            have q2 : wz.cell? ⟨w.heap.size, 2, none⟩ = some (.slice none 0 0) := cell_of_row _ _ 2 _ _ _ rowz
            clear k0 k1 f0 f1 f2 z0 z1 z2 TT rowz
            go_wp2_with fail
            refine bodyPost_ret (v := .tuple #[.agg #[.int .i64 0, .int .i64 0, .slice none 0 0], .int .i64 0, senV A 1]) (by simp [results, go_sem, q0, q1, q2, senV]) rfl ?_
            unfold ReadBPost
            rw [HB.out]
            exact ⟨.slice none 0 0, rfl, RecsOwn.nil _ _, belz.drew⟩
end Go.Proofs.YtlfbdcgojbfcaaaDoor
