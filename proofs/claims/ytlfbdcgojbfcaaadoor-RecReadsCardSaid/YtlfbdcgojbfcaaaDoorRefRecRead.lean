/- The document's Read: the batch at the beginning of bytes. -/
import Derived.Test.YtlfbdcgojbfcaaaDoorRefRecParse
import Derived.Test.YtlfbdcgojbfcaaaDoorRefRecBatch
import Derived.Test.YtlfbdcgojbfcaaaDoorSameBytes
namespace Go.Proofs.YtlfbdcgojbfcaaaDoor.Rec
open Vint

theorem same_doc {l : List UInt8} {x : BatD} {n : Nat} (hn : n = little (l.take 4)) (hl : n ≤ l.length - 8) (h8 : 8 ≤ l.length) (hs : little ((l.drop 4).take 4) = (Crc.sum ((l.drop 8).take n)).toNat) :
    (bytesL x == l.take (8 + n)) = decide (bodyL x = (l.drop 8).take n) := by
  have h1 : (l.take 4).length = 4 := by rw [List.length_take]; omega
  have h2 : ((l.drop 4).take 4).length = 4 := by rw [List.length_take, List.length_drop]; omega
  have h3 : ((l.drop 8).take n).length = n := by rw [List.length_take, List.length_drop]; omega
  have e4 : lit n 4 = l.take 4 := by
    have := lit_little (l.take 4)
    rw [h1, ← hn] at this
    exact this
  have e5 : lit (Crc.sum ((l.drop 8).take n)).toNat 4 = (l.drop 4).take 4 := by
    have := lit_little ((l.drop 4).take 4)
    rw [h2, hs] at this
    exact this
  have e6 : l.take (8 + n) = l.take 4 ++ ((l.drop 4).take 4 ++ (l.drop 8).take n) := by
    rw [show 8 + n = 4 + (4 + n) by omega, List.take_add, List.take_add, List.drop_drop]
  rw [Bool.eq_iff_iff, beq_iff_eq, decide_eq_true_iff]
  constructor
  · intro h
    rw [e6] at h
    have hd := congrArg (List.drop 8) h
    unfold bytesL at hd
    rw [← List.append_assoc, ← List.append_assoc, List.drop_left' (by rw [List.length_append, lit_length, lit_length]), List.drop_left' (by rw [List.length_append, h1, h2])] at hd
    exact hd
  · intro h
    unfold bytesL
    rw [h, h3, e4, e5, e6]
theorem readB_doc (l : List UInt8) (h1 : ¬ l.length < 8) (h2 : ¬ 65536 < little (l.take 4)) (h3 : ¬ l.length - 8 < little (l.take 4)) (h4 : ¬ little ((l.drop 4).take 4) ≠ (Crc.sum ((l.drop 8).take (little (l.take 4)))).toNat) :
    readB l = if valid (parseD ((l.drop 8).take (little (l.take 4)))) = 0 ∧ (bytesL (parseD ((l.drop 8).take (little (l.take 4)))) == l.take (8 + little (l.take 4))) = true then (0, parseD ((l.drop 8).take (little (l.take 4))), 8 + little (l.take 4)) else (103, b0, 0) := by
  unfold readB
  rw [if_neg h1, if_neg h2, if_neg h3, if_neg h4, specIn_doc]
  rw [same_doc rfl (by omega) (by omega) (Classical.byContradiction h4)]
  by_cases h : valid (parseD ((l.drop 8).take (little (l.take 4)))) = 0 ∧ bodyL (parseD ((l.drop 8).take (little (l.take 4)))) = (l.drop 8).take (little (l.take 4))
  · rw [if_pos h, if_pos ⟨h.1, decide_eq_true h.2⟩]
  · rw [if_neg h, if_neg (fun h' => h ⟨h'.1, of_decide_eq_true h'.2⟩)]
theorem fixed_lt8 (s : Rs) : (fixed 8 s).1 < 256 ^ 8 := by
  unfold fixed
  split
  · exact Nat.pow_pos (by omega)
  · split
    · exact Nat.pow_pos (by omega)
    · simp only
      have h1 := little_lt (s.left.take (8 : Int).toNat)
      rw [List.length_take] at h1
      exact Nat.lt_of_lt_of_le h1 (Nat.pow_le_pow_right (by omega) (Nat.min_le_left _ _))
theorem parseD_base (l : List UInt8) : -9223372036854775808 ≤ (parseD l).base ∧ (parseD l).base ≤ 9223372036854775807 := by
  unfold parseD
  simp only
  split
  · simp [b0]
  · have h : (fixed 8 (rs0 l)).1 < 256 ^ 8 := fixed_lt8 (rs0 l)
    simp only
    unfold i64
    split <;> omega
end Go.Proofs.YtlfbdcgojbfcaaaDoor.Rec
namespace Go.Proofs.YtlfbdcgojbfcaaaDoor
open Go Go.RowKit Rec Vint

def RefReadPost (l : List UInt8) (w : World) (e : Ending) (w' : World) : Prop :=
  ∃ v, e = .returned (.tuple #[batA (readB l).2.1 v, .int .i64 ((readB l).2.2 : Nat), .int .i64 ((readB l).1 : Nat)]) ∧ RecsOwn w' w.heap.size v (readB l).2.1.recs ∧ Below w.heap.size w w'

set_option maxRecDepth 100000 in
set_option maxHeartbeats 4000000 in
theorem refRead_calls {w : World} {v : Value} {bs : List UInt8} (h : Rd w 1 v bs.length (bvs bs)) (hl : bs.length ≤ 1099511627776) :
    Calls Tryd.prog 36 #[v] w (RefReadPost bs w) := by
  obtain ⟨a, c, rfl⟩ := h.slice
  have hcap := h.cap
  have b0 := below_alloc w (.cells #[.int .i64 0, .int .i64 0, .slice none 0 0] 34)
  have row0 := heap_alloc_new w (.cells #[.int .i64 0, .int .i64 0, .slice none 0 0] 34)
  have hrb : readB bs = readB bs := rfl
  conv at hrb => rhs; unfold readB
  have HRB := Lib.hid hrb
  clear hrb
  have h0 := h.below b0
  go_enter Tryd.func36, Tryd.ntmps36
  go_upto_region 1 with fail
  generalize w.alloc (.cells #[.int .i64 0, .int .i64 0, .slice none 0 0] 34) = w0 at *
  obtain ⟨f, hf⟩ : ∃ f, f = w.heap.size := ⟨_, rfl⟩
  rw [← hf] at row0 ⊢
  have hfw : w.heap.size ≤ f := by omega
  clear hf
  by_cases t1 : bs.length < 8
  · have t1' : decide ((bs.length : Int) < 8) = true := decide_eq_true (by omega)
    have HB := Lib.hid (HRB.out.trans (if_pos t1))
    clear t1
    go_wp2_with (refine wpList_store_row_g rfl 34 _ _ rfl f _ rfl rfl 34 _ row0 batSize2 rfl (by simp [Value.oneCell']) ?_)
    intro w9 row9 g9 _
    have bz := Touch.new (g := f) g9 b0 hfw
    have q0 : w9.cell? ⟨f, 0, none⟩ = some (.int .i64 0) := cell_of_row _ _ 0 _ _ _ row9
    have q1 : w9.cell? ⟨f, 1, none⟩ = some (.int .i64 0) := cell_of_row _ _ 1 _ _ _ row9
    have q2 : w9.cell? ⟨f, 2, none⟩ = some (.slice none 0 0) := cell_of_row _ _ 2 _ _ _ row9
    clear g9 row9
    go_wp2_with fail
    refine bodyPost_ret (v := .tuple #[.agg #[.int .i64 0, .int .i64 0, .slice none 0 0], .int .i64 0, .int .i64 101]) (by simp [results, go_sem, q0, q1, q2]) rfl ?_
    unfold RefReadPost
    rw [HB.out]
    exact ⟨.slice none 0 0, rfl, RecsOwn.nil _ _, bz⟩
  have t1' : decide ((bs.length : Int) < 8) = false := decide_eq_false (by omega)
  have HRB2 := Lib.hid (HRB.out.trans (if_neg t1))
  obtain ⟨a4, c4, s4, r4⟩ := part_all a bs.length c 1 0 4 (Nat.zero_le _) (by omega)
  obtain ⟨a5, c5, s5, r5⟩ := part_all a bs.length c 1 4 8 (by omega) (by omega)
  rw [Nat.sub_zero] at s4
  have u4 : ∀ W, (Instr.sliceAt 42 (.slice a bs.length c) none (some (.int .i64 4)) none).run Tryd.prog W = .ok (.slice a4 4 c4) W := fun W => by
    have := run_cut_h 42 sl_u8 1 sz_u8 a bs.length c 4 .i64 (by omega) W
    rw [s4] at this
    exact this
  have u5 : ∀ W, (Instr.sliceAt 42 (.slice a bs.length c) (some (.int .i64 4)) (some (.int .i64 8)) none).run Tryd.prog W = .ok (.slice a5 4 c5) W := fun W => by
    have := run_cut_lh 42 sl_u8 1 sz_u8 a bs.length c 4 8 .i64 .i64 (by omega) (by omega) W
    rw [s5] at this
    exact this
  have q4 := r4 w0 _ h0
  rw [Nat.sub_zero, Nat.zero_mul, Nat.mul_one, List.drop_zero, ← bvs_take] at q4
  have hl4 : (bs.take 4).length = 4 := by rw [List.length_take]; omega
  have f4 := refFixed_calls _ (bs.take 4) w0 (by rw [hl4]; exact q4) (by omega)
  have q5 := r5 w0 _ h0
  simp only [Nat.mul_one, Nat.reduceSub] at q5
  rw [← bvs_drop, ← bvs_take] at q5
  have hl5 : ((bs.drop 4).take 4).length = 4 := by rw [List.length_take, List.length_drop]; omega
  have f5 := refFixed_calls _ ((bs.drop 4).take 4) w0 (by rw [hl5]; exact q5) (by omega)
  have hx4 := little_lt (bs.take 4)
  rw [hl4] at hx4
  have hx5 := little_lt ((bs.drop 4).take 4)
  rw [hl5] at hx5
  obtain ⟨n, hn⟩ : ∃ n, n = little (bs.take 4) := ⟨_, rfl⟩
  obtain ⟨sm, hsm⟩ : ∃ sm, sm = little ((bs.drop 4).take 4) := ⟨_, rfl⟩
  rw [← hn] at f4 hx4
  rw [← hsm] at f5 hx5
  have wn : IntKind.i64.wrap (n : Int) = (n : Int) := by rw [IntKind.wrap_i64]; omega
  have ws : IntKind.u32.wrap (sm : Int) = (sm : Int) := by rw [IntKind.wrap_u32]; omega
  have HN := Lib.hid hn
  have HSM := Lib.hid hsm
  clear q4 q5 hn hsm s4 s5 r4 r5 hl4 hl5
  by_cases t2 : 65536 < n
  · have t2' : decide ((65536 : Int) < (n : Int)) = true := decide_eq_true (by omega)
    have HB := Lib.hid (HRB2.out.trans (if_pos (by rw [← HN.out]; exact t2)))
    clear t1 t2
    go_wp2_with fail
    with_reducible refine f4.mono ?_
    rintro e w1 ⟨rfl, rfl⟩
    go_wp2_with (refine wpList_store_row_g rfl 34 _ _ rfl f _ rfl rfl 34 _ row0 batSize2 rfl (by simp [Value.oneCell']) ?_)
    intro w9 row9 g9 _
    have bz := Touch.new (g := f) g9 b0 hfw
    have q0 : w9.cell? ⟨f, 0, none⟩ = some (.int .i64 0) := cell_of_row _ _ 0 _ _ _ row9
    have q1 : w9.cell? ⟨f, 1, none⟩ = some (.int .i64 0) := cell_of_row _ _ 1 _ _ _ row9
    have q2 : w9.cell? ⟨f, 2, none⟩ = some (.slice none 0 0) := cell_of_row _ _ 2 _ _ _ row9
    clear g9 row9
    go_wp2_with fail
    refine bodyPost_ret (v := .tuple #[.agg #[.int .i64 0, .int .i64 0, .slice none 0 0], .int .i64 0, .int .i64 104]) (by simp [results, go_sem, q0, q1, q2]) rfl ?_
    unfold RefReadPost
    rw [HB.out]
    exact ⟨.slice none 0 0, rfl, RecsOwn.nil _ _, bz⟩
  have t2' : decide ((65536 : Int) < (n : Int)) = false := decide_eq_false (by omega)
  have HRB3 := Lib.hid (HRB2.out.trans (if_neg (by rw [← HN.out]; exact t2)))
  have wl : IntKind.i64.wrap ((bs.length : Int) - 8) = (bs.length : Int) - 8 := by rw [IntKind.wrap_i64]; omega
  by_cases t3 : bs.length - 8 < n
  · have t3' : decide ((bs.length : Int) - 8 < (n : Int)) = true := decide_eq_true (by omega)
    have HB := Lib.hid (HRB3.out.trans (if_pos (by rw [← HN.out]; exact t3)))
    clear t1 t2 t3
    go_wp2_with fail
    with_reducible refine f4.mono ?_
    rintro e w1 ⟨rfl, rfl⟩
    go_wp2_with (refine wpList_store_row_g rfl 34 _ _ rfl f _ rfl rfl 34 _ row0 batSize2 rfl (by simp [Value.oneCell']) ?_)
    intro w9 row9 g9 _
    have bz := Touch.new (g := f) g9 b0 hfw
    have q0 : w9.cell? ⟨f, 0, none⟩ = some (.int .i64 0) := cell_of_row _ _ 0 _ _ _ row9
    have q1 : w9.cell? ⟨f, 1, none⟩ = some (.int .i64 0) := cell_of_row _ _ 1 _ _ _ row9
    have q2 : w9.cell? ⟨f, 2, none⟩ = some (.slice none 0 0) := cell_of_row _ _ 2 _ _ _ row9
    clear g9 row9
    go_wp2_with fail
    refine bodyPost_ret (v := .tuple #[.agg #[.int .i64 0, .int .i64 0, .slice none 0 0], .int .i64 0, .int .i64 101]) (by simp [results, go_sem, q0, q1, q2]) rfl ?_
    unfold RefReadPost
    rw [HB.out]
    exact ⟨.slice none 0 0, rfl, RecsOwn.nil _ _, bz⟩
  have t3' : decide ((bs.length : Int) - 8 < (n : Int)) = false := decide_eq_false (by omega)
  have HRB4 := Lib.hid (HRB3.out.trans (if_neg (by rw [← HN.out]; exact t3)))
  obtain ⟨e8, he8⟩ : ∃ e8, e8 = 8 + n := ⟨_, rfl⟩
  have w8 : IntKind.i64.wrap (8 + (n : Int)) = (e8 : Int) := by rw [IntKind.wrap_i64]; omega
  obtain ⟨a6, c6, s6, r6⟩ := part_all a bs.length c 1 8 e8 (by omega) (by omega)
  obtain ⟨a7, c7, s7, r7⟩ := part_all a bs.length c 1 0 e8 (by omega) (by omega)
  rw [Nat.sub_zero] at s7
  rw [show e8 - 8 = n by omega] at s6 r6
  have u6 : ∀ W, (Instr.sliceAt 42 (.slice a bs.length c) (some (.int .i64 8)) (some (.int .i64 (e8 : Int))) none).run Tryd.prog W = .ok (.slice a6 n c6) W := fun W => by
    have := run_cut_lh 42 sl_u8 1 sz_u8 a bs.length c 8 e8 .i64 .i64 (by omega) (by omega) W
    rw [s6] at this
    exact this
  have u7 : ∀ W, (Instr.sliceAt 42 (.slice a bs.length c) none (some (.int .i64 (e8 : Int))) none).run Tryd.prog W = .ok (.slice a7 e8 c7) W := fun W => by
    have := run_cut_h 42 sl_u8 1 sz_u8 a bs.length c e8 .i64 (by omega) W
    rw [s7] at this
    exact this
  have q6 := r6 w0 _ h0
  simp only [Nat.mul_one] at q6
  rw [← bvs_drop, ← bvs_take] at q6
  have R7 : ∀ W, Below w.heap.size w W → Rd W 1 (.slice a7 e8 c7) (bs.take e8).length (bvs (bs.take e8)) := fun W hW => by
    have q7 := r7 W _ (h.below hW)
    rw [Nat.sub_zero, Nat.zero_mul, Nat.mul_one, List.drop_zero, ← bvs_take] at q7
    rw [List.length_take, Nat.min_eq_left (by omega)]
    exact q7
  have he8b : 8 ≤ e8 ∧ e8 ≤ bs.length := by omega
  obtain ⟨IN, hIN⟩ : ∃ IN, IN = (bs.drop 8).take n := ⟨_, rfl⟩
  have hINl : IN.length = n := by rw [hIN, List.length_take, List.length_drop]; omega
  rw [← hIN] at q6
  have rin : Rd w0 1 (.slice a6 n c6) IN.length (bvs IN) := by rw [hINl]; exact q6
  have hsu := refSum_calls _ IN w0 rin
  have hpa := refParse_calls rin (by omega)
  unfold ParsePost at hpa
  obtain ⟨cs, hcs⟩ : ∃ cs, cs = (Crc.sum IN).toNat := ⟨_, rfl⟩
  rw [← hcs] at hsu
  have HIN := Lib.hid hIN
  have HCS := Lib.hid hcs
  have HE8 := Lib.hid he8
  clear q6 s6 s7 r6 r7 hIN hINl rin hcs he8
  by_cases t4 : sm = cs
  rotate_left
  · have t4' : ((sm : Int) != (cs : Int)) = true := by rw [bne_iff_ne]; omega
    have HB := Lib.hid (HRB4.out.trans (if_pos (by rw [← HN.out, ← HSM.out, ← HIN.out, ← HCS.out]; exact t4)))
    clear t1 t2 t3 t4
    go_wp2_with fail
    with_reducible refine f4.mono ?_
    rintro e w1 ⟨rfl, rfl⟩
    go_wp2_with fail
    with_reducible refine f5.mono ?_
    rintro e w1 ⟨rfl, rfl⟩
    go_wp2_with fail
    with_reducible refine hsu.mono ?_
    rintro e w1 ⟨rfl, rfl⟩
    go_wp2_with (refine wpList_store_row_g rfl 34 _ _ rfl f _ rfl rfl 34 _ row0 batSize2 rfl (by simp [Value.oneCell']) ?_)
    intro w9 row9 g9 _
    have bz := Touch.new (g := f) g9 b0 hfw
    have q0 : w9.cell? ⟨f, 0, none⟩ = some (.int .i64 0) := cell_of_row _ _ 0 _ _ _ row9
    have q1 : w9.cell? ⟨f, 1, none⟩ = some (.int .i64 0) := cell_of_row _ _ 1 _ _ _ row9
    have q2 : w9.cell? ⟨f, 2, none⟩ = some (.slice none 0 0) := cell_of_row _ _ 2 _ _ _ row9
    clear g9 row9
    go_wp2_with fail
    refine bodyPost_ret (v := .tuple #[.agg #[.int .i64 0, .int .i64 0, .slice none 0 0], .int .i64 0, .int .i64 102]) (by simp [results, go_sem, q0, q1, q2]) rfl ?_
    unfold RefReadPost
    rw [HB.out]
    exact ⟨.slice none 0 0, rfl, RecsOwn.nil _ _, bz⟩
  have t4' : ((sm : Int) != (cs : Int)) = false := by rw [bne_eq_false_iff_eq]; omega
  have HDOC := Lib.hid (readB_doc bs t1 (by rw [← HN.out]; exact t2) (by rw [← HN.out]; exact t3) (by rw [← HN.out, ← HSM.out, ← HIN.out, ← HCS.out]; exact fun hh => hh t4))
  obtain ⟨x, hx⟩ : ∃ x, x = parseD IN := ⟨_, rfl⟩
  have HDOC2 : Hid (readB bs = if valid x = 0 ∧ (bytesL x == bs.take e8) = true then (0, x, e8) else (103, Rec.b0, 0)) := Lib.hid (by rw [HDOC.out, ← HN.out, ← HIN.out, ← hx, HE8.out])
  have hxb := parseD_base IN
  rw [← hx] at hpa hxb
  have hnb : n ≤ 65536 := by omega
  clear HDOC HRB HRB2 HRB3 HRB4 t1 t2 t3 t4 hx
  go_wp2_with fail
  with_reducible refine f4.mono ?_
  rintro e w1 ⟨rfl, rfl⟩
  go_wp2_with fail
  with_reducible refine f5.mono ?_
  rintro e w1 ⟨rfl, rfl⟩
  go_wp2_with fail
  with_reducible refine hsu.mono ?_
  rintro e w1 ⟨rfl, rfl⟩
  clear f4 f5 hsu
  go_wp2_with fail
  with_reducible refine hpa.mono ?_
  rintro e w2 ⟨vx, rfl, ox, b2⟩
  have B2 := nxt b0 b2
  have row2 := heap_below b2 row0
  have rx := ox.rd
  obtain ⟨ax, cx, rfl⟩ := rx.slice
  unfold batA
  have b3 := below_alloc w2 (.cells #[.int .i64 x.base, .int .i64 x.epoch, .slice ax x.recs.length cx] 34)
  have row3 := heap_alloc_new w2 (.cells #[.int .i64 x.base, .int .i64 x.epoch, .slice ax x.recs.length cx] 34)
  have ox3 := ox.below b3
  have res3 := heap_below b3 row2
  have B3 := nxt B2 b3
  have hs12 : w.heap.size ≤ w1.heap.size := b0.size
  have hf3 : f < w1.heap.size := (Array.getElem?_eq_some_iff.1 row0).1
  have hgs := b2.size
  clear hpa rx ox row2 b3
  go_upto_region 12 with fail
  obtain ⟨w3, hw3⟩ : ∃ w3, w3 = w2.alloc (.cells #[.int .i64 x.base, .int .i64 x.epoch, .slice ax x.recs.length cx] 34) := ⟨_, rfl⟩
  obtain ⟨g7, hg7⟩ : ∃ g7, g7 = w2.heap.size := ⟨_, rfl⟩
  rw [← hw3] at row3 ox3 res3 B3 ⊢
  rw [← hg7] at row3 ⊢
  have hfg : f ≠ g7 := by omega
  clear hw3 hg7
  have KK : ∀ W, Below w3.heap.size w3 W → (fun W => W.cell? ⟨g7, 0, none⟩ = some (.int .i64 x.base) ∧ W.cell? ⟨g7, 1, none⟩ = some (.int .i64 x.epoch) ∧ W.cell? ⟨g7, 2, none⟩ = some (.slice ax x.recs.length cx)) W := fun W hW => by
    have r := heap_below hW row3
    exact ⟨cell_of_row _ _ 0 _ _ _ r, cell_of_row _ _ 1 _ _ _ r, cell_of_row _ _ 2 _ _ _ r⟩
  have bD : Below w3.heap.size w3 w3.drew := (Below.refl _ _).drew
  have hva := refValid_calls (b := x) (ox3.rd.below bD) hxb
  unfold batA at hva
  obtain ⟨vc, hvc⟩ : ∃ vc, vc = valid x := ⟨_, rfl⟩
  rw [← hvc] at hva HDOC2
  have HVC := Lib.hid hvc
  clear hvc
  refine wp_region_ord (S := (fun W => W.cell? ⟨g7, 0, none⟩ = some (.int .i64 x.base) ∧ W.cell? ⟨g7, 1, none⟩ = some (.int .i64 x.epoch) ∧ W.cell? ⟨g7, 2, none⟩ = some (.slice ax x.recs.length cx))) [(0, true), (1, false), (2, true), (3, true), (4, true), (6, true), (7, true), (8, true), (9, true), (5, false), (10, false), (11, true), (12, true)] (by kernel_rfl) (by kernel_rfl) rfl (by kernel_rfl) (fun _ _ _ _ _ h => h) (KK _ bD) ?_
  simp only [List.map_cons, List.map_nil, List.getElem?_toArray, List.getElem?_cons_succ, List.getElem?_cons_zero]
  (refine ord_take (v := ?_) (by kernel_rfl) (fun w hSw => ?_) ?_; rotate_left; (focus ((obtain ⟨s0, s1, s2⟩ := hSw); (try dsimp only at s0 s1 s2); go_simp; (first | done | with_reducible rfl))); simp only [Act.put, List.setIfInBounds_toArray, List.set_cons_zero, List.set_cons_succ])
  refine ord_do (by kernel_rfl) (fun K hK => ?_)
  go_simp
  go_at_call 42
  with_reducible refine hva.mono ?_
  rintro e w4 ⟨rfl, b4⟩
  have b34 := nxt bD b4
  show K _ _
  refine hK.out _ _ (KK _ b34) ?_
  clear hK hva
  try simp only [Act.put, List.setIfInBounds_toArray, List.set_cons_zero, List.set_cons_succ]
  by_cases hv : vc = 0
  · have hn : ((vc : Int) != 0) = false := by rw [hv]; rfl
    have hrb := refBatch_calls (b := x) (by rw [← HVC.out]; exact hv) (ox3.rd.below b34)
    unfold NewRow batA at hrb
    have HV := Lib.hid hv
    clear hv
    iterate 7 (refine ord_take (v := ?_) (by kernel_rfl) (fun w hSw => ?_) ?_; rotate_left; (focus ((obtain ⟨s0, s1, s2⟩ := hSw); (try dsimp only at s0 s1 s2); go_simp; (first | done | with_reducible rfl))); simp only [Act.put, List.setIfInBounds_toArray, List.set_cons_zero, List.set_cons_succ])
    refine ord_do (by kernel_rfl) (fun K hK => ?_)
    go_simp
    go_at_call 43
    with_reducible refine hrb.mono ?_
    rintro e w5 ⟨v5, rfl, o5, b5⟩
    obtain ⟨a5', c5', rfl⟩ := owns_slice o5
    have b35 := nxt b34 b5
    have hsb := sameBytes_calls _ _ _ _ w5 (Rd.of_owns o5) (R7 w5 (nxt B3 b35))
    show K _ _
    refine hK.out _ _ (KK _ b35) ?_
    clear hK hrb
    try simp only [Act.put, List.setIfInBounds_toArray, List.set_cons_zero, List.set_cons_succ]
    obtain ⟨D, hD⟩ : ∃ D, D = (bytesL x == bs.take e8) := ⟨_, rfl⟩
    rw [← hD] at hsb
    have HD := Lib.hid hD
    clear hD
    refine ord_do (by kernel_rfl) (fun K hK => ?_)
    go_simp
    go_at_call 46
    with_reducible refine hsb.mono ?_
    rintro e w6 ⟨rfl, nq, hw6⟩
    have b36 : Below w3.heap.size w3 w6 := by rw [hw6]; exact below_drewN b35 nq
    show K _ _
    refine hK.out _ _ (KK _ b36) ?_
    clear hK hsb hw6
    try simp only [Act.put, List.setIfInBounds_toArray, List.set_cons_zero, List.set_cons_succ]
    iterate 2 (refine ord_take (v := ?_) (by kernel_rfl) (fun w hSw => ?_) ?_; rotate_left; (focus ((obtain ⟨s0, s1, s2⟩ := hSw); (try dsimp only at s0 s1 s2); go_simp; (first | done | with_reducible rfl))); simp only [Act.put, List.setIfInBounds_toArray, List.set_cons_zero, List.set_cons_succ])
    refine ord_nil ?_
    have res6 := heap_below b36 res3
    have B6 := nxt B3 b36
    have ox6 := ox3.below b36
    obtain ⟨d0, d1, d2⟩ := KK _ b36
    clear KK o5
    cases D with
    | true =>
      have HB : Hid (readB bs = (0, x, e8)) := Lib.hid (by rw [HDOC2.out, if_pos ⟨HV.out, HD.out.symm⟩])
      go_wp2_with (refine wpList_store_row_g rfl 34 _ _ rfl f _ rfl rfl 34 _ res6 batSize2 rfl (by simp [Value.oneCell']) ?_)
      intro w9 row9 g9 _
      have bz := Touch.new (g := f) g9 B6 hfw
      have oz := ox6.touch (g := f) g9 hf3
      have q0 : w9.cell? ⟨f, 0, none⟩ = some (.int .i64 x.base) := cell_of_row _ _ 0 _ _ _ row9
      have q1 : w9.cell? ⟨f, 1, none⟩ = some (.int .i64 x.epoch) := cell_of_row _ _ 1 _ _ _ row9
      have q2 : w9.cell? ⟨f, 2, none⟩ = some (.slice ax x.recs.length cx) := cell_of_row _ _ 2 _ _ _ row9
      clear g9 row9 d0 d1 d2
      go_wp2_with fail
      refine bodyPost_ret (v := .tuple #[.agg #[.int .i64 x.base, .int .i64 x.epoch, .slice ax x.recs.length cx], .int .i64 (e8 : Int), .int .i64 0]) (by simp [results, go_sem, q0, q1, q2]) rfl ?_
      unfold RefReadPost
      rw [HB.out]
      exact ⟨_, rfl, oz.base hs12, bz⟩
    | false =>
      have HB : Hid (readB bs = (103, Rec.b0, 0)) := Lib.hid (by rw [HDOC2.out, if_neg (fun hh => by have := HD.out.trans hh.2; cases this)])
      clear d0 d1 d2
      go_wp2_with (refine wpList_store_row_g rfl 34 _ _ rfl f _ rfl rfl 34 _ res6 batSize2 rfl (by simp [Value.oneCell']) ?_)
      intro w9 row9 g9 _
      have bz := Touch.new (g := f) g9 B6 hfw
      have q0 : w9.cell? ⟨f, 0, none⟩ = some (.int .i64 0) := cell_of_row _ _ 0 _ _ _ row9
      have q1 : w9.cell? ⟨f, 1, none⟩ = some (.int .i64 0) := cell_of_row _ _ 1 _ _ _ row9
      have q2 : w9.cell? ⟨f, 2, none⟩ = some (.slice none 0 0) := cell_of_row _ _ 2 _ _ _ row9
      clear g9 row9
      go_wp2_with fail
      refine bodyPost_ret (v := .tuple #[.agg #[.int .i64 0, .int .i64 0, .slice none 0 0], .int .i64 0, .int .i64 103]) (by simp [results, go_sem, q0, q1, q2]) rfl ?_
      unfold RefReadPost
      rw [HB.out]
      exact ⟨.slice none 0 0, rfl, RecsOwn.nil _ _, bz⟩
  · have hn : ((vc : Int) != 0) = true := by rw [bne_iff_ne]; omega
    have HB : Hid (readB bs = (103, Rec.b0, 0)) := Lib.hid (by rw [HDOC2.out, if_neg (fun hh => hv hh.1)])
    clear hv
    iterate 2 (refine ord_take (v := ?_) (by kernel_rfl) (fun w hSw => ?_) ?_; rotate_left; (focus ((obtain ⟨s0, s1, s2⟩ := hSw); (try dsimp only at s0 s1 s2); go_simp; (first | done | with_reducible rfl))); simp only [Act.put, List.setIfInBounds_toArray, List.set_cons_zero, List.set_cons_succ])
    iterate 5 (refine ord_skip (by kernel_rfl) ?_; simp only [Act.put, List.setIfInBounds_toArray, List.set_cons_zero, List.set_cons_succ])
    (refine ord_pass (by kernel_rfl) (KK _ b34) ?_; simp only [Act.put, List.setIfInBounds_toArray, List.set_cons_zero, List.set_cons_succ])
    (refine ord_pass (by kernel_rfl) (KK _ b34) ?_; simp only [Act.put, List.setIfInBounds_toArray, List.set_cons_zero, List.set_cons_succ])
    iterate 1 (refine ord_skip (by kernel_rfl) ?_; simp only [Act.put, List.setIfInBounds_toArray, List.set_cons_zero, List.set_cons_succ])
    iterate 1 (refine ord_take (v := ?_) (by kernel_rfl) (fun w hSw => ?_) ?_; rotate_left; (focus ((obtain ⟨s0, s1, s2⟩ := hSw); (try dsimp only at s0 s1 s2); go_simp; (first | done | with_reducible rfl))); simp only [Act.put, List.setIfInBounds_toArray, List.set_cons_zero, List.set_cons_succ])
    refine ord_nil ?_
    have res6 := heap_below b34 res3
    have B6 := nxt B3 b34
    clear KK
    go_wp2_with (refine wpList_store_row_g rfl 34 _ _ rfl f _ rfl rfl 34 _ res6 batSize2 rfl (by simp [Value.oneCell']) ?_)
    intro w9 row9 g9 _
    have bz := Touch.new (g := f) g9 B6 hfw
    have q0 : w9.cell? ⟨f, 0, none⟩ = some (.int .i64 0) := cell_of_row _ _ 0 _ _ _ row9
    have q1 : w9.cell? ⟨f, 1, none⟩ = some (.int .i64 0) := cell_of_row _ _ 1 _ _ _ row9
    have q2 : w9.cell? ⟨f, 2, none⟩ = some (.slice none 0 0) := cell_of_row _ _ 2 _ _ _ row9
    clear g9 row9
    go_wp2_with fail
    refine bodyPost_ret (v := .tuple #[.agg #[.int .i64 0, .int .i64 0, .slice none 0 0], .int .i64 0, .int .i64 103]) (by simp [results, go_sem, q0, q1, q2]) rfl ?_
    unfold RefReadPost
    rw [HB.out]
    exact ⟨.slice none 0 0, rfl, RecsOwn.nil _ _, bz⟩
end Go.Proofs.YtlfbdcgojbfcaaaDoor
