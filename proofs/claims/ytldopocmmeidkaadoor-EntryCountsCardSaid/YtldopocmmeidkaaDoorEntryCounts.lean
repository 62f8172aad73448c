/- EntryCounts: how many bytes an entry has. -/
import Derived.Test.YtldopocmmeidkaaDoorEntFirst
import Derived.Deep.CutBlock
namespace Go.Proofs.YtldopocmmeidkaaDoor
open Go Go.RowKit Man Vint Crc

theorem ent_parts (sn kn : Nat) (SB EB : List UInt8) (h : EB = lit (sealed (lit sn 8 ++ (UInt8.ofNat kn :: SB))).length 4 ++ sealed (lit sn 8 ++ (UInt8.ofNat kn :: SB))) :
    EB.length = 17 + SB.length ∧ EB.take 4 = lit (13 + SB.length) 4 ∧ (EB.drop 4).take 8 = lit sn 8 ∧ EB[12]? = some (UInt8.ofNat kn) ∧ (EB.drop 13).take SB.length = SB := by
  obtain ⟨q, hq, hql⟩ : ∃ q, sealed (lit sn 8 ++ (UInt8.ofNat kn :: SB)) = lit sn 8 ++ (UInt8.ofNat kn :: (SB ++ q)) ∧ q.length = 4 := ⟨le4 (sum (lit sn 8 ++ (UInt8.ofNat kn :: SB))), by unfold sealed; simp, by simp [le4]⟩
  have hl : (sealed (lit sn 8 ++ (UInt8.ofNat kn :: SB))).length = 13 + SB.length := by rw [hq]; simp only [List.length_append, List.length_cons, lit_length, hql]; omega
  rw [hl, hq] at h
  have l4 := lit_length 4 (13 + SB.length)
  have l8 := lit_length 8 sn
  subst h
  refine ⟨by simp only [List.length_append, List.length_cons, l4, l8, hql]; omega, ?_, ?_, ?_, ?_⟩
  · rw [List.take_left' l4]
  · rw [List.drop_left' l4, List.take_left' l8]
  · rw [List.getElem?_append_right (by omega), List.getElem?_append_right (by omega), l4, l8]; rfl
  · rw [show (13 : Nat) = 4 + (8 + 1) from rfl, ← List.drop_drop, List.drop_left' l4, ← List.drop_drop, List.drop_left' l8, List.drop_succ_cons, List.drop_zero, List.take_left' rfl]

set_option maxRecDepth 100000 in
set_option maxHeartbeats 4000000 in
theorem entryCounts_walk (S : List Nat) (A : Nat → Addr) (seq k : Int) (m : ManD) (ve vo : Value) (w : World) (hS : Sents S w A) (hall : All S) (h : ManRd w m ve vo) (hk : Man.Ok m) (hsq : I64 seq) :
    Calls Tryd.prog 3 #[.int .i64 seq, entA k m ve vo] w (fun e w' => e = .returned (.bool true) ∧ Below w.heap.size w w') := by
  have hwm := fun W (hB : Below w.heap.size w W) => worldManifest_calls (h.below hB)
  have heb := fun (hs : Small m) W (hB : Below w.heap.size w W) => entBytes_calls S A (seq := seq) (k := k) (hS.below hB) (hall 2 (by decide)) (hall 3 (by decide)) (hall 4 (by decide)) (hall 5 (by decide)) (hall 11 (by decide)) (h.below hB) hs hk
  have hrm := fun (hs : Small m) W (hB : Below w.heap.size w W) => refManBytes_calls (h.below hB) hs hk
  unfold manA at hwm hrm
  unfold entA at heb ⊢
  obtain ⟨re, ro⟩ := h
  obtain ⟨ae, ce, rfl⟩ := re.slice
  obtain ⟨ao, co, rfl⟩ := ro.slice
  have me := re.len_le
  clear re ro hk
  obtain ⟨SB, hSB⟩ : ∃ SB, SB = sealed (mbody m) := ⟨_, rfl⟩
  have HEN := Lib.hid (show entB seq k m = lit (sealed (lit (u64 seq) 8 ++ (UInt8.ofNat k.toNat :: SB))).length 4 ++ sealed (lit (u64 seq) 8 ++ (UInt8.ofNat k.toNat :: SB)) by rw [hSB]; rfl)
  rw [← hSB] at hrm
  have HSB := Lib.hid (show SB.length = (mbody m).length + 4 by rw [hSB]; simp [sealed, le4])
  clear hSB
  obtain ⟨M, hM⟩ : ∃ M, M = m := ⟨_, rfl⟩
  rw [← hM] at HEN HSB
  obtain ⟨id, ba, fi, ti, eps, objs⟩ := m
  simp only at hwm heb hrm me ⊢
  rw [← hM] at hwm heb hrm
  clear hM
  have b1 := below_alloc w (.cells #[.int .i64 k, .int .i64 id, .int .i64 ba, .int .i64 fi, .int .i64 ti, .slice ae eps.length ce, .slice ao objs.length co] 27)
  have row1 := heap_alloc_new w (.cells #[.int .i64 k, .int .i64 id, .int .i64 ba, .int .i64 fi, .int .i64 ti, .slice ae eps.length ce, .slice ao objs.length co] 27)
  go_enter Tryd.func3, Tryd.ntmps3
  go_upto_region 1 with fail
  obtain ⟨w1, hw1⟩ : ∃ w1, w1 = w.alloc (.cells #[.int .i64 k, .int .i64 id, .int .i64 ba, .int .i64 fi, .int .i64 ti, .slice ae eps.length ce, .slice ao objs.length co] 27) := ⟨_, rfl⟩
  obtain ⟨g, hg⟩ : ∃ g, g = w.heap.size := ⟨_, rfl⟩
  rw [← hw1] at b1 row1 ⊢
  rw [← hg] at row1 ⊢
  clear hw1 hg
  have D : ∀ W, Below w1.heap.size w1 W → W.cell? ⟨g, 0, none⟩ = some (.int .i64 k) ∧ W.cell? ⟨g, 1, none⟩ = some (.int .i64 id) ∧ W.cell? ⟨g, 2, none⟩ = some (.int .i64 ba) ∧ W.cell? ⟨g, 3, none⟩ = some (.int .i64 fi) ∧ W.cell? ⟨g, 4, none⟩ = some (.int .i64 ti) ∧ W.cell? ⟨g, 5, none⟩ = some (.slice ae eps.length ce) ∧ W.cell? ⟨g, 6, none⟩ = some (.slice ao objs.length co) := fun W hB => by
    have r := heap_below hB row1
    exact ⟨cell_of_row _ _ 0 _ _ _ r, cell_of_row _ _ 1 _ _ _ r, cell_of_row _ _ 2 _ _ _ r, cell_of_row _ _ 3 _ _ _ r, cell_of_row _ _ 4 _ _ _ r, cell_of_row _ _ 5 _ _ _ r, cell_of_row _ _ 6 _ _ _ r⟩
  clear row1
  have hf := entFirst_calls w1
  go_wp2_with fail
  with_reducible refine hf.mono ?_
  rintro e w2 ⟨rfl, nq, hw2⟩
  have b2 : Below w1.heap.size w1 w2 := by rw [hw2]; exact below_drewN (Below.refl _ _) nq
  clear hw2 hf
  obtain ⟨d0, d1, d2, d3, d4, d5, d6⟩ := D w2 b2
  have hwm2 := hwm w2 (nxt b1 b2)
  go_wp2_with fail
  with_reducible refine hwm2.mono ?_
  rintro e w3 ⟨t, rfl, b3, hsm⟩
  have B3 := nxt b2 b3
  clear d0 d1 d2 d3 d4 d5 d6 hwm hwm2
  obtain ⟨d0, d1, d2, d3, d4, d5, d6⟩ := D w3 B3
  cases t
  · go_wp2_with fail
    go_ret
    exact ⟨rfl, nxt b1 B3⟩
  · have hs := hsm rfl
    have heb3 := heb hs w3 (nxt b1 B3)
    by_cases t1 : 30 < eps.length
    · go_wp2_with fail
      go_ret
      exact ⟨rfl, nxt b1 B3⟩
    · have t1' : decide ((30 : Int) < (eps.length : Int)) = false := decide_eq_false (by omega)
      clear heb hsm
      go_wp2_with fail
      with_reducible refine heb3.mono ?_
      rintro e w4 ⟨hc, b4⟩
      have B4 := nxt B3 b4
      clear heb3 d0 d1 d2 d3 d4 d5 d6
      obtain ⟨d0, d1, d2, d3, d4, d5, d6⟩ := D w4 B4
      have hS4 := hS.below (nxt b1 B4)
      rcases hc with ⟨e1, rfl⟩ | ⟨e1, e2, rfl⟩ | ⟨e1, e2, e3, ⟨ty, u, rfl⟩ | ⟨v, rfl, ov, hml⟩⟩
      · have hi := is_calls hS4 hall (senV A 4) (.bare 4) ⟨by decide, rfl⟩ 105
        rw [decide_eq_true (show (Er.bare 4).code = 105 ∧ (Er.bare 4).has = false ∧ (Er.bare 4).pos = 0 from ⟨rfl, rfl, rfl⟩)] at hi
        go_wp2_with fail
        with_reducible refine hi.mono ?_
        rintro e w5 ⟨rfl, b5⟩
        go_wp2_with fail
        go_ret
        exact ⟨rfl, nxt b1 (nxt B4 b5)⟩
      · have e1' : decide (seq < 0) = false := decide_eq_false (by omega)
        have hi := is_calls hS4 hall (senV A 11) (.bare 11) ⟨by decide, rfl⟩ 112
        rw [decide_eq_true (show (Er.bare 11).code = 112 ∧ (Er.bare 11).has = false ∧ (Er.bare 11).pos = 0 from ⟨rfl, rfl, rfl⟩)] at hi
        by_cases k1 : k < 1
        · go_wp2_with fail
          with_reducible refine hi.mono ?_
          rintro e w5 ⟨rfl, b5⟩
          go_wp2_with fail
          go_ret
          exact ⟨rfl, nxt b1 (nxt B4 b5)⟩
        · have k1' : decide (k < 1) = false := decide_eq_false k1
          have k2 : 4 < k := by omega
          go_wp2_with fail
          with_reducible refine hi.mono ?_
          rintro e w5 ⟨rfl, b5⟩
          go_wp2_with fail
          go_ret
          exact ⟨rfl, nxt b1 (nxt B4 b5)⟩
      · have e1' : decide (seq < 0) = false := decide_eq_false (by omega)
        have k1' : decide (k < 1) = false := decide_eq_false (by omega)
        have k2' : decide (4 < k) = false := decide_eq_false (by omega)
        go_wp2_with fail
        go_ret
        exact ⟨rfl, nxt b1 B4⟩
      · have e1' : decide (seq < 0) = false := decide_eq_false (by omega)
        have k1' : decide (k < 1) = false := decide_eq_false (by omega)
        have k2' : decide (4 < k) = false := decide_eq_false (by omega)
        have hrm4 := hrm hs w4 (nxt b1 B4)
        obtain ⟨sn, rfl⟩ : ∃ sn : Nat, seq = (sn : Int) := ⟨seq.toNat, by omega⟩
        obtain ⟨kn, rfl⟩ : ∃ kn : Nat, k = (kn : Int) := ⟨k.toNat, by omega⟩
        obtain ⟨a4, c4, rfl⟩ := owns_slice ov
        clear hrm
        go_wp2_with fail
        with_reducible refine hrm4.mono ?_
        rintro e w5 ⟨v5, rfl, o5, b5⟩
        obtain ⟨EB, hEB⟩ : ∃ EB, EB = entB (sn : Int) (kn : Int) M := ⟨_, rfl⟩
        have hparts := ent_parts sn kn SB EB (by rw [hEB, HEN.out, u64_nat sn (by have := hsq.2; omega), Int.toNat_natCast])
        rw [← hEB] at ov ⊢
        clear hEB
        have hsl : SB.length ≤ 10004 := by rw [HSB.out]; omega
        obtain ⟨hEl, P1, P2, P3, P4⟩ := hparts
        have r6 := (Rd.of_owns ov).below b5
        have r5 := Rd.of_owns o5
        obtain ⟨a5, c5, rfl⟩ := owns_slice o5
        obtain ⟨N, hN⟩ : ∃ N, N = EB.length := ⟨_, rfl⟩
        obtain ⟨sl, hsl'⟩ : ∃ sl, sl = SB.length := ⟨_, rfl⟩
        obtain ⟨N4, hN4⟩ : ∃ N4, N4 = 13 + sl := ⟨_, rfl⟩
        rw [← hN] at r6 hEl ov ⊢
        rw [← hsl'] at hEl hsl P1 ⊢
        rw [← hN4] at P1
        have q1 : N = N4 + 4 := by omega
        obtain ⟨x1, y1, s1, p1⟩ := part_all a4 N c4 1 0 4 (by omega) (by omega)
        obtain ⟨x2, y2, s2, p2⟩ := part_all a4 N c4 1 4 12 (by omega) (by omega)
        obtain ⟨x3, y3, s3, p3⟩ := part_all a4 N c4 1 13 N4 (by omega) (by omega)
        have hcap := r6.cap
        have u1 : ∀ W, (Instr.sliceAt 30 (.slice a4 N c4) none (some (.int .i64 4)) none).run Tryd.prog W = .ok (.slice x1 4 y1) W := fun W => by
          have := run_cut_h 30 sl_u8 1 sz_u8 a4 N c4 4 .i64 (by omega) W
          rw [s1] at this
          exact this
        have u2 : ∀ W, (Instr.sliceAt 30 (.slice a4 N c4) (some (.int .i64 4)) (some (.int .i64 12)) none).run Tryd.prog W = .ok (.slice x2 8 y2) W := fun W => by
          have := run_cut_lh 30 sl_u8 1 sz_u8 a4 N c4 4 12 .i64 .i64 (by omega) (by omega) W
          rw [s2] at this
          exact this
        have hn13 : N4 - 13 = sl := by omega
        rw [hn13] at s3 p3
        have u3 : ∀ W, (Instr.sliceAt 30 (.slice a4 N c4) (some (.int .i64 13)) (some (.int .i64 (N4 : Int))) none).run Tryd.prog W = .ok (.slice x3 sl y3) W := fun W => by
          have := run_cut_lh 30 sl_u8 1 sz_u8 a4 N c4 13 N4 .i64 .i64 (by omega) (by omega) W
          rw [s3] at this
          exact this
        have rA := p1 w5 _ r6
        have rB := p2 w5 _ r6
        have rC := p3 w5 _ r6
        rw [Nat.sub_zero, Nat.zero_mul, Nat.mul_one, List.drop_zero, ← bvs_take, P1] at rA
        rw [show 12 - 4 = 8 from rfl, Nat.mul_one, Nat.mul_one, ← bvs_part, P2] at rB
        rw [Nat.mul_one, Nat.mul_one, ← bvs_part, hsl', P4, ← hsl'] at rC
        have bD : Below w5.heap.size w5 w5.drew := (Below.refl _ _).drew
        have F1 := refFixed_calls (.slice x1 4 y1) (lit N4 4) w5.drew (by rw [lit_length]; exact rA.below bD) (by rw [lit_length]; omega)
        rw [little_lit 4 N4 (by omega)] at F1
        have F2 := refFixed_calls (.slice x2 8 y2) (lit sn 8) w5.drew (by rw [lit_length]; exact rB.below bD) (by rw [lit_length]; omega)
        rw [little_lit 8 sn (by have := hsq.2; omega)] at F2
        have F3 := sameBytes_calls (.slice x3 sl y3) (.slice a5 sl c5) SB SB w5.drew (by rw [← hsl']; exact rC.below bD) (by rw [← hsl']; exact (by rw [← hsl'] at r5; exact r5.below bD))
        rw [beq_self_eq_true] at F3
        obtain ⟨bb, oo, rfl, _, _, hx⟩ := r6.at (by omega)
        have c12 : w5.cell? ⟨bb, oo + 12, none⟩ = some (.int .u8 (kn : Int)) := by
          have := hx 12 (.int .u8 (kn : Int)) (by
            unfold bvs; rw [List.getElem?_map, P3, Option.map_some]
            unfold bv
            rw [show (UInt8.ofNat kn).toNat = kn by rw [UInt8.toNat_ofNat']; omega])
          exact this
        have cg : w5.cell? ⟨g, 0, none⟩ = some (.int .i64 (kn : Int)) := (D w5 (nxt B4 b5)).1
        have f1 : IntKind.i64.wrap (17 + (sl : Int)) = (N : Int) := by rw [IntKind.wrap_i64]; omega
        have f2 : IntKind.i64.wrap ((N : Int) - 4) = (N4 : Int) := by rw [IntKind.wrap_i64]; omega
        have f3 : IntKind.u64.wrap (N4 : Int) = (N4 : Int) := by rw [IntKind.wrap_u64]; omega
        have f5 : IntKind.i64.wrap (sn : Int) = (sn : Int) := by rw [IntKind.wrap_i64]; have := hsq.2; omega
        have f6 : IntKind.i64.wrap (kn : Int) = (kn : Int) := by rw [IntKind.wrap_i64]; omega
        have f7 : (12 : Int) < (N : Int) := by omega
        have B5 := nxt b1 (nxt B4 b5)
        have HQ := Lib.hid q1
        clear hN hsl' hN4 hEl hsl P1 P2 P3 P4 r6 r5 rA rB rC s1 s2 s3 p1 p2 p3 hx q1 hn13 d0 d1 d2 d3 d4 d5 d6 hrm4 hml ov o5 D
        go_upto_region 14 with fail
        refine wp_region_ord (S := (fun W => W.cell? ⟨g, 0, none⟩ = some (.int .i64 (kn : Int)) ∧ W.cell? ⟨bb, oo + 12, none⟩ = some (.int .u8 (kn : Int)))) [(0, true), (1, true), (2, true), (3, true), (4, true), (5, true), (6, true), (7, true), (8, true), (10, true), (11, true), (12, true), (13, true), (9, false), (14, true), (15, true), (16, true), (17, true), (18, true), (21, true), (19, false), (20, true), (22, true), (23, true), (24, true), (25, true), (26, true), (27, true), (28, true), (29, true), (30, true), (31, true), (32, true), (33, true), (34, true), (35, true), (36, true), (37, true), (38, true), (39, true), (40, false), (41, true), (42, true)] (by kernel_rfl) (by kernel_rfl) rfl (by kernel_rfl) (fun _ _ _ _ _ h => h) ⟨cg, c12⟩ ?_
        simp only [List.map_cons, List.map_nil, List.getElem?_toArray, List.getElem?_cons_succ, List.getElem?_cons_zero]
        iterate 13 (refine ord_take (v := ?_) (by kernel_rfl) (fun w hSw => ?_) ?_; rotate_left; (focus ((obtain ⟨s0, s1⟩ := hSw); (try dsimp only at s0 s1); go_simp; (first | done | with_reducible rfl))); simp only [Act.put, List.setIfInBounds_toArray, List.set_cons_zero, List.set_cons_succ])
        refine ord_do (by kernel_rfl) (fun K hK => ?_)
        go_simp
        go_at_call 14
        with_reducible refine F1.mono ?_
        rintro e w6 ⟨rfl, rfl⟩
        show K _ _
        refine hK.out _ _ ⟨cg, c12⟩ ?_
        clear hK
        try simp only [Act.put, List.setIfInBounds_toArray, List.set_cons_zero, List.set_cons_succ]
        iterate 6 (refine ord_take (v := ?_) (by kernel_rfl) (fun w hSw => ?_) ?_; rotate_left; (focus ((obtain ⟨s0, s1⟩ := hSw); (try dsimp only at s0 s1); go_simp; (first | done | with_reducible rfl))); simp only [Act.put, List.setIfInBounds_toArray, List.set_cons_zero, List.set_cons_succ])
        refine ord_do (by kernel_rfl) (fun K hK => ?_)
        go_simp
        go_at_call 14
        with_reducible refine F2.mono ?_
        rintro e w7 ⟨rfl, rfl⟩
        show K _ _
        refine hK.out _ _ ⟨cg, c12⟩ ?_
        clear hK
        try simp only [Act.put, List.setIfInBounds_toArray, List.set_cons_zero, List.set_cons_succ]
        iterate 19 (refine ord_take (v := ?_) (by kernel_rfl) (fun w hSw => ?_) ?_; rotate_left; (focus ((obtain ⟨s0, s1⟩ := hSw); (try dsimp only at s0 s1); go_simp; (first | done | with_reducible rfl))); simp only [Act.put, List.setIfInBounds_toArray, List.set_cons_zero, List.set_cons_succ])
        refine ord_do (by kernel_rfl) (fun K hK => ?_)
        go_simp
        go_at_call 15
        with_reducible refine F3.mono ?_
        rintro e w8 ⟨rfl, nq, hw8⟩
        have b8 : Below w5.heap.size w5 w8 := by rw [hw8]; exact below_drewN bD nq
        have hc8 : w8.cell? ⟨g, 0, none⟩ = some (.int .i64 (kn : Int)) ∧ w8.cell? ⟨bb, oo + 12, none⟩ = some (.int .u8 (kn : Int)) := by rw [hw8]; exact ⟨cg, c12⟩
        show K _ _
        refine hK.out _ _ hc8 ?_
        clear hK
        try simp only [Act.put, List.setIfInBounds_toArray, List.set_cons_zero, List.set_cons_succ]
        iterate 2 (refine ord_take (v := ?_) (by kernel_rfl) (fun w hSw => ?_) ?_; rotate_left; (focus ((obtain ⟨s0, s1⟩ := hSw); (try dsimp only at s0 s1); go_simp; (first | done | with_reducible rfl))); simp only [Act.put, List.setIfInBounds_toArray, List.set_cons_zero, List.set_cons_succ])
        refine ord_nil ?_
        go_wp2_with fail
        go_ret
        exact ⟨rfl, nxt B5 b8⟩
end Go.Proofs.YtldopocmmeidkaaDoor
