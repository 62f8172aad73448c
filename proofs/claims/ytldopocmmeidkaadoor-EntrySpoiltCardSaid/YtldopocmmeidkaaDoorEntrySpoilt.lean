/- EntrySpoilt: an entry's bytes, spoilt. -/
import Derived.Test.YtldopocmmeidkaaDoorEntSpoilMath
import Derived.Test.YtldopocmmeidkaaDoorNumber
import Derived.Test.YtldopocmmeidkaaDoorRefBytes
import Derived.Deep.CutBlock
namespace Go.Proofs.YtldopocmmeidkaaDoor
open Go Go.RowKit Man Vint Crc

set_option maxRecDepth 100000 in
set_option maxHeartbeats 4000000 in
theorem entrySpoilt_walk (S : List Nat) (A : Nat → Addr) (k : Int) (m : ManD) (ve vo : Value) (at' : Int) (by' : UInt8) (w : World) (hS : Sents S w A) (hall : All S) (h : ManRd w m ve vo) (hk : Man.Ok m) :
    Calls Tryd.prog 5 #[entA k m ve vo, .int .i64 at', .int .u8 (by'.toNat : Int)] w (fun e w' => e = .returned (.bool true) ∧ Below w.heap.size w w') := by
  have hwm := fun W (hB : Below w.heap.size w W) => worldManifest_calls (h.below hB)
  have heb := fun (hs : Small m) W (hB : Below w.heap.size w W) => entBytes_calls S A (seq := 7) (k := k) (hS.below hB) (hall 2 (by decide)) (hall 3 (by decide)) (hall 4 (by decide)) (hall 5 (by decide)) (hall 11 (by decide)) (h.below hB) hs hk
  unfold manA at hwm
  unfold entA at heb ⊢
  obtain ⟨re, ro⟩ := h
  obtain ⟨ae, ce, rfl⟩ := re.slice
  obtain ⟨ao, co, rfl⟩ := ro.slice
  have me := re.len_le
  clear re ro hk
  obtain ⟨SB, hSB⟩ : ∃ SB, SB = sealed (mbody m) := ⟨_, rfl⟩
  have HEN := Lib.hid (show entB 7 k m = lit (sealed (lit (u64 7) 8 ++ (UInt8.ofNat k.toNat :: SB))).length 4 ++ sealed (lit (u64 7) 8 ++ (UInt8.ofNat k.toNat :: SB)) by rw [hSB]; rfl)
  have HSB := Lib.hid (show SB.length = (mbody m).length + 4 by rw [hSB]; simp [sealed, le4])
  clear hSB
  obtain ⟨M, hM⟩ : ∃ M, M = m := ⟨_, rfl⟩
  rw [← hM] at HEN HSB
  obtain ⟨id, ba, fi, ti, eps, objs⟩ := m
  simp only at hwm heb me ⊢
  rw [← hM] at hwm heb
  clear hM
  have b1 := below_alloc w (.cells #[.int .i64 k, .int .i64 id, .int .i64 ba, .int .i64 fi, .int .i64 ti, .slice ae eps.length ce, .slice ao objs.length co] 27)
  have row1 := heap_alloc_new w (.cells #[.int .i64 k, .int .i64 id, .int .i64 ba, .int .i64 fi, .int .i64 ti, .slice ae eps.length ce, .slice ao objs.length co] 27)
  go_enter Tryd.func5, Tryd.ntmps5
  go_upto_region 1 with fail
  obtain ⟨w1, hw1⟩ : ∃ w1, w1 = w.alloc (.cells #[.int .i64 k, .int .i64 id, .int .i64 ba, .int .i64 fi, .int .i64 ti, .slice ae eps.length ce, .slice ao objs.length co] 27) := ⟨_, rfl⟩
  obtain ⟨g, hg⟩ : ∃ g, g = w.heap.size := ⟨_, rfl⟩
  rw [← hw1] at b1 row1 ⊢
  rw [← hg] at row1 ⊢
  clear hw1 hg
  have D : ∀ W, Below w1.heap.size w1 W → W.cell? ⟨g, 0, none⟩ = some (.int .i64 k) ∧ W.cell? ⟨g, 1, none⟩ = some (.int .i64 id) ∧ W.cell? ⟨g, 2, none⟩ = some (.int .i64 ba) ∧ W.cell? ⟨g, 3, none⟩ = some (.int .i64 fi) ∧ W.cell? ⟨g, 4, none⟩ = some (.int .i64 ti) ∧ W.cell? ⟨g, 5, none⟩ = some (.slice ae eps.length ce) ∧ W.cell? ⟨g, 6, none⟩ = some (.slice ao objs.length co) := fun W hB => by
    have r := heap_below hB row1
    exact ⟨cell_of_row _ _ 0 _ _ _ r, cell_of_row _ _ 1 _ _ _ r, cell_of_row _ _ 2 _ _ _ r, cell_of_row _ _ 3 _ _ _ r, cell_of_row _ _ 4 _ _ _ r, cell_of_row _ _ 5 _ _ _ r, cell_of_row _ _ 6 _ _ _ r⟩
  clear row1
  have hf := entFirst_calls w1
  go_wp2_with fail
  with_reducible refine hf.mono ?_
  rintro e w2 ⟨rfl, nq, hw2⟩
  have b2 : Below w1.heap.size w1 w2 := by rw [hw2]; exact below_drewN (Below.refl _ _) nq
  clear hw2 hf
  obtain ⟨d0, d1, d2, d3, d4, d5, d6⟩ := D w2 b2
  have hwm2 := hwm w2 (nxt b1 b2)
  go_wp2_with fail
  with_reducible refine hwm2.mono ?_
  rintro e w3 ⟨t, rfl, b3, hsm⟩
  have B3 := nxt b2 b3
  clear d0 d1 d2 d3 d4 d5 d6 hwm hwm2
  obtain ⟨d0, d1, d2, d3, d4, d5, d6⟩ := D w3 B3
  cases t
  · go_wp2_with fail
    go_ret
    exact ⟨rfl, nxt b1 B3⟩
  · have hs := hsm rfl
    have heb3 := heb hs w3 (nxt b1 B3)
    by_cases t1 : 30 < eps.length
    · go_wp2_with fail
      go_ret
      exact ⟨rfl, nxt b1 B3⟩
    · have t1' : decide ((30 : Int) < (eps.length : Int)) = false := decide_eq_false (by omega)
      clear heb hsm
      by_cases hby : by' = 0
      · subst hby
        go_wp2_with fail
        go_ret
        exact ⟨rfl, nxt b1 B3⟩
      · have hby2 : ¬ (by'.toNat = 0) := fun e => hby (UInt8.toNat_inj.1 (by rw [e]; rfl))
        have HBY := Lib.hid hby
        clear hby
        go_wp2_with fail
        with_reducible refine heb3.mono ?_
        rintro e w4 ⟨hc, b4⟩
        have B4 := nxt b1 (nxt B3 b4)
        clear heb3 d0 d1 d2 d3 d4 d5 d6 D B3
        rcases hc with ⟨e1, rfl⟩ | ⟨e1, e2, rfl⟩ | ⟨e1, e2, e3, ⟨ty, u, rfl⟩ | ⟨v, rfl, ov, hml⟩⟩
        · exact absurd e1 (by decide)
        · unfold senV
          go_wp2_with fail
          go_ret
          exact ⟨rfl, B4⟩
        · go_wp2_with fail
          go_ret
          exact ⟨rfl, B4⟩
        · obtain ⟨EB, hEB⟩ : ∃ EB, EB = entB 7 k M := ⟨_, rfl⟩
          rw [← hEB] at ov
          obtain ⟨X, hX⟩ : ∃ X, X = lit (Man.u64 7) 8 ++ (UInt8.ofNat k.toNat :: SB) := ⟨_, rfl⟩
          obtain ⟨L, hL⟩ : ∃ L, L = (sealed X).length := ⟨_, rfl⟩
          have hE : EB = lit L 4 ++ sealed X := by rw [hEB, HEN.out, ← hX, ← hL]
          have hLv : L = 13 + SB.length := by rw [hL, sealed_len, hX, List.length_append, List.length_cons, lit_length]; omega
          have hLb : L ≤ 65000 := by rw [hLv, HSB.out]; omega
          have hL1 : 17 ≤ L := by rw [hLv, HSB.out]; omega
          have hEl : EB.length = 4 + L := by rw [hE, List.length_append, lit_length, ← hL]
          have HSUM := Lib.hid (fun (kk : Nat) (h4 : 4 ≤ kk) (hkk : kk < EB.length) => spoil_sum HBY.out hL hLb hE kk h4 hkk)
          have HMANY := Lib.hid (spoil_many hE)
          have HEND := Lib.hid (fun (h0 : 0 < EB.length) (hne : EB[0] + 1 ≠ 0) => spoil_end hL hLb hE h0 hne)
          clear hEB hX hL hE hLv hml HEN HSB HBY
          have rb := Rd.of_owns ov
          obtain ⟨a4, c4, rfl⟩ := owns_slice ov
          obtain ⟨N, hN⟩ : ∃ N, N = EB.length := ⟨_, rfl⟩
          have hNL : N = 4 + L := by omega
          have n20 : decide ((N : Int) < 20) = false := decide_eq_false (by omega)
          have m1 : IntKind.i64.wrap ((N : Int) - 4) = (L : Int) := by rw [IntKind.wrap_i64]; omega
          rw [← hN] at rb ⊢
          have HNN := Lib.hid hN
          have HNL := Lib.hid hNL
          have hNb : N ≤ 65010 := by omega
          have hN21 : 21 ≤ N := by omega
          clear hN hEl hNL ov
          have rb' : Rd w4 1 (.slice a4 N c4) EB.length (bvs EB) := by rw [← HNN.out]; exact rb
          have hrb := refBytes_calls _ EB w4 rb' (by rw [← HNN.out]; omega)
          rw [← HNN.out] at hrb
          go_wp2_with fail
          with_reducible refine hrb.mono ?_
          rintro e w5 ⟨v5, rfl, o5, b5⟩
          obtain ⟨a5, c5, rfl⟩ := owns_slice o5
          obtain ⟨g5, rfl, hg5⟩ := owns_at o5 (by omega)
          have hnum := number_calls at' (L : Int) w5 (by omega) (by omega)
          clear hrb
          go_wp2_with fail
          with_reducible refine hnum.mono ?_
          rintro e w5' ⟨rfl, rfl⟩
          obtain ⟨j, hj, hjl⟩ : ∃ j : Nat, at' % (L : Int) = (j : Int) ∧ j < L := by
            have e1 := Int.emod_nonneg at' (show (L : Int) ≠ 0 by omega)
            have e2 := Int.emod_lt_of_pos at' (show (0 : Int) < (L : Int) by omega)
            exact ⟨(at' % (L : Int)).toNat, by omega, by omega⟩
          rw [hj]
          clear hj hnum
          obtain ⟨kk, hkk⟩ : ∃ kk, kk = 4 + j := ⟨_, rfl⟩
          have m2 : IntKind.i64.wrap (4 + (j : Int)) = (kk : Int) := by rw [IntKind.wrap_i64]; omega
          have hkE : kk < EB.length := by rw [← HNN.out, HNL.out]; omega
          have hkN : kk < N := by rw [HNL.out]; omega
          have h4k : 4 ≤ kk := by omega
          clear hkk hjl
          have f1 := World.ownsRow.cellAt o5 kk (by omega)
          rw [bvs_at EB kk hkE] at f1
          have hfr := World.ownsRow.frozenAt o5 kk
          have x1 := u8x EB[kk] by'
          have hst := (World.ownsRow.stored o5 kk (.int .u8 (((EB[kk] ^^^ by').toNat : Nat) : Int))).1
          rw [bvs_set] at hst
          have hb6 : Below w4.heap.size w4 (w5.setCell ⟨g5, kk, none⟩ (.int .u8 (((EB[kk] ^^^ by').toNat : Nat) : Int))) := b5.setCell (p := ⟨g5, kk, none⟩) hg5 _
          have hsp := HSUM.out kk h4k hkE
          obtain ⟨z, hz⟩ : ∃ z, z = EB[kk] ^^^ by' := ⟨_, rfl⟩
          rw [← hz] at x1 hst hb6 hsp
          have hlen : (EB.set kk z).length = N := by rw [List.length_set, ← HNN.out]
          have HT := Lib.hid hst
          have HB := Lib.hid hb6
          have HSP := Lib.hid hsp
          clear hst hb6 hz o5 hsp
          generalize EB[kk] = x at *
          go_upto_region 13 with fail
          have b6 := HB.out
          have o6 := HT.out
          clear HT HB f1 hfr x1 b5
          generalize World.setCell _ _ _ = w6 at *
          have B6 := nxt B4 b6
          have rc : Rd w6 1 (.slice (some ⟨g5, 0, none⟩) N c5) (EB.set kk z).length (bvs (EB.set kk z)) := by rw [hlen]; exact Rd.of_owns o6
          have hr6 := entRead_bad S A (hS.below B6) (hall 0 (by decide)) (hall 1 (by decide)) (hall 3 (by decide)) rc (by omega) (by omega) L 1 HSP.out.1 HSP.out.2
          clear o6 rc HSP
          go_wp2_with fail
          with_reducible refine hr6.mono ?_
          rintro e w7 ⟨rfl, b7⟩
          have B7 := nxt b6 b7
          have hD1 := senV A 1
          unfold zeroE
          clear hr6
          go_upto_region 14 with fail
          have b8 := bAlloc B7 (.cells #[.int .i64 0, .int .i64 0, .int .i64 0, .int .i64 0, .int .i64 0, .slice none 0 0, .slice none 0 0] 27)
          generalize w7.alloc (.cells #[.int .i64 0, .int .i64 0, .int .i64 0, .int .i64 0, .int .i64 0, .slice none 0 0, .slice none 0 0] 27) = w8 at *
          have rb8 : Rd w8 1 (.slice a4 N c4) EB.length (bvs EB) := rb'.below b8
          have hrb8 := refBytes_calls _ EB w8 rb8 (by rw [← HNN.out]; omega)
          rw [← HNN.out] at hrb8
          clear B7 b7 hlen b6
          go_wp2_with fail
          with_reducible refine hrb8.mono ?_
          rintro e w9 ⟨v9, rfl, o9, b9⟩
          obtain ⟨a9, c9, rfl⟩ := owns_slice o9
          obtain ⟨g9, rfl, hg9⟩ := owns_at o9 (by omega)
          have h3E : 3 < EB.length := by rw [← HNN.out]; omega
          have f1 := World.ownsRow.cellAt o9 3 (by omega)
          rw [bvs_at EB 3 h3E] at f1
          have hfr := World.ownsRow.frozenAt o9 3
          have hst := (World.ownsRow.stored o9 3 (.int .u8 (((1 : UInt8).toNat : Nat) : Int))).1
          rw [bvs_set] at hst
          rw [show (((1 : UInt8).toNat : Nat) : Int) = 1 from rfl] at hst
          have hb10 : Below w8.heap.size w8 (w9.setCell ⟨g9, 3, none⟩ (.int .u8 1)) := b9.setCell (p := ⟨g9, 3, none⟩) hg9 _
          have HT := Lib.hid hst
          have HB := Lib.hid hb10
          have h3N : (3 : Int) < (N : Int) := by omega
          clear hst hb10 o9 hrb8
          generalize EB[3] = x3 at *
          go_upto_region 16 with fail
          have b10 := HB.out
          have o10 := HT.out
          clear HT HB f1 hfr b9
          generalize World.setCell _ _ _ = w10 at *
          have b48 := nxt b8 b10
          have B10 := nxt B4 b48
          have hlen : (EB.set 3 1).length = N := by rw [List.length_set, ← HNN.out]
          have rc : Rd w10 1 (.slice (some ⟨g9, 0, none⟩) N c9) (EB.set 3 1).length (bvs (EB.set 3 1)) := by rw [hlen]; exact Rd.of_owns o10
          have hr10 := entRead_bad S A (hS.below B10) (hall 0 (by decide)) (hall 1 (by decide)) (hall 3 (by decide)) rc (by omega) (by omega) _ 3 rfl HMANY.out
          clear o10 rc hlen
          go_wp2_with fail
          with_reducible refine hr10.mono ?_
          rintro e w11 ⟨rfl, b11⟩
          have b411 := nxt b48 b11
          unfold zeroE
          clear hr10 b10 b8
          go_upto_region 17 with fail
          have b12 := bAlloc b411 (.cells #[.int .i64 0, .int .i64 0, .int .i64 0, .int .i64 0, .int .i64 0, .slice none 0 0, .slice none 0 0] 27)
          generalize w11.alloc (.cells #[.int .i64 0, .int .i64 0, .int .i64 0, .int .i64 0, .int .i64 0, .slice none 0 0, .slice none 0 0] 27) = w12 at *
          have rb12 : Rd w12 1 (.slice a4 N c4) EB.length (bvs EB) := rb'.below b12
          have hrb12 := refBytes_calls _ EB w12 rb12 (by rw [← HNN.out]; omega)
          rw [← HNN.out] at hrb12
          clear b411 b11 b48
          go_wp2_with fail
          with_reducible refine hrb12.mono ?_
          rintro e w13 ⟨v13, rfl, o13, b13⟩
          obtain ⟨a13, c13, rfl⟩ := owns_slice o13
          obtain ⟨g13, rfl, hg13⟩ := owns_at o13 (by omega)
          have h0E : 0 < EB.length := by rw [← HNN.out]; omega
          have f1 := World.ownsRow.cellAt o13 0 (by omega)
          rw [bvs_at EB 0 h0E] at f1
          have hfr := World.ownsRow.frozenAt o13 0
          have hst := (World.ownsRow.stored o13 0 (.int .u8 (((EB[0] + 1).toNat : Nat) : Int))).1
          rw [bvs_set] at hst
          have hb14 : Below w12.heap.size w12 (w13.setCell ⟨g13, 0, none⟩ (.int .u8 (((EB[0] + 1).toNat : Nat) : Int))) := b13.setCell (p := ⟨g13, 0, none⟩) hg13 _
          have ad : IntKind.u8.wrap (((EB[0]).toNat : Int) + 1) = (((EB[0] + 1).toNat : Nat) : Int) := by
            rw [IntKind.wrap_u8, UInt8.toNat_add, show (1 : UInt8).toNat = 1 from rfl]; push_cast; rfl
          have hen := HEND.out h0E
          obtain ⟨z0, hz0⟩ : ∃ z0, z0 = EB[0] + 1 := ⟨_, rfl⟩
          rw [← hz0] at hst hb14 ad hen
          have HT := Lib.hid hst
          have HB := Lib.hid hb14
          have HENZ := Lib.hid hen
          have h0N : (0 : Int) < (N : Int) := by omega
          clear hst hb14 hz0 o13 hrb12 hen
          generalize EB[0] = x0 at *
          go_upto_region 19 with fail
          have b14 := HB.out
          have o14 := HT.out
          clear HT HB f1 hfr b13
          generalize World.setCell _ _ _ = w14 at *
          have b414 := nxt b12 b14
          have B14 := nxt B4 b414
          have hlen : (EB.set 0 z0).length = N := by rw [List.length_set, ← HNN.out]
          have q0 : w14.cell? ⟨g13, 0, none⟩ = some (.int .u8 (z0.toNat : Int)) := by
            have := World.ownsRow.cellAt o14 0 (by omega)
            rw [bvs_at (EB.set 0 z0) 0 (by rw [hlen]; omega), List.getElem_set_self] at this
            exact this
          by_cases hz : z0 = 0
          · subst hz
            go_wp2_with fail
            go_ret
            exact ⟨rfl, B14⟩
          · have hz' : ¬ (z0.toNat = 0) := fun e => hz (UInt8.toNat_inj.1 (by rw [e]; rfl))
            have hzz := HENZ.out hz
            have rc : Rd w14 1 (.slice (some ⟨g13, 0, none⟩) N c13) (EB.set 0 z0).length (bvs (EB.set 0 z0)) := by rw [hlen]; exact Rd.of_owns o14
            have hr14 := entRead_bad S A (hS.below B14) (hall 0 (by decide)) (hall 1 (by decide)) (hall 3 (by decide)) rc (by omega) (by omega) (L + 1) 0 hzz.1 hzz.2
            clear o14 rc hz hzz hlen
            go_wp2_with fail
            with_reducible refine hr14.mono ?_
            rintro e w15 ⟨rfl, b15⟩
            have B15 := nxt B14 b15
            have b16 := bAlloc B15 (.cells #[.int .i64 0, .int .i64 0, .int .i64 0, .int .i64 0, .int .i64 0, .slice none 0 0, .slice none 0 0] 27)
            unfold zeroE
            clear hr14
            go_upto_region 22 with fail
            generalize w15.alloc (.cells #[.int .i64 0, .int .i64 0, .int .i64 0, .int .i64 0, .int .i64 0, .slice none 0 0, .slice none 0 0] 27) = w16 at *
            have hi1 := is_calls (hS.below b16) hall (senV A 1) (.bare 1) ⟨by decide, rfl⟩ 102
            rw [decide_eq_true (show (Er.bare 1).code = 102 ∧ (Er.bare 1).has = false ∧ (Er.bare 1).pos = 0 from ⟨rfl, rfl, rfl⟩)] at hi1
            go_wp2_with fail
            with_reducible refine hi1.mono ?_
            rintro e w17 ⟨rfl, b17⟩
            have B17 := nxt b16 b17
            have hi3 := is_calls (hS.below B17) hall (senV A 3) (.bare 3) ⟨by decide, rfl⟩ 104
            rw [decide_eq_true (show (Er.bare 3).code = 104 ∧ (Er.bare 3).has = false ∧ (Er.bare 3).pos = 0 from ⟨rfl, rfl, rfl⟩)] at hi3
            go_wp2_with fail
            with_reducible refine hi3.mono ?_
            rintro e w18 ⟨rfl, b18⟩
            have B18 := nxt B17 b18
            have hi0 := is_calls (hS.below B18) hall (senV A 0) (.bare 0) ⟨by decide, rfl⟩ 101
            rw [decide_eq_true (show (Er.bare 0).code = 101 ∧ (Er.bare 0).has = false ∧ (Er.bare 0).pos = 0 from ⟨rfl, rfl, rfl⟩)] at hi0
            go_wp2_with fail
            with_reducible refine hi0.mono ?_
            rintro e w19 ⟨rfl, b19⟩
            go_wp2_with fail
            go_ret
            exact ⟨rfl, nxt B18 b19⟩
end Go.Proofs.YtldopocmmeidkaaDoor
