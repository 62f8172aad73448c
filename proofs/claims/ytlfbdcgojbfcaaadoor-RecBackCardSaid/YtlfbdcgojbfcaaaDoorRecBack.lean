/- RecBack returns true at every input. -/
import Derived.Test.YtlfbdcgojbfcaaaDoorWorldBatch
import Derived.Test.YtlfbdcgojbfcaaaDoorRecReadB
import Derived.Test.YtlfbdcgojbfcaaaDoorRefSameBat
import Derived.Test.YtlfbdcgojbfcaaaDoorRecTime
import Derived.Test.YtlfbdcgojbfcaaaDoorRefBytes
import Derived.Test.YtlfbdcgojbfcaaaDoorRecBackMath
import Derived.Test.YtlfbdcgojbfcaaaDoorNumber
import Derived.Test.YtlfbdcgojbfcaaaDoorAppend
import Derived.Test.YtlfbdcgojbfcaaaDoorSee
namespace Go.Proofs.YtlfbdcgojbfcaaaDoor
open Go Go.RowKit Rec Vint

set_option maxRecDepth 100000 in
set_option maxHeartbeats 4000000 in
theorem recBack_walk (S : List Nat) (A : Nat → Addr) (b : BatD) (v : Value) (bh : List UInt8) (vb : Value) (cut at' : Int) (by' : UInt8) (w : World) (hS : Sents S w A) (hall : All S) (hE0 : 0 ∈ S) (hE1 : 1 ∈ S) (hE2 : 2 ∈ S) (hE3 : 3 ∈ S) (hE4 : 4 ∈ S)
    (h : RecsRd w v b.recs) (hbh : Rd w 1 vb bh.length (bvs bh)) :
    Calls Tryd.prog 7 #[batA b v, vb, .int .i64 cut, .int .i64 at', .int .u8 (by'.toNat : Int)] w (fun e w' => e = .returned (.bool true) ∧ Below w.heap.size w w') := by
  obtain ⟨i0, hi, hz0, hz1, hz2⟩ := info_parts info_u8
  have hfst := fun W (hW : Below w.heap.size w W) => recFirst_calls S A (hS.below hW) hE3 hE4
  have hwb := fun W (hW : Below w.heap.size w W) => worldBatch_calls (h.below hW)
  have hby := fun W (hW : Below w.heap.size w W) => recBytes_calls S A (hS.below hW) hE3 hE4 (h.below hW)
  have hva := fun W (hW : Below w.heap.size w W) => recValid_calls S A (hS.below hW) hE3 hE4 (h.below hW)
  have HREC := Lib.hid h
  obtain ⟨a, c, rfl⟩ := h.slice
  obtain ⟨a1, c1, rfl⟩ := hbh.slice
  have m1 := hbh.len_le
  unfold BytesB at hby
  unfold ValidB at hva
  unfold batA at hwb hby hva ⊢
  have b1 := below_alloc w (.cells #[.int .i64 b.base, .int .i64 b.epoch, .slice a b.recs.length c] 34)
  have row1 := heap_alloc_new w (.cells #[.int .i64 b.base, .int .i64 b.epoch, .slice a b.recs.length c] 34)
  go_enter Tryd.func7, Tryd.ntmps7
  go_upto_region 1 with fail
  obtain ⟨w1, hw1⟩ : ∃ w1, w1 = w.alloc (.cells #[.int .i64 b.base, .int .i64 b.epoch, .slice a b.recs.length c] 34) := ⟨_, rfl⟩
  obtain ⟨g, hg⟩ : ∃ g, g = w.heap.size := ⟨_, rfl⟩
  rw [← hw1] at b1 row1 ⊢
  rw [← hg] at row1 ⊢
  clear hw1 hg
  have D : ∀ W, Below w1.heap.size w1 W → W.cell? ⟨g, 0, none⟩ = some (.int .i64 b.base) ∧ W.cell? ⟨g, 1, none⟩ = some (.int .i64 b.epoch) ∧ W.cell? ⟨g, 2, none⟩ = some (.slice a b.recs.length c) := fun W hW => by
    have r := heap_below hW row1
    exact ⟨cell_of_row _ _ 0 _ _ _ r, cell_of_row _ _ 1 _ _ _ r, cell_of_row _ _ 2 _ _ _ r⟩
  go_wp2_with fail
  with_reducible refine (hfst _ b1).mono ?_
  rintro e w2 ⟨rfl, b2⟩
  obtain ⟨d0, d1, d2⟩ := D w2 b2
  clear hfst
  go_wp2_with fail
  with_reducible refine (hwb _ (nxt b1 b2)).mono ?_
  rintro e w3 ⟨t, rfl, b3⟩
  have b13 := nxt b2 b3
  clear hwb d0 d1 d2
  cases t with
  | false =>
    go_wp2_with fail
    go_ret
    exact ⟨rfl, nxt b1 b13⟩
  | true =>
    by_cases t1 : 100 < bh.length
    · go_wp2_with fail
      go_ret
      exact ⟨rfl, nxt b1 b13⟩
    have t2 : bh.length ≤ 100 := by omega
    have t2' : decide ((100 : Int) < (bh.length : Int)) = false := decide_eq_false (by omega)
    obtain ⟨d0, d1, d2⟩ := D w3 b13
    clear t1
    by_cases hv : valid b = 0
    rotate_left
    · have HV := Lib.hid hv
      clear hv
      go_wp2_with fail
      with_reducible refine (hby _ (nxt b1 b13)).mono ?_
      rintro e w4 ⟨(⟨hv, _⟩ | ⟨_, rfl⟩), b4⟩
      · exact absurd hv HV.out
      have b14 := nxt b13 b4
      obtain ⟨d0, d1, d2⟩ := D w4 b14
      unfold senV
      clear hby
      go_wp2_with fail
      with_reducible refine (hva _ (nxt b1 b14)).mono ?_
      rintro e w5 ⟨(⟨hv, _⟩ | ⟨_, rfl⟩), b5⟩
      · exact absurd hv HV.out
      unfold senV
      go_wp2_with fail
      go_ret
      exact ⟨rfl, nxt b1 (nxt b14 b5)⟩
    have hbl := body_len hv
    have hbyl := bytes_len b
    have hput := readB_put hv bh
    have hcut := readB_cut hv
    have hturn := fun (hd : by' ≠ 0) j h4 hj y hy => readB_turned hv hd [] j h4 hj y hy
    simp only [List.append_nil] at hturn
    obtain ⟨BY, hBY⟩ : ∃ BY, BY = bytesL b := ⟨_, rfl⟩
    rw [← hBY] at hby hbyl hput hcut hturn
    have hB1 : 22 < BY.length ∧ BY.length ≤ 50000 := by omega
    have HV := Lib.hid hv
    have HPUT := Lib.hid hput
    have HCUT := Lib.hid hcut
    have HTURN := Lib.hid hturn
    clear hv hbl hbyl hput hcut hturn hBY hva
    go_wp2_with fail
    with_reducible refine (hby _ (nxt b1 b13)).mono ?_
    rintro e w4 ⟨(⟨_, v4, rfl, o4⟩ | ⟨hv, _⟩), b4⟩
    rotate_left
    · exact absurd HV.out hv
    have b14 := nxt b13 b4
    have rx := Rd.of_owns o4
    obtain ⟨a4, c4, rfl⟩ := owns_slice o4
    have hcp := refBytes_calls _ BY w4 rx (by omega)
    unfold NewRow at hcp
    clear hby d0 d1 d2 o4
    go_wp2_with fail
    with_reducible refine hcp.mono ?_
    rintro e w5 ⟨v5, rfl, o5, b5⟩
    obtain ⟨a5, c5, rfl⟩ := owns_slice o5
    have b15 := nxt b14 b5
    have rbh := hbh.below (nxt b1 b15)
    have hs5 := b5.size
    clear hcp
    go_wp2_with (at_builtin; (refine wpList_append_rdg rfl _ _ 42 rfl w4.heap.size 5 i0 (.int .u8 0) 1 1 Tryd.underlying42 hi hz0 hz1 hz2 rfl (by decide) _ _ _ rfl o5 _ _ (bvs bh) rfl rbh (bvs_one _) ?c3 ?c4 ?c5 ?_))
    case c3 => unfold maxLen; omega
    case c4 => omega
    case c5 => exact hs5
    intro v6 w6 o6 g6 Tr
    have b46 := Tr w4 b5 (Nat.le_refl _)
    have b16 := nxt b14 b46
    rw [← bvs_append, ← List.length_append] at o6
    obtain ⟨Z, hZ⟩ : ∃ Z, Z = BY ++ bh := ⟨_, rfl⟩
    rw [← hZ] at o6
    have hZl : Z.length ≤ 60000 := by rw [hZ, List.length_append]; omega
    have hrr := recReadB_calls S A (hS.below (nxt b1 b16)) hE0 hE1 hE2 hE3 hE4 (Rd.of_owns o6) (by omega)
    unfold ReadBPost at hrr
    rw [hZ, HPUT.out] at hrr
    rw [if_pos rfl] at hrr
    unfold batA at hrr
    simp only at hrr
    have hlz : (BY ++ bh).length = Z.length := by rw [hZ]
    have HZ := Lib.hid hZ
    obtain ⟨a6, c6, rfl⟩ := owns_slice o6
    clear Tr g6 o5 hZ
    go_wp2_with fail
    with_reducible refine hrr.mono ?_
    rintro e w7 ⟨v7, rfl, o7, b7⟩
    have b17 := nxt b16 b7
    have r7 := o7.rd
    obtain ⟨a7, c7, rfl⟩ := r7.slice
    have b8 := below_alloc w7 (.cells #[.int .i64 b.base, .int .i64 b.epoch, .slice a7 b.recs.length c7] 34)
    have row8 := heap_alloc_new w7 (.cells #[.int .i64 b.base, .int .i64 b.epoch, .slice a7 b.recs.length c7] 34)
    have b18 := nxt b17 b8
    have b48 := nxt b46 (nxt b7 b8)
    have r8 := r7.below b8
    clear hrr o7 r7 o6 b8
    go_upto_region 10 with fail
    obtain ⟨w8, hw8⟩ : ∃ w8, w8 = w7.alloc (.cells #[.int .i64 b.base, .int .i64 b.epoch, .slice a7 b.recs.length c7] 34) := ⟨_, rfl⟩
    obtain ⟨g8, hg8⟩ : ∃ g8, g8 = w7.heap.size := ⟨_, rfl⟩
    rw [← hw8] at row8 b18 b48 r8 ⊢
    rw [← hg8] at row8 ⊢
    clear hw8 hg8 b7
    have hx0 := Int.emod_nonneg cut (show (BY.length : Int) ≠ 0 by omega)
    have hx1 := Int.emod_lt_of_pos cut (show 0 < (BY.length : Int) by omega)
    obtain ⟨k, hk, hkl⟩ : ∃ k : Nat, cut % (BY.length : Int) = (k : Int) ∧ k < BY.length := ⟨(cut % (BY.length : Int)).toNat, by omega, by omega⟩
    have hnum := number_calls cut (BY.length : Int) w8 (by omega) (by omega)
    rw [hk] at hnum
    have rx8 := rx.below b48
    obtain ⟨a9, c9, s9, r9⟩ := part_all a4 BY.length c4 1 0 k (Nat.zero_le _) (by omega)
    rw [Nat.sub_zero] at s9
    have u9 : ∀ W, (Instr.sliceAt 42 (.slice a4 BY.length c4) none (some (.int .i64 (k : Int))) none).run Tryd.prog W = .ok (.slice a9 k c9) W := fun W => by
      have := run_cut_h 42 sl_u8 1 sz_u8 a4 BY.length c4 k .i64 (by have := rx.cap; omega) W
      rw [s9] at this
      exact this
    have q9 := r9 w8 _ rx8
    rw [Nat.sub_zero, Nat.zero_mul, Nat.mul_one, List.drop_zero, ← bvs_take] at q9
    have hkt : (BY.take k).length = k := by rw [List.length_take]; omega
    have hrk := recReadB_calls S A (hS.below (nxt b1 b18)) hE0 hE1 hE2 hE3 hE4 (bs := BY.take k) (v := .slice a9 k c9) (by rw [hkt]; exact q9) (by omega)
    unfold ReadBPost at hrk
    rw [HCUT.out k hkl] at hrk
    rw [if_neg (by decide)] at hrk
    unfold batA senV at hrk
    simp only [show Rec.b0.base = 0 from rfl, show Rec.b0.epoch = 0 from rfl, show Rec.b0.recs = [] from rfl] at hrk
    have HK := Lib.hid hk
    clear hx0 hx1 hk s9 r9 q9 hkt
    go_wp2_with fail
    with_reducible refine hnum.mono ?_
    rintro e w9 ⟨rfl, rfl⟩
    clear hnum
    go_wp2_with fail
    with_reducible refine hrk.mono ?_
    rintro e w9 ⟨v9, rfl, o9, b9⟩
    have b19 := nxt b18 b9
    have r9 := o9.rd
    obtain ⟨a9', c9', e9'⟩ := r9.slice
    rw [show ([] : List RecD).length = 0 from rfl] at e9'
    subst e9'
    have b10 := below_alloc w9 (.cells #[.int .i64 0, .int .i64 0, .slice a9' 0 c9'] 34)
    have b110 := nxt b19 b10
    have b810 := nxt b9 b10
    have hI := fun (i : Nat) (hi' : i < 19) (cd : Int) (hd : decide ((Er.bare i).code = cd ∧ (Er.bare i).has = false ∧ (Er.bare i).pos = 0) = true) W (hW : Below w1.heap.size w1 W) => by
      have := is_calls (hS.below (nxt b1 hW)) hall _ (.bare i) ⟨hi', rfl⟩ cd
      rw [hd] at this
      exact this
    have hI0 := hI 0 (by omega) 101 (by decide)
    have hI1 := hI 1 (by omega) 102 (by decide)
    unfold senV at hI0 hI1
    clear hrk o9 r9 b10 b9 b19 hI
    go_upto_region 11 with fail
    obtain ⟨w10, hw10⟩ : ∃ w10, w10 = w9.alloc (.cells #[.int .i64 0, .int .i64 0, .slice a9' 0 c9'] 34) := ⟨_, rfl⟩
    rw [← hw10] at b110 b810 ⊢
    clear hw10
    obtain ⟨d0, d1, d2⟩ := D w10 b110
    have row10 := heap_below b810 row8
    have k0 : w10.cell? ⟨g8, 0, none⟩ = some (.int .i64 b.base) := cell_of_row _ _ 0 _ _ _ row10
    have k1 : w10.cell? ⟨g8, 1, none⟩ = some (.int .i64 b.epoch) := cell_of_row _ _ 1 _ _ _ row10
    have k2 : w10.cell? ⟨g8, 2, none⟩ = some (.slice a7 b.recs.length c7) := cell_of_row _ _ 2 _ _ _ row10
    have hsb := sameBatch_calls _ _ b w10 (r8.below b810) (HREC.out.below (nxt b1 b110))
    have hne : ((BY.length : Int) != (BY.length : Int)) = false := by simp
    unfold batA at hsb
    have rx10 := rx8.below b810
    clear row8 r8
    go_wp2_with fail
    with_reducible refine hsb.mono ?_
    rintro e w11 ⟨rfl, b11⟩
    have b111 := nxt b110 b11
    clear hsb k0 k1 k2 d0 d1 d2
    go_wp2_with fail
    with_reducible refine (hI0 _ b111).mono ?_
    rintro e w12 ⟨rfl, b12⟩
    have b112 := nxt b111 b12
    clear hI0
    by_cases hd : by' = 0
    · have hd' : by'.toNat = 0 := by rw [hd]; rfl
      have hd2 : ((by'.toNat : Int) == 0) = true := by rw [hd']; rfl
      clear hd hd' HTURN
      generalize by'.toNat = q at *
      go_wp2_with fail
      go_ret
      exact ⟨rfl, nxt b1 b112⟩
    have hd1 : ¬ by'.toNat = 0 := fun e => hd (UInt8.toNat.inj (by rw [e]; rfl))
    have hd2 : ((by'.toNat : Int) == 0) = false := by rw [beq_eq_false_iff_ne]; omega
    have rx12 := (rx10.below b11).below b12
    have hcp2 := refBytes_calls _ BY w12 rx12 (by omega)
    unfold NewRow at hcp2
    clear hd1
    go_wp2_with fail
    with_reducible refine hcp2.mono ?_
    rintro e w13 ⟨v13, rfl, o13, b13'⟩
    obtain ⟨a13, c13, rfl⟩ := owns_slice o13
    obtain ⟨gz, rfl, hgz⟩ := owns_at o13 (by omega)
    have b113 := nxt b112 b13'
    have hy0 := Int.emod_nonneg at' (show (BY.length : Int) - 4 ≠ 0 by omega)
    have hy1 := Int.emod_lt_of_pos at' (show 0 < (BY.length : Int) - 4 by omega)
    obtain ⟨j, hj, hjl⟩ : ∃ j : Nat, at' % ((BY.length : Int) - 4) = (j : Int) ∧ j + 4 < BY.length := ⟨(at' % ((BY.length : Int) - 4)).toNat, by omega, by omega⟩
    have hwl : IntKind.i64.wrap ((BY.length : Int) - 4) = (BY.length : Int) - 4 := by rw [IntKind.wrap_i64]; omega
    have hnum2 := number_calls at' ((BY.length : Int) - 4) w13 (by omega) (by omega)
    rw [hj] at hnum2
    obtain ⟨x, hxj⟩ : ∃ x, x = 4 + j := ⟨_, rfl⟩
    have hwj : IntKind.i64.wrap (4 + (j : Int)) = (x : Int) := by rw [IntKind.wrap_i64]; omega
    have hxl : x < BY.length := by omega
    have f1 := World.ownsRow.cellAt o13 x (by omega)
    rw [bvs_at BY x hxl] at f1
    have hfr := World.ownsRow.frozenAt o13 x
    have x1 := u8x BY[x] by'
    have hst := (World.ownsRow.stored o13 x (.int .u8 (((BY[x] ^^^ by').toNat : Nat) : Int))).1
    rw [bvs_set] at hst
    have TT := Touch.setCell (g := gz) w13 x (.int .u8 (((BY[x] ^^^ by').toNat : Nat) : Int))
    have B14 := TT.below b13' hgz b13'.size
    have hrt := HTURN.out hd x (by omega) hxl BY[x] (List.getElem?_eq_getElem hxl)
    obtain ⟨z, hz⟩ : ∃ z, z = BY[x] ^^^ by' := ⟨_, rfl⟩
    rw [← hz] at x1 hst B14 hrt
    obtain ⟨y, hy⟩ : ∃ y, y = BY[x] := ⟨_, rfl⟩
    rw [← hy] at f1 x1
    obtain ⟨ZZ, hZZ⟩ : ∃ ZZ, ZZ = BY.set x z := ⟨_, rfl⟩
    have hZZl : ZZ.length = BY.length := by rw [hZZ, List.length_set]
    rw [← hZZ] at hst hrt
    obtain ⟨W6, hW6⟩ : ∃ W6, W6 = w13.setCell ⟨gz, x, none⟩ (.int .u8 ((z.toNat : Nat) : Int)) := ⟨_, rfl⟩
    rw [← hW6] at hst B14
    have rz : Rd W6 1 (.slice (some ⟨gz, 0, none⟩) BY.length c13) ZZ.length (bvs ZZ) := by rw [hZZl]; exact Rd.of_owns hst
    have b114 := nxt b112 B14
    have hr3 := recReadB_calls S A (hS.below (nxt b1 b114)) hE0 hE1 hE2 hE3 hE4 rz (by omega)
    unfold ReadBPost at hr3
    rw [hrt] at hr3
    rw [if_neg (by decide)] at hr3
    unfold batA senV at hr3
    simp only [show Rec.b0.base = 0 from rfl, show Rec.b0.epoch = 0 from rfl, show Rec.b0.recs = [] from rfl] at hr3
    have HW6 := Lib.hid hW6
    clear hcp2 hy0 hy1 hj hxj hz hy hZZ hrt hW6 TT hst hd o13 HTURN
    go_wp2_with fail
    with_reducible refine hnum2.mono ?_
    rintro e w14 ⟨rfl, rfl⟩
    clear hnum2
    go_wp2_with fail
    rw [← HW6.out]
    clear f1 hfr
    with_reducible refine hr3.mono ?_
    rintro e w15 ⟨v15, rfl, o15, b15'⟩
    have r15 := o15.rd
    obtain ⟨a15, c15, e15⟩ := r15.slice
    rw [show ([] : List RecD).length = 0 from rfl] at e15
    subst e15
    have b16' := below_alloc w15 (.cells #[.int .i64 0, .int .i64 0, .slice a15 0 c15] 34)
    have b116 := nxt b114 (nxt b15' b16')
    clear hr3 o15 r15
    go_wp2_with fail
    with_reducible refine (hI1 _ b116).mono ?_
    rintro e w17 ⟨rfl, b17'⟩
    go_wp2_with fail
    go_ret
    exact ⟨rfl, nxt b1 (nxt b116 b17')⟩
end Go.Proofs.YtlfbdcgojbfcaaaDoor
