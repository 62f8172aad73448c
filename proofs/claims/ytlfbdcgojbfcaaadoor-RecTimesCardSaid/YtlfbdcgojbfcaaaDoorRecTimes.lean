/- RecTimes returns true at every input. -/
import Derived.Test.YtlfbdcgojbfcaaaDoorRecTime
import Derived.Test.YtlfbdcgojbfcaaaDoorLong
import Derived.Deep.DeepCutAuto
namespace Go.Proofs.YtlfbdcgojbfcaaaDoor
open Go Go.RowKit Rec Vint

def tvs (l : List Int) : List Value := l.map (fun (n : Int) => Value.int .i64 n)
theorem tvs_at (l : List Int) (k : Nat) (h : k < l.length) : (tvs l)[k]? = some (.int .i64 l[k]) := by simp [tvs, h]
def tR (z : Int) : RecR := ⟨⟨z % 2000 - 1000, [], []⟩, .slice none 0 0, .slice none 0 0⟩

theorem timeB_snoc (ba ep : Int) (l : List RecD) (r : RecD) : timeB ⟨ba, ep, l ++ [r]⟩ = if l.length = 0 ∨ timeB ⟨ba, ep, l⟩ < r.time then r.time else timeB ⟨ba, ep, l⟩ := by
  cases l with
  | nil =>
    simp only [List.length_nil, true_or, if_true]
    show max r.time r.time = r.time
    omega
  | cons x l =>
    have h1 : timeB ⟨ba, ep, (x :: l) ++ [r]⟩ = max (tmax x.time (x :: l)) r.time := by
      show tmax x.time ((x :: l) ++ [r]) = _
      unfold tmax
      rw [List.foldl_append]
      rfl
    have h2 : timeB ⟨ba, ep, x :: l⟩ = tmax x.time (x :: l) := rfl
    rw [h1, h2]
    generalize tmax x.time (x :: l) = X
    by_cases h : X < r.time
    · rw [if_pos (Or.inr h)]; omega
    · rw [if_neg (by rintro (h3 | h3); (· simp at h3); exact h h3)]; omega

set_option maxRecDepth 100000 in
set_option maxHeartbeats 4000000 in
theorem recTimes_walk (S : List Nat) (A : Nat → Addr) (zs : List Int) (vt : Value) (base : Int) (w : World) (hS : Sents S w A) (hE0 : 0 ∈ S) (hE1 : 1 ∈ S) (hE2 : 2 ∈ S) (hE3 : 3 ∈ S) (hE4 : 4 ∈ S) (ht : Rd w 1 vt zs.length (tvs zs)) :
    Calls Tryd.prog 9 #[vt, .int .i64 base] w (fun e w' => e = .returned (.bool true) ∧ Below w.heap.size w w') := by
  obtain ⟨i0, hi, hz0, hz1, hz2⟩ := info_parts info_rec
  obtain ⟨a1, c1, rfl⟩ := ht.slice
  have m1 := ht.len_le
  have hfst := recFirst_calls S A hS hE3 hE4
  by_cases t1 : 64 < zs.length ∨ zs.length = 0
  · go_enter Tryd.func9, Tryd.ntmps9
    go_wp2_with fail
    refine hfst.mono ?_
    rintro e w1 ⟨rfl, b1⟩
    rcases t1 with t1 | t1
    all_goals
      go_wp2_with fail
      all_goals (
        go_ret
        exact ⟨rfl, b1⟩)
  have t2 : zs.length ≤ 64 := by omega
  have t3 : 0 < zs.length := by omega
  have t2' : decide ((64 : Int) < (zs.length : Int)) = false := decide_eq_false (by omega)
  have t3' : ((zs.length : Int) == 0) = false := by rw [beq_eq_false_iff_ne]; omega
  obtain ⟨B, hB, hB0, hB1⟩ : ∃ B, B = base % 549755813888 ∧ 0 ≤ B ∧ B < 549755813888 := ⟨_, rfl, by omega, by omega⟩
  have HB := Lib.hid hB
  clear hB t1
  go_enter Tryd.func9, Tryd.ntmps9
  go_wp2_with fail
  refine hfst.mono ?_
  rintro e w1 ⟨rfl, b1⟩
  clear hfst
  go_wp2_with fail
  refine (long_calls base 549755813888 _ (by omega) (by omega)).mono ?_
  rintro e w2 ⟨rfl, rfl⟩
  rw [← HB.out]
  have row2 := heap_alloc_new w1 (.cells #[.int .i64 B, .int .i64 0, .slice none 0 0] 34)
  have b2 := below_alloc w1 (.cells #[.int .i64 B, .int .i64 0, .slice none 0 0] 34)
  have B2 := nxt b1 b2
  have hg1 := b1.size
  go_upto_region 8 with fail
  generalize w1.alloc (.cells #[.int .i64 B, .int .i64 0, .slice none 0 0] 34) = w3 at *
  generalize w1.heap.size = g at *
  clear b2 b1
  go_wp2_with fail
  go_loopw [7, 8, 9] (fun bv iv _ wr => ∃ (i : Nat) (lv : Value), iv = .int .i64 i ∧ i ≤ zs.length ∧ bv = .int .i64 (timeB ⟨B, 0, (zs.take i).map (fun z => (tR z).d)⟩) ∧ wr.heap[g]? = some (.cells #[.int .i64 B, .int .i64 0, lv] 34 (0, 0)) ∧ wr.ownsRow (g + 1) 44 3 lv i ((zs.take i).flatMap fun z => recV (tR z)) ∧ Below w.heap.size w wr) (fun _ iv _ _ => zs.length - (intOf iv).toNat)
  case atStart => exact ⟨0, _, rfl, Nat.zero_le _, rfl, row2, World.ownsRow_nil _ _ _ _, B2⟩
  case round =>
    obtain ⟨i, lv, rfl, hi2, rfl, row, own, hb⟩ := hrel
    obtain ⟨al, cl, rfl⟩ := owns_slice own
    by_cases hlt : i < zs.length
    · obtain ⟨b, o, rfl, hc1, hm1, hx1⟩ := (ht.below hb).at (by omega)
      have f1 := hx1 i _ (tvs_at zs i hlt)
      have hsn := timeB_snoc B 0 ((zs.take i).map (fun z => (tR z).d)) (tR zs[i]).d
      have hfl : (zs.take (i + 1)).flatMap (fun z => recV (tR z)) = (zs.take i).flatMap (fun z => recV (tR z)) ++ recV (tR zs[i]) := by rw [List.take_succ_eq_append_getElem hlt, List.flatMap_append]; simp
      have hmp : (zs.take (i + 1)).map (fun z => (tR z).d) = (zs.take i).map (fun z => (tR z).d) ++ [(tR zs[i]).d] := by rw [List.take_succ_eq_append_getElem hlt, List.map_append]; rfl
      rw [List.length_map, List.length_take, Nat.min_eq_left (by omega)] at hsn
      have HFL := Lib.hid hfl
      have HMP := Lib.hid hmp
      obtain ⟨z, hz⟩ : ∃ z, z = zs[i] := ⟨_, rfl⟩
      rw [← hz] at f1 hsn HFL HMP
      obtain ⟨best, hbest⟩ : ∃ x, x = timeB ⟨B, 0, (zs.take i).map (fun z => (tR z).d)⟩ := ⟨_, rfl⟩
      rw [← hbest] at hsn ⊢
      rw [← HMP.out] at hsn
      obtain ⟨u, hu⟩ : ∃ u, u = z % 2000 := ⟨_, rfl⟩
      have hub : 0 ≤ u ∧ u < 2000 := by omega
      have hrz : recV (tR z) = [.int .i64 (u - 1000), .slice none 0 0, .slice none 0 0] := by rw [hu]; rfl
      have htz : (tR z).d.time = u - 1000 := by rw [hu]; rfl
      rw [htz] at hsn
      rw [hrz] at HFL
      have HSN := Lib.hid hsn
      have HU := Lib.hid hu
      have hw1 : IntKind.i64.wrap (u - 1000) = u - 1000 := by rw [IntKind.wrap_i64]; omega
      have hlo := long_calls z 2000
      have e2 : wr.cell? ⟨g, 2, none⟩ = some (.slice al i cl) := cell_of_row _ _ 2 _ _ _ row
      have hgl := (Array.getElem?_eq_some_iff.1 row).1
      obtain ⟨XS, hXS⟩ : ∃ XS, XS = (zs.take i).flatMap fun z => recV (tR z) := ⟨_, rfl⟩
      rw [← hXS] at own HFL
      clear hx1 hsn hfl hmp hz hbest hu hrz htz hXS
      obtain ⟨nb, hnb, hcase⟩ : ∃ nb, timeB ⟨B, 0, (zs.take (i + 1)).map fun z => (tR z).d⟩ = nb ∧ ((((i : Int) == 0) = true ∧ nb = u - 1000) ∨ ((((i : Int) == 0) = false ∧ decide (best < u - 1000) = true) ∧ nb = u - 1000) ∨ ((((i : Int) == 0) = false ∧ decide (best < u - 1000) = false) ∧ nb = best)) := by
        by_cases h0 : i = 0
        · exact ⟨_, HSN.out.trans (if_pos (.inl h0)), .inl ⟨by rw [beq_iff_eq]; omega, rfl⟩⟩
        · have h0' : ((i : Int) == 0) = false := by rw [beq_eq_false_iff_ne]; omega
          by_cases h1 : best < u - 1000
          · exact ⟨_, HSN.out.trans (if_pos (.inr h1)), .inr (.inl ⟨⟨h0', decide_eq_true h1⟩, rfl⟩)⟩
          · exact ⟨_, HSN.out.trans (if_neg (by rintro (h2 | h2); exact h0 h2; exact h1 h2)), .inr (.inr ⟨⟨h0', decide_eq_false h1⟩, rfl⟩)⟩
      have HNB := Lib.hid hnb
      clear hnb HSN
      rcases hcase with ⟨k1, rfl⟩ | ⟨⟨k1, k2⟩, rfl⟩ | ⟨⟨k1, k2⟩, rfl⟩
      all_goals
        go_wp2_with fail
        refine (hlo _ (by omega) (by omega)).mono ?_
        rintro e w4 ⟨rfl, rfl⟩
        rw [← HU.out]
        clear hlo
        go_wp2_with (at_builtin; refine wpList_append_own _ rfl _ _ 32 rfl (g + 1) 44 i0 _ 3 56 Tryd.underlying32 hi hz0 hz1 hz2 rfl (by decide) _ _ _ rfl (own.alloc _) ⟨wr.heap.size, 0, none⟩ 1 1 [.int .i64 (u - 1000), .slice none 0 0, .slice none 0 0] rfl rfl ?c1 ?c2 ?c3 ?c4 ?c5 ?_)
        case c1 => exact cells_new wr #[.int .i64 (u - 1000), .slice none 0 0, .slice none 0 0] 44
        case c2 => intro v hv; simp at hv; rcases hv with rfl | rfl <;> rfl
        case c3 => unfold maxLen; omega
        case c4 => omega
        case c5 => simp; omega
        intro v9 w9 o9 g9 _
        obtain ⟨a9, c9, rfl⟩ := owns_slice o9
        have hbA := heap_below (below_alloc wr (.cells #[.int .i64 (u - 1000), .slice none 0 0, .slice none 0 0] 44)) row
        have hge : ∀ k, (Value.slice al i cl).ownBlock = some k → g + 1 ≤ k := owns_ge own
        have row9 := (g9.block g (Array.getElem?_eq_some_iff.1 hbA).1 (fun e => by have := hge _ e.symm; omega)).trans hbA
        have B9 : Below w.heap.size w w9 := (bAlloc hb (.cells #[.int .i64 (u - 1000), .slice none 0 0, .slice none 0 0] 44)).grown g9 (by have := hb.size; simp; omega) (fun k hk => by have := hge k hk; omega)
        have e9 : w9.cell? ⟨g, 2, none⟩ = some (.slice al i cl) := cell_of_row _ _ 2 _ _ _ row9
        have z9 : w9.frozen? ⟨g, 2, none⟩ = false := frozen_of_row _ g 2 _ _ row9
        have TT := Touch.setCell (g := g) w9 2 (.slice a9 (i + 1) c9)
        have rowz : (w9.setCell ⟨g, 2, none⟩ (.slice a9 (i + 1) c9)).heap[g]? = some (.cells #[.int .i64 B, .int .i64 0, .slice a9 (i + 1) c9] 34 (0, 0)) := heap_setCell_same w9 g 2 _ _ _ row9
        have oz := TT.owns_from o9 (by omega)
        have bz := TT.new B9 hg1
        clear g9 hbA row9 TT own e2
        go_wp2_with fail
        refine ⟨⟨i + 1, _, by go_num, by omega, congrArg (Value.int .i64) HNB.out.symm, rowz, ?_, bz⟩, by simp [intOf]; omega⟩
        rw [HFL.out]
        exact oz
    · obtain rfl : i = zs.length := by omega
      rw [List.take_of_length_le (Nat.le_refl _)] at own ⊢
      obtain ⟨RS, hRS⟩ : ∃ RS : List RecR, RS = zs.map tR := ⟨_, rfl⟩
      have hlen : RS.length = zs.length := by rw [hRS, List.length_map]
      have hmapd : zs.map (fun z => (tR z).d) = RS.map (·.d) := by rw [hRS, List.map_map]; rfl
      have hflat : zs.flatMap (fun z => recV (tR z)) = RS.flatMap recV := by rw [hRS, List.flatMap_map]
      rw [hflat] at own
      rw [hmapd]
      obtain ⟨b, hb'⟩ : ∃ b : BatD, b = ⟨B, 0, RS.map (·.d)⟩ := ⟨_, rfl⟩
      have hv : valid b = 0 := by
        rw [valid_iff, hb']
        simp only [List.length_map, hlen]
        refine ⟨⟨by omega, by omega⟩, ⟨hB0, by omega, by omega, by omega⟩, ?_⟩
        rw [List.all_eq_true]
        intro x hx
        rw [hRS, List.map_map] at hx
        obtain ⟨z, _, rfl⟩ := List.mem_map.1 hx
        unfold recOk
        rw [decide_eq_true_eq]
        simp only [Function.comp, tR, List.length_nil]
        omega
      have hrd : RecsRd wr (.slice al zs.length cl) b.recs := ⟨RS, by rw [hb'], by rw [hlen]; exact Rd.of_owns own, by
        intro x hx
        rw [hRS] at hx
        obtain ⟨z, _, rfl⟩ := List.mem_map.1 hx
        exact ⟨Rd.nil _ _, Rd.nil _ _⟩⟩
      have hbn : b.recs.length = zs.length := by rw [hb']; simp [hlen]
      have hbl := body_len hv
      have hbyl := bytes_len b
      have hRB := readB_put hv []
      rw [List.append_nil] at hRB
      have hby := recBytes_calls S A (hS.below hb) hE3 hE4 hrd
      have D : ∀ W, Below wr.heap.size wr W → W.cell? ⟨g, 0, none⟩ = some (.int .i64 B) ∧ W.cell? ⟨g, 1, none⟩ = some (.int .i64 0) ∧ W.cell? ⟨g, 2, none⟩ = some (.slice al zs.length cl) := fun W hW => by
        have r := heap_below hW row
        exact ⟨cell_of_row _ _ 0 _ _ _ r, cell_of_row _ _ 1 _ _ _ r, cell_of_row _ _ 2 _ _ _ r⟩
      have hbat : batA b (.slice al zs.length cl) = .agg #[.int .i64 B, .int .i64 0, .slice al zs.length cl] := by rw [hb']; rfl
      have hbb : b.base = B := by rw [hb']
      have htm : timeB ⟨B, 0, RS.map (·.d)⟩ = timeB b := by rw [hb']
      rw [htm]
      unfold BytesB at hby
      rw [hv, hbat] at hby
      have htime := fun W (hW : Below wr.heap.size wr W) => recTime_calls (hrd.below hW)
      have hnext := fun W (hW : Below wr.heap.size wr W) => recNext_calls (hrd.below hW) (by omega) (by omega)
      rw [hbat] at htime
      rw [hbat, hbb, hbn] at hnext
      obtain ⟨BY, hBY⟩ : ∃ BY, BY = bytesL b := ⟨_, rfl⟩
      rw [← hBY] at hby hRB hbyl
      have HRBX := Lib.hid hRB
      have HV := Lib.hid hv
      obtain ⟨d0, d1, d2⟩ := D wr (Below.refl _ _)
      have HBYL : Hid (BY.length ≤ 50000) := Lib.hid (by omega)
      clear hRS hmapd hflat hRB hbat htm hBY hv hb' hbb own row hlen hbn hbyl hbl hrd
      go_wp2_with fail
      refine hby.mono ?_
      rintro e w4 ⟨(⟨_, v4, rfl, o4⟩ | ⟨h, _⟩), b4⟩
      rotate_left
      · exact absurd rfl h
      have B4 := nxt hb b4
      obtain ⟨a4, c4, rfl⟩ := owns_slice o4
      have hrr := recReadB_calls S A (hS.below B4) hE0 hE1 hE2 hE3 hE4 (Rd.of_owns o4) (by have := HBYL.out; omega)
      unfold ReadBPost at hrr
      rw [HRBX.out] at hrr
      rw [if_pos rfl] at hrr
      unfold batA at hrr
      simp only at hrr
      clear hby d0 d1 d2
      go_wp2_with fail
      refine hrr.mono ?_
      rintro e w5 ⟨v5, rfl, ro5, b5⟩
      have B5 := nxt B4 b5
      obtain ⟨a5, c5, rfl⟩ := ro5.rd.slice
      have b6 := below_alloc w5 (.cells #[.int .i64 b.base, .int .i64 b.epoch, .slice a5 b.recs.length c5] 34)
      have row6 := heap_alloc_new w5 (.cells #[.int .i64 b.base, .int .i64 b.epoch, .slice a5 b.recs.length c5] 34)
      have W6 := nxt b4 (nxt b5 b6)
      have B6 := nxt B5 b6
      have ht2 := fun W (hW : Below w5.heap.size w5 W) => recTime_calls (b := b) (ro5.rd.below hW)
      have htb : Hid (∃ q, q = timeB b) := Lib.hid ⟨_, rfl⟩
      unfold batA at ht2
      clear hrr
      go_upto_region 18 with fail
      generalize w5.alloc (.cells #[.int .i64 b.base, .int .i64 b.epoch, .slice a5 b.recs.length c5] 34) = w6 at *
      generalize w5.heap.size = g6 at *
      obtain ⟨d0, d1, d2⟩ := D w6 W6
      go_wp2_with fail
      refine (htime _ W6).mono ?_
      rintro e w7 ⟨rfl, b7⟩
      have W7 := nxt W6 b7
      have B7 := nxt B6 b7
      have row7 := heap_below b7 row6
      have k0 : w7.cell? ⟨g6, 0, none⟩ = some (.int .i64 b.base) := cell_of_row _ _ 0 _ _ _ row7
      have k1 : w7.cell? ⟨g6, 1, none⟩ = some (.int .i64 b.epoch) := cell_of_row _ _ 1 _ _ _ row7
      have k2 : w7.cell? ⟨g6, 2, none⟩ = some (.slice a5 b.recs.length c5) := cell_of_row _ _ 2 _ _ _ row7
      have ht3 := ht2 w7 (b6.trans (b7.mono (Nat.le_of_lt (Array.getElem?_eq_some_iff.1 row6).1)))
      have htt : (timeB b == timeB b) = true := by simp
      clear d0 d1 d2 ht2 htime htb
      go_wp2_with fail
      refine ht3.mono ?_
      rintro e w8 ⟨rfl, b8⟩
      have W8 := nxt W7 b8
      have B8 := nxt B7 b8
      obtain ⟨d0, d1, d2⟩ := D w8 W8
      clear k0 k1 k2 ht3
      go_wp2_with fail
      refine (hnext _ W8).mono ?_
      rintro e w9 ⟨rfl, b9⟩
      have B9 := nxt B8 b9
      have hwn : IntKind.i64.wrap (B + (zs.length : Int)) = B + (zs.length : Int) := by rw [IntKind.wrap_i64]; omega
      have hnn : ((B + (zs.length : Int)) == (B + (zs.length : Int))) = true := by simp
      have hte := recTime_calls (b := Rec.b0) (RecsRd.nil w9)
      rw [show timeB Rec.b0 = 0 from rfl] at hte
      unfold batA at hte
      clear d0 d1 d2 hnext
      go_wp2_with fail
      refine hte.mono ?_
      rintro e w10 ⟨rfl, b10⟩
      go_wp2_with fail
      go_ret
      exact ⟨rfl, nxt B9 b10⟩
end Go.Proofs.YtlfbdcgojbfcaaaDoor
