/- The document's Record, Records, Batch, Batches: copies in new memory. -/
import Derived.Test.YtlfbdcgojbfcaaaDoorRefBytes
import Derived.Test.YtlfbdcgojbfcaaaDoorRecAll
import Derived.Test.YtlfbdcgojbfcaaaDoorRecClone
namespace Go.Proofs.YtlfbdcgojbfcaaaDoor
open Go Go.RowKit Rec

set_option maxRecDepth 100000 in
set_option maxHeartbeats 1000000 in
theorem refRecord_calls (x : RecR) (w : World) (hx : x.lies w) (m1 : x.d.key.length ≤ 1000000 ∧ x.d.val.length ≤ 1000000) :
    Calls Tryd.prog 85 #[.agg (recV x).toArray] w (fun e w' => ∃ y : RecR, y.d = x.d ∧ e = .returned (.agg (recV y).toArray) ∧ RecO w' w.heap.size y ∧ Below w.heap.size w w') := by
  obtain ⟨d, vk, vv⟩ := x
  obtain ⟨hk, hv⟩ := hx
  simp only at hk hv m1
  obtain ⟨a1, c1, rfl⟩ := hk.slice
  obtain ⟨a2, c2, rfl⟩ := hv.slice
  have hK := fun W (b : Below w.heap.size w W) => refBytes_calls _ _ W (hk.below b) (by omega)
  have hV := fun W (b : Below w.heap.size w W) => refBytes_calls _ _ W (hv.below b) (by omega)
  unfold NewRow at hK hV
  unfold recV
  simp only
  have b1 := below_alloc w (.cells #[.int .i64 d.time, .slice a1 d.key.length c1, .slice a2 d.val.length c2] 44)
  have row1 := heap_alloc_new w (.cells #[.int .i64 d.time, .slice a1 d.key.length c1, .slice a2 d.val.length c2] 44)
  have s1 := alloc_size w (.cells #[.int .i64 d.time, .slice a1 d.key.length c1, .slice a2 d.val.length c2] 44)
  clear hk hv
  go_enter Tryd.func85, Tryd.ntmps85
  go_upto_region 1 with fail
  generalize w.alloc (.cells #[.int .i64 d.time, .slice a1 d.key.length c1, .slice a2 d.val.length c2] 44) = w1 at *
  have b2 := below_alloc w1 (.cells #[.int .i64 0, .slice none 0 0, .slice none 0 0] 44)
  have row2 := heap_alloc_new w1 (.cells #[.int .i64 0, .slice none 0 0, .slice none 0 0] 44)
  rw [s1] at row2
  have row1' := heap_below b2 row1
  have B2 := nxt b1 b2
  generalize w1.alloc (.cells #[.int .i64 0, .slice none 0 0, .slice none 0 0] 44) = w2 at *
  obtain ⟨g, hg⟩ : ∃ g, g = w.heap.size := ⟨_, rfl⟩
  rw [← hg] at row1' row2 ⊢
  have hgw : w.heap.size ≤ g := by omega
  clear hg s1 b1 b2 row1
  have D : ∀ W, Below w2.heap.size w2 W → W.cell? ⟨g, 0, none⟩ = some (.int .i64 d.time) ∧ W.cell? ⟨g, 1, none⟩ = some (.slice a1 d.key.length c1) ∧ W.cell? ⟨g, 2, none⟩ = some (.slice a2 d.val.length c2) := fun W hW => by
    have r := heap_below hW row1'
    exact ⟨cell_of_row _ _ 0 _ _ _ r, cell_of_row _ _ 1 _ _ _ r, cell_of_row _ _ 2 _ _ _ r⟩
  have E : ∀ W, Below w2.heap.size w2 W → (W.cell? ⟨g + 1, 0, none⟩ = some (.int .i64 0) ∧ W.cell? ⟨g + 1, 1, none⟩ = some (.slice none 0 0) ∧ W.cell? ⟨g + 1, 2, none⟩ = some (.slice none 0 0)) ∧ W.frozen? ⟨g + 1, 0, none⟩ = false ∧ W.frozen? ⟨g + 1, 1, none⟩ = false ∧ W.frozen? ⟨g + 1, 2, none⟩ = false := fun W hW => by
    have r := heap_below hW row2
    exact ⟨⟨cell_of_row _ _ 0 _ _ _ r, cell_of_row _ _ 1 _ _ _ r, cell_of_row _ _ 2 _ _ _ r⟩, frozen_of_row _ _ 0 _ _ r, frozen_of_row _ _ 1 _ _ r, frozen_of_row _ _ 2 _ _ r⟩
  have bD : Below w2.heap.size w2 w2.drew := (Below.refl _ _).drew
  obtain ⟨d0, d1, d2⟩ := D w2 (Below.refl _ _)
  have hK1 := hK w2.drew (nxt B2 bD)
  clear hK
  have hg2 : g + 1 < w2.heap.size := (Array.getElem?_eq_some_iff.1 row2).1
  go_region_law (go_simp; go_at_call 30; first
    | ((with_reducible refine hK1.mono ?_); (rintro e wk ⟨vK, rfl, oK, bK⟩); (obtain ⟨a3, c3, rfl⟩ := owns_slice oK); have bK2 := nxt bD bK; (obtain ⟨p0, p1, p2⟩ := D wk bK2); have hV1 := hV wk (nxt B2 bK2); clear hK1)
    | ((with_reducible refine hV1.mono ?_); (rintro e wv ⟨vV, rfl, oV, bV⟩); (obtain ⟨a4, c4, rfl⟩ := owns_slice oV); have bV2 := nxt bK2 bV; (obtain ⟨q0, q1, q2⟩ := D wv bV2); (obtain ⟨⟨y0, y1, y2⟩, z0, z1, z2⟩ := E wv bV2); clear hV1))
  all_goals
    have T1 := Touch.setCell (g := g + 1) wv 0 (.int .i64 d.time)
    have T3 := (T1.set 1 (.slice a3 d.key.length c3)).set 2 (.slice a4 d.val.length c4)
    have rowV := heap_below bV2 row2
    have rowz : (((wv.setCell ⟨g + 1, 0, none⟩ (.int .i64 d.time)).setCell ⟨g + 1, 1, none⟩ (.slice a3 d.key.length c3)).setCell ⟨g + 1, 2, none⟩ (.slice a4 d.val.length c4)).heap[g + 1]? = some (.cells #[.int .i64 d.time, .slice a3 d.key.length c3, .slice a4 d.val.length c4] 44 (0, 0)) :=
      heap_setCell_same _ _ 2 _ _ _ (heap_setCell_same _ _ 1 _ _ _ (heap_setCell_same _ _ 0 _ _ _ rowV))
    have hsk : w2.heap.size ≤ wk.heap.size := bK2.size
    have oKz := T3.owns_from (owns_below oK bV) hg2
    have oVz := T3.owns_from oV (by omega)
    have bz := T3.new (nxt B2 bV2) (by omega)
    clear D E d0 d1 d2 p0 p1 p2 q0 q1 q2 y0 y1 y2 z0 z1 z2 T1 T3 rowV bK bV bK2 bV2 oK oV
    generalize ((wv.setCell ⟨g + 1, 0, none⟩ (.int .i64 d.time)).setCell ⟨g + 1, 1, none⟩ (.slice a3 d.key.length c3)).setCell ⟨g + 1, 2, none⟩ (.slice a4 d.val.length c4) = wz at *
    go_wp2_with fail
    refine ret_row rfl (g + 1) rfl rowz Tryd.underlying44 rfl (by kernel_rfl) rfl ?_
    exact ⟨⟨d, .slice a3 d.key.length c3, .slice a4 d.val.length c4⟩, rfl, rfl, ⟨owns_base oKz (show w.heap.size ≤ w2.heap.size by omega), owns_base oVz (by omega)⟩, bz⟩


set_option maxRecDepth 100000 in
set_option maxHeartbeats 2000000 in
theorem refRecords_calls {w : World} {v : Value} {l : List RecD} (h : RecsRd w v l) (m1 : l.length ≤ 1000) (m2 : ∀ r ∈ l, r.key.length ≤ 1000000 ∧ r.val.length ≤ 1000000) :
    Calls Tryd.prog 61 #[v] w (fun e w' => ∃ v', e = .returned v' ∧ RecsOwn w' w.heap.size v' l ∧ Below w.heap.size w w') := by
  obtain ⟨i0, hi, hz0, hz1, hz2⟩ := info_parts info_rec
  obtain ⟨a, c, rfl⟩ := h.slice
  go_enter Tryd.func61, Tryd.ntmps61
  go_wp2_with (at_make; refine wpList_make_own _ rfl _ _ 32 rfl w.heap.size 44 i0 _ 3 Tryd.underlying32 hi hz0 hz1 _ _ _ l.length rfl rfl rfl ?c1 ?c2 ?c3 ?_)
  case c1 => rw [hz2]; omega
  case c2 => unfold maxLen; omega
  case c3 => omega
  intro w1 ho1 hg1
  have hb1 : Below w.heap.size w w1 := (Below.refl _ _).grown hg1 (Nat.le_refl _) (by simp)
  clear hg1
  go_wp2_with fail
  go_loopw [3, 4] (fun ov iv wr => ∃ (i : Nat) (rs : List RecR), iv = .int .i64 i ∧ i ≤ l.length ∧ Hid (rs.map (·.d) = l.take i) ∧ rs.length = i ∧ wr.ownsRow w.heap.size 44 3 ov i (rs.flatMap recV) ∧ (∀ x ∈ rs, RecO wr w.heap.size x) ∧ Below w.heap.size w wr) (fun _ iv _ => l.length - (intOf iv).toNat)
  case atStart => exact ⟨0, [], rfl, Nat.zero_le _, Lib.hid rfl, rfl, by simpa using ho1, by simp, hb1⟩
  case round =>
    obtain ⟨i, rs, rfl, hil, HT, hrl, own, par, hb⟩ := hrel
    obtain ⟨ao, co, rfl⟩ := owns_slice own
    by_cases hlt : i < l.length
    · obtain ⟨bb, bo, rfl, hcs⟩ := (h.below hb).cells i hlt
      obtain ⟨vk, vv, p0, p1, p2, rk, rv⟩ := hcs i hlt
      have mm := m2 l[i] (List.getElem_mem hlt)
      have HTS := Lib.hid (List.take_succ_eq_append_getElem hlt)
      obtain ⟨d, hd⟩ : ∃ d, d = l[i] := ⟨_, rfl⟩
      rw [← hd] at p0 rk rv mm HTS
      have hR := refRecord_calls ⟨d, vk, vv⟩ wr ⟨rk, rv⟩ mm
      unfold recV at hR
      simp only at hR
      obtain ⟨ak, ck, rfl⟩ := rk.slice
      obtain ⟨av, cv, rfl⟩ := rv.slice
      have e1 : wr.cell? ⟨bb, bo + i * 3 + 1, none⟩ = some (.slice ak d.key.length ck) := p1
      have e2 : wr.cell? ⟨bb, bo + i * 3 + 2, none⟩ = some (.slice av d.val.length cv) := p2
      clear hcs hd rk rv p1 p2
      go_wp2_with fail
      with_reducible refine hR.mono ?_
      rintro e w5 ⟨⟨d', vk', vv'⟩, hd', rfl, oR, b5⟩
      obtain rfl := hd'.symm
      have oR1 := oR.1
      have oR2 := oR.2
      simp only at oR1 oR2
      obtain ⟨ak', ck', rfl⟩ := owns_slice oR1
      obtain ⟨av', cv', rfl⟩ := owns_slice oR2
      have own5 := owns_below own b5
      have par5 := fun x hx => (par x hx).below b5
      have B5 := nxt hb b5
      clear hR p0 e1 e2 own par oR1 oR2
      go_wp2_with (at_builtin; refine wpList_append_own _ rfl _ _ 32 rfl w.heap.size 44 i0 _ 3 56 Tryd.underlying32 hi hz0 hz1 hz2 rfl (by decide) _ _ _ rfl (own5.alloc _) ⟨w5.heap.size, 0, none⟩ 1 1 [.int .i64 d.time, .slice ak' d.key.length ck', .slice av' d.val.length cv'] rfl rfl ?c1 ?c2 ?c3 ?c4 ?c5 ?_)
      case c1 => exact cells_new w5 #[.int .i64 d.time, .slice ak' d.key.length ck', .slice av' d.val.length cv'] 44
      case c2 => intro u hu; simp at hu; rcases hu with rfl | rfl | rfl <;> rfl
      case c3 => unfold maxLen; omega
      case c4 => omega
      case c5 => have := B5.size; simp; omega
      intro v9 w9 o9 g9 _
      have bA := below_alloc w5 (.cells #[.int .i64 d.time, .slice ak' d.key.length ck', .slice av' d.val.length cv'] 44)
      have hty := owns_rowIs (owns_below own5 bA)
      have hge : ∀ k', (Value.slice ao i co).ownBlock = some k' → w.heap.size ≤ k' := owns_ge own5
      have B9 : Below w.heap.size w w9 := (nxt B5 bA).grown g9 (nxt B5 bA).size hge
      have p9 := fun x hx => ((par5 x hx).below bA).grown g9 hty
      have R9 := (oR.below bA).grown g9 hty
      have R9b : RecO w9 w.heap.size _ := ⟨owns_base R9.1 hb.size, owns_base R9.2 hb.size⟩
      clear g9 hty hge own5 par5 oR R9 bA
      go_wp2_with fail
      refine ⟨⟨i + 1, rs ++ [⟨d, .slice ak' d.key.length ck', .slice av' d.val.length cv'⟩], by go_num, by omega, Lib.hid ?_, by rw [List.length_append, hrl]; rfl, ?_, ?_, B9⟩, by simp [intOf]; omega⟩
      · rw [List.map_append, HT.out, HTS.out]; rfl
      · rw [List.flatMap_append]; exact o9
      · intro x hx
        rcases List.mem_append.1 hx with h1 | h1
        · exact p9 x h1
        · rw [List.mem_singleton.1 h1]; exact R9b
    · obtain rfl : i = l.length := by omega
      go_wp2_with fail
      go_ret
      exact ⟨_, rfl, ⟨rs, by rw [HT.out]; exact List.take_length, by rw [hrl]; exact own, par⟩, hb⟩

set_option maxRecDepth 100000 in
set_option maxHeartbeats 2000000 in
theorem refBatCopy_calls {w : World} {b : BatD} {v : Value} (h : RecsRd w v b.recs) (hs : small b) :
    Calls Tryd.prog 39 #[batA b v] w (fun e w' => ∃ v', e = .returned (batA b v') ∧ RecsOwn w' w.heap.size v' b.recs ∧ Below w.heap.size w w') := by
  have hR := fun W (hW : Below w.heap.size w W) => refRecords_calls (h.below hW) hs.1 hs.2
  obtain ⟨a, c, rfl⟩ := h.slice
  obtain ⟨ba, ep, l⟩ := b
  unfold batA
  simp only at h hR ⊢
  have b1 := below_alloc w (.cells #[.int .i64 ba, .int .i64 ep, .slice a l.length c] 34)
  have row1 := heap_alloc_new w (.cells #[.int .i64 ba, .int .i64 ep, .slice a l.length c] 34)
  have s1 := alloc_size w (.cells #[.int .i64 ba, .int .i64 ep, .slice a l.length c] 34)
  go_enter Tryd.func39, Tryd.ntmps39
  go_upto_region 1 with fail
  generalize w.alloc (.cells #[.int .i64 ba, .int .i64 ep, .slice a l.length c] 34) = w1 at *
  have b2 := below_alloc w1 (.cells #[.int .i64 0, .int .i64 0, .slice none 0 0] 34)
  have row2 := heap_alloc_new w1 (.cells #[.int .i64 0, .int .i64 0, .slice none 0 0] 34)
  rw [s1] at row2
  have row1' := heap_below b2 row1
  have B2 := nxt b1 b2
  generalize w1.alloc (.cells #[.int .i64 0, .int .i64 0, .slice none 0 0] 34) = w2 at *
  obtain ⟨g, hg⟩ : ∃ g, g = w.heap.size := ⟨_, rfl⟩
  rw [← hg] at row1' row2 ⊢
  have hgw : w.heap.size ≤ g := by omega
  clear hg s1 b1 b2 row1
  have D : ∀ W, Below w2.heap.size w2 W → W.cell? ⟨g, 0, none⟩ = some (.int .i64 ba) ∧ W.cell? ⟨g, 1, none⟩ = some (.int .i64 ep) ∧ W.cell? ⟨g, 2, none⟩ = some (.slice a l.length c) := fun W hW => by
    have r := heap_below hW row1'
    exact ⟨cell_of_row _ _ 0 _ _ _ r, cell_of_row _ _ 1 _ _ _ r, cell_of_row _ _ 2 _ _ _ r⟩
  have E : ∀ W, Below w2.heap.size w2 W → (W.cell? ⟨g + 1, 0, none⟩ = some (.int .i64 0) ∧ W.cell? ⟨g + 1, 1, none⟩ = some (.int .i64 0) ∧ W.cell? ⟨g + 1, 2, none⟩ = some (.slice none 0 0)) ∧ W.frozen? ⟨g + 1, 0, none⟩ = false ∧ W.frozen? ⟨g + 1, 1, none⟩ = false ∧ W.frozen? ⟨g + 1, 2, none⟩ = false := fun W hW => by
    have r := heap_below hW row2
    exact ⟨⟨cell_of_row _ _ 0 _ _ _ r, cell_of_row _ _ 1 _ _ _ r, cell_of_row _ _ 2 _ _ _ r⟩, frozen_of_row _ _ 0 _ _ r, frozen_of_row _ _ 1 _ _ r, frozen_of_row _ _ 2 _ _ r⟩
  have bD : Below w2.heap.size w2 w2.drew := (Below.refl _ _).drew
  obtain ⟨d0, d1, d2⟩ := D w2 (Below.refl _ _)
  have hR1 := hR w2.drew (nxt B2 bD)
  have hg2 : g + 1 < w2.heap.size := (Array.getElem?_eq_some_iff.1 row2).1
  clear hR
  go_region_law (go_simp; go_at_call 61; (with_reducible refine hR1.mono ?_); (rintro e wv ⟨vK, rfl, oK, bK⟩); (obtain ⟨a3, c3, rfl⟩ := oK.rd.slice); have bV2 := nxt bD bK; (obtain ⟨p0, p1, p2⟩ := D wv bV2); (obtain ⟨⟨y0, y1, y2⟩, z0, z1, z2⟩ := E wv bV2))
  all_goals
    have T3 := ((Touch.setCell (g := g + 1) wv 0 (.int .i64 ba)).set 1 (.int .i64 ep)).set 2 (.slice a3 l.length c3)
    have rowV := heap_below bV2 row2
    have rowz : (((wv.setCell ⟨g + 1, 0, none⟩ (.int .i64 ba)).setCell ⟨g + 1, 1, none⟩ (.int .i64 ep)).setCell ⟨g + 1, 2, none⟩ (.slice a3 l.length c3)).heap[g + 1]? = some (.cells #[.int .i64 ba, .int .i64 ep, .slice a3 l.length c3] 34 (0, 0)) :=
      heap_setCell_same _ _ 2 _ _ _ (heap_setCell_same _ _ 1 _ _ _ (heap_setCell_same _ _ 0 _ _ _ rowV))
    have oKz := oK.touch T3 hg2
    have bz := T3.new (nxt B2 bV2) (by omega)
    clear D E d0 d1 d2 p0 p1 p2 y0 y1 y2 z0 z1 z2 T3 rowV bK bV2 oK hR1
    generalize ((wv.setCell ⟨g + 1, 0, none⟩ (.int .i64 ba)).setCell ⟨g + 1, 1, none⟩ (.int .i64 ep)).setCell ⟨g + 1, 2, none⟩ (.slice a3 l.length c3) = wz at *
    go_wp2_with fail
    refine ret_row rfl (g + 1) rfl rowz Tryd.underlying34 rfl (by kernel_rfl) rfl ?_
    exact ⟨_, rfl, oKz.base (show w.heap.size ≤ w2.heap.size by omega), bz⟩

set_option maxRecDepth 100000 in
set_option maxHeartbeats 2000000 in
theorem refBatches_calls {w : World} {v : Value} {l : List BatD} (h : BatsRd w v l) (m1 : l.length ≤ 1000) (m2 : ∀ b ∈ l, small b) :
    Calls Tryd.prog 16 #[v] w (fun e w' => ∃ v', e = .returned v' ∧ BatsOwn w' w.heap.size v' l ∧ Below w.heap.size w w') := by
  obtain ⟨i0, hi, hz0, hz1, hz2⟩ := info_parts info_bat
  obtain ⟨a, c, rfl⟩ := h.slice
  go_enter Tryd.func16, Tryd.ntmps16
  go_wp2_with (at_make; refine wpList_make_own _ rfl _ _ 25 rfl w.heap.size 34 i0 _ 3 Tryd.underlying25 hi hz0 hz1 _ _ _ l.length rfl rfl rfl ?c1 ?c2 ?c3 ?_)
  case c1 => rw [hz2]; omega
  case c2 => unfold maxLen; omega
  case c3 => omega
  intro w1 ho1 hg1
  have hb1 : Below w.heap.size w w1 := (Below.refl _ _).grown hg1 (Nat.le_refl _) (by simp)
  clear hg1
  go_wp2_with fail
  go_loopw [3, 4] (fun ov iv wr => ∃ (i : Nat) (rs : List BatR), iv = .int .i64 i ∧ i ≤ l.length ∧ Hid (rs.map (·.d) = l.take i) ∧ rs.length = i ∧ wr.ownsRow w.heap.size 34 3 ov i (rs.flatMap batV) ∧ (∀ x ∈ rs, RecsOwn wr w.heap.size x.v x.d.recs) ∧ Below w.heap.size w wr) (fun _ iv _ => l.length - (intOf iv).toNat)
  case atStart => exact ⟨0, [], rfl, Nat.zero_le _, Lib.hid rfl, rfl, by simpa using ho1, by simp, hb1⟩
  case round =>
    obtain ⟨i, rs, rfl, hil, HT, hrl, own, par, hb⟩ := hrel
    obtain ⟨ao, co, rfl⟩ := owns_slice own
    by_cases hlt : i < l.length
    · obtain ⟨bb, bo, rfl, hcs⟩ := (h.below hb).cells i hlt
      obtain ⟨v, p0, p1, p2, rr⟩ := hcs i hlt
      have mm := m2 l[i] (List.getElem_mem hlt)
      have HTS := Lib.hid (List.take_succ_eq_append_getElem hlt)
      obtain ⟨b, hb'⟩ : ∃ b, b = l[i] := ⟨_, rfl⟩
      rw [← hb'] at p0 p1 rr mm HTS
      have hR := refBatCopy_calls rr mm
      obtain ⟨ar, cr, rfl⟩ := rr.slice
      unfold batA at hR
      clear hcs hb' rr
      go_wp2_with fail
      with_reducible refine hR.mono ?_
      rintro e w5 ⟨v5, rfl, oR, b5⟩
      obtain ⟨a5, c5, rfl⟩ := oR.rd.slice
      have own5 := owns_below own b5
      have par5 := fun x hx => (par x hx).below b5
      have B5 := nxt hb b5
      clear hR p0 p1 p2 own par
      go_wp2_with (at_builtin; refine wpList_append_own _ rfl _ _ 25 rfl w.heap.size 34 i0 _ 3 40 Tryd.underlying25 hi hz0 hz1 hz2 rfl (by decide) _ _ _ rfl (own5.alloc _) ⟨w5.heap.size, 0, none⟩ 1 1 [.int .i64 b.base, .int .i64 b.epoch, .slice a5 b.recs.length c5] rfl rfl ?c1 ?c2 ?c3 ?c4 ?c5 ?_)
      case c1 => exact cells_new w5 #[.int .i64 b.base, .int .i64 b.epoch, .slice a5 b.recs.length c5] 34
      case c2 => intro u hu; simp at hu; rcases hu with rfl | rfl | rfl <;> rfl
      case c3 => unfold maxLen; omega
      case c4 => omega
      case c5 => have := B5.size; simp; omega
      intro v9 w9 o9 g9 _
      have bA := below_alloc w5 (.cells #[.int .i64 b.base, .int .i64 b.epoch, .slice a5 b.recs.length c5] 34)
      have hty := owns_rowIs (owns_below own5 bA)
      have hge : ∀ k', (Value.slice ao i co).ownBlock = some k' → w.heap.size ≤ k' := owns_ge own5
      have B9 : Below w.heap.size w w9 := (nxt B5 bA).grown g9 (nxt B5 bA).size hge
      have p9 := fun x hx => ((par5 x hx).below bA).grown g9 hty
      have R9 := ((oR.below bA).grown g9 hty).base hb.size
      clear g9 hty hge own5 par5 oR bA
      go_wp2_with fail
      refine ⟨⟨i + 1, rs ++ [⟨b, .slice a5 b.recs.length c5⟩], by go_num, by omega, Lib.hid ?_, by rw [List.length_append, hrl]; rfl, ?_, ?_, B9⟩, by simp [intOf]; omega⟩
      · rw [List.map_append, HT.out, HTS.out]; rfl
      · rw [List.flatMap_append]; exact o9
      · intro x hx
        rcases List.mem_append.1 hx with h1 | h1
        · exact p9 x h1
        · rw [List.mem_singleton.1 h1]; exact R9
    · obtain rfl : i = l.length := by omega
      go_wp2_with fail
      go_ret
      exact ⟨_, rfl, ⟨rs, by rw [HT.out]; exact List.take_length, by rw [hrl]; exact own, par⟩, hb⟩
end Go.Proofs.YtlfbdcgojbfcaaaDoor
