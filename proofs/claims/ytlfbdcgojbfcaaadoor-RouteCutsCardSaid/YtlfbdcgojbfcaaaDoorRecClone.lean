/- rec.record, rec.Clone: a record, a batch of its own. -/
import Derived.Test.YtlfbdcgojbfcaaaDoorRecRead
import Derived.Test.YtlfbdcgojbfcaaaDoorSlices
import Derived.Deep.DeepCutAuto
import Derived.Deep.RegionLaw
namespace Go.Proofs.YtlfbdcgojbfcaaaDoor
open Go Go.RowKit Rec

set_option maxRecDepth 100000 in
set_option maxHeartbeats 1000000 in
theorem record_calls (x : RecR) (w : World) (hx : x.lies w) (m1 : x.d.key.length ≤ 1000000 ∧ x.d.val.length ≤ 1000000) :
    Calls Tryd.prog 45 #[.agg (recV x).toArray] w (fun e w' => ∃ y : RecR, y.d = x.d ∧ e = .returned (.agg (recV y).toArray) ∧ RecO w' w.heap.size y ∧ Below w.heap.size w w') := by
  obtain ⟨d, vk, vv⟩ := x
  obtain ⟨hk, hv⟩ := hx
  simp only at hk hv m1
  obtain ⟨a1, c1, rfl⟩ := hk.slice
  obtain ⟨a2, c2, rfl⟩ := hv.slice
  have hK := fun W (b : Below w.heap.size w W) => clone_bytes _ _ _ W (hk.below b) (bvs_one _) (by omega)
  have hV := fun W (b : Below w.heap.size w W) => clone_bytes _ _ _ W (hv.below b) (bvs_one _) (by omega)
  unfold NewRow at hK hV
  unfold recV
  simp only
  have b1 := below_alloc w (.cells #[.int .i64 d.time, .slice a1 d.key.length c1, .slice a2 d.val.length c2] 44)
  have row1 := heap_alloc_new w (.cells #[.int .i64 d.time, .slice a1 d.key.length c1, .slice a2 d.val.length c2] 44)
  have s1 := alloc_size w (.cells #[.int .i64 d.time, .slice a1 d.key.length c1, .slice a2 d.val.length c2] 44)
  clear hk hv
  go_enter Tryd.func45, Tryd.ntmps45
  go_upto_region 1 with fail
  generalize w.alloc (.cells #[.int .i64 d.time, .slice a1 d.key.length c1, .slice a2 d.val.length c2] 44) = w1 at *
  have b2 := below_alloc w1 (.cells #[.int .i64 0, .slice none 0 0, .slice none 0 0] 44)
  have row2 := heap_alloc_new w1 (.cells #[.int .i64 0, .slice none 0 0, .slice none 0 0] 44)
  rw [s1] at row2
  have row1' := heap_below b2 row1
  have B2 := nxt b1 b2
  generalize w1.alloc (.cells #[.int .i64 0, .slice none 0 0, .slice none 0 0] 44) = w2 at *
  obtain ⟨g, hg⟩ : ∃ g, g = w.heap.size := ⟨_, rfl⟩
  rw [← hg] at row1' row2 ⊢
  have hgw : w.heap.size ≤ g := by omega
  clear hg s1 b1 b2 row1
  have D : ∀ W, Below w2.heap.size w2 W → W.cell? ⟨g, 0, none⟩ = some (.int .i64 d.time) ∧ W.cell? ⟨g, 1, none⟩ = some (.slice a1 d.key.length c1) ∧ W.cell? ⟨g, 2, none⟩ = some (.slice a2 d.val.length c2) := fun W hW => by
    have r := heap_below hW row1'
    exact ⟨cell_of_row _ _ 0 _ _ _ r, cell_of_row _ _ 1 _ _ _ r, cell_of_row _ _ 2 _ _ _ r⟩
  have E : ∀ W, Below w2.heap.size w2 W → (W.cell? ⟨g + 1, 0, none⟩ = some (.int .i64 0) ∧ W.cell? ⟨g + 1, 1, none⟩ = some (.slice none 0 0) ∧ W.cell? ⟨g + 1, 2, none⟩ = some (.slice none 0 0)) ∧ W.frozen? ⟨g + 1, 0, none⟩ = false ∧ W.frozen? ⟨g + 1, 1, none⟩ = false ∧ W.frozen? ⟨g + 1, 2, none⟩ = false := fun W hW => by
    have r := heap_below hW row2
    exact ⟨⟨cell_of_row _ _ 0 _ _ _ r, cell_of_row _ _ 1 _ _ _ r, cell_of_row _ _ 2 _ _ _ r⟩, frozen_of_row _ _ 0 _ _ r, frozen_of_row _ _ 1 _ _ r, frozen_of_row _ _ 2 _ _ r⟩
  have bD : Below w2.heap.size w2 w2.drew := (Below.refl _ _).drew
  obtain ⟨d0, d1, d2⟩ := D w2 (Below.refl _ _)
  have hK1 := hK w2.drew (nxt B2 bD)
  clear hK
  have hg2 : g + 1 < w2.heap.size := (Array.getElem?_eq_some_iff.1 row2).1
  go_region_law (go_simp; go_at_call 69; first
    | ((with_reducible refine hK1.mono ?_); (rintro e wk ⟨vK, rfl, oK, bK⟩); (obtain ⟨a3, c3, rfl⟩ := owns_slice oK); have bK2 := nxt bD bK; (obtain ⟨p0, p1, p2⟩ := D wk bK2); have hV1 := hV wk (nxt B2 bK2); clear hK1)
    | ((with_reducible refine hV1.mono ?_); (rintro e wv ⟨vV, rfl, oV, bV⟩); (obtain ⟨a4, c4, rfl⟩ := owns_slice oV); have bV2 := nxt bK2 bV; (obtain ⟨q0, q1, q2⟩ := D wv bV2); (obtain ⟨⟨y0, y1, y2⟩, z0, z1, z2⟩ := E wv bV2); clear hV1))
  all_goals
    have T1 := Touch.setCell (g := g + 1) wv 0 (.int .i64 d.time)
    have T3 := (T1.set 1 (.slice a3 d.key.length c3)).set 2 (.slice a4 d.val.length c4)
    have rowV := heap_below bV2 row2
    have rowz : (((wv.setCell ⟨g + 1, 0, none⟩ (.int .i64 d.time)).setCell ⟨g + 1, 1, none⟩ (.slice a3 d.key.length c3)).setCell ⟨g + 1, 2, none⟩ (.slice a4 d.val.length c4)).heap[g + 1]? = some (.cells #[.int .i64 d.time, .slice a3 d.key.length c3, .slice a4 d.val.length c4] 44 (0, 0)) :=
      heap_setCell_same _ _ 2 _ _ _ (heap_setCell_same _ _ 1 _ _ _ (heap_setCell_same _ _ 0 _ _ _ rowV))
    have hsk : w2.heap.size ≤ wk.heap.size := bK2.size
    have oKz := T3.owns_from (owns_below oK bV) hg2
    have oVz := T3.owns_from oV (by omega)
    have bz := T3.new (nxt B2 bV2) (by omega)
    clear D E d0 d1 d2 p0 p1 p2 q0 q1 q2 y0 y1 y2 z0 z1 z2 T1 T3 rowV bK bV bK2 bV2 oK oV
    generalize ((wv.setCell ⟨g + 1, 0, none⟩ (.int .i64 d.time)).setCell ⟨g + 1, 1, none⟩ (.slice a3 d.key.length c3)).setCell ⟨g + 1, 2, none⟩ (.slice a4 d.val.length c4) = wz at *
    go_wp2_with fail
    refine ret_row rfl (g + 1) rfl rowz Tryd.underlying44 rfl (by kernel_rfl) rfl ?_
    exact ⟨⟨d, .slice a3 d.key.length c3, .slice a4 d.val.length c4⟩, rfl, rfl, ⟨owns_base oKz (show w.heap.size ≤ w2.heap.size by omega), owns_base oVz (by omega)⟩, bz⟩

theorem batSize' : (Tryd.prog.info? 34).map (·.size) = some 3 := by kernel_rfl
/-- Lists that a batch may have at most. -/
def small (b : BatD) : Prop := b.recs.length ≤ 1000 ∧ ∀ r ∈ b.recs, r.key.length ≤ 1000000 ∧ r.val.length ≤ 1000000

set_option maxRecDepth 100000 in
set_option maxHeartbeats 2000000 in
theorem recClone_calls {w : World} {b : BatD} {v : Value} (h : RecsRd w v b.recs) (hs : small b) :
    Calls Tryd.prog 40 #[batA b v] w (fun e w' => ∃ v', e = .returned (batA b v') ∧ RecsOwn w' w.heap.size v' b.recs ∧ Below w.heap.size w w') := by
  obtain ⟨i0, hi, hz0, hz1, hz2⟩ := info_parts info_rec
  obtain ⟨m1, m2⟩ := hs
  obtain ⟨a, c, rfl⟩ := h.slice
  obtain ⟨ba, ep, l⟩ := b
  unfold batA
  simp only at h m1 m2 ⊢
  have b1 := below_alloc w (.cells #[.int .i64 ba, .int .i64 ep, .slice a l.length c] 34)
  have row1 := heap_alloc_new w (.cells #[.int .i64 ba, .int .i64 ep, .slice a l.length c] 34)
  have s1 := alloc_size w (.cells #[.int .i64 ba, .int .i64 ep, .slice a l.length c] 34)
  go_enter Tryd.func40, Tryd.ntmps40
  go_upto_region 1 with fail
  generalize w.alloc (.cells #[.int .i64 ba, .int .i64 ep, .slice a l.length c] 34) = w1 at *
  have b2 := below_alloc w1 (.cells #[.int .i64 0, .int .i64 0, .slice none 0 0] 34)
  have row2 := heap_alloc_new w1 (.cells #[.int .i64 0, .int .i64 0, .slice none 0 0] 34)
  have s2 := alloc_size w1 (.cells #[.int .i64 0, .int .i64 0, .slice none 0 0] 34)
  rw [s1] at row2 s2
  have row1' := heap_below b2 row1
  have B2 := nxt b1 b2
  generalize w1.alloc (.cells #[.int .i64 0, .int .i64 0, .slice none 0 0] 34) = w2 at *
  obtain ⟨g, hg⟩ : ∃ g, g = w.heap.size := ⟨_, rfl⟩
  rw [← hg] at row1' row2 s2 ⊢
  have hgw : w.heap.size ≤ g := by omega
  clear hg s1 b1 b2 row1
  have d0 : w2.cell? ⟨g, 0, none⟩ = some (.int .i64 ba) := cell_of_row _ _ 0 _ _ _ row1'
  have d1 : w2.cell? ⟨g, 1, none⟩ = some (.int .i64 ep) := cell_of_row _ _ 1 _ _ _ row1'
  have b3 := below_alloc w2 (.cells #[.int .i64 ba, .int .i64 ep, .slice none 0 0] 34)
  have row3 := heap_alloc_new w2 (.cells #[.int .i64 ba, .int .i64 ep, .slice none 0 0] 34)
  have s3 := alloc_size w2 (.cells #[.int .i64 ba, .int .i64 ep, .slice none 0 0] 34)
  go_upto_region 2 with fail
  rw [s2] at row3 s3
  have row2' := heap_below b3 row2
  have row1'' := heap_below b3 row1'
  have B3 := nxt B2 b3
  clear d0 d1 B2 b3 row1' row2 s2
  generalize w2.alloc (.cells #[.int .i64 ba, .int .i64 ep, .slice none 0 0] 34) = w3 at *
  have d2 : w3.cell? ⟨g, 2, none⟩ = some (.slice a l.length c) := cell_of_row _ _ 2 _ _ _ row1''
  go_wp2_with fail
  go_loopw [14] (fun iv wr => ∃ (i : Nat) (rs : List RecR) (al : Option Addr) (cl : Nat), iv = .int .i64 i ∧ i ≤ l.length ∧ Hid (rs.map (·.d) = l.take i) ∧ rs.length = i ∧ wr.heap[g + 1 + 1]? = some (.cells #[.int .i64 ba, .int .i64 ep, .slice al i cl] 34 (0, 0)) ∧ wr.heap[g + 1]? = some (.cells #[.int .i64 0, .int .i64 0, .slice none 0 0] 34 (0, 0)) ∧ wr.ownsRow (g + 1 + 1 + 1) 44 3 (.slice al i cl) i (rs.flatMap recV) ∧ (∀ x ∈ rs, RecO wr (g + 1 + 1 + 1) x) ∧ Below w.heap.size w wr) (fun iv _ => l.length - (intOf iv).toNat)
  case atStart => exact ⟨0, [], none, 0, rfl, Nat.zero_le _, Lib.hid rfl, rfl, row3, row2', World.ownsRow_nil _ _ _ _, by simp, B3⟩
  case round =>
    obtain ⟨i, rs, al, cl, rfl, hil, HT, hrl, rowo, rowr, own, par, hb⟩ := hrel
    by_cases hlt : i < l.length
    · obtain ⟨bb, bo, rfl, hcs⟩ := (h.below hb).cells i hlt
      obtain ⟨vk, vv, p0, p1, p2, rk, rv⟩ := hcs i hlt
      have mm := m2 l[i] (List.getElem_mem hlt)
      have HTS := Lib.hid (List.take_succ_eq_append_getElem hlt)
      obtain ⟨d, hd⟩ : ∃ d, d = l[i] := ⟨_, rfl⟩
      rw [← hd] at p0 rk rv mm HTS
      have b5 := below_alloc wr (.cells #[.int .i64 d.time, vk, vv] 44)
      have row5 := heap_alloc_new wr (.cells #[.int .i64 d.time, vk, vv] 44)
      have B5 := nxt hb b5
      have rowo5 := heap_below b5 rowo
      have rowr5 := heap_below b5 rowr
      have own5 := owns_below own b5
      have par5 := fun x hx => (par x hx).below b5
      have rk5 := rk.below b5
      have rv5 := rv.below b5
      obtain ⟨ak, ck, rfl⟩ := rk.slice
      obtain ⟨av, cv, rfl⟩ := rv.slice
      have hgs : wr.heap.size = wr.heap.size := rfl
      clear hcs hd rk rv own par rowo rowr b5
      go_upto_region 5 with fail
      obtain ⟨w5, hw5⟩ : ∃ w5, w5 = wr.alloc (.cells #[.int .i64 d.time, .slice ak d.key.length ck, .slice av d.val.length cv] 44) := ⟨_, rfl⟩
      obtain ⟨g5, hg5⟩ : ∃ g5, g5 = wr.heap.size := ⟨_, rfl⟩
      rw [← hw5] at row5 B5 rowo5 rowr5 own5 par5 rk5 rv5 ⊢
      rw [← hg5] at row5 ⊢
      clear hw5 hg5 hgs
      have bD : Below w5.heap.size w5 w5.drew := (Below.refl _ _).drew
      have hR := record_calls ⟨d, .slice ak d.key.length ck, .slice av d.val.length cv⟩ w5.drew ⟨rk5.below bD, rv5.below bD⟩ mm
      unfold recV at hR
      simp only at hR
      have e0 : w5.cell? ⟨g5, 0, none⟩ = some (.int .i64 d.time) := cell_of_row _ _ 0 _ _ _ row5
      have e1 : w5.cell? ⟨g5, 1, none⟩ = some (.slice ak d.key.length ck) := cell_of_row _ _ 1 _ _ _ row5
      have e2 : w5.cell? ⟨g5, 2, none⟩ = some (.slice av d.val.length cv) := cell_of_row _ _ 2 _ _ _ row5
      have f2 : w5.cell? ⟨g + 1 + 1, 2, none⟩ = some (.slice al i cl) := cell_of_row _ _ 2 _ _ _ rowo5
      go_region_law (first
        | (refine step_append_where rfl (.tmp 19) (.tmp 22) 32 rfl 44 i0 _ 3 56 Tryd.underlying32 hi hz0 hz1 hz2 rfl (by decide) _ i (rs.flatMap recV) rfl (ob.alloc _) ⟨wb.heap.size, 0, none⟩ 1 1 [.int .i64 d.time, .slice ak' d.key.length ck', .slice av' d.val.length cv'] rfl (by rfl) (cells_new wb #[.int .i64 d.time, .slice ak' d.key.length ck', .slice av' d.val.length cv'] 44) (by simp [Value.oneCell']) (by unfold maxLen; omega) (by omega) ?_; intro v9 w9 o9 g9 wh9; (obtain ⟨a9, c9, rfl⟩ := owns_slice o9); have hbA := heap_below (below_alloc wb (.cells #[.int .i64 d.time, .slice ak' d.key.length ck', .slice av' d.val.length cv'] 44)) rowb; have row9 : w9.heap[g + 1 + 1]? = some (.cells #[.int .i64 ba, .int .i64 ep, .slice al i cl] 34 (0, 0)) := (g9.block (g + 1 + 1) (Array.getElem?_eq_some_iff.1 hbA).1 (fun e => owns_ne (owns_below ob (below_alloc wb (.cells #[.int .i64 d.time, .slice ak' d.key.length ck', .slice av' d.val.length cv'] 44))) hbA (by decide) e.symm)).trans hbA; have e9 : w9.cell? ⟨g + 1 + 1, 2, none⟩ = some (.slice al i cl) := cell_of_row _ _ 2 _ _ _ row9; have z9 : w9.frozen? ⟨g + 1 + 1, 2, none⟩ = false := frozen_of_row _ _ 2 _ _ row9)
        | (go_simp; go_at_call 45; (with_reducible refine hR.mono ?_); (rintro e wb ⟨⟨d', vk', vv'⟩, hd', rfl, oR, bR⟩); (obtain rfl := hd'.symm); have oR1 := oR.1; have oR2 := oR.2; (simp only at oR1 oR2); (obtain ⟨ak', ck', rfl⟩ := owns_slice oR1); (obtain ⟨av', cv', rfl⟩ := owns_slice oR2); have bb := nxt bD bR; have rowb := heap_below bb rowo5; have db : wb.cell? ⟨g + 1 + 1, 2, none⟩ = some (.slice al i cl) := cell_of_row _ _ 2 _ _ _ rowb; have ob := owns_zero (owns_below own5 bb); have dc : (wb.alloc (.cells #[.int .i64 d.time, .slice ak' d.key.length ck', .slice av' d.val.length cv'] 44)).cell? ⟨g + 1 + 1, 2, none⟩ = some (.slice al i cl) := cell_of_row _ _ 2 _ _ _ (heap_below (below_alloc wb _) rowb)))
      all_goals
        have bA := below_alloc wb (.cells #[.int .i64 d.time, .slice ak' d.key.length ck', .slice av' d.val.length cv'] 44)
        have obA := owns_below ob bA
        have owb := owns_below (owns_below own5 bb) bA
        have hty := owns_rowIs obA
        have hge : ∀ k', (Value.slice al i cl).ownBlock = some k' → g + 1 + 1 + 1 ≤ k' := owns_ge owb
        have hsz5 := (Array.getElem?_eq_some_iff.1 rowo5).1
        have hszA : w5.heap.size ≤ (wb.alloc (.cells #[.int .i64 d.time, .slice ak' d.key.length ck', .slice av' d.val.length cv'] 44)).heap.size := Nat.le_trans bb.size bA.size
        have o9u := owns_up (base := g + 1 + 1 + 1) o9 (fun k hk => by
          rcases wh9 k hk with h | h
          · exact hge k h
          · omega)
        have hrA := heap_below (nxt bb bA) rowr5
        have rowr9 := (g9.block (g + 1) (Array.getElem?_eq_some_iff.1 hrA).1 (fun e => owns_ne obA hrA (by decide) e.symm)).trans hrA
        have p9 := fun x hx => (((par5 x hx).below bb).below bA).grown g9 hty
        have R9 := (oR.below bA).grown g9 hty
        have B9 : Below w.heap.size w w9 := (nxt (nxt B5 bb) bA).grown g9 (nxt (nxt B5 bb) bA).size (fun k' hk' => by have := hge k' hk'; omega)
        have TT := Touch.setCell (g := g + 1 + 1) w9 2 (.slice a9 (i + 1) c9)
        have rowz : (w9.setCell ⟨g + 1 + 1, 2, none⟩ (.slice a9 (i + 1) c9)).heap[g + 1 + 1]? = some (.cells #[.int .i64 ba, .int .i64 ep, .slice a9 (i + 1) c9] 34 (0, 0)) := heap_setCell_same w9 _ 2 _ _ _ row9
        have rowrz := TT.heap rowr9 (by omega)
        have oz := TT.owns_from o9u (Nat.lt_succ_self _)
        have pz := fun x hx => (p9 x hx).touch TT (Nat.lt_succ_self _)
        have Rz := R9.touch TT (show g + 1 + 1 < w5.heap.size from hsz5)
        have Rz2 : RecO _ (g + 1 + 1 + 1) _ := ⟨owns_base Rz.1 (show g + 1 + 1 + 1 ≤ w5.heap.size from hsz5), owns_base Rz.2 (show g + 1 + 1 + 1 ≤ w5.heap.size from hsz5)⟩
        have bz := TT.new B9 (by omega)
        clear e0 e1 e2 f2 hR db dc e9 z9 g9 o9 o9u wh9 hge hty obA owb ob oR oR1 oR2 TT R9 Rz bb bR bA
        go_wp2_with fail
        refine ⟨⟨i + 1, rs ++ [⟨d, .slice ak' d.key.length ck', .slice av' d.val.length cv'⟩], a9, c9, by go_num, by omega, Lib.hid ?_, by rw [List.length_append, hrl]; rfl, rowz, rowrz, ?_, ?_, bz⟩, by simp [intOf]; omega⟩
        · rw [List.map_append, HT.out, HTS.out]; rfl
        · rw [List.flatMap_append]; exact oz
        · intro x hx
          rcases List.mem_append.1 hx with h1 | h1
          · exact pz x h1
          · rw [List.mem_singleton.1 h1]; exact Rz2
    · obtain rfl : i = l.length := by omega
      have e0 : wr.cell? ⟨g + 1 + 1, 0, none⟩ = some (.int .i64 ba) := cell_of_row _ _ 0 _ _ _ rowo
      have e1 : wr.cell? ⟨g + 1 + 1, 1, none⟩ = some (.int .i64 ep) := cell_of_row _ _ 1 _ _ _ rowo
      have e2 : wr.cell? ⟨g + 1 + 1, 2, none⟩ = some (.slice al l.length cl) := cell_of_row _ _ 2 _ _ _ rowo
      go_wp2_with (refine wpList_store_row_g rfl 34 _ _ rfl (g + 1) _ rfl rfl 34 _ rowr batSize' rfl (by simp [Value.oneCell']) ?_)
      intro w9 row9 g9 _
      have TT : Touch (g + 1) wr w9 := g9
      have oz := TT.owns_from own (by omega)
      have pz := fun x hx => (par x hx).touch TT (by omega)
      have bz := TT.new hb (by omega)
      clear e0 e1 e2 g9
      go_wp2_with fail
      refine ret_row rfl (g + 1) rfl row9 Tryd.underlying34 rfl (by kernel_rfl) rfl ?_
      refine ⟨.slice al l.length cl, rfl, RecsOwn.base (base := g + 1 + 1 + 1) ⟨rs, ?_, ?_, pz⟩ (by omega), bz⟩
      · rw [HT.out]; exact List.take_length
      · rw [hrl]; exact oz
end Go.Proofs.YtlfbdcgojbfcaaaDoor
