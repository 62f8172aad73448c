/- The document's Batch and Size: the bytes of a batch that may be. -/
import Derived.Test.YtlfbdcgojbfcaaaDoorRefRecValid
import Derived.Test.YtlfbdcgojbfcaaaDoorRecBytes
import Derived.Test.YtlfbdcgojbfcaaaDoorRecBackMath
import Derived.Test.YtlfbdcgojbfcaaaDoorRefLittle
import Derived.Test.YtlfbdcgojbfcaaaDoorRefPutInt
import Derived.Test.YtlfbdcgojbfcaaaDoorRefMore
import Derived.Test.YtlfbdcgojbfcaaaDoorAppend
import Derived.Deep.RegionLaw
namespace Go.Proofs.YtlfbdcgojbfcaaaDoor
open Go Go.RowKit Rec Vint

theorem heapcell' {w w' : World} {p : Addr} {v : Value} (b : Below w.heap.size w w') (h : w.cell? p = some v) : w'.cell? p = some v := by
  rw [b.cell (World.block_lt_of_cell? _ _ h)]; exact h
theorem owns_up2 {w : World} {e sz n base : Nat} {v : Value} {xs : List Value} (h : w.ownsRow 0 e sz v n xs) (hb : ∀ k, v.ownBlock = some k → base ≤ k) : w.ownsRow base e sz v n xs := by
  refine ⟨h.1, ?_⟩
  rcases h.2 with h1 | ⟨g, cap, cur, rfl, _, h2⟩
  · exact .inl h1
  · exact .inr ⟨g, cap, cur, rfl, hb g rfl, h2⟩
theorem owns_some {w : World} {base e n : Nat} {a : Option Addr} {c : Nat} {xs : List Value} (h : w.ownsRow base e 1 (.slice a n c) n xs) (hn : 0 < n) :
    ∃ x, a = some x ∧ ∀ j u, xs[j]? = some u → w.cell? (x.add j) = some u := by
  obtain ⟨_, h2⟩ := Rd.of_owns h
  rcases h2 with ⟨_, rfl⟩ | ⟨x, cap, he, hc, hm, hx⟩
  · omega
  · simp only [Value.slice.injEq] at he
    obtain ⟨rfl, _, rfl⟩ := he
    exact ⟨x, rfl, hx⟩

set_option maxRecDepth 100000 in
set_option maxHeartbeats 4000000 in
theorem refBatch_calls {w : World} {b : BatD} {v : Value} (hv : valid b = 0) (h : RecsRd w v b.recs) :
    Calls Tryd.prog 43 #[batA b v] w (NewRow 5 1 (bytesL b).length (bvs (bytesL b)) w) := by
  obtain ⟨i0, hi, hz0, hz1, hz2⟩ := info_parts info_u8
  have hbl := body_len hv
  have hfst := first_bd hv
  obtain ⟨v1, v2, v3⟩ := (valid_iff b).1 hv
  obtain ⟨BT, hBT⟩ : ∃ BT, BT = bytesL b := ⟨_, rfl⟩
  have hbody : bodyL b = lit b.base.toNat 8 ++ (lit b.epoch.toNat 4 ++ (lit b.recs.length 2 ++ (putL (fold (first b)) ++ recsL (first b) b.recs))) := rfl
  have hbytes : bytesL b = lit (bodyL b).length 4 ++ (lit (Crc.sum (bodyL b)).toNat 4 ++ bodyL b) := rfl
  obtain ⟨BL, hBL⟩ : ∃ BL, BL = bodyL b := ⟨_, rfl⟩
  rw [← hBT] at hbytes ⊢
  rw [← hBL] at hbytes hbody hbl
  have HBYTES := Lib.hid hbytes
  have HBODY := Lib.hid hbody
  have HALL := Lib.hid v3
  obtain ⟨a, c, rfl⟩ := h.slice
  have hfe : first b = (b.recs[0]'(by omega)).time := by
    unfold first
    split
    · rename_i r l hr; simp [hr]
    · rename_i hr; simp [hr] at v1
  have HFE := Lib.hid hfe
  obtain ⟨fi, hfi⟩ : ∃ fi, fi = first b := ⟨_, rfl⟩
  rw [← hfi] at hfst HBODY HFE
  obtain ⟨ba, ep, l⟩ := b
  unfold batA
  simp only at h v1 v2 HBODY HALL HFE ⊢
  obtain ⟨p, hp⟩ : ∃ p : Nat, p = ba.toNat := ⟨_, rfl⟩
  obtain ⟨q, hq⟩ : ∃ q : Nat, q = ep.toNat := ⟨_, rfl⟩
  rw [← hp, ← hq] at HBODY
  have hpe : IntKind.u64.wrap ba = (p : Int) := by rw [IntKind.wrap_u64]; omega
  have hqe : IntKind.u64.wrap ep = (q : Int) := by rw [IntKind.wrap_u64]; omega
  have hle : IntKind.u64.wrap (l.length : Int) = (l.length : Int) := by rw [IntKind.wrap_u64]; omega
  clear hBT hBL hbytes hbody v3 hfe hfi hp hq
  have b1 := below_alloc w (.cells #[.int .i64 ba, .int .i64 ep, .slice a l.length c] 34)
  have row1 := heap_alloc_new w (.cells #[.int .i64 ba, .int .i64 ep, .slice a l.length c] 34)
  go_enter Tryd.func43, Tryd.ntmps43
  go_upto_region 1 with fail
  obtain ⟨w1, hw1⟩ : ∃ w1, w1 = w.alloc (.cells #[.int .i64 ba, .int .i64 ep, .slice a l.length c] 34) := ⟨_, rfl⟩
  obtain ⟨g, hg⟩ : ∃ g, g = w.heap.size := ⟨_, rfl⟩
  rw [← hw1] at b1 row1 ⊢
  rw [← hg] at row1 ⊢
  clear hw1 hg
  have D : ∀ W, Below w1.heap.size w1 W → W.cell? ⟨g, 0, none⟩ = some (.int .i64 ba) ∧ W.cell? ⟨g, 1, none⟩ = some (.int .i64 ep) ∧ W.cell? ⟨g, 2, none⟩ = some (.slice a l.length c) := fun W hW => by
    have r := heap_below hW row1
    exact ⟨cell_of_row _ _ 0 _ _ _ r, cell_of_row _ _ 1 _ _ _ r, cell_of_row _ _ 2 _ _ _ r⟩
  go_cut [3] (fun ov wx => wx.ownsRow w1.heap.size 5 1 ov (lit p 8 ++ lit q 4).length (bvs (lit p 8 ++ lit q 4)) ∧ Below w1.heap.size w1 wx)
  case first =>
    obtain ⟨d0, d1, d2⟩ := D w1 (Below.refl _ _)
    have bD : Below w1.heap.size w1 w1.drew := (Below.refl _ _).drew
    have hl1 := refLittle_calls p 8 w1.drew (by omega)
    have hl2 := fun W => refLittle_calls q 4 W (by omega)
    unfold NewRow at hl1 hl2
    rw [show ((8 : Nat) : Int) = 8 from rfl] at hl1
    rw [show ((4 : Nat) : Int) = 4 from rfl] at hl2
    go_region_law (first
      | (refine step_append_where rfl (.tmp 11) (.tmp 15) 42 rfl 5 i0 (.int .u8 0) 1 1 Tryd.underlying42 hi hz0 hz1 hz2 rfl (by decide) _ 8 (bvs (lit p 8)) rfl (owns_zero o1b) x2 4 c2 (bvs (lit q 4)) rfl (by rw [bvs_length, lit_length]) hx2 (bvs_one _) (by unfold maxLen; omega) (by omega) ?_; intro v9 w9 o9 g9 wh9)
      | (go_simp; go_at_call 66; first
        | ((with_reducible refine hl1.mono ?_); (rintro e wk ⟨vK, rfl, o1, bK⟩); (obtain ⟨a1, c1, rfl⟩ := owns_slice o1); have bK2 := nxt bD bK; (obtain ⟨d0, d1, d2⟩ := D wk bK2); have hl2' := hl2 wk)
        | ((with_reducible refine hl2'.mono ?_); (rintro e wv ⟨vV, rfl, o2, bV⟩); (obtain ⟨a2, c2, rfl⟩ := owns_slice o2); have bV2 := nxt bK2 bV; (obtain ⟨x2, rfl, hx2⟩ := owns_some o2 (by omega)); have o1b := owns_below o1 bV)))
    all_goals
      have hge : ∀ k', (Value.slice a1 8 c1).ownBlock = some k' → w1.heap.size ≤ k' := owns_ge o1b
      have hsv := bV2.size
      have o9u := owns_up2 (base := w1.heap.size) o9 (fun k hk => by
        rcases wh9 k hk with h | h
        · exact hge k h
        · omega)
      have B9 := bV2.grown g9 bV2.size hge
      clear d0 d1 d2 hl1 hl2 hl2' o9 g9 wh9 hge
      go_wp2_with fail
      go_meet
      refine ⟨?_, B9⟩
      rw [bvs_append, List.length_append, lit_length, lit_length]
      exact o9u
  obtain ⟨own2, B2⟩ := hcut
  obtain ⟨w2, hw2⟩ : ∃ w2, w2 = wc := ⟨_, rfl⟩
  rw [← hw2] at own2 B2 ⊢
  clear hw2
  obtain ⟨em2, hem2⟩ : ∃ em2, em2 = lit p 8 ++ lit q 4 := ⟨_, rfl⟩
  have hl2 : em2.length ≤ 12 := by rw [hem2, List.length_append, lit_length, lit_length]; omega
  rw [← hem2] at own2
  have HEM2 := Lib.hid hem2
  obtain ⟨a2, c2, rfl⟩ := owns_slice own2
  clear hem2
  obtain ⟨d0, d1, d2⟩ := D w2 B2
  have hli := fun W => refLittle_calls l.length 2 W (by omega)
  unfold NewRow at hli
  rw [show ((2 : Nat) : Int) = 2 from rfl] at hli
  go_wp2_with fail
  with_reducible refine (hli w2).mono ?_
  rintro e w3 ⟨v3, rfl, o3, b3⟩
  have B3 := nxt B2 b3
  have own3 := owns_below own2 b3
  have rx3 := Rd.of_owns o3
  obtain ⟨a3, c3, rfl⟩ := owns_slice o3
  obtain ⟨em3, hem3⟩ : ∃ em3, em3 = em2 := ⟨_, rfl⟩
  rw [← hem3] at own3 ⊢
  have hl3 := hl2
  rw [← hem3] at hl3
  have HEM3 := Lib.hid hem3
  clear o3 own2 B2 hem3 
  have rx3 : Rd w3 1 (.slice a3 2 c3) (lit l.length 2).length (bvs (lit l.length 2)) := by rw [lit_length]; exact rx3
  have hll : (lit l.length 2).length = 2 := lit_length _ _
  clear d0 d1 d2
  go_wp2_with (at_builtin; refine wpList_append_rdg rfl _ _ 42 rfl w1.heap.size 5 i0 (.int .u8 0) 1 1 Tryd.underlying42 hi hz0 hz1 hz2 rfl (by decide) _ em3.length (bvs em3) rfl own3 _ _ (bvs (lit l.length 2)) rfl rx3 (bvs_one _) ?c3 ?c4 ?c5 ?_)
  case c3 => unfold maxLen; omega
  case c4 => omega
  case c5 => exact B3.size
  intro v4 w4 o4 gr4 Tr4
  have B4 := Tr4 w1 B3 (Nat.le_refl _)
  have own4 : w4.ownsRow w1.heap.size 5 1 v4 (em3 ++ lit l.length 2).length (bvs (em3 ++ lit l.length 2)) := by rw [bvs_append, List.length_append]; exact o4
  obtain ⟨em4, hem4⟩ : ∃ em4, em4 = em3 ++ lit l.length 2 := ⟨_, rfl⟩
  rw [← hem4] at own4
  have hl4 : em4.length ≤ 14 := by rw [hem4, List.length_append, lit_length]; omega
  have HEM4 := Lib.hid hem4
  obtain ⟨a4, c4, rfl⟩ := owns_slice own4
  clear Tr4 o4 gr4 own3 rx3 B3 hem4 
  obtain ⟨d0, d1, d2⟩ := D w4 B4
  have hpi := fun W => refPutInt_calls fi W ⟨by omega, by omega⟩
  have hl10 := putL_len10 (fold fi) (fold_lt _ (by omega) (by omega))
  unfold NewRow at hpi
  obtain ⟨bb, bo, rfl, hcs⟩ := h.cells 0 (by omega)
  have hcell : ∀ i (hi : i < l.length), ∃ vk vv, ∀ W, Below w.heap.size w W → W.cell? ⟨bb, bo + i * 3, none⟩ = some (.int .i64 l[i].time) ∧ W.cell? ⟨bb, bo + i * 3 + 1, none⟩ = some vk ∧ W.cell? ⟨bb, bo + i * 3 + 2, none⟩ = some vv ∧ Rd W 1 vk l[i].key.length (bvs l[i].key) ∧ Rd W 1 vv l[i].val.length (bvs l[i].val) := fun i hi => by
    obtain ⟨vk, vv, p0, p1, p2, rk, rv⟩ := hcs i hi
    exact ⟨vk, vv, fun W hW => ⟨heapcell' hW p0, heapcell' hW p1, heapcell' hW p2, rk.below hW, rv.below hW⟩⟩
  have HCELL := Lib.hid hcell
  have t04 : ∀ W, Below w1.heap.size w1 W → W.cell? ⟨bb, bo, none⟩ = some (.int .i64 fi) := fun W hW => by
    obtain ⟨_, _, hq⟩ := hcell 0 (by omega)
    obtain ⟨p0, _⟩ := hq W (nxt b1 hW)
    rw [HFE.out]
    simpa using p0
  have k0 := t04 w4 B4
  clear hcell hcs hli
  go_wp2_with fail
  with_reducible refine (hpi w4).mono ?_
  rintro e w5 ⟨v5, rfl, o5, b5⟩
  have B5 := nxt B4 b5
  have own5 := owns_below own4 b5
  have rx5 := Rd.of_owns o5
  obtain ⟨a5, c5, rfl⟩ := owns_slice o5
  obtain ⟨em5, hem5⟩ : ∃ em5, em5 = em4 := ⟨_, rfl⟩
  rw [← hem5] at own5 ⊢
  have hl5 := hl4
  rw [← hem5] at hl5
  have HEM5 := Lib.hid hem5
  clear o5 own4 B4 hem5 
  clear d0 d1 d2 k0 hpi
  go_wp2_with (at_builtin; refine wpList_append_rdg rfl _ _ 42 rfl w1.heap.size 5 i0 (.int .u8 0) 1 1 Tryd.underlying42 hi hz0 hz1 hz2 rfl (by decide) _ em5.length (bvs em5) rfl own5 _ _ (bvs (putL (fold fi))) rfl rx5 (bvs_one _) ?c3 ?c4 ?c5 ?_)
  case c3 => unfold maxLen; omega
  case c4 => omega
  case c5 => exact B5.size
  intro v6 w6 o6 gr6 Tr6
  have B6 := Tr6 w1 B5 (Nat.le_refl _)
  have own6 : w6.ownsRow w1.heap.size 5 1 v6 (em5 ++ putL (fold fi)).length (bvs (em5 ++ putL (fold fi))) := by rw [bvs_append, List.length_append]; exact o6
  obtain ⟨em6, hem6⟩ : ∃ em6, em6 = em5 ++ putL (fold fi) := ⟨_, rfl⟩
  rw [← hem6] at own6
  have hl6 : em6.length ≤ 30 := by rw [hem6, List.length_append]; omega
  have HEM6 := Lib.hid hem6
  obtain ⟨a6, c6, rfl⟩ := owns_slice own6
  clear Tr6 o6 gr6 own5 rx5 B5 hem6 
  obtain ⟨d0, d1, d2⟩ := D w6 B6
  have k0 := t04 w6 B6
  have HE : Hid (em6 ++ recsL fi (l.drop 0) = BL) := Lib.hid (by rw [HEM6.out, HEM5.out, HEM4.out, HEM3.out, HEM2.out, HBODY.out, List.drop_zero]; simp)
  go_wp2_with fail
  go_loopw [3, 4, 5] (fun ov lv iv wr => ∃ (i : Nat) (lst : Int) (em : List UInt8), iv = .int .i64 i ∧ i ≤ l.length ∧ lv = .int .i64 lst ∧ (-1099511627776 ≤ lst ∧ lst ≤ 1099511627776) ∧ Hid (em ++ recsL lst (l.drop i) = BL) ∧ wr.ownsRow w1.heap.size 5 1 ov em.length (bvs em) ∧ Below w1.heap.size w1 wr) (fun _ _ iv _ => l.length - (intOf iv).toNat)
  case atStart => exact ⟨0, fi, em6, rfl, Nat.zero_le _, rfl, hfst, HE, own6, B6⟩
  case round =>
    clear HEM2 HEM3 HEM4 HEM5 HEM6 hl2 hl3 hl4 hl5 hl6 own6 B6 d0 d1 d2 k0 hl10
    obtain ⟨i, lst, em0, rfl, hi2, rfl, hlst, HE, own0, B0⟩ := hrel
    obtain ⟨a0, c0, rfl⟩ := owns_slice own0
    have heml : em0.length ≤ 40000 := by have := congrArg List.length HE.out; rw [List.length_append] at this; omega
    obtain ⟨d0, d1, d2⟩ := D wr B0
    by_cases hlt : i < l.length
    · obtain ⟨vk, vv, hq⟩ := HCELL.out i hlt
      obtain ⟨p0, p1, p2, rk, rv⟩ := hq wr (nxt b1 B0)
      have hrk := fun W (hW : Below w1.heap.size w1 W) => (hq W (nxt b1 hW)).2.2.2
      have hE2 := HE.out
      rw [recsL_drop lst l i hlt] at hE2
      have hro := List.all_eq_true.1 HALL.out l[i] (List.getElem_mem hlt)
      obtain ⟨r, hr⟩ : ∃ r, r = l[i] := ⟨_, rfl⟩
      rw [← hr] at p0 rk rv hE2 hro hrk
      unfold recOk at hro
      rw [decide_eq_true_eq] at hro
      have HE2 := Lib.hid hE2
      obtain ⟨ak, ck, rfl⟩ := rk.slice
      obtain ⟨av, cv, rfl⟩ := rv.slice
      clear hr hE2 rk rv hq
      obtain ⟨t, ht⟩ : ∃ t, t = r.time := ⟨_, rfl⟩
      rw [← ht] at p0 hro
      have HT := Lib.hid ht
      have row0 := heap_alloc_new wr (.cells #[.int .i64 t, .slice ak r.key.length ck, .slice av r.val.length cv] 44)
      have b6 := below_alloc wr (.cells #[.int .i64 t, .slice ak r.key.length ck, .slice av r.val.length cv] 44)
      have B6 := nxt B0 b6
      have own6 := owns_below own0 b6
      have wt : IntKind.i64.wrap (t - lst) = t - lst := by rw [IntKind.wrap_i64]; omega
      have wk : IntKind.u64.wrap (r.key.length : Int) = (r.key.length : Int) := by rw [IntKind.wrap_u64]; omega
      have wv : IntKind.u64.wrap (r.val.length : Int) = (r.val.length : Int) := by rw [IntKind.wrap_u64]; omega
      clear ht own0 B0
      go_upto_region 9 with fail
      obtain ⟨w6', hw6⟩ : ∃ x, x = wr.alloc (.cells #[.int .i64 t, .slice ak r.key.length ck, .slice av r.val.length cv] 44) := ⟨_, rfl⟩
      obtain ⟨g6, hg6⟩ : ∃ g6, g6 = wr.heap.size := ⟨_, rfl⟩
      rw [← hw6] at row0 B6 own6 ⊢
      rw [← hg6] at row0 ⊢
      clear hw6 hg6 b6 p0 p1 p2 d0 d1 d2
      obtain ⟨w20, hw20⟩ : ∃ x, x = w6' := ⟨_, rfl⟩
      rw [← hw20] at row0 B6 own6 ⊢
      clear hw20
      have B20 := B6
      have own20 := own6
      have row20 := row0
      obtain ⟨em20, hem20⟩ : ∃ x, x = em0 := ⟨_, rfl⟩
      have hl20 : em20.length ≤ 40000 := by rw [hem20]; exact heml
      rw [← hem20] at own20 ⊢
      have HEM20 := Lib.hid hem20
      have hpl1 := putL_len10 (fold (t - lst)) (fold_lt _ (by omega) (by omega))
      have hpl2 := putL_len10 r.key.length (by omega)
      have hpl3 := putL_len10 r.val.length (by omega)
      have hpi := fun W => refPutInt_calls (t - lst) W ⟨by omega, by omega⟩
      have hpk := fun W => refPut_calls r.key.length W (by unfold U64; omega)
      have hpv := fun W => refPut_calls r.val.length W (by unfold U64; omega)
      unfold NewRow at hpi hpk hpv
      clear hem20 B6 own6 row0 heml
      have e0_20 : w20.cell? ⟨g6, 0, none⟩ = some (.int .i64 t) := cell_of_row _ _ 0 _ _ _ row20
      have e1_20 : w20.cell? ⟨g6, 1, none⟩ = some (.slice ak r.key.length ck) := cell_of_row _ _ 1 _ _ _ row20
      have e2_20 : w20.cell? ⟨g6, 2, none⟩ = some (.slice av r.val.length cv) := cell_of_row _ _ 2 _ _ _ row20
      go_wp2_with fail
      with_reducible refine (hpi w20).mono ?_
      rintro e w21 ⟨v21, rfl, o21, b21⟩
      have B21 := nxt B20 b21
      have own21 := owns_below own20 b21
      have rx21 := Rd.of_owns o21
      obtain ⟨a21, c21, rfl⟩ := owns_slice o21
      obtain ⟨em21, hem21⟩ : ∃ em21, em21 = em20 := ⟨_, rfl⟩
      rw [← hem21] at own21 ⊢
      have hl21 := hl20
      rw [← hem21] at hl21
      have HEM21 := Lib.hid hem21
      have row21 := heap_below b21 row20
      clear o21 own20 B20 hem21 row20
      clear e0_20 e1_20 e2_20
      have e0_21 : w21.cell? ⟨g6, 0, none⟩ = some (.int .i64 t) := cell_of_row _ _ 0 _ _ _ row21
      have e1_21 : w21.cell? ⟨g6, 1, none⟩ = some (.slice ak r.key.length ck) := cell_of_row _ _ 1 _ _ _ row21
      have e2_21 : w21.cell? ⟨g6, 2, none⟩ = some (.slice av r.val.length cv) := cell_of_row _ _ 2 _ _ _ row21
      go_wp2_with (at_builtin; refine wpList_append_rdg rfl _ _ 42 rfl w1.heap.size 5 i0 (.int .u8 0) 1 1 Tryd.underlying42 hi hz0 hz1 hz2 rfl (by decide) _ em21.length (bvs em21) rfl own21 _ _ (bvs (putL (fold (t - lst)))) rfl rx21 (bvs_one _) ?c3 ?c4 ?c5 ?_)
      case c3 => unfold maxLen; omega
      case c4 => omega
      case c5 => exact B21.size
      intro v22 w22 o22 gr22 Tr22
      have B22 := Tr22 w1 B21 (Nat.le_refl _)
      have row22 : w22.heap[g6]? = some (.cells #[.int .i64 t, .slice ak r.key.length ck, .slice av r.val.length cv] 44 (0, 0)) := (gr22.block g6 (Array.getElem?_eq_some_iff.1 row21).1 (fun e => owns_ne own21 row21 (by decide) e.symm)).trans row21
      have own22 : w22.ownsRow w1.heap.size 5 1 v22 (em21 ++ putL (fold (t - lst))).length (bvs (em21 ++ putL (fold (t - lst)))) := by rw [bvs_append, List.length_append]; exact o22
      obtain ⟨em22, hem22⟩ : ∃ em22, em22 = em21 ++ putL (fold (t - lst)) := ⟨_, rfl⟩
      rw [← hem22] at own22
      have hl22 : em22.length ≤ 40010 := by rw [hem22, List.length_append]; omega
      have HEM22 := Lib.hid hem22
      obtain ⟨a22, c22, rfl⟩ := owns_slice own22
      clear Tr22 o22 gr22 own21 rx21 B21 hem22 row21
      clear e0_21 e1_21 e2_21
      have e0_22 : w22.cell? ⟨g6, 0, none⟩ = some (.int .i64 t) := cell_of_row _ _ 0 _ _ _ row22
      have e1_22 : w22.cell? ⟨g6, 1, none⟩ = some (.slice ak r.key.length ck) := cell_of_row _ _ 1 _ _ _ row22
      have e2_22 : w22.cell? ⟨g6, 2, none⟩ = some (.slice av r.val.length cv) := cell_of_row _ _ 2 _ _ _ row22
      go_wp2_with fail
      with_reducible refine (hpk w22).mono ?_
      rintro e w23 ⟨v23, rfl, o23, b23⟩
      have B23 := nxt B22 b23
      have own23 := owns_below own22 b23
      have rx23 := Rd.of_owns o23
      obtain ⟨a23, c23, rfl⟩ := owns_slice o23
      obtain ⟨em23, hem23⟩ : ∃ em23, em23 = em22 := ⟨_, rfl⟩
      rw [← hem23] at own23 ⊢
      have hl23 := hl22
      rw [← hem23] at hl23
      have HEM23 := Lib.hid hem23
      have row23 := heap_below b23 row22
      clear o23 own22 B22 hem23 row22
      clear e0_22 e1_22 e2_22
      have e0_23 : w23.cell? ⟨g6, 0, none⟩ = some (.int .i64 t) := cell_of_row _ _ 0 _ _ _ row23
      have e1_23 : w23.cell? ⟨g6, 1, none⟩ = some (.slice ak r.key.length ck) := cell_of_row _ _ 1 _ _ _ row23
      have e2_23 : w23.cell? ⟨g6, 2, none⟩ = some (.slice av r.val.length cv) := cell_of_row _ _ 2 _ _ _ row23
      go_wp2_with (at_builtin; refine wpList_append_rdg rfl _ _ 42 rfl w1.heap.size 5 i0 (.int .u8 0) 1 1 Tryd.underlying42 hi hz0 hz1 hz2 rfl (by decide) _ em23.length (bvs em23) rfl own23 _ _ (bvs (putL r.key.length)) rfl rx23 (bvs_one _) ?c3 ?c4 ?c5 ?_)
      case c3 => unfold maxLen; omega
      case c4 => omega
      case c5 => exact B23.size
      intro v24 w24 o24 gr24 Tr24
      have B24 := Tr24 w1 B23 (Nat.le_refl _)
      have row24 : w24.heap[g6]? = some (.cells #[.int .i64 t, .slice ak r.key.length ck, .slice av r.val.length cv] 44 (0, 0)) := (gr24.block g6 (Array.getElem?_eq_some_iff.1 row23).1 (fun e => owns_ne own23 row23 (by decide) e.symm)).trans row23
      have own24 : w24.ownsRow w1.heap.size 5 1 v24 (em23 ++ putL r.key.length).length (bvs (em23 ++ putL r.key.length)) := by rw [bvs_append, List.length_append]; exact o24
      obtain ⟨em24, hem24⟩ : ∃ em24, em24 = em23 ++ putL r.key.length := ⟨_, rfl⟩
      rw [← hem24] at own24
      have hl24 : em24.length ≤ 40020 := by rw [hem24, List.length_append]; omega
      have HEM24 := Lib.hid hem24
      obtain ⟨a24, c24, rfl⟩ := owns_slice own24
      clear Tr24 o24 gr24 own23 rx23 B23 hem24 row23
      clear e0_23 e1_23 e2_23
      have e0_24 : w24.cell? ⟨g6, 0, none⟩ = some (.int .i64 t) := cell_of_row _ _ 0 _ _ _ row24
      have e1_24 : w24.cell? ⟨g6, 1, none⟩ = some (.slice ak r.key.length ck) := cell_of_row _ _ 1 _ _ _ row24
      have e2_24 : w24.cell? ⟨g6, 2, none⟩ = some (.slice av r.val.length cv) := cell_of_row _ _ 2 _ _ _ row24
      have rx24 := (hrk w24 B24).1
      go_wp2_with (at_builtin; refine wpList_append_rdg rfl _ _ 42 rfl w1.heap.size 5 i0 (.int .u8 0) 1 1 Tryd.underlying42 hi hz0 hz1 hz2 rfl (by decide) _ em24.length (bvs em24) rfl own24 _ _ (bvs (r.key)) rfl rx24 (bvs_one _) ?c3 ?c4 ?c5 ?_)
      case c3 => unfold maxLen; omega
      case c4 => omega
      case c5 => exact B24.size
      intro v25 w25 o25 gr25 Tr25
      have B25 := Tr25 w1 B24 (Nat.le_refl _)
      have row25 : w25.heap[g6]? = some (.cells #[.int .i64 t, .slice ak r.key.length ck, .slice av r.val.length cv] 44 (0, 0)) := (gr25.block g6 (Array.getElem?_eq_some_iff.1 row24).1 (fun e => owns_ne own24 row24 (by decide) e.symm)).trans row24
      have own25 : w25.ownsRow w1.heap.size 5 1 v25 (em24 ++ r.key).length (bvs (em24 ++ r.key)) := by rw [bvs_append, List.length_append]; exact o25
      obtain ⟨em25, hem25⟩ : ∃ em25, em25 = em24 ++ r.key := ⟨_, rfl⟩
      rw [← hem25] at own25
      have hl25 : em25.length ≤ 40084 := by rw [hem25, List.length_append]; omega
      have HEM25 := Lib.hid hem25
      obtain ⟨a25, c25, rfl⟩ := owns_slice own25
      clear Tr25 o25 gr25 own24 rx24 B24 hem25 row24
      clear e0_24 e1_24 e2_24
      have e0_25 : w25.cell? ⟨g6, 0, none⟩ = some (.int .i64 t) := cell_of_row _ _ 0 _ _ _ row25
      have e1_25 : w25.cell? ⟨g6, 1, none⟩ = some (.slice ak r.key.length ck) := cell_of_row _ _ 1 _ _ _ row25
      have e2_25 : w25.cell? ⟨g6, 2, none⟩ = some (.slice av r.val.length cv) := cell_of_row _ _ 2 _ _ _ row25
      go_wp2_with fail
      with_reducible refine (hpv w25).mono ?_
      rintro e w26 ⟨v26, rfl, o26, b26⟩
      have B26 := nxt B25 b26
      have own26 := owns_below own25 b26
      have rx26 := Rd.of_owns o26
      obtain ⟨a26, c26, rfl⟩ := owns_slice o26
      obtain ⟨em26, hem26⟩ : ∃ em26, em26 = em25 := ⟨_, rfl⟩
      rw [← hem26] at own26 ⊢
      have hl26 := hl25
      rw [← hem26] at hl26
      have HEM26 := Lib.hid hem26
      have row26 := heap_below b26 row25
      clear o26 own25 B25 hem26 row25
      clear e0_25 e1_25 e2_25
      have e0_26 : w26.cell? ⟨g6, 0, none⟩ = some (.int .i64 t) := cell_of_row _ _ 0 _ _ _ row26
      have e1_26 : w26.cell? ⟨g6, 1, none⟩ = some (.slice ak r.key.length ck) := cell_of_row _ _ 1 _ _ _ row26
      have e2_26 : w26.cell? ⟨g6, 2, none⟩ = some (.slice av r.val.length cv) := cell_of_row _ _ 2 _ _ _ row26
      go_wp2_with (at_builtin; refine wpList_append_rdg rfl _ _ 42 rfl w1.heap.size 5 i0 (.int .u8 0) 1 1 Tryd.underlying42 hi hz0 hz1 hz2 rfl (by decide) _ em26.length (bvs em26) rfl own26 _ _ (bvs (putL r.val.length)) rfl rx26 (bvs_one _) ?c3 ?c4 ?c5 ?_)
      case c3 => unfold maxLen; omega
      case c4 => omega
      case c5 => exact B26.size
      intro v27 w27 o27 gr27 Tr27
      have B27 := Tr27 w1 B26 (Nat.le_refl _)
      have row27 : w27.heap[g6]? = some (.cells #[.int .i64 t, .slice ak r.key.length ck, .slice av r.val.length cv] 44 (0, 0)) := (gr27.block g6 (Array.getElem?_eq_some_iff.1 row26).1 (fun e => owns_ne own26 row26 (by decide) e.symm)).trans row26
      have own27 : w27.ownsRow w1.heap.size 5 1 v27 (em26 ++ putL r.val.length).length (bvs (em26 ++ putL r.val.length)) := by rw [bvs_append, List.length_append]; exact o27
      obtain ⟨em27, hem27⟩ : ∃ em27, em27 = em26 ++ putL r.val.length := ⟨_, rfl⟩
      rw [← hem27] at own27
      have hl27 : em27.length ≤ 40094 := by rw [hem27, List.length_append]; omega
      have HEM27 := Lib.hid hem27
      obtain ⟨a27, c27, rfl⟩ := owns_slice own27
      clear Tr27 o27 gr27 own26 rx26 B26 hem27 row26
      clear e0_26 e1_26 e2_26
      have e0_27 : w27.cell? ⟨g6, 0, none⟩ = some (.int .i64 t) := cell_of_row _ _ 0 _ _ _ row27
      have e1_27 : w27.cell? ⟨g6, 1, none⟩ = some (.slice ak r.key.length ck) := cell_of_row _ _ 1 _ _ _ row27
      have e2_27 : w27.cell? ⟨g6, 2, none⟩ = some (.slice av r.val.length cv) := cell_of_row _ _ 2 _ _ _ row27
      have rx27 := (hrk w27 B27).2
      go_wp2_with (at_builtin; refine wpList_append_rdg rfl _ _ 42 rfl w1.heap.size 5 i0 (.int .u8 0) 1 1 Tryd.underlying42 hi hz0 hz1 hz2 rfl (by decide) _ em27.length (bvs em27) rfl own27 _ _ (bvs (r.val)) rfl rx27 (bvs_one _) ?c3 ?c4 ?c5 ?_)
      case c3 => unfold maxLen; omega
      case c4 => omega
      case c5 => exact B27.size
      intro v28 w28 o28 gr28 Tr28
      have B28 := Tr28 w1 B27 (Nat.le_refl _)
      have row28 : w28.heap[g6]? = some (.cells #[.int .i64 t, .slice ak r.key.length ck, .slice av r.val.length cv] 44 (0, 0)) := (gr28.block g6 (Array.getElem?_eq_some_iff.1 row27).1 (fun e => owns_ne own27 row27 (by decide) e.symm)).trans row27
      have own28 : w28.ownsRow w1.heap.size 5 1 v28 (em27 ++ r.val).length (bvs (em27 ++ r.val)) := by rw [bvs_append, List.length_append]; exact o28
      obtain ⟨em28, hem28⟩ : ∃ em28, em28 = em27 ++ r.val := ⟨_, rfl⟩
      rw [← hem28] at own28
      have hl28 : em28.length ≤ 40606 := by rw [hem28, List.length_append]; omega
      have HEM28 := Lib.hid hem28
      obtain ⟨a28, c28, rfl⟩ := owns_slice own28
      clear Tr28 o28 gr28 own27 rx27 B27 hem28 row27
      clear e0_27 e1_27 e2_27
      have e0_28 : w28.cell? ⟨g6, 0, none⟩ = some (.int .i64 t) := cell_of_row _ _ 0 _ _ _ row28
      have e1_28 : w28.cell? ⟨g6, 1, none⟩ = some (.slice ak r.key.length ck) := cell_of_row _ _ 1 _ _ _ row28
      have e2_28 : w28.cell? ⟨g6, 2, none⟩ = some (.slice av r.val.length cv) := cell_of_row _ _ 2 _ _ _ row28
      go_wp2_with fail
      refine ⟨⟨i + 1, t, em28, by go_num, by omega, rfl, ⟨hro.1, hro.2.1⟩, Lib.hid ?_, own28, B28⟩, by simp [intOf]; omega⟩
      rw [HEM28.out, HEM27.out, HEM26.out, HEM25.out, HEM24.out, HEM23.out, HEM22.out, HEM21.out, HEM20.out, ← HE2.out]
      unfold recL
      rw [HT.out]
      simp
    · obtain rfl : i = l.length := by omega
      have hem : em0 = BL := by have := HE.out; rw [List.drop_of_length_le (Nat.le_refl _)] at this; simpa [recsL] using this
      subst hem
      have wl : IntKind.u64.wrap (em0.length : Int) = (em0.length : Int) := by rw [IntKind.wrap_u64]; omega
      have hla := refLittle_calls em0.length 4 wr (by omega)
      obtain ⟨sm, hsm⟩ : ∃ sm, sm = (Crc.sum em0).toNat := ⟨_, rfl⟩
      have hsb : sm < 4294967296 := by rw [hsm]; exact (Crc.sum em0).isLt
      have ws : IntKind.u64.wrap (sm : Int) = (sm : Int) := by rw [IntKind.wrap_u64]; omega
      have hlb := fun W => refLittle_calls sm 4 W (by omega)
      unfold NewRow at hla hlb
      rw [show ((4 : Nat) : Int) = 4 from rfl] at hla hlb
      clear HE heml d0 d1 d2
      go_wp2_with fail
      with_reducible refine hla.mono ?_
      rintro e w20 ⟨v20, rfl, o20, b20⟩
      obtain ⟨a20, c20, rfl⟩ := owns_slice o20
      have hsu := refSum_calls _ em0 w20 (Rd.of_owns (owns_below own0 b20))
      rw [← hsm] at hsu
      have HSM := Lib.hid hsm
      clear hla hsm
      go_wp2_with fail
      with_reducible refine hsu.mono ?_
      rintro e w21 ⟨rfl, rfl⟩
      clear hsu
      go_wp2_with fail
      with_reducible refine (hlb _).mono ?_
      rintro e w22 ⟨v22, rfl, o22, b22⟩
      obtain ⟨a22, c22, rfl⟩ := owns_slice o22
      have b202 := nxt b20 b22
      have B22 := nxt B0 b202
      have rx : Rd w22 1 (.slice a22 4 c22) (lit sm 4).length (bvs (lit sm 4)) := by rw [lit_length]; exact Rd.of_owns o22
      have hs4 : (lit sm 4).length = 4 := lit_length _ _
      have own22 := owns_below o20 b22
      have hsz := b20.size
      have hsz2 := b22.size
      clear hlb o20 o22
      go_wp2_with (at_builtin; refine wpList_append_rdg rfl _ _ 42 rfl wr.heap.size 5 i0 (.int .u8 0) 1 1 Tryd.underlying42 hi hz0 hz1 hz2 rfl (by decide) _ 4 (bvs (lit em0.length 4)) rfl own22 _ _ (bvs (lit sm 4)) rfl rx (bvs_one _) ?c3 ?c4 ?c5 ?_)
      case c3 => unfold maxLen; omega
      case c4 => omega
      case c5 => omega
      intro v23 w23 o23 gr23 Tr23
      have b23 := Tr23 wr b202 (Nat.le_refl _)
      have own0b := owns_below own0 b23
      have B23 := nxt B0 b23
      have own23 : w23.ownsRow wr.heap.size 5 1 v23 (lit em0.length 4 ++ lit sm 4).length (bvs (lit em0.length 4 ++ lit sm 4)) := by rw [bvs_append, List.length_append, lit_length, lit_length]; exact o23
      have hl8 : (lit em0.length 4 ++ lit sm 4).length = 8 := by rw [List.length_append, lit_length, lit_length]
      obtain ⟨hd, hhd⟩ : ∃ hd, hd = lit em0.length 4 ++ lit sm 4 := ⟨_, rfl⟩
      rw [← hhd] at own23 hl8
      have HHD := Lib.hid hhd
      obtain ⟨a23, c23, rfl⟩ := owns_slice own23
      have r0 := Rd.of_owns own0b
      clear hhd Tr23 gr23 o23 own22 rx
      go_wp2_with (at_builtin; refine wpList_append_rdg rfl _ _ 42 rfl wr.heap.size 5 i0 (.int .u8 0) 1 1 Tryd.underlying42 hi hz0 hz1 hz2 rfl (by decide) _ hd.length (bvs hd) rfl own23 _ _ (bvs em0) rfl r0 (bvs_one _) ?c3 ?c4 ?c5 ?_)
      case c3 => unfold maxLen; omega
      case c4 => omega
      case c5 => exact b23.size
      intro v24 w24 o24 gr24 Tr24
      have b24 := Tr24 wr b23 (Nat.le_refl _)
      clear Tr24 gr24 own23 r0
      go_wp2_with fail
      go_ret
      refine ⟨v24, rfl, ?_, nxt b1 (nxt B0 b24)⟩
      rw [HBYTES.out, ← HSM.out, ← List.append_assoc, ← HHD.out, List.length_append, hl8, bvs_append]
      exact owns_base o24 (Nat.le_trans b1.size B0.size)

set_option maxRecDepth 100000 in
set_option maxHeartbeats 1000000 in
theorem refSize_calls {w : World} {b : BatD} {v : Value} (h : RecsRd w v b.recs) (hbb : -9223372036854775808 ≤ b.base ∧ b.base ≤ 9223372036854775807) :
    Calls Tryd.prog 22 #[batA b v] w (fun e w' => e = .returned (.int .i64 (sizeB b : Nat)) ∧ Below w.heap.size w w') := by
  have hva := fun W (hB : Below w.heap.size w W) => refValid_calls (h.below hB) hbb
  have hby := fun (hv : valid b = 0) W (hB : Below w.heap.size w W) => refBatch_calls hv (h.below hB)
  unfold NewRow at hby
  have hsz : sizeB b = if valid b = 0 then (bytesL b).length else 0 := rfl
  have HSZ := Lib.hid hsz
  obtain ⟨a, c, rfl⟩ := h.slice
  obtain ⟨vc, hvc⟩ : ∃ vc, vc = valid b := ⟨_, rfl⟩
  rw [← hvc] at hva hby HSZ
  obtain ⟨ba, ep, l⟩ := b
  unfold batA at hva hby ⊢
  simp only at hva hby ⊢
  have b1 := below_alloc w (.cells #[.int .i64 ba, .int .i64 ep, .slice a l.length c] 34)
  have row1 := heap_alloc_new w (.cells #[.int .i64 ba, .int .i64 ep, .slice a l.length c] 34)
  clear hsz hvc
  go_enter Tryd.func22, Tryd.ntmps22
  go_upto_region 1 with fail
  generalize w.alloc (.cells #[.int .i64 ba, .int .i64 ep, .slice a l.length c] 34) = w1 at *
  obtain ⟨g, hg⟩ : ∃ g, g = w.heap.size := ⟨_, rfl⟩
  rw [← hg] at row1 ⊢
  clear hg
  have d0 : w1.cell? ⟨g, 0, none⟩ = some (.int .i64 ba) := cell_of_row _ _ 0 _ _ _ row1
  have d1 : w1.cell? ⟨g, 1, none⟩ = some (.int .i64 ep) := cell_of_row _ _ 1 _ _ _ row1
  have d2 : w1.cell? ⟨g, 2, none⟩ = some (.slice a l.length c) := cell_of_row _ _ 2 _ _ _ row1
  by_cases hv : vc = 0
  · have HS2 := Lib.hid (HSZ.out.trans (if_pos hv))
    have hby2 := hby hv
    have hn : ((vc : Int) != 0) = false := by rw [hv]; rfl
    clear hv hby HSZ
    go_wp2_with fail
    with_reducible refine (hva _ b1).mono ?_
    rintro e w2 ⟨rfl, b2⟩
    have row2 := heap_below b2 row1
    clear d0 d1 d2 hva
    have d0 : w2.cell? ⟨g, 0, none⟩ = some (.int .i64 ba) := cell_of_row _ _ 0 _ _ _ row2
    have d1 : w2.cell? ⟨g, 1, none⟩ = some (.int .i64 ep) := cell_of_row _ _ 1 _ _ _ row2
    have d2 : w2.cell? ⟨g, 2, none⟩ = some (.slice a l.length c) := cell_of_row _ _ 2 _ _ _ row2
    go_wp2_with fail
    with_reducible refine (hby2 _ (nxt b1 b2)).mono ?_
    rintro e w3 ⟨v3, rfl, o3, b3⟩
    obtain ⟨a3, c3, rfl⟩ := owns_slice o3
    go_wp2_with fail
    go_ret
    rw [HS2.out]
    exact ⟨rfl, nxt b1 (nxt b2 b3)⟩
  · have HS2 := Lib.hid (HSZ.out.trans (if_neg hv))
    have hn : ((vc : Int) != 0) = true := by rw [bne_iff_ne]; omega
    clear hv hby HSZ
    go_wp2_with fail
    with_reducible refine (hva _ b1).mono ?_
    rintro e w2 ⟨rfl, b2⟩
    go_wp2_with fail
    go_ret
    rw [HS2.out]
    exact ⟨rfl, nxt b1 b2⟩
end Go.Proofs.YtlfbdcgojbfcaaaDoor
