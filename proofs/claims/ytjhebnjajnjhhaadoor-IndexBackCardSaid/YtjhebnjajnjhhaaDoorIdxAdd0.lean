/- index.Add: a batch that may be added, the first one. -/
import Derived.Test.YtjhebnjajnjhhaaDoorIdxAddBase
import Derived.Deep.RegionLaw
import Derived.Deep.DeepCutAuto
namespace Go.Proofs.YtjhebnjajnjhhaaDoor
open Go Go.RowKit Idx

set_option maxRecDepth 100000 in
set_option maxHeartbeats 2000000 in
theorem idxAdd0_calls {w : World} {F : Nat → Prop} {g : Nat} {x : Ix} (h : IdxAt w F g x) (m : Mk) (size : Int) (hne : x.adds.length = 0) (hmay : Idx.may x m size = true) (hl1 : x.marks.length ≤ 1000000) (hl2 : x.adds.length ≤ 1000000) (hp : ∀ k ∈ x.marks, 0 ≤ k.pos ∧ k.pos ≤ 1073741824) :
    Calls Tryd.prog 19 #[.pointer (some ⟨g, 0, none⟩), .int .i64 m.off, .int .i64 m.time, .int .i64 m.pos, .int .i64 size] w (AddPost F g (Idx.add x m) w) := by
  obtain ⟨i0, hi, hz0, hz1, hz2⟩ := info_parts info_mark
  obtain ⟨vm, va, h⟩ := h
  have hright : Idx.right m = true := by unfold Idx.may at hmay; simp at hmay; exact hmay.1.1
  have hsize : 1 ≤ size := by unfold Idx.may at hmay; simp at hmay; exact hmay.1.2
  have hmp : 0 ≤ m.pos ∧ m.pos ≤ 1073741824 := by unfold Idx.right at hright; rw [decide_eq_true_eq] at hright; omega
  have b1 := below_alloc w (.cells #[.int .i64 m.off, .int .i64 m.time, .int .i64 m.pos] 34)
  have rowm := heap_alloc_new w (.cells #[.int .i64 m.off, .int .i64 m.time, .int .i64 m.pos] 34)
  have h1 := h.below b1
  have HRI := Lib.hid hright
  have hr := (idxRight_calls m (w.alloc (.cells #[.int .i64 m.off, .int .i64 m.time, .int .i64 m.pos] 34)))
  rw [hright] at hr
  obtain ⟨na, hna⟩ : ∃ na, na = x.adds.length := ⟨_, rfl⟩
  obtain ⟨nm, hnm⟩ : ∃ nm, nm = x.marks.length := ⟨_, rfl⟩
  have hoa := h.adds
  have hom := h.marks
  rw [← hna] at hoa hl2
  rw [← hnm] at hom hl1
  obtain ⟨aa, ca, rfl⟩ := owns_slice hoa
  obtain ⟨am, cm, rfl⟩ := owns_slice hom
  have hbm : g < w.heap.size := h.old g h.mine
  clear hright
  obtain rfl : na = 0 := by omega
  have HNA := Lib.hid hna
  have HNM := Lib.hid hnm
  have H1 := Lib.hid h1
  clear hna hnm hmay hne hoa hom
  go_enter Tryd.func19, Tryd.ntmps19
  go_wp2_with fail
  refine hr.mono ?_
  rintro e w2 ⟨rfl, b2⟩
  have h2 := H1.out.below b2
  have rowm2 := heap_below b2 rowm
  have c2 : w2.cell? ⟨g, 2, none⟩ = some (.slice aa 0 ca) := cell_of_row w2 g 2 _ _ _ h2.row
  have oa2 : w2.ownsRow 0 34 3 (.slice aa 0 ca) 0 (x.adds.flatMap adV) := by have := h2.adds; rwa [← HNA.out] at this
  go_wp2_with (at_builtin; refine wpList_append_where rfl _ _ 31 rfl 34 i0 _ 3 24 Tryd.underlying31 hi hz0 hz1 hz2 rfl (by decide) _ 0 (x.adds.flatMap adV) rfl (oa2.alloc _) ⟨w2.heap.size, 0, none⟩ 1 1 [.int .i64 m.off, .int .i64 0, .int .i64 m.pos] rfl (by rfl) (cells_new w2 #[.int .i64 m.off, .int .i64 0, .int .i64 m.pos] 34) ?c1 ?c3 ?c4 ?_)
  case c1 => simp [Value.oneCell']
  case c3 => unfold maxLen; omega
  case c4 => omega
  intro va' w3 o3 g3 wh3
  obtain ⟨av3, cv3, rfl⟩ := owns_slice o3
  have hb3 := below_alloc w2 (.cells #[.int .i64 m.off, .int .i64 0, .int .i64 m.pos] 34)
  have hadd := (h2.below hb3).added (x.adds ++ [(m.off, m.pos)]) (by rw [List.length_append, ← HNA.out, List.flatMap_append]; exact o3) g3 (by simpa using wh3)
  obtain ⟨h4, f4, row3⟩ := hadd
  have c30 : w3.cell? ⟨g, 0, none⟩ = some (.int .i64 x.every) := cell_of_row w3 g 0 _ _ _ row3
  have c31 : w3.cell? ⟨g, 1, none⟩ = some (.slice am nm cm) := cell_of_row w3 g 1 _ _ _ row3
  have c32 : w3.cell? ⟨g, 2, none⟩ = some (.slice aa 0 ca) := cell_of_row w3 g 2 _ _ _ row3
  have c33 : w3.cell? ⟨g, 3, none⟩ = some (.int .i64 x.time) := cell_of_row w3 g 3 _ _ _ row3
  have z31 := frozen_of_row w3 g 1 _ _ row3
  have z32 := frozen_of_row w3 g 2 _ _ row3
  have z33 := frozen_of_row w3 g 3 _ _ row3
  have h5 := fun t => h4.timed t
  have H4 := Lib.hid h4
  have HF4 := Lib.hid f4
  have H5 := Lib.hid h5
  clear h4 f4 h5 o3 g3 hb3 oa2 c2 row3
  have wh3' : ∀ q, (Value.slice av3 1 cv3).ownBlock = some q → F q ∨ w2.heap.size + 1 ≤ q := fun q hq => by
    rcases wh3 q hq with h11 | h11
    · exact .inl (h.inA q (by first | exact h11 | (rw [← HNA.out]; exact h11)))
    · right; omega
  obtain ⟨T, hT, hTc⟩ : ∃ T, T = max x.time m.time ∧ (x.time < m.time ∧ T = m.time ∨ ¬ x.time < m.time ∧ T = x.time) := ⟨_, rfl, by omega⟩
  have HT := Lib.hid hT
  clear hT wh3
  rcases hTc with ⟨hlt, hT2⟩ | ⟨hlt, hT2⟩
  all_goals (
    have HT2 := Lib.hid hT2
    clear hT2
    go_upto_region 9 with fail
    rw [← HT2.out]
    obtain ⟨h6, f6⟩ := H5.out T
    have rowW : ((w3.setCell ⟨g, 2, none⟩ (.slice av3 1 cv3)).setCell ⟨g, 3, none⟩ (.int .i64 T)).heap[w.heap.size]? = some (.cells #[.int .i64 m.off, .int .i64 m.time, .int .i64 m.pos] 34 (0, 0)) := by
      refine f6.heap (HF4.out.heap (heap_below (below_alloc w2 _) rowm2) ?_) ?_
      · intro e; have := h.old _ e; omega
      · rintro (e | e)
        · have := h.old _ e; omega
        · rcases wh3' _ e with h11 | h11
          · have := h.old _ h11; omega
          · have := b2.size; simp at this; omega
    have fW : Frame F w ((w3.setCell ⟨g, 2, none⟩ (.slice av3 1 cv3)).setCell ⟨g, 3, none⟩ (.int .i64 T)) := by
      refine Frame.after_below (nxt (nxt b1 b2) (below_alloc w2 _)) (HF4.out.trans f6 (fun q hq => ?_))
      rcases hq with hq | hq
      · exact .inl hq
      · rcases wh3' q hq with h11 | h11
        · exact .inl h11
        · right; simp; omega
    generalize (w3.setCell ⟨g, 2, none⟩ (.slice av3 1 cv3)).setCell ⟨g, 3, none⟩ (.int .i64 T) = W at *
    have hF1 : ∀ q, (F q ∨ (Value.slice av3 1 cv3).ownBlock = some q) → F q ∨ w.heap.size ≤ q := fun q hq => by
      rcases hq with hq | hq
      · exact .inl hq
      · rcases wh3' q hq with h11 | h11
        · exact .inl h11
        · right; have := b2.size; simp at this; omega
    have hnotF : ∀ q, (F q ∨ (Value.slice av3 1 cv3).ownBlock = some q) → q ≠ w.heap.size := fun q hq e => by
      subst e
      rcases hq with hq | hq
      · have := h.old _ hq; omega
      · rcases wh3' _ hq with h11 | h11
        · have := h.old _ h11; omega
        · have := b2.size; simp at this; omega
    have cW0 : W.cell? ⟨g, 0, none⟩ = some (.int .i64 x.every) := cell_of_row W g 0 _ _ _ h6.row
    have cW1 : W.cell? ⟨g, 1, none⟩ = some (.slice am nm cm) := cell_of_row W g 1 _ _ _ h6.row
    have omW : W.ownsRow 0 34 3 (.slice am nm cm) nm (x.marks.flatMap mkV) := by have := h6.marks; rw [show ({ x with adds := x.adds ++ [(m.off, m.pos)], time := T } : Ix).marks = x.marks from rfl, ← HNM.out] at this; exact this
    have b12 := nxt b1 b2
    clear c30 c31 c32 c33 z31 z32 z33 H4 HF4 H5 f6 hr rowm rowm2 h2 H1 b2 b1
    rcases Nat.eq_zero_or_pos nm with hz | hz
    · subst hz
      have HMK := Lib.hid (show Idx.marked x m.pos = true by
        have h0 := HNM.out
        unfold Idx.marked
        rw [List.eq_nil_of_length_eq_zero h0.symm]; rfl)
      go_wp2_with fail
      go_quiet (fail)
      have g6 := h6.below (below_drewN (Below.refl _ _) nq)
      have rowWW : (W.drewN nq).heap[w.heap.size]? = some (.cells #[.int .i64 m.off, .int .i64 m.time, .int .i64 m.pos] 34 (0, 0)) := rowW
      have fWW := fW.then_below (below_drewN (Below.refl _ _) nq)
      clear h6 rowW fW cW0 cW1 omW
      generalize W.drewN nq = WW at *
      have cW3 : WW.cell? ⟨g, 3, none⟩ = some (.int .i64 T) := cell_of_row WW g 3 _ _ _ g6.row
      have mW1 : WW.cell? ⟨w.heap.size, 1, none⟩ = some (.int .i64 m.time) := cell_of_row WW _ 1 _ _ _ rowWW
      have zW1 := frozen_of_row WW w.heap.size 1 _ _ rowWW
      have t7 := Touch.setCell (g := w.heap.size) WW 1 (.int .i64 T)
      have row7 := heap_setCell_same _ w.heap.size 1 _ _ (.int .i64 T) rowWW
      have h7 := g6.frame (Frame.of_touch (F := fun q => q = w.heap.size) t7 rfl) (fun q hq e => hnotF q hq e)
      go_wp2_with fail
      generalize WW.setCell ⟨w.heap.size, 1, none⟩ (.int .i64 T) = W7 at *
      have c71 : W7.cell? ⟨g, 1, none⟩ = some (.slice am 0 cm) := cell_of_row W7 g 1 _ _ _ h7.row
      have m70 : W7.cell? ⟨w.heap.size, 0, none⟩ = some (.int .i64 m.off) := cell_of_row W7 _ 0 _ _ _ row7
      have m71 : W7.cell? ⟨w.heap.size, 1, none⟩ = some (.int .i64 T) := cell_of_row W7 _ 1 _ _ _ row7
      have m72 : W7.cell? ⟨w.heap.size, 2, none⟩ = some (.int .i64 m.pos) := cell_of_row W7 _ 2 _ _ _ row7
      have om7 : W7.drew.ownsRow 0 34 3 (.slice am 0 cm) 0 (x.marks.flatMap mkV) := by have := h7.marks; rw [show ({ x with adds := x.adds ++ [(m.off, m.pos)], time := T } : Ix).marks = x.marks from rfl, ← HNM.out] at this; exact this
      have e8 : Below W7.heap.size W7 W7.drew := (Below.refl _ _).drew
      have hb9 := below_alloc W7.drew (.cells #[.int .i64 m.off, .int .i64 T, .int .i64 m.pos] 34)
      have h8 := (h7.below e8).below hb9
      have c81 : (W7.alloc (.cells #[.int .i64 m.off, .int .i64 T, .int .i64 m.pos] 34)).cell? ⟨g, 1, none⟩ = some (.slice am 0 cm) := by
        rw [(below_alloc W7 _).cell (World.block_lt_of_cell? _ _ c71)]; exact c71
      clear cW3 mW1 zW1
      go_region_law (refine step_append_where rfl (.tmp 115) (.tmp 117) 31 rfl 34 i0 _ 3 24 Tryd.underlying31 hi hz0 hz1 hz2 rfl (by decide) _ 0 (x.marks.flatMap mkV) rfl (om7.alloc _) ⟨W7.heap.size, 0, none⟩ 1 1 [.int .i64 m.off, .int .i64 T, .int .i64 m.pos] rfl (by rfl) (cells_new W7.drew #[.int .i64 m.off, .int .i64 T, .int .i64 m.pos] 34) (by simp [Value.oneCell']) (by unfold maxLen; omega) (by omega) ?_; intro vm' w9 o9 g9 wh9; (obtain ⟨av9, cv9, rfl⟩ := owns_slice o9); have hm10 := h8.marked (x.marks ++ [⟨m.off, T, m.pos⟩]) (by rw [List.length_append, ← HNM.out, List.flatMap_append]; exact o9) g9 wh9; (obtain ⟨h10, f10, row9⟩ := hm10); have c91 : w9.cell? ⟨g, 1, none⟩ = some (.slice am 0 cm) := cell_of_row w9 g 1 _ _ _ row9; have z91 := frozen_of_row w9 g 1 _ _ row9)
      all_goals (
        have H10 := Lib.hid h10
        have HF10 := Lib.hid f10
        clear h10 f10 row9 o9 g9
        go_wp2_with fail
        go_ret
        unfold AddPost
        rw [add_marked HMK.out HT.out]
        refine ⟨rfl, _, ⟨_, _, H10.out⟩, ?_, ?_⟩
        · rintro q (hq | hq)
          · exact hF1 q hq
          · rcases wh9 q hq with h11 | h11
            · exact .inl (h.inM q h11)
            · exact .inr (Nat.le_trans (Nat.le_trans (Nat.le_trans (Nat.le_trans fWW.size t7.size) e8.size) hb9.size) h11)
        · refine (fWW.trans (Frame.of_touch (F := fun q => q = w.heap.size) t7 rfl) (fun q hq => .inr (by omega))).trans (Frame.after_below (nxt e8 hb9) HF10.out) (fun q hq => ?_)
          exact hF1 q hq)
    · obtain ⟨k2, hk2⟩ : ∃ k2, nm = k2 + 1 := ⟨nm - 1, by omega⟩
      obtain ⟨b3, rfl, hcm, y2, hy2, hy2m, p1, p2⟩ := last_mark omW HNM.out.symm k2 hk2
      have hyp := hp y2 hy2m
      have hwr : IntKind.i64.wrap (m.pos - y2.pos) = m.pos - y2.pos := by rw [IntKind.wrap_i64]; omega
      subst hk2
      have hg0 : ((k2 : Int) + 1 == 0) = false := by rw [beq_eq_false_iff_ne]; omega
      have hs1 : IntKind.i64.wrap ((k2 : Int) + 1 - 1) = (k2 : Int) := by rw [IntKind.wrap_i64]; omega
      by_cases hmk : x.every ≤ m.pos - y2.pos
      · have HMK := Lib.hid (show Idx.marked x m.pos = true by unfold Idx.marked; rw [hy2]; simpa using hmk)
        clear hy2 hz
        go_wp2_with fail
        go_quiet (fail)
        have g6 := h6.below (below_drewN (Below.refl _ _) nq)
        have rowWW : (W.drewN nq).heap[w.heap.size]? = some (.cells #[.int .i64 m.off, .int .i64 m.time, .int .i64 m.pos] 34 (0, 0)) := rowW
        have fWW := fW.then_below (below_drewN (Below.refl _ _) nq)
        clear h6 rowW fW cW0 cW1 omW
        generalize W.drewN nq = WW at *
        have cW3 : WW.cell? ⟨g, 3, none⟩ = some (.int .i64 T) := cell_of_row WW g 3 _ _ _ g6.row
        have mW1 : WW.cell? ⟨w.heap.size, 1, none⟩ = some (.int .i64 m.time) := cell_of_row WW _ 1 _ _ _ rowWW
        have zW1 := frozen_of_row WW w.heap.size 1 _ _ rowWW
        have t7 := Touch.setCell (g := w.heap.size) WW 1 (.int .i64 T)
        have row7 := heap_setCell_same _ w.heap.size 1 _ _ (.int .i64 T) rowWW
        have h7 := g6.frame (Frame.of_touch (F := fun q => q = w.heap.size) t7 rfl) (fun q hq e => hnotF q hq e)
        go_wp2_with fail
        generalize WW.setCell ⟨w.heap.size, 1, none⟩ (.int .i64 T) = W7 at *
        have c71 : W7.cell? ⟨g, 1, none⟩ = some (.slice (some ⟨b3, 0, none⟩) (k2 + 1) cm) := cell_of_row W7 g 1 _ _ _ h7.row
        have m70 : W7.cell? ⟨w.heap.size, 0, none⟩ = some (.int .i64 m.off) := cell_of_row W7 _ 0 _ _ _ row7
        have m71 : W7.cell? ⟨w.heap.size, 1, none⟩ = some (.int .i64 T) := cell_of_row W7 _ 1 _ _ _ row7
        have m72 : W7.cell? ⟨w.heap.size, 2, none⟩ = some (.int .i64 m.pos) := cell_of_row W7 _ 2 _ _ _ row7
        have om7 : W7.drew.ownsRow 0 34 3 (.slice (some ⟨b3, 0, none⟩) (k2 + 1) cm) (k2 + 1) (x.marks.flatMap mkV) := by have := h7.marks; rw [show ({ x with adds := x.adds ++ [(m.off, m.pos)], time := T } : Ix).marks = x.marks from rfl, ← HNM.out] at this; exact this
        have e8 : Below W7.heap.size W7 W7.drew := (Below.refl _ _).drew
        have hb9 := below_alloc W7.drew (.cells #[.int .i64 m.off, .int .i64 T, .int .i64 m.pos] 34)
        have h8 := (h7.below e8).below hb9
        have c81 : (W7.alloc (.cells #[.int .i64 m.off, .int .i64 T, .int .i64 m.pos] 34)).cell? ⟨g, 1, none⟩ = some (.slice (some ⟨b3, 0, none⟩) (k2 + 1) cm) := by
          rw [(below_alloc W7 _).cell (World.block_lt_of_cell? _ _ c71)]; exact c71
        clear cW3 mW1 zW1
        go_region_law (refine step_append_where rfl (.tmp 115) (.tmp 117) 31 rfl 34 i0 _ 3 24 Tryd.underlying31 hi hz0 hz1 hz2 rfl (by decide) _ (k2 + 1) (x.marks.flatMap mkV) rfl (om7.alloc _) ⟨W7.heap.size, 0, none⟩ 1 1 [.int .i64 m.off, .int .i64 T, .int .i64 m.pos] rfl (by rfl) (cells_new W7.drew #[.int .i64 m.off, .int .i64 T, .int .i64 m.pos] 34) (by simp [Value.oneCell']) (by unfold maxLen; omega) (by omega) ?_; intro vm' w9 o9 g9 wh9; (obtain ⟨av9, cv9, rfl⟩ := owns_slice o9); have hm10 := h8.marked (x.marks ++ [⟨m.off, T, m.pos⟩]) (by rw [List.length_append, ← HNM.out, List.flatMap_append]; exact o9) g9 wh9; (obtain ⟨h10, f10, row9⟩ := hm10); have c91 : w9.cell? ⟨g, 1, none⟩ = some (.slice (some ⟨b3, 0, none⟩) (k2 + 1) cm) := cell_of_row w9 g 1 _ _ _ row9; have z91 := frozen_of_row w9 g 1 _ _ row9)
        all_goals (
          have H10 := Lib.hid h10
          have HF10 := Lib.hid f10
          clear h10 f10 row9 o9 g9
          go_wp2_with fail
          go_ret
          unfold AddPost
          rw [add_marked HMK.out HT.out]
          refine ⟨rfl, _, ⟨_, _, H10.out⟩, ?_, ?_⟩
          · rintro q (hq | hq)
            · exact hF1 q hq
            · rcases wh9 q hq with h11 | h11
              · exact .inl (h.inM q h11)
              · exact .inr (Nat.le_trans (Nat.le_trans (Nat.le_trans (Nat.le_trans fWW.size t7.size) e8.size) hb9.size) h11)
          · refine (fWW.trans (Frame.of_touch (F := fun q => q = w.heap.size) t7 rfl) (fun q hq => .inr (by omega))).trans (Frame.after_below (nxt e8 hb9) HF10.out) (fun q hq => ?_)
            exact hF1 q hq)
      · have HMK := Lib.hid (show Idx.marked x m.pos = false by unfold Idx.marked; rw [hy2]; simpa using hmk)
        clear hy2 hz
        go_wp2_with fail
        go_quiet (fail)
        go_wp2_with fail
        go_ret
        unfold AddPost
        rw [add_unmarked HMK.out HT.out]
        exact ⟨rfl, _, ⟨_, _, h6.below (below_drewN (Below.refl _ _) nq)⟩, hF1, fW.then_below (below_drewN (Below.refl _ _) nq)⟩)
end Go.Proofs.YtjhebnjajnjhhaaDoor
