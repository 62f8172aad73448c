/- seg.From: a batch without the records ahead of an offset. -/
import Derived.Test.YtlfbdcgojbfcaaaDoorRecClone
namespace Go.Proofs.YtlfbdcgojbfcaaaDoor.Rec
def fromB (b : BatD) (o : Int) : BatD := if o ≤ b.base then b else ⟨o, b.epoch, b.recs.drop (min (o - b.base) b.recs.length).toNat⟩
end Go.Proofs.YtlfbdcgojbfcaaaDoor.Rec
namespace Go.Proofs.YtlfbdcgojbfcaaaDoor
open Go Go.RowKit Rec

theorem recV_one (l : List RecR) (hl : ∀ x ∈ l, x.vk.oneCell' = true ∧ x.vv.oneCell' = true) : ∀ u ∈ l.flatMap recV, u.oneCell' = true := by
  intro u hu
  obtain ⟨x, hx, hu⟩ := List.mem_flatMap.1 hu
  have := hl x hx
  unfold recV at hu
  simp at hu
  rcases hu with rfl | rfl | rfl
  · rfl
  · exact this.1
  · exact this.2

set_option maxHeartbeats 400000 in
theorem clone_recs (v : Value) (n : Nat) (xs : List Value) (w : World) (h : Rd w 3 v n xs) (h1 : ∀ u ∈ xs, u.oneCell' = true) (hn : n ≤ 1000000000) :
    Calls Tryd.prog 62 #[v] w (NewRow 44 3 n xs w) := by
  obtain ⟨i0, hi, hz0, hz1, hz2⟩ := info_parts info_rec
  rcases h.2 with ⟨rfl, rfl⟩ | ⟨x, cap, rfl, hc, hm, hx⟩
  · have hxs : xs = [] := by have := h.1; simpa using this
    subst hxs
    have hq := fun w' => Lib.run_eql_slice_nil (P := Tryd.prog) w' 32 44 none 0 0 0 0 Tryd.underlying32
    go_enter Tryd.func62, Tryd.ntmps62
    go_wp2_with fail
    go_ret
    exact ⟨_, rfl, World.ownsRow_nil _ _ _ _, Below.refl _ _⟩
  · have hq := fun w' => Lib.run_eql_slice_nil (P := Tryd.prog) w' 32 44 (some x) n cap 0 0 Tryd.underlying32
    go_enter Tryd.func62, Tryd.ntmps62
    go_wp2_with (at_builtin; refine wpList_append_own _ rfl _ _ 32 rfl w.heap.size 44 i0 _ 3 56 Tryd.underlying32 hi hz0 hz1 hz2 rfl (by decide) _ 0 [] rfl (World.ownsRow_made w #[] 0 (Nat.le_refl _) (by decide) rfl) x n cap xs rfl ?c0 ?c1 ?c2 ?c3 ?c4 ?c5 ?_)
    case c0 => exact h.1
    case c1 => intro j u hu; have h3 := hx j u hu; rw [(Below.alloc (Below.refl w.heap.size w) (Nat.le_refl _) _).cell (World.block_lt_of_cell? w _ h3)]; exact h3
    case c2 => exact h1
    case c3 => unfold maxLen at hm ⊢; omega
    case c4 => omega
    case c5 => simp
    intro v' w' hown hgrow _
    go_wp2
    go_ret
    refine ⟨_, rfl, ?_, ?_⟩
    · simpa using hown
    · exact ((Below.refl _ _).alloc (Nat.le_refl _) _).grown hgrow (by simp) (by simp [Value.ownBlock])


theorem sl_recs : Tryd.prog.underlying 32 = some (.slice (Tryd.prog.elem 32)) := by kernel_rfl
theorem sz_recs : (Tryd.prog.info? (Tryd.prog.elem 32)).map (·.size) = some 3 := by kernel_rfl
theorem flat_drop_n {α : Type} (f : α → List Value) (C : Nat) : ∀ (l : List α), (∀ x ∈ l, (f x).length = C) → ∀ m, m ≤ l.length → (l.flatMap f).drop (m * C) = (l.drop m).flatMap f := by
  intro l
  induction l with
  | nil => intro _ m hm; simp
  | cons x l ih =>
    intro h m hm
    cases m with
    | zero => simp
    | succ m =>
      have h1 := h x List.mem_cons_self
      rw [List.flatMap_cons, List.drop_succ_cons, show (m + 1) * C = (f x).length + m * C by rw [h1, Nat.succ_mul]; omega, ← List.drop_drop, List.drop_left, ih (fun y hy => h y (List.mem_cons_of_mem _ hy)) m (by simpa using hm)]
/-- The records from one on. -/
theorem RecsRd.drop {w : World} {a : Option Addr} {c : Nat} {l : List RecD} (h : RecsRd w (.slice a l.length c) l) (m : Nat) (hm : m ≤ l.length) :
    ∃ a' c', ∃ rs : List RecR, sliced a m l.length c 3 = .slice a' (l.length - m) c' ∧ rs.map (·.d) = l.drop m ∧ rs.length = l.length - m ∧ ∀ W, Below w.heap.size w W → Rd W 3 (.slice a' (l.length - m) c') (l.length - m) (rs.flatMap recV) ∧ ∀ x ∈ rs, x.lies W := by
  obtain ⟨rs, rfl, h2, h3⟩ := h
  rw [List.length_map] at hm h2 ⊢
  obtain ⟨a', c', e, hr⟩ := part_all a rs.length c 3 m rs.length hm (Nat.le_refl _)
  refine ⟨a', c', rs.drop m, e, by rw [List.map_drop], List.length_drop, fun W hW => ⟨?_, fun x hx => (h3 x (List.mem_of_mem_drop hx)).below hW⟩⟩
  have := hr W _ (h2.below hW)
  rw [flat_drop_n recV 3 rs (recV_len rs) m hm] at this
  rw [List.take_of_length_le (by rw [flat_length recV 3 _ (recV_len _), List.length_drop]; omega)] at this
  exact this
theorem lies_one {w : World} {l : List RecR} (h : ∀ x ∈ l, x.lies w) : ∀ u ∈ l.flatMap recV, u.oneCell' = true := by
  apply recV_one
  intro x hx
  obtain ⟨a, c, e⟩ := (h x hx).1.slice
  obtain ⟨a', c', e'⟩ := (h x hx).2.slice
  rw [e, e']
  exact ⟨rfl, rfl⟩

set_option maxRecDepth 100000 in
set_option maxHeartbeats 2000000 in
theorem from_calls {w : World} {b : BatD} {v : Value} (h : RecsRd w v b.recs) (o : Int) (hb : 0 ≤ b.base ∧ b.base ≤ 2000000000000) (ho : o < b.base + b.recs.length) (m1 : b.recs.length ≤ 1000) :
    Calls Tryd.prog 41 #[batA b v, .int .i64 o] w (fun e w' => ∃ v', e = .returned (batA (fromB b o) v') ∧ RecsRd w' v' (fromB b o).recs ∧ Below w.heap.size w w') := by
  obtain ⟨a, c, rfl⟩ := h.slice
  obtain ⟨ba, ep, l⟩ := b
  unfold batA
  simp only at h hb ho m1 ⊢
  have b1 := below_alloc w (.cells #[.int .i64 ba, .int .i64 ep, .slice a l.length c] 34)
  have row1 := heap_alloc_new w (.cells #[.int .i64 ba, .int .i64 ep, .slice a l.length c] 34)
  have s1 := alloc_size w (.cells #[.int .i64 ba, .int .i64 ep, .slice a l.length c] 34)
  go_enter Tryd.func41, Tryd.ntmps41
  go_upto_region 1 with fail
  generalize w.alloc (.cells #[.int .i64 ba, .int .i64 ep, .slice a l.length c] 34) = w1 at *
  have b2 := below_alloc w1 (.cells #[.int .i64 0, .int .i64 0, .slice none 0 0] 34)
  have row2 := heap_alloc_new w1 (.cells #[.int .i64 0, .int .i64 0, .slice none 0 0] 34)
  have s2 := alloc_size w1 (.cells #[.int .i64 0, .int .i64 0, .slice none 0 0] 34)
  rw [s1] at row2 s2
  have row1' := heap_below b2 row1
  have B2 := nxt b1 b2
  generalize w1.alloc (.cells #[.int .i64 0, .int .i64 0, .slice none 0 0] 34) = w2 at *
  obtain ⟨g, hg⟩ : ∃ g, g = w.heap.size := ⟨_, rfl⟩
  rw [← hg] at row1' row2 s2 ⊢
  have hgw : w.heap.size ≤ g := by omega
  have hge : g = w.heap.size := hg
  have HGE := Lib.hid hge
  clear hg hge s1 b1 b2 row1
  have d0 : w2.cell? ⟨g, 0, none⟩ = some (.int .i64 ba) := cell_of_row _ _ 0 _ _ _ row1'
  have d1 : w2.cell? ⟨g, 1, none⟩ = some (.int .i64 ep) := cell_of_row _ _ 1 _ _ _ row1'
  have d2 : w2.cell? ⟨g, 2, none⟩ = some (.slice a l.length c) := cell_of_row _ _ 2 _ _ _ row1'
  by_cases hle : o ≤ ba
  · have HF : Hid (fromB ⟨ba, ep, l⟩ o = ⟨ba, ep, l⟩) := Lib.hid (by unfold fromB; rw [if_pos hle])
    go_wp2_with (refine wpList_store_row_g rfl 34 _ _ rfl (g + 1) _ rfl rfl 34 _ row2 batSize' rfl (by simp [Value.oneCell']) ?_)
    intro w9 row9 g9 _
    have bz := Touch.new (g := g + 1) g9 B2 (by omega)
    clear d0 d1 d2 g9
    go_wp2_with fail
    refine ret_row rfl (g + 1) rfl row9 Tryd.underlying34 rfl (by kernel_rfl) rfl ?_
    rw [HF.out]
    exact ⟨_, rfl, h.below bz, bz⟩
  · obtain ⟨k, hk⟩ : ∃ k : Nat, o - ba = (k : Int) := ⟨(o - ba).toNat, by omega⟩
    have hkl : k ≤ l.length := by omega
    have HF : Hid (fromB ⟨ba, ep, l⟩ o = ⟨o, ep, l.drop k⟩) := Lib.hid (by unfold fromB; rw [if_neg hle]; simp only; rw [show (min (o - ba) (l.length : Int)).toNat = k by omega])
    have hw1 : IntKind.i64.wrap (o - ba) = (k : Int) := by rw [IntKind.wrap_i64]; omega
    obtain ⟨a5, c5, rs, s5, hr1, hr2, r5⟩ := h.drop k hkl
    have u5 : ∀ W, (Instr.sliceAt 32 (.slice a l.length c) (some (.int .i64 (k : Int))) none none).run Tryd.prog W = .ok (.slice a5 (l.length - k) c5) W := fun W => by
      have := run_cut_l (P := Tryd.prog) 32 sl_recs 3 sz_recs a l.length c k .i64 hkl W
      rw [s5] at this
      exact this
    obtain ⟨hr3, hr4⟩ := r5 w2 B2
    have hcl := clone_recs _ _ _ w2 hr3 (lies_one hr4) (by omega)
    unfold NewRow at hcl
    have HR1 := Lib.hid hr1
    have hmin : min (k : Int) (l.length : Int) = (k : Int) := by omega
    have HL : Hid (∀ W, Below w.heap.size w W → ∀ x ∈ rs, x.lies W) := Lib.hid (fun W hW => (r5 W hW).2)
    clear hk hr1 r5 s5
    go_wp2_with fail
    with_reducible refine hcl.mono ?_
    rintro e w3 ⟨v3, rfl, o3, b3⟩
    obtain ⟨a3, c3, rfl⟩ := owns_slice o3
    have row1a := heap_below b3 row1'
    have row2a := heap_below b3 row2
    have B3 := nxt B2 b3
    have k2 : w3.cell? ⟨g, 2, none⟩ = some (.slice a l.length c) := cell_of_row _ _ 2 _ _ _ row1a
    have z2 : w3.frozen? ⟨g, 2, none⟩ = false := frozen_of_row _ _ 2 _ _ row1a
    have row1b : (w3.setCell ⟨g, 2, none⟩ (.slice a3 (l.length - k) c3)).heap[g]? = some (.cells #[.int .i64 ba, .int .i64 ep, .slice a3 (l.length - k) c3] 34 (0, 0)) := heap_setCell_same w3 _ 2 _ _ _ row1a
    have T1 := Touch.setCell (g := g) w3 2 (.slice a3 (l.length - k) c3)
    have row2b := T1.heap row2a (by omega)
    have o3b := T1.owns_from o3 (by omega)
    have B4 := T1.new B3 (by omega)
    clear d0 d1 d2 hcl hr4 hr3 T1
    go_upto_region 4 with fail
    generalize w3.setCell ⟨g, 2, none⟩ (.slice a3 (l.length - k) c3) = w4 at *
    have k0 : w4.cell? ⟨g, 0, none⟩ = some (.int .i64 ba) := cell_of_row _ _ 0 _ _ _ row1b
    have z0 : w4.frozen? ⟨g, 0, none⟩ = false := frozen_of_row _ _ 0 _ _ row1b
    have row1c : (w4.setCell ⟨g, 0, none⟩ (.int .i64 o)).heap[g]? = some (.cells #[.int .i64 o, .int .i64 ep, .slice a3 (l.length - k) c3] 34 (0, 0)) := heap_setCell_same w4 _ 0 _ _ _ row1b
    have T1 := Touch.setCell (g := g) w4 0 (.int .i64 o)
    have row2c := T1.heap row2b (by omega)
    have o3c := T1.owns_from o3b (by omega)
    have B5 := T1.new B4 (by omega)
    go_upto_region 5 with fail
    generalize w4.setCell ⟨g, 0, none⟩ (.int .i64 o) = w5 at *
    have q0 : w5.cell? ⟨g, 0, none⟩ = some (.int .i64 o) := cell_of_row _ _ 0 _ _ _ row1c
    have q1 : w5.cell? ⟨g, 1, none⟩ = some (.int .i64 ep) := cell_of_row _ _ 1 _ _ _ row1c
    have q2 : w5.cell? ⟨g, 2, none⟩ = some (.slice a3 (l.length - k) c3) := cell_of_row _ _ 2 _ _ _ row1c
    go_wp2_with (refine wpList_store_row_g rfl 34 _ _ rfl (g + 1) _ rfl rfl 34 _ row2c batSize' rfl (by simp [Value.oneCell']) ?_)
    intro w9 row9 g9 _
    have T9 : Touch (g + 1) w5 w9 := g9
    have bz := T9.new B5 (by omega)
    have oz := T9.owns_from o3c (by omega)
    clear k0 z0 T1 q0 q1 q2 g9 T9
    go_wp2_with fail
    refine ret_row rfl (g + 1) rfl row9 Tryd.underlying34 rfl (by kernel_rfl) rfl ?_
    rw [HF.out]
    refine ⟨.slice a3 (l.length - k) c3, ?_, ⟨rs, HR1.out, by rw [hr2]; exact Rd.of_owns oz, HL.out _ bz⟩, bz⟩
    rfl
end Go.Proofs.YtlfbdcgojbfcaaaDoor
