/- The document's lineage: Span. -/
import Derived.Test.YtdlcpcpcojpecaaDoorRefLine2
import Derived.Test.YtdlcpcpcojpecaaDoorEpoSpan
namespace Go.Proofs.YtdlcpcpcojpecaaDoor
open Go Go.RowKit Epo

set_option maxRecDepth 100000 in
set_option maxHeartbeats 2000000 in
theorem refSpan_calls (v : Value) (l : List Pr) (f t : Int) (w : World) (h : Rd w 2 v l.length (l.flatMap prV)) (hn : l.length ≤ 1000000) (hu : up l = true) :
    Calls Tryd.prog 36 #[v, .int .i64 f, .int .i64 t] w (NewRow 46 2 (span f t l).length ((span f t l).flatMap prV) w) := by
  obtain ⟨i0, hi, hz0, hz1, hz2⟩ := info_parts info_pair
  obtain ⟨am, c, rfl⟩ := h.slice
  have hlen := h.len_le
  by_cases hft : t ≤ f
  · have hR := span_none hft l
    generalize span f t l = R at hR ⊢
    have HR := Lib.hid hR
    clear hR
    go_enter Tryd.func36, Tryd.ntmps36
    go_wp2_with fail
    go_ret
    rw [HR.out]
    exact ⟨_, rfl, World.ownsRow_nil _ _ _ _, Below.refl _ _⟩
  have hsc := fun i hi => span_cond (f := f) (t := t) hu (by omega) i hi
  obtain ⟨R, hR⟩ : ∃ R, R = span f t l := ⟨_, rfl⟩
  rw [← hR]
  have HR := Lib.hid hR
  clear hR
  go_enter Tryd.func36, Tryd.ntmps36
  go_wp2_with fail
  go_loopw [7, 8] (fun ov iv wr => ∃ (i : Nat) (o : List Pr), i ≤ l.length ∧ iv = .int .i64 i ∧ Hid (o ++ span f t (l.drop i) = R) ∧ o.length ≤ i ∧ wr.ownsRow w.heap.size 46 2 ov o.length (o.flatMap prV) ∧ Below w.heap.size w wr) (fun _ iv _ => l.length - (intOf iv).toNat)
  case atStart => exact ⟨0, [], Nat.zero_le _, rfl, Lib.hid (by rw [HR.out]; rfl), Nat.le_refl _, World.ownsRow_nil _ _ _ _, Below.refl _ _⟩
  case round =>
    obtain ⟨i, o, hi', rfl, HI, hol, ho, hb⟩ := hrel
    obtain ⟨ao, co, rfl⟩ := owns_slice ho
    by_cases hlt : i < l.length
    · obtain ⟨b, of, rfl, -, -, hx⟩ := (h.below hb).at (by omega)
      obtain ⟨q0, q1⟩ := pr_cells hx i hlt
      have hHI := HI.out
      rw [span_drop f t l i hlt] at hHI
      have hsc' := hsc i hlt
      generalize ends t (l.drop (i + 1)) = E at hsc' hHI
      have hcells : (t ≤ l[i].st ∧ o ++ span f t (l.drop (i + 1)) = R) ∨
          (¬ t ≤ l[i].st ∧ (∃ s, wr.cell? ⟨b, of + (i + 1) * 2 + 1, none⟩ = some (.int .i64 s) ∧ s ≤ f ∧ i + 1 < l.length) ∧ o ++ span f t (l.drop (i + 1)) = R) ∨
          (¬ t ≤ l[i].st ∧ ((∃ s, wr.cell? ⟨b, of + (i + 1) * 2 + 1, none⟩ = some (.int .i64 s) ∧ ¬ s ≤ f ∧ i + 1 < l.length) ∨ ¬ i + 1 < l.length) ∧ o ++ (⟨l[i].ep, max l[i].st f⟩ :: span f t (l.drop (i + 1))) = R) := by
        by_cases e1 : t ≤ l[i].st
        · rw [if_neg (by rw [hsc']; rintro ⟨h1, -⟩; omega)] at hHI
          exact .inl ⟨e1, hHI⟩
        · by_cases e2 : i + 1 < l.length
          · have hp := (pr_cells hx (i + 1) e2).2
            by_cases e3 : l[i + 1].st ≤ f
            · rw [if_neg (by rw [hsc']; rintro ⟨-, h2⟩; have := h2 e2; omega)] at hHI
              exact .inr (.inl ⟨e1, ⟨_, hp, e3, e2⟩, hHI⟩)
            · rw [if_pos (by rw [hsc']; exact ⟨by omega, fun _ => by omega⟩)] at hHI
              exact .inr (.inr ⟨e1, .inl ⟨_, hp, e3, e2⟩, hHI⟩)
          · rw [if_pos (by rw [hsc']; exact ⟨by omega, fun h => absurd h e2⟩)] at hHI
            exact .inr (.inr ⟨e1, .inr e2, hHI⟩)
      have i1 : ((i : Int) + 1).toNat = i + 1 := by omega
      have hbl := World.block_lt_of_cell? _ _ q0
      simp only at hbl
      clear hx hHI hsc' hsc
      generalize l[i] = m at *
      obtain ⟨ep, st⟩ := m
      simp only at q0 q1 hcells
      rcases hcells with ⟨e1, hN⟩ | ⟨e1, ⟨s, p1, e3, e2⟩, hN⟩ | ⟨e1, hs, hN⟩
      · have HN := Lib.hid hN
        clear hN
        go_wp2_with fail
        exact ⟨⟨i + 1, o, by omega, by go_num, HN, by omega, ho, hb⟩, by simp [intOf]; omega⟩
      · have HN := Lib.hid hN
        clear hN
        go_wp2_with fail
        exact ⟨⟨i + 1, o, by omega, by go_num, HN, by omega, ho, hb⟩, by simp [intOf]; omega⟩
      · have hM : st < f ∧ max st f = f ∨ ¬ st < f ∧ max st f = st := by omega
        obtain ⟨M, hM2⟩ : ∃ M, M = max st f := ⟨_, rfl⟩
        rw [← hM2] at hM hN
        have HN := Lib.hid hN
        have rowP := heap_alloc_new wr (.cells #[.int .i64 ep, .int .i64 M] 46)
        have b2 := below_alloc wr (.cells #[.int .i64 ep, .int .i64 M] 46)
        have o2 := owns_below ho b2
        have B2 := nxt hb b2
        clear hM2 hN
        rcases hs with ⟨s, p1, e3, e2⟩ | e2
        all_goals
          rcases hM with ⟨e4, rfl⟩ | ⟨e4, rfl⟩
          all_goals
            go_upto_region 11 with fail
            generalize wr.alloc (.cells #[.int .i64 ep, .int .i64 _] 46) = W2 at *
            have m0 : W2.cell? ⟨wr.heap.size, 0, none⟩ = some (.int .i64 ep) := cell_of_row W2 _ 0 _ _ _ rowP
            have m1 := cell_of_row W2 _ 1 _ _ _ rowP
            go_wp2_with (at_builtin; refine wpList_append_own _ rfl _ _ 22 rfl w.heap.size 46 i0 _ 2 16 Tryd.underlying22 hi hz0 hz1 hz2 rfl (by decide) _ _ _ rfl (o2.alloc _) ⟨W2.heap.size, 0, none⟩ 1 1 [.int .i64 ep, .int .i64 _] rfl (by rfl) (cells_new W2 #[.int .i64 ep, .int .i64 M] 46) (by simp [Value.oneCell']) (by unfold maxLen; omega) (by omega) (by have := B2.size; simp; omega) ?_)
            intro v' w' hown' hgrow _
            have B6 : Below w.heap.size w w' := (B2.alloc B2.size _).grown hgrow (by have := B2.size; simp; omega) (fun k hk => (o2.lt k hk).1)
            go_wp2_with fail
            refine ⟨⟨i + 1, o ++ [⟨ep, _⟩], by omega, by go_num, Lib.hid (by rw [List.append_assoc]; exact HN.out), by rw [List.length_append, List.length_singleton]; omega, ?_, B6⟩, by simp [intOf]; omega⟩
            rw [List.length_append, List.flatMap_append]
            exact hown'
    · obtain rfl : i = l.length := by omega
      have hfin : o = R := by
        rw [← HI.out, List.drop_eq_nil_of_le (Nat.le_refl _)]
        simp [span]
      have HFIN := Lib.hid hfin
      clear hfin hsc
      go_wp2_with fail
      go_ret
      rw [← HFIN.out]
      exact ⟨_, rfl, ho, hb⟩
end Go.Proofs.YtdlcpcpcojpecaaDoor
