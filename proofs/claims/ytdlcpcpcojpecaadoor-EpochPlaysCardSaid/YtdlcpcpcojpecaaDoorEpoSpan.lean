/- Line.Span: the pairs that have offsets of a part. -/
import Derived.Test.YtdlcpcpcojpecaaDoorEpoAsk
import Derived.Deep.DeepCutAuto
import Derived.Deep.CutBlock
namespace Go.Proofs.YtdlcpcpcojpecaaDoor
open Go Go.RowKit Epo

theorem ends_drop (t : Int) (l : List Pr) (i : Nat) : ends t (l.drop (i + 1)) = if h : i + 1 < l.length then min t l[i + 1].st else t := by
  by_cases h : i + 1 < l.length
  · rw [dif_pos h, List.drop_eq_getElem_cons h]; rfl
  · rw [dif_neg h, List.drop_eq_nil_of_le (by omega)]; rfl
theorem span_drop (f t : Int) (l : List Pr) (i : Nat) (hi : i < l.length) : span f t (l.drop i) = if max l[i].st f < ends t (l.drop (i + 1)) then ⟨l[i].ep, max l[i].st f⟩ :: span f t (l.drop (i + 1)) else span f t (l.drop (i + 1)) := by
  rw [List.drop_eq_getElem_cons hi]; rfl

set_option maxRecDepth 100000 in
set_option maxHeartbeats 2000000 in
theorem span_calls {w : World} {F : Nat → Prop} {g : Nat} {l : List Pr} (h : LineAt w F g l) (hl : l.length ≤ 1000000) (f t : Int) :
    Calls Tryd.prog 35 #[.pointer (some ⟨g, 0, none⟩), .int .i64 f, .int .i64 t] w (NewRow 46 2 (span f t l).length ((span f t l).flatMap prV) w) := by
  obtain ⟨i0, hi, hz0, hz1, hz2⟩ := info_parts info_pair
  obtain ⟨v, h⟩ := h
  have hom := Rd.of_owns h.pairs
  have hrow := h.row
  obtain ⟨am, cm, rfl⟩ := hom.slice
  have k1 : w.cell? ⟨g, 0, none⟩ = some (.slice am l.length cm) := cell_of_row w g 0 _ _ _ hrow
  obtain ⟨R, hR⟩ : ∃ R, R = span f t l := ⟨_, rfl⟩
  rw [← hR]
  have HR := Lib.hid hR
  clear h hR
  go_enter Tryd.func35, Tryd.ntmps35
  go_wp2_with fail
  go_loopw [7, 16] (fun ov iv wr => ∃ (i : Nat) (o : List Pr), i ≤ l.length ∧ iv = .int .i64 i ∧ Hid (o ++ span f t (l.drop i) = R) ∧ o.length ≤ i ∧ wr.ownsRow w.heap.size 46 2 ov o.length (o.flatMap prV) ∧ Below w.heap.size w wr) (fun _ iv _ => l.length - (intOf iv).toNat)
  case atStart => exact ⟨0, [], Nat.zero_le _, rfl, Lib.hid (by rw [HR.out]; rfl), Nat.le_refl _, World.ownsRow_nil _ _ _ _, Below.refl _ _⟩
  case round =>
    obtain ⟨i, o, hi', rfl, HI, hol, ho, hb⟩ := hrel
    obtain ⟨ao, co, rfl⟩ := owns_slice ho
    by_cases hlt : i < l.length
    · have k2 : wr.cell? ⟨g, 0, none⟩ = some (.slice am l.length cm) := cell_of_row wr g 0 _ _ _ (heap_below hb hrow)
      obtain ⟨b, of, rfl, hc1, hm1, hx1⟩ := (hom.below hb).at (by omega) (by omega)
      obtain ⟨q0, q1⟩ := pr_cells hx1 i hlt
      have HSD := Lib.hid (span_drop f t l i hlt)
      have hed := ends_drop t l i
      obtain ⟨E, hE⟩ : ∃ E, E = ends t (l.drop (i + 1)) := ⟨_, rfl⟩
      rw [← hE] at hed HSD
      have hbl := World.block_lt_of_cell? _ _ q0
      simp only at hbl
      clear hE
      by_cases h1 : i + 1 < l.length
      case' pos =>
        obtain ⟨p0, p1⟩ := pr_cells hx1 (i + 1) h1
        rw [dif_pos h1] at hed
        generalize l[i + 1].st = nx at *
        have hEc : nx < t ∧ E = nx ∨ ¬ nx < t ∧ E = t := by omega
        have i1 : ((i : Int) + 1).toNat = i + 1 := by omega
      case' neg =>
        rw [dif_neg h1] at hed
        have hEc : True ∧ E = t ∨ False ∧ E = t := .inl ⟨trivial, hed⟩
      all_goals
        generalize l[i] = m at *
        obtain ⟨ep, st⟩ := m
        simp only at q0 q1 HSD
        have hM : st < f ∧ max st f = f ∨ ¬ st < f ∧ max st f = st := by omega
        obtain ⟨M, hM2⟩ : ∃ M, M = max st f := ⟨_, rfl⟩
        rw [← hM2] at hM HSD
        have rowP := heap_alloc_new wr (.cells #[.int .i64 ep, .int .i64 M] 46)
        have b2 := below_alloc wr (.cells #[.int .i64 ep, .int .i64 M] 46)
        have o2 := owns_below ho b2
        have B2 := nxt hb b2
        have k3 : ∀ O, (wr.alloc O).cell? ⟨g, 0, none⟩ = some (.slice (some ⟨b, of, none⟩) l.length cm) := fun O => by
          rw [(below_alloc wr O).cell (World.block_lt_of_cell? _ _ k2)]; exact k2
        clear hx1 hed hM2
        rcases hEc with ⟨e1, rfl⟩ | ⟨e1, rfl⟩
        all_goals
          rcases hM with ⟨e2, rfl⟩ | ⟨e2, rfl⟩
          all_goals
            first
            | exact False.elim e1
            | (have HIO := HI.out
               rw [HSD.out] at HIO
               by_cases hME : M < E
               · rw [if_pos hME] at HIO
                 have HIN := Lib.hid HIO
                 clear HIO HSD
                 go_upto_region 10 with fail
                 generalize wr.alloc (.cells #[.int .i64 ep, .int .i64 M] 46) = W2 at *
                 have m0 : W2.cell? ⟨wr.heap.size, 0, none⟩ = some (.int .i64 ep) := cell_of_row W2 _ 0 _ _ _ rowP
                 have m1 : W2.cell? ⟨wr.heap.size, 1, none⟩ = some (.int .i64 M) := cell_of_row W2 _ 1 _ _ _ rowP
                 go_wp2_with (at_builtin; refine wpList_append_own _ rfl _ _ 22 rfl w.heap.size 46 i0 _ 2 16 Tryd.underlying22 hi hz0 hz1 hz2 rfl (by decide) _ _ _ rfl (o2.alloc _) ⟨W2.heap.size, 0, none⟩ 1 1 [.int .i64 ep, .int .i64 M] rfl (by rfl) (cells_new W2 #[.int .i64 ep, .int .i64 M] 46) (by simp [Value.oneCell']) (by unfold maxLen; omega) (by omega) (by have := B2.size; simp; omega) ?_)
                 intro v' w' hown' hgrow _
                 have B6 : Below w.heap.size w w' := (B2.alloc B2.size _).grown hgrow (by have := B2.size; simp; omega) (fun k hk => (o2.lt k hk).1)
                 go_wp2_with fail
                 refine ⟨⟨i + 1, o ++ [⟨ep, M⟩], by omega, by go_num, Lib.hid (by rw [← HIN.out]; simp), by rw [List.length_append, List.length_singleton]; omega, ?_, B6⟩, by simp [intOf]; omega⟩
                 rw [List.length_append, List.flatMap_append]
                 exact hown'
               · rw [if_neg hME] at HIO
                 have HIN := Lib.hid HIO
                 clear HIO HSD
                 go_wp2_with fail
                 exact ⟨⟨i + 1, o, by omega, by go_num, HIN, by omega, o2, B2⟩, by simp [intOf]; omega⟩)
    · obtain rfl : i = l.length := by omega
      have hfin : o = R := by
        rw [← HI.out, List.drop_eq_nil_of_le (Nat.le_refl _)]
        simp [span]
      have HFIN := Lib.hid hfin
      clear hfin
      go_wp2_with fail
      go_ret
      rw [← HFIN.out]
      exact ⟨_, rfl, ho, hb⟩
end Go.Proofs.YtdlcpcpcojpecaaDoor
