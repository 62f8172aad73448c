/- mani.Clone: a manifest of its own. -/
import Derived.Test.YtldopocmmeidkaaDoorManSame
import Derived.Test.YtldopocmmeidkaaDoorSee
import Derived.Deep.RegionLaw
namespace Go.Proofs.YtldopocmmeidkaaDoor
open Go Go.RowKit Man

theorem manSize : (Tryd.prog.info? 25).map (·.size) = some 6 := by kernel_rfl
theorem pr_one (l : List Epo.Pr) : ∀ u ∈ l.flatMap prV, u.oneCell' = true := by
  intro u hu
  obtain ⟨x, _, hx⟩ := List.mem_flatMap.1 hu
  simp [prV] at hx
  rcases hx with rfl | rfl <;> rfl
theorem ob_one (l : List ObjD) : ∀ u ∈ l.flatMap obV, u.oneCell' = true := by
  intro u hu
  obtain ⟨x, _, hx⟩ := List.mem_flatMap.1 hu
  simp [obV] at hx
  rcases hx with rfl | rfl | rfl <;> rfl

def ClonePost (m : ManD) (w : World) (e : Ending) (w' : World) : Prop :=
  ∃ ve vo, e = .returned (manA m ve vo) ∧ w'.ownsRow w.heap.size 48 2 ve m.eps.length (m.eps.flatMap prV) ∧ w'.ownsRow w.heap.size 46 3 vo m.objs.length (m.objs.flatMap obV) ∧ Below w.heap.size w w'

set_option maxRecDepth 100000 in
set_option maxHeartbeats 2000000 in
theorem maniClone_calls {w : World} {m : ManD} {ve vo : Value} (h : ManRd w m ve vo) (hs : Small m) :
    Calls Tryd.prog 18 #[manA m ve vo] w (ClonePost m w) := by
  obtain ⟨re, ro⟩ := h
  obtain ⟨ae, ce, rfl⟩ := re.slice
  obtain ⟨ao, co, rfl⟩ := ro.slice
  have hs1 := hs.1
  have hs2 := hs.2.1
  obtain ⟨id, ba, fi, ti, eps, objs⟩ := m
  have HM := Lib.hid (show ∀ ve vo, manA ⟨id, ba, fi, ti, eps, objs⟩ ve vo = .agg #[.int .i64 id, .int .i64 ba, .int .i64 fi, .int .i64 ti, ve, vo] from fun _ _ => rfl)
  unfold ClonePost
  simp only at re ro hs1 hs2 ⊢
  unfold manA
  simp only
  have b1 := below_alloc w (.cells #[.int .i64 id, .int .i64 ba, .int .i64 fi, .int .i64 ti, .slice ae eps.length ce, .slice ao objs.length co] 25)
  have row1 := heap_alloc_new w (.cells #[.int .i64 id, .int .i64 ba, .int .i64 fi, .int .i64 ti, .slice ae eps.length ce, .slice ao objs.length co] 25)
  go_enter Tryd.func18, Tryd.ntmps18
  go_upto_region 1 with fail
  obtain ⟨w0, hw0⟩ : ∃ w0, w0 = w.alloc (.cells #[.int .i64 id, .int .i64 ba, .int .i64 fi, .int .i64 ti, .slice ae eps.length ce, .slice ao objs.length co] 25) := ⟨_, rfl⟩
  rw [← hw0] at b1 row1 ⊢
  have b2 := below_alloc w0 (.cells #[.int .i64 0, .int .i64 0, .int .i64 0, .int .i64 0, .slice none 0 0, .slice none 0 0] 25)
  have rowf := heap_alloc_new w0 (.cells #[.int .i64 0, .int .i64 0, .int .i64 0, .int .i64 0, .slice none 0 0, .slice none 0 0] 25)
  have row1 := heap_below b2 row1
  have B1 := nxt b1 b2
  have hszf : w0.heap.size = w.heap.size + 1 := by rw [hw0]; simp
  obtain ⟨w1, hw1⟩ : ∃ w1, w1 = w0.alloc (.cells #[.int .i64 0, .int .i64 0, .int .i64 0, .int .i64 0, .slice none 0 0, .slice none 0 0] 25) := ⟨_, rfl⟩
  obtain ⟨g, hg⟩ : ∃ g, g = w.heap.size := ⟨_, rfl⟩
  obtain ⟨F, hF⟩ : ∃ F, F = w0.heap.size := ⟨_, rfl⟩
  have hFw : w.heap.size < F := by omega
  have hgF : g < F := by omega
  have hgw : w.heap.size ≤ g := by omega
  rw [← hszf]
  rw [← hw1] at b2 rowf row1 B1 ⊢
  rw [← hg] at row1 ⊢
  rw [← hF] at rowf ⊢
  have hF1 : F < w1.heap.size := by rw [hw1, hF]; simp
  clear hw0 hw1 hg hF hszf b1 b2
  have c1 := clone_pairs _ _ _ w1.drew ((re.below B1).below (Below.refl _ _).drew) (pr_one eps) (by omega)
  have d4 : w1.cell? ⟨g, 4, none⟩ = some (.slice ae eps.length ce) := cell_of_row _ _ 4 _ _ _ row1
  have d5 : w1.cell? ⟨g, 5, none⟩ = some (.slice ao objs.length co) := cell_of_row _ _ 5 _ _ _ row1
  go_region_law (go_simp; first
    | (go_at_call 49; (with_reducible refine c1.mono ?_); (rintro e w2 ⟨v2, rfl, o2, b2⟩); have b2' := nxt (Below.refl _ _).drew b2; have row2 := heap_below b2' row1; have d5' : w2.cell? ⟨g, 5, none⟩ = some (.slice ao objs.length co) := cell_of_row _ _ 5 _ _ _ row2; have c2 := clone_objs _ _ _ w2 ((ro.below B1).below b2') (ob_one objs) (by omega); (obtain ⟨a2, k2, rfl⟩ := owns_slice o2))
    | (go_at_call 50; (with_reducible refine c2.mono ?_); (rintro e w3 ⟨v3, rfl, o3, b3⟩); have row3 := heap_below b3 row2; have e4 : w3.cell? ⟨g, 4, none⟩ = some (.slice ae eps.length ce) := cell_of_row _ _ 4 _ _ _ row3; have e5 : w3.cell? ⟨g, 5, none⟩ = some (.slice ao objs.length co) := cell_of_row _ _ 5 _ _ _ row3; have z4 : w3.frozen? ⟨g, 4, none⟩ = false := frozen_of_row _ _ 4 _ _ row3; have z5 : w3.frozen? ⟨g, 5, none⟩ = false := frozen_of_row _ _ 5 _ _ row3; (obtain ⟨a3, k3, rfl⟩ := owns_slice o3)))
  all_goals
    have B3 := nxt B1 (nxt b2' b3)
    have O2 := owns_base (base' := w1.heap.size) (owns_below o2 b3) (Nat.le_refl _)
    have O3 := owns_base (base' := w1.heap.size) o3 (by have := b2'.size; exact this)
    have rowf3 := heap_below (nxt b2' b3) rowf
    have TT := (Touch.setCell (g := g) w3 4 (.slice a2 eps.length k2)).set 5 (.slice a3 objs.length k3)
    have rowg := heap_setCell_same _ g 5 _ _ (.slice a3 objs.length k3) (heap_setCell_same w3 g 4 _ _ (.slice a2 eps.length k2) row3)
    have rowF := TT.heap rowf3 (by omega)
    have bel := TT.new B3 hgw
    have O2 := TT.owns_from O2 (by omega)
    have O3 := TT.owns_from O3 (by omega)
    clear o2 o3 row1 row2 row3 rowf3 rowf c1 c2 d4 d5 d5' e4 e5 z4 z5 TT B3 b3 b2 b2' B1
    generalize (w3.setCell ⟨g, 4, none⟩ (.slice a2 eps.length k2)).setCell ⟨g, 5, none⟩ (.slice a3 objs.length k3) = w4 at *
    have p0 : w4.cell? ⟨g, 0, none⟩ = some (.int .i64 id) := cell_of_row _ _ 0 _ _ _ rowg
    have p1 : w4.cell? ⟨g, 1, none⟩ = some (.int .i64 ba) := cell_of_row _ _ 1 _ _ _ rowg
    have p2 : w4.cell? ⟨g, 2, none⟩ = some (.int .i64 fi) := cell_of_row _ _ 2 _ _ _ rowg
    have p3 : w4.cell? ⟨g, 3, none⟩ = some (.int .i64 ti) := cell_of_row _ _ 3 _ _ _ rowg
    have p4 : w4.cell? ⟨g, 4, none⟩ = some (.slice a2 eps.length k2) := cell_of_row _ _ 4 _ _ _ rowg
    have p5 : w4.cell? ⟨g, 5, none⟩ = some (.slice a3 objs.length k3) := cell_of_row _ _ 5 _ _ _ rowg
    go_wp2_with (refine wpList_store_row_g rfl 25 _ _ rfl F _ rfl rfl 25 _ rowF manSize rfl (by simp [Value.oneCell']) ?_)
    intro wz hT hg2 hs2
    have hb2 : Below w.heap.size w wz := bel.grown hg2 bel.size (fun k hk => by simp only [Option.some.injEq] at hk; omega)
    have tz : Touch F w4 wz := Touch.of_grown hg2 (fun k hk => by simp only [Option.some.injEq] at hk; omega)
    have O2 := owns_base (base' := w.heap.size) (tz.owns_from O2 (by omega)) (by omega)
    have O3 := owns_base (base' := w.heap.size) (tz.owns_from O3 (by omega)) (by omega)
    clear hg2 hs2 tz p0 p1 p2 p3 p4 p5
    go_wp2_with fail
    refine ret_row rfl F rfl hT Tryd.underlying25 rfl manSize rfl ?_
    exact ⟨_, _, rfl, O2, O3, hb2⟩
end Go.Proofs.YtldopocmmeidkaaDoor
