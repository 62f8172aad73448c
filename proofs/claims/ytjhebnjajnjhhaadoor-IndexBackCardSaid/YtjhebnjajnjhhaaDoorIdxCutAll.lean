/- Index.Cut: what lies at a place, or behind, is none. -/
import Derived.Test.YtjhebnjajnjhhaaDoorIdxDel
import Derived.Deep.RegionWith
import Derived.Deep.DeepCutAuto
import Derived.Deep.CutBlock
namespace Go.Proofs.YtjhebnjajnjhhaaDoor
open Go Go.RowKit Idx

def adM (a : Int × Int) : Mk := ⟨a.1, 0, a.2⟩
theorem ads_flat (l : List (Int × Int)) : (l.map adM).flatMap mkV = l.flatMap adV := by rw [List.flatMap_map]; rfl
theorem cutI_ads (p : Int) (l : List (Int × Int)) : cutI p (l.map adM) = (l.filter fun a => decide (a.2 < p)).map adM := by
  unfold cutI
  rw [List.filter_map]
  rfl

/-- Places rise. -/
def rises : List Mk → Prop := fun l => ∀ i j (hi : i < l.length) (hj : j < l.length), i < j → l[i].pos < l[j].pos

theorem rises_behind {l : List Mk} (h : rises l) (a : Int) : ∀ k (hk : k < l.length), a ≤ l[k].pos → ∀ j (hj : j < l.length), k ≤ j → a ≤ l[j].pos := by
  intro k hk ha j hj hkj
  by_cases e : k = j
  · subst e; exact ha
  · have := h k j hk hj (by omega)
    omega

def ICutPost (F : Nat → Prop) (g : Nat) (x' : Ix) (w : World) (e : Ending) (w' : World) : Prop :=
  e = .returned (.tuple #[]) ∧ IdxAt w' F g x' ∧ Frame F w w'

set_option maxRecDepth 100000 in
set_option maxHeartbeats 2000000 in
theorem icut_calls {w : World} {F : Nat → Prop} {g : Nat} {x : Ix} (h : IdxAt w F g x) (h1 : rises x.marks) (h2 : rises (x.adds.map adM)) (a : Int) :
    Calls Tryd.prog 28 #[.pointer (some ⟨g, 0, none⟩), .int .i64 a] w (ICutPost F g (Idx.cut x a) w) := by
  obtain ⟨vm, va, h⟩ := h
  have hpar : Idx.cut x a = { x with marks := cutI a x.marks, adds := x.adds.filter (fun p => decide (p.2 < a)), time := ((cutI a x.marks).getLast?.map (·.time)).getD minT } := rfl
  have b1 := below_alloc w (.cells #[.int .i64 a] 3)
  obtain ⟨W, hW⟩ : ∃ W, W = w.alloc (.cells #[.int .i64 a] 3) := ⟨_, rfl⟩
  have hc : W.cell? ⟨w.heap.size, 0, none⟩ = some (.int .i64 a) := by rw [hW]; exact cell_of_row _ _ 0 _ _ _ (heap_alloc_new w _)
  have hv := h.below b1
  rw [← hW] at hv b1
  have hrow := hv.row
  have c1 : W.cell? ⟨g, 1, none⟩ = some vm := cell_of_row W g 1 _ _ _ hrow
  have c2 : W.cell? ⟨g, 2, none⟩ = some va := cell_of_row W g 2 _ _ _ hrow
  have hlt : g < w.heap.size := h.old g h.mine
  have hna := hv.not_row.1
  have hnm := hv.not_row.2
  have hap := hv.apart
  have hgc : g ≠ w.heap.size := by omega
  have hcm : vm.ownBlock ≠ some w.heap.size := fun e => by have := h.old _ (h.inM _ e); omega
  have hca : va.ownBlock ≠ some w.heap.size := fun e => by have := h.old _ (h.inA _ e); omega
  have hd1 := idelFunc_calls (w := W.drew) (v := vm) a w.heap.size hc hv.marks (rises_behind h1 a)
  have hd2 := fun W' (hc' : W'.cell? ⟨w.heap.size, 0, none⟩ = some (.int .i64 a)) (ho : W'.ownsRow 0 34 3 va (x.adds.map adM).length ((x.adds.map adM).flatMap mkV)) => idelFunc_calls (w := W') (v := va) a w.heap.size hc' ho (rises_behind h2 a)
  have hads : W.drew.ownsRow 0 34 3 va (x.adds.map adM).length ((x.adds.map adM).flatMap mkV) := by rw [ads_flat, List.length_map]; exact hv.adds
  have hrowc : W.drew.heap[w.heap.size]? = some (.cells #[.int .i64 a] 3 (0, 0)) := by rw [hW]; exact heap_alloc_new w _
  unfold IDelPost at hd1 hd2
  rw [cutI_ads] at hd2
  obtain ⟨am, cm, rfl⟩ := owns_slice hv.marks
  obtain ⟨aa, ca, rfl⟩ := owns_slice hv.adds
  have c1d : W.drew.cell? ⟨g, 1, none⟩ = some (.slice am x.marks.length cm) := c1
  have c2d : W.drew.cell? ⟨g, 2, none⟩ = some (.slice aa x.adds.length ca) := c2
  have HV := Lib.hid hv
  have HP := Lib.hid hpar
  have HW := Lib.hid hW
  have HB := Lib.hid b1
  have HRC := Lib.hid hrowc
  have HAD := Lib.hid hads
  clear hpar hv b1 h hrowc hads h1 h2 hW
  generalize hmk : cutI a x.marks = mk' at *
  generalize hak : x.adds.filter (fun p => decide (p.2 < a)) = ak' at *
  go_enter Tryd.func28, Tryd.ntmps28
  go_upto_region 2 with fail
  rw [← HW.out]
  go_cut [21] (fun _ wx => ∃ vm' va', IdxV wx F g { x with marks := mk', adds := ak' } vm' va' ∧ Frame F w wx)
  case first =>
    go_region_with (first
      | (go_at_call 64; ((with_reducible refine hd1.mono ?_); (rintro e w2 ⟨v2, rfl, o2, in2, f2⟩); (obtain ⟨a2, c2', rfl⟩ := owns_slice o2); have d1 : w2.cell? ⟨g, 1, none⟩ = some (.slice am x.marks.length cm) := cell_of_row w2 g 1 _ _ _ (f2.heap hrow hnm); have d2 : w2.cell? ⟨g, 2, none⟩ = some (.slice aa x.adds.length ca) := cell_of_row w2 g 2 _ _ _ (f2.heap hrow hnm); have q1 : w2.cell? ⟨w.heap.size, 0, none⟩ = some (.int .i64 a) := cell_of_row _ _ 0 _ _ _ (f2.heap HRC.out hcm); have q2 := f2.owns HAD.out (fun k hk e => hap k e hk)))
      | (go_at_call 64; ((with_reducible refine (hd2 _ q1 q2).mono ?_); (rintro e w3 ⟨v3, rfl, o3, in3, f3⟩); (obtain ⟨a3, c3', rfl⟩ := owns_slice o3); have row3 := f3.heap (f2.heap hrow hnm) hna; have k1 : w3.cell? ⟨g, 1, none⟩ = some (.slice am x.marks.length cm) := cell_of_row w3 g 1 _ _ _ row3; have k2 : w3.cell? ⟨g, 2, none⟩ = some (.slice aa x.adds.length ca) := cell_of_row w3 g 2 _ _ _ row3; have z1 := frozen_of_row w3 g 1 _ _ row3; have z2 := frozen_of_row w3 g 2 _ _ row3)))
    all_goals
      go_wp2_with fail
      go_meet
      rw [ads_flat, List.length_map] at o3
      simp only [List.length_map] at in3
      have t1 := Touch.setCell (g := g) w3 1 (.slice a2 mk'.length c2')
      have rA := heap_setCell_same w3 g 1 _ _ (.slice a2 mk'.length c2') row3
      have rB := heap_setCell_same _ g 2 _ _ (.slice a3 ak'.length c3') rA
      have t2 := Touch.setCell (g := g) (w3.setCell ⟨g, 1, none⟩ (.slice a2 mk'.length c2')) 2 (.slice a3 ak'.length c3')
      have tt := t1.trans t2
      have om := tt.owns (f3.owns o2 (fun k hk e => hap k (in2 k hk) e)) row3 (by decide)
      have oa := tt.owns o3 row3 (by decide)
      have F2 : Frame F W w2 := (Frame.of_below (Below.refl _ _).drew).trans f2 (fun i e => .inl (HV.out.inM i e))
      have F3 : Frame F W w3 := F2.trans f3 (fun i e => .inl (HV.out.inA i e))
      have F4 := F3.trans (Frame.of_touch (F := F) tt HV.out.mine) (fun _ e => .inl e)
      have F5 := Frame.after_below HB.out F4
      refine ⟨_, _, ⟨HV.out.mine, fun k hk => ?_, rB, om, fun k hk => HV.out.inM k (in2 k hk), oa, fun k hk => HV.out.inA k (in3 k hk), fun k hk e => hap k (in2 k hk) (in3 k e)⟩, F5⟩
      exact Nat.lt_of_lt_of_le (HV.out.old k hk) F4.size
  case rest =>
    obtain ⟨vm', va', hx, hf⟩ := hcut
    have row5 := hx.row
    have k3 : wc.cell? ⟨g, 3, none⟩ = some (.int .i64 x.time) := cell_of_row wc g 3 _ _ _ row5
    have z3 := frozen_of_row wc g 3 _ _ row5
    obtain ⟨wd, hwd⟩ : ∃ wd, wd = wc.setCell ⟨g, 3, none⟩ (.int .i64 (-9223372036854775808)) := ⟨_, rfl⟩
    have ht : IdxV wd F g { x with marks := mk', adds := ak', time := minT } vm' va' ∧ Frame F wc wd := by rw [hwd]; exact hx.timed minT
    have HT := Lib.hid ht
    have HWD := Lib.hid hwd
    clear ht row5 hx hwd
    go_upto_region 4 with fail
    rw [← HWD.out]
    obtain ⟨hd, fd⟩ := HT.out
    have c1 : wd.cell? ⟨g, 1, none⟩ = some vm' := cell_of_row wd g 1 _ _ _ hd.row
    have c3 : wd.cell? ⟨g, 3, none⟩ = some (.int .i64 minT) := cell_of_row wd g 3 _ _ _ hd.row
    have z3 := frozen_of_row wd g 3 _ _ hd.row
    have hom := hd.marks
    obtain ⟨am', cm', rfl⟩ := owns_slice hd.marks
    have FF : Frame F w wd := hf.trans fd (fun _ e => .inl e)
    rcases Nat.eq_zero_or_pos mk'.length with h0 | h0
    · have hn : mk' = [] := List.eq_nil_of_length_eq_zero h0
      have HD := Lib.hid hd
      have HN := Lib.hid hn
      clear hd hn fd
      simp only at hom c1
      rw [h0] at c1
      go_wp2_with fail
      go_end0
      unfold ICutPost
      rw [HP.out]
      have e : (mk'.getLast?.map (·.time)).getD minT = minT := by rw [HN.out]; rfl
      rw [e]
      exact ⟨rfl, ⟨_, _, HD.out⟩, FF⟩
    · obtain ⟨k, hk⟩ : ∃ k, mk'.length = k + 1 := ⟨mk'.length - 1, by omega⟩
      simp only at hom c1
      obtain ⟨b, o, rfl, _, _, hx⟩ := (Rd.of_owns hom).at h0
      have hkl : k < mk'.length := by omega
      have m1 := (Rd.of_owns hom).len_le
      obtain ⟨q0, q1, q2⟩ := mk_cells hx k hkl
      have hgl : mk'.getLast? = some mk'[k] := by rw [List.getLast?_eq_getElem?, show mk'.length - 1 = k by omega, List.getElem?_eq_getElem hkl]
      have HGL := Lib.hid hgl
      have HD := Lib.hid hd
      have hs1 : IntKind.i64.wrap ((k : Int) + 1 - 1) = (k : Int) := by rw [IntKind.wrap_i64]; omega
      have hkb : k ≤ 9223372036854775806 := by omega
      have hu := hd.timed mk'[k].time
      have HU := Lib.hid hu
      generalize mk'[k] = y at *
      rw [hk] at c1
      clear hx hgl hd fd hu hom h0 hk hkl
      go_wp2_with fail
      go_end0
      unfold ICutPost
      rw [HP.out, HGL.out]
      obtain ⟨hU, fU⟩ := HU.out
      exact ⟨rfl, ⟨_, _, hU⟩, FF.trans fU (fun _ e => .inl e)⟩
end Go.Proofs.YtjhebnjajnjhhaaDoor
