/- The document's Make: a segment's manifest, or what is amiss. -/
import Derived.Test.YtegiingcnhafbaaGreatDoorManMake
import Derived.Test.YtegiingcnhafbaaGreatDoorRefValidMan
import Derived.Test.YtegiingcnhafbaaGreatDoorRefName
import Derived.Test.YtegiingcnhafbaaGreatDoorRefPairCopy
import Derived.Test.YtegiingcnhafbaaGreatDoorRefMore
import Derived.Test.YtegiingcnhafbaaGreatDoorSee
import Derived.Deep.RegionLaw
import Derived.Deep.RegionWith
namespace Go.Proofs.YtegiingcnhafbaaGreatDoor
open Go Go.RowKit Man Vint Crc

theorem Er.code0 {e : Er} : e.code = 0 ↔ e = .fine := by
  cases e with
  | fine => exact ⟨fun _ => rfl, fun _ => rfl⟩
  | bare i => exact ⟨fun h => by simp only [Er.code] at h; omega, fun h => by cases h⟩
  | placed i p => exact ⟨fun h => by simp only [Er.code] at h; omega, fun h => by cases h⟩
theorem setM' {W : World} {g : Nat} {a0 a1 a2 a3 a4 a5 : Value} (b0 b1 b2 b3 b4 b5 : Value) (row : W.heap[g]? = some (.cells #[a0, a1, a2, a3, a4, a5] 27 (0, 0))) :
    ((((((W.setCell ⟨g, 0, none⟩ b0).setCell ⟨g, 1, none⟩ b1).setCell ⟨g, 2, none⟩ b2).setCell ⟨g, 3, none⟩ b3).setCell ⟨g, 4, none⟩ b4).setCell ⟨g, 5, none⟩ b5).heap[g]? = some (.cells #[b0, b1, b2, b3, b4, b5] 27 (0, 0)) ∧
    Touch g W ((((((W.setCell ⟨g, 0, none⟩ b0).setCell ⟨g, 1, none⟩ b1).setCell ⟨g, 2, none⟩ b2).setCell ⟨g, 3, none⟩ b3).setCell ⟨g, 4, none⟩ b4).setCell ⟨g, 5, none⟩ b5) :=
  ⟨heap_setCell_same _ g 5 _ _ _ (heap_setCell_same _ g 4 _ _ _ (heap_setCell_same _ g 3 _ _ _ (heap_setCell_same _ g 2 _ _ _ (heap_setCell_same _ g 1 _ _ _ (heap_setCell_same W g 0 _ _ _ row))))),
   (((((Touch.setCell W 0 b0).set 1 b1).set 2 b2).set 3 b3).set 4 b4).set 5 b5⟩
theorem setF {W : World} {g : Nat} {a0 a1 a2 : Value} (b0 b1 b2 : Value) (row : W.heap[g]? = some (.cells #[a0, a1, a2] 33 (0, 0))) :
    (((W.setCell ⟨g, 0, none⟩ b0).setCell ⟨g, 1, none⟩ b1).setCell ⟨g, 2, none⟩ b2).heap[g]? = some (.cells #[b0, b1, b2] 33 (0, 0)) ∧
    Touch g W (((W.setCell ⟨g, 0, none⟩ b0).setCell ⟨g, 1, none⟩ b1).setCell ⟨g, 2, none⟩ b2) :=
  ⟨heap_setCell_same _ g 2 _ _ _ (heap_setCell_same _ g 1 _ _ _ (heap_setCell_same W g 0 _ _ _ row)), ((Touch.setCell W 0 b0).set 1 b1).set 2 b2⟩
def RefMakePost (m : ManD) (w : World) (e : Ending) (w' : World) : Prop :=
  Below w.heap.size w w' ∧ ((manOk m ∧ ∃ ve vo, e = .returned (.tuple #[manA m ve vo, fv 0 false 0]) ∧ ManRd w' m ve vo) ∨ (¬ manOk m ∧ ∃ er, e = .returned (.tuple #[.agg #[.int .i64 0, .int .i64 0, .int .i64 0, .int .i64 0, .slice none 0 0, .slice none 0 0], er.fault]) ∧ MBad m er))

set_option maxRecDepth 100000 in
set_option maxHeartbeats 2000000 in
theorem refMake_calls {w : World} (id base fin time : Int) {eps : List Epo.Pr} {ap ad am : Option Addr} {cp cd cm : Nat} {ld lm : List UInt8} (he : eps.length ≤ 300)
    (hp : Rd w 2 (.slice ap eps.length cp) eps.length (eps.flatMap prV)) (hd : Rd w 1 (.slice ad ld.length cd) ld.length (bvs ld)) (hm : Rd w 1 (.slice am lm.length cm) lm.length (bvs lm)) :
    Calls Tryz.prog 6 #[.int .i64 id, .int .i64 base, .int .i64 fin, .int .i64 time, .slice ap eps.length cp, .slice ad ld.length cd, .slice am lm.length cm] w (RefMakePost (makeM id base fin time eps ld lm) w) := by
  obtain ⟨M, hM⟩ : ∃ M, M = makeM id base fin time eps ld lm := ⟨_, rfl⟩
  rw [← hM]
  have HM := Lib.hid hM
  clear hM
  have hdl := hd.len_le
  have hml := hm.len_le
  obtain ⟨n1, hn1⟩ : ∃ n, n = objectName id ⟨#[100, 97, 116, 97]⟩ base := ⟨_, rfl⟩
  obtain ⟨n2, hn2⟩ : ∃ n, n = objectName id ⟨#[109, 97, 114, 107, 115]⟩ base := ⟨_, rfl⟩
  obtain ⟨x1, hx1⟩ : ∃ n, n = (sum ld).toNat := ⟨_, rfl⟩
  obtain ⟨x2, hx2⟩ : ∃ n, n = (sum lm).toNat := ⟨_, rfl⟩
  have HN1 := Lib.hid hn1
  have HN2 := Lib.hid hn2
  have HX1 := Lib.hid hx1
  have HX2 := Lib.hid hx2
  clear hn1 hn2 hx1 hx2
  have b1 := below_alloc w (.cells #[.int .i64 0, .int .i64 0, .int .i64 0, .int .i64 0, .slice none 0 0, .slice none 0 0] 27)
  have rowz := heap_alloc_new w (.cells #[.int .i64 0, .int .i64 0, .int .i64 0, .int .i64 0, .slice none 0 0, .slice none 0 0] 27)
  go_enter Tryz.func6, Tryz.ntmps6
  go_upto_region 1 with fail
  obtain ⟨w0, hw0⟩ : ∃ w0, w0 = w.alloc (.cells #[.int .i64 0, .int .i64 0, .int .i64 0, .int .i64 0, .slice none 0 0, .slice none 0 0] 27) := ⟨_, rfl⟩
  rw [← hw0] at b1 rowz ⊢
  have b2 := below_alloc w0 (.cells #[.int .i64 0, .bool false, .int .i64 0] 33)
  have rowf := heap_alloc_new w0 (.cells #[.int .i64 0, .bool false, .int .i64 0] 33)
  have rowz := heap_below b2 rowz
  have B1 := nxt b1 b2
  have hszf : w0.heap.size = w.heap.size + 1 := by rw [hw0]; simp
  obtain ⟨w1, hw1⟩ : ∃ w1, w1 = w0.alloc (.cells #[.int .i64 0, .bool false, .int .i64 0] 33) := ⟨_, rfl⟩
  obtain ⟨gz, hgz⟩ : ∃ g, g = w.heap.size := ⟨_, rfl⟩
  obtain ⟨gf, hgf⟩ : ∃ F, F = w0.heap.size := ⟨_, rfl⟩
  have hgzw : w.heap.size ≤ gz ∧ w.heap.size ≤ gf ∧ gz ≠ gf := by omega
  rw [← hszf]
  rw [← hw1] at b2 rowf rowz B1 ⊢
  rw [← hgz] at rowz ⊢
  rw [← hgf] at rowf ⊢
  have hg1 : gz < w1.heap.size ∧ gf < w1.heap.size := by rw [hw1]; simp; omega
  clear hw0 hw1 hgz hgf hszf b1 b2
  have hcl := refPairs_calls _ eps w1 (hp.below B1) (by omega)
  go_wp2_with fail
  with_reducible refine hcl.mono ?_
  rintro e w2 ⟨v2, rfl, o2, b2⟩
  obtain ⟨a2, c2, rfl⟩ := owns_slice o2
  clear hcl
  have B2 := nxt B1 b2
  have bm := below_alloc w2 (.cells #[.int .i64 id, .int .i64 base, .int .i64 fin, .int .i64 time, .slice a2 eps.length c2, .slice none 0 0] 27)
  have rowm := heap_alloc_new w2 (.cells #[.int .i64 id, .int .i64 base, .int .i64 fin, .int .i64 time, .slice a2 eps.length c2, .slice none 0 0] 27)
  go_upto_region 2 with fail
  obtain ⟨w3, hw3⟩ : ∃ w3, w3 = w2.alloc (.cells #[.int .i64 id, .int .i64 base, .int .i64 fin, .int .i64 time, .slice a2 eps.length c2, .slice none 0 0] 27) := ⟨_, rfl⟩
  obtain ⟨gm, hgm⟩ : ∃ g, g = w2.heap.size := ⟨_, rfl⟩
  rw [← hw3] at bm rowm ⊢
  rw [← hgm] at rowm ⊢
  have hgm2 : gm = w2.heap.size := hgm
  have HGM : w.heap.size ≤ gm ∧ gz ≠ gm ∧ gf ≠ gm ∧ w1.heap.size ≤ gm := by have := B2.size; have := b2.size; omega
  clear hw3 hgm hgm2
  have B3 := nxt B2 bm
  have o3 := owns_below o2 bm
  have rowz3 := heap_below (nxt b2 bm) rowz
  have rowf3 := heap_below (nxt b2 bm) rowf
  have hob1 := refObject_calls id ⟨#[100, 97, 116, 97]⟩ base w3 (by decide)
  rw [show (if objectOk id ⟨#[100, 97, 116, 97]⟩ base = true then (⟨(objectL id.toNat ⟨#[100, 97, 116, 97]⟩ base.toNat).toArray⟩ : ByteArray) else ⟨#[]⟩) = n1 from HN1.out.symm] at hob1
  go_wp2_with fail
  with_reducible refine hob1.mono ?_
  rintro e w4 ⟨rfl, b4⟩
  clear hob1
  have B4 := nxt B3 b4
  have hs1 := refSum_calls _ ld w4 (hd.below B4)
  rw [← HX1.out] at hs1
  go_wp2_with fail
  with_reducible refine hs1.mono ?_
  rintro e w4' ⟨rfl, hw⟩
  subst hw
  clear hs1
  have hob2 := refObject_calls id ⟨#[109, 97, 114, 107, 115]⟩ base w4' (by decide)
  rw [show (if objectOk id ⟨#[109, 97, 114, 107, 115]⟩ base = true then (⟨(objectL id.toNat ⟨#[109, 97, 114, 107, 115]⟩ base.toNat).toArray⟩ : ByteArray) else ⟨#[]⟩) = n2 from HN2.out.symm] at hob2
  go_wp2_with fail
  with_reducible refine hob2.mono ?_
  rintro e w5 ⟨rfl, b5⟩
  clear hob2
  have B5 := nxt B4 b5
  have hs2 := refSum_calls _ lm w5 (hm.below B5)
  rw [← HX2.out] at hs2
  go_wp2_with fail
  with_reducible refine hs2.mono ?_
  rintro e w5' ⟨rfl, hw⟩
  subst hw
  clear hs2
  have b45 := nxt b4 b5
  have rowm5 := heap_below b45 rowm
  have hgm5 : gm < w5'.heap.size := (Array.getElem?_eq_some_iff.1 rowm5).1
  have e5 : (w5'.alloc (.cells #[.string n1, .int .i64 (ld.length : Int), .int .u32 (x1 : Int), .string n2, .int .i64 (lm.length : Int), .int .u32 (x2 : Int)] 44)).cell? ⟨gm, 5, none⟩ = some (.slice none 0 0) := cell_of_row _ _ 5 _ _ _ (heap_below (below_alloc w5' _) rowm5)
  have z5 : (w5'.alloc (.cells #[.string n1, .int .i64 (ld.length : Int), .int .u32 (x1 : Int), .string n2, .int .i64 (lm.length : Int), .int .u32 (x2 : Int)] 44)).frozen? ⟨gm, 5, none⟩ = false := frozen_of_row _ gm 5 _ _ (heap_below (below_alloc w5' _) rowm5)
  have e5' : w5'.cell? ⟨gm, 5, none⟩ = some (.slice none 0 0) := cell_of_row _ _ 5 _ _ _ (heap_below b45 rowm)
  have z5' : w5'.frozen? ⟨gm, 5, none⟩ = false := frozen_of_row _ gm 5 _ _ (heap_below b45 rowm)
  go_upto_region 3 with fail
  have t6 := Touch.setCell w5' (g := gm) 5 (.slice (some ⟨w5'.heap.size, 0, none⟩) 2 2)
  have rowm6 : (w5'.setCell ⟨gm, 5, none⟩ (.slice (some ⟨w5'.heap.size, 0, none⟩) 2 2)).heap[gm]? = some (.cells #[.int .i64 id, .int .i64 base, .int .i64 fin, .int .i64 time, .slice a2 eps.length c2, .slice (some ⟨w5'.heap.size, 0, none⟩) 2 2] 27 (0, 0)) := heap_setCell_same w5' gm 5 _ _ _ rowm5
  have o6 := Touch.owns t6 (owns_below o3 b45) rowm5 (by decide)
  have rowz6 := t6.heap (heap_below b45 rowz3) HGM.2.1
  have rowf6 := t6.heap (heap_below b45 rowf3) HGM.2.2.1
  have B6 : Below w.heap.size w (w5'.setCell ⟨gm, 5, none⟩ (.slice (some ⟨w5'.heap.size, 0, none⟩) 2 2)) := B5.setCell (p := ⟨gm, 5, none⟩) HGM.1 _
  have hsz : (w5'.setCell ⟨gm, 5, none⟩ (.slice (some ⟨w5'.heap.size, 0, none⟩) 2 2)).heap.size = w5'.heap.size := by simp
  have hgo5 : w1.heap.size ≤ w5'.heap.size := by have := b45.size; have := bm.size; have := b2.size; omega
  clear e5' z5' e5 z5 t6 hgm5
  obtain ⟨go, hgo⟩ : ∃ go, go = w5'.heap.size := ⟨_, rfl⟩
  rw [← hgo] at rowm6 o6 rowz6 rowf6 B6 hsz hgo5 ⊢
  obtain ⟨w6, hw6⟩ : ∃ w6, w6 = w5'.setCell ⟨gm, 5, none⟩ (.slice (some ⟨go, 0, none⟩) 2 2) := ⟨_, rfl⟩
  rw [← hw6] at rowm6 o6 rowz6 rowf6 B6 hsz ⊢
  have bo := below_alloc w6 (.cells #[.string n1, .int .i64 (ld.length : Int), .int .u32 (x1 : Int), .string n2, .int .i64 (lm.length : Int), .int .u32 (x2 : Int)] 44)
  have rowo := heap_alloc_new w6 (.cells #[.string n1, .int .i64 (ld.length : Int), .int .u32 (x1 : Int), .string n2, .int .i64 (lm.length : Int), .int .u32 (x2 : Int)] 44)
  rw [hsz] at rowo
  have rowm7 := heap_below bo rowm6
  have rowz7 := heap_below bo rowz6
  have rowf7 := heap_below bo rowf6
  have o7 := owns_below o6 bo
  have B7 := nxt B6 bo
  obtain ⟨w7, hw7⟩ : ∃ w7, w7 = w6.alloc (.cells #[.string n1, .int .i64 (ld.length : Int), .int .u32 (x1 : Int), .string n2, .int .i64 (lm.length : Int), .int .u32 (x2 : Int)] 44) := ⟨_, rfl⟩
  rw [← hw7] at rowo rowm7 rowz7 rowf7 o7 B7 ⊢
  have hgoz : gz ≠ go ∧ gf ≠ go := by omega
  clear hw6 hw7 hsz hgo rowm6 rowz6 rowf6 o6 B6 bo rowm5 b45 o3 rowz3 rowf3 rowm bm hgo5 b4 b5
  have hMA : ∀ ve vo, manA M ve vo = .agg #[.int .i64 id, .int .i64 base, .int .i64 fin, .int .i64 time, ve, vo] := fun _ _ => by rw [HM.out]; rfl
  have hre : M.eps = eps := by rw [HM.out]; rfl
  have hro : M.objs.length = 2 ∧ M.objs.flatMap obV = [.string n1, .int .i64 (ld.length : Int), .int .u32 (x1 : Int), .string n2, .int .i64 (lm.length : Int), .int .u32 (x2 : Int)] := by
    rw [HM.out, HN1.out, HN2.out, HX1.out, HX2.out]; exact ⟨rfl, rfl⟩
  have mkRd : ∀ W : World, W.ownsRow w1.heap.size 52 2 (.slice a2 eps.length c2) eps.length (eps.flatMap prV) → W.heap[go]? = some (.cells #[.string n1, .int .i64 (ld.length : Int), .int .u32 (x1 : Int), .string n2, .int .i64 (lm.length : Int), .int .u32 (x2 : Int)] 44 (0, 0)) → ManRd W M (.slice a2 eps.length c2) (.slice (some ⟨go, 0, none⟩) 2 2) := fun W hO hr => by
    unfold ManRd
    rw [hre, hro.1, hro.2]
    exact ⟨Rd.of_owns hO, rd_row hr 3 2 rfl (by decide)⟩
  have hsm : Small M := by
    unfold Small
    rw [hre, hro.1]
    refine ⟨he, by omega, ?_⟩
    rw [HM.out]
    intro o ho
    unfold makeM at ho
    simp only [List.mem_cons, List.not_mem_nil, or_false] at ho
    rcases ho with rfl | rfl
    · unfold objectOf; have := objectName_size id ⟨#[100, 97, 116, 97]⟩ base; simp only; omega
    · unfold objectOf; have := objectName_size id ⟨#[109, 97, 114, 107, 115]⟩ base; simp only; omega
  have hva := refValidMan_calls (mkRd w7 o7 rowo) hsm
  rw [hMA] at hva
  have HMA := Lib.hid hMA
  have D : ∀ W : World, W.heap[gm]? = some (.cells #[.int .i64 id, .int .i64 base, .int .i64 fin, .int .i64 time, .slice a2 eps.length c2, .slice (some ⟨go, 0, none⟩) 2 2] 27 (0, 0)) → W.cell? ⟨gm, 0, none⟩ = some (.int .i64 id) ∧ W.cell? ⟨gm, 1, none⟩ = some (.int .i64 base) ∧ W.cell? ⟨gm, 2, none⟩ = some (.int .i64 fin) ∧ W.cell? ⟨gm, 3, none⟩ = some (.int .i64 time) ∧ W.cell? ⟨gm, 4, none⟩ = some (.slice a2 eps.length c2) ∧ W.cell? ⟨gm, 5, none⟩ = some (.slice (some ⟨go, 0, none⟩) 2 2) := fun W r =>
    ⟨cell_of_row _ _ 0 _ _ _ r, cell_of_row _ _ 1 _ _ _ r, cell_of_row _ _ 2 _ _ _ r, cell_of_row _ _ 3 _ _ _ r, cell_of_row _ _ 4 _ _ _ r, cell_of_row _ _ 5 _ _ _ r⟩
  obtain ⟨d0, d1, d2, d3, d4, d5⟩ := D w7 rowm7
  clear hMA hre hro hsm
  go_wp2_with fail
  with_reducible refine hva.mono ?_
  rintro e w8 ⟨er, rfl, hmbad, b8⟩
  clear d0 d1 d2 d3 d4 d5 hva
  have B8 := nxt B7 b8
  have HMBAD := Lib.hid hmbad
  obtain ⟨cd', hcd⟩ : ∃ c, c = er.code := ⟨_, rfl⟩
  obtain ⟨ch, hch⟩ : ∃ c, c = er.has := ⟨_, rfl⟩
  obtain ⟨cp', hcp⟩ : ∃ c, c = er.pos := ⟨_, rfl⟩
  have hfv : er.fault = fv cd' ch cp' := by rw [hcd, hch, hcp]; exact er.fault_eq
  rw [hfv]
  have HFV := Lib.hid hfv
  have HCD := Lib.hid hcd
  unfold fv
  clear hmbad hcd hch hcp hfv
  have b9 := below_alloc w8 (.cells #[.int .i64 cd', .bool ch, .int .i64 cp'] 33)
  have row9 := heap_alloc_new w8 (.cells #[.int .i64 cd', .bool ch, .int .i64 cp'] 33)
  go_upto_region 4 with fail
  obtain ⟨w9, hw9⟩ : ∃ w3, w3 = w8.alloc (.cells #[.int .i64 cd', .bool ch, .int .i64 cp'] 33) := ⟨_, rfl⟩
  obtain ⟨g9, hg9⟩ : ∃ g3, g3 = w8.heap.size := ⟨_, rfl⟩
  have hG9 : gf < g9 := by have := B8.size; have := (Array.getElem?_eq_some_iff.1 (heap_below b8 rowf7)).1; omega
  rw [← hw9] at b9 row9 ⊢
  rw [← hg9] at row9 ⊢
  clear hw9 hg9
  have B9 := nxt B8 b9
  have b79 := nxt b8 b9
  have rowz9 := heap_below b79 rowz7
  have rowf9 := heap_below b79 rowf7
  have rowm9 := heap_below b79 rowm7
  have o9 := owns_below o7 b79
  have rowo9 := heap_below b79 rowo
  clear b8 b9 b79 rowz7 rowf7 rowm7 o7 rowo
  have c0 : w9.cell? ⟨g9, 0, none⟩ = some (.int .i64 cd') := cell_of_row _ _ 0 _ _ _ row9
  have hg9 : gz ≠ g9 ∧ gf ≠ g9 := by
    refine ⟨fun e => ?_, fun e => ?_⟩
    · rw [e, row9] at rowz9; simp only [Option.some.injEq, Obj.cells.injEq] at rowz9; exact absurd rowz9.2.1 (by decide)
    · have := hG9; omega
  by_cases hc : cd' = 0
  case neg =>
    have hc' : (cd' != 0) = true := by rw [bne_iff_ne]; exact hc
    have HC := Lib.hid hc
    have j1 : w9.cell? ⟨g9, 1, none⟩ = some (.bool ch) := cell_of_row _ _ 1 _ _ _ row9
    have j2 : w9.cell? ⟨g9, 2, none⟩ = some (.int .i64 cp') := cell_of_row _ _ 2 _ _ _ row9
    clear hc rowm9 o9 rowo9 D mkRd
    have f0 : w9.cell? ⟨gz, 0, none⟩ = some (.int .i64 0) := cell_of_row _ _ 0 _ _ _ rowz9
    have f1 : w9.cell? ⟨gz, 1, none⟩ = some (.int .i64 0) := cell_of_row _ _ 1 _ _ _ rowz9
    have f2 : w9.cell? ⟨gz, 2, none⟩ = some (.int .i64 0) := cell_of_row _ _ 2 _ _ _ rowz9
    have f3 : w9.cell? ⟨gz, 3, none⟩ = some (.int .i64 0) := cell_of_row _ _ 3 _ _ _ rowz9
    have f4 : w9.cell? ⟨gz, 4, none⟩ = some (.slice none 0 0) := cell_of_row _ _ 4 _ _ _ rowz9
    have f5 : w9.cell? ⟨gz, 5, none⟩ = some (.slice none 0 0) := cell_of_row _ _ 5 _ _ _ rowz9
    have z0 : w9.frozen? ⟨gz, 0, none⟩ = false := frozen_of_row _ gz 0 _ _ rowz9
    have z1 : w9.frozen? ⟨gz, 1, none⟩ = false := frozen_of_row _ gz 1 _ _ rowz9
    have z2 : w9.frozen? ⟨gz, 2, none⟩ = false := frozen_of_row _ gz 2 _ _ rowz9
    have z3 : w9.frozen? ⟨gz, 3, none⟩ = false := frozen_of_row _ gz 3 _ _ rowz9
    have z4 : w9.frozen? ⟨gz, 4, none⟩ = false := frozen_of_row _ gz 4 _ _ rowz9
    have z5 : w9.frozen? ⟨gz, 5, none⟩ = false := frozen_of_row _ gz 5 _ _ rowz9
    have h0 : w9.cell? ⟨gf, 0, none⟩ = some (.int .i64 0) := cell_of_row _ _ 0 _ _ _ rowf9
    have h1 : w9.cell? ⟨gf, 1, none⟩ = some (.bool false) := cell_of_row _ _ 1 _ _ _ rowf9
    have h2 : w9.cell? ⟨gf, 2, none⟩ = some (.int .i64 0) := cell_of_row _ _ 2 _ _ _ rowf9
    have y0 : w9.frozen? ⟨gf, 0, none⟩ = false := frozen_of_row _ gf 0 _ _ rowf9
    have y1 : w9.frozen? ⟨gf, 1, none⟩ = false := frozen_of_row _ gf 1 _ _ rowf9
    have y2 : w9.frozen? ⟨gf, 2, none⟩ = false := frozen_of_row _ gf 2 _ _ rowf9
    obtain ⟨rZ, tZ⟩ := setM' (.int .i64 0) (.int .i64 0) (.int .i64 0) (.int .i64 0) (.slice none 0 0) (.slice none 0 0) rowz9
    obtain ⟨rF, tF⟩ := setF (.int .i64 cd') (.bool ch) (.int .i64 cp') rowf9
    have rZf := tZ.heap rowf9 (Ne.symm hgzw.2.2)
    have rZ9 := tZ.heap row9 (Ne.symm hg9.1)
    have rFz := tF.heap rowz9 hgzw.2.2
    obtain ⟨rZF, tZF⟩ := setF (.int .i64 cd') (.bool ch) (.int .i64 cp') rZf
    obtain ⟨rFZ, tFZ⟩ := setM' (.int .i64 0) (.int .i64 0) (.int .i64 0) (.int .i64 0) (.slice none 0 0) (.slice none 0 0) rFz
    have eZ := tZF.heap rZ hgzw.2.2
    have eF := tFZ.heap rF (Ne.symm hgzw.2.2)
    have BZ := tZF.below (tZ.below B9 hgzw.1 B9.size) hgzw.2.1 (tZ.below B9 hgzw.1 B9.size).size
    have BF := tFZ.below (tF.below B9 hgzw.2.1 B9.size) hgzw.1 (tF.below B9 hgzw.2.1 B9.size).size
    have l0 : ((((((w9.setCell ⟨gz, 0, none⟩ (.int .i64 0)).setCell ⟨gz, 1, none⟩ (.int .i64 0)).setCell ⟨gz, 2, none⟩ (.int .i64 0)).setCell ⟨gz, 3, none⟩ (.int .i64 0)).setCell ⟨gz, 4, none⟩ (.slice none 0 0)).setCell ⟨gz, 5, none⟩ (.slice none 0 0)).cell? ⟨g9, 0, none⟩ = some (.int .i64 cd') := cell_of_row _ _ 0 _ _ _ rZ9
    have l1 : ((((((w9.setCell ⟨gz, 0, none⟩ (.int .i64 0)).setCell ⟨gz, 1, none⟩ (.int .i64 0)).setCell ⟨gz, 2, none⟩ (.int .i64 0)).setCell ⟨gz, 3, none⟩ (.int .i64 0)).setCell ⟨gz, 4, none⟩ (.slice none 0 0)).setCell ⟨gz, 5, none⟩ (.slice none 0 0)).cell? ⟨g9, 1, none⟩ = some (.bool ch) := cell_of_row _ _ 1 _ _ _ rZ9
    have l2 : ((((((w9.setCell ⟨gz, 0, none⟩ (.int .i64 0)).setCell ⟨gz, 1, none⟩ (.int .i64 0)).setCell ⟨gz, 2, none⟩ (.int .i64 0)).setCell ⟨gz, 3, none⟩ (.int .i64 0)).setCell ⟨gz, 4, none⟩ (.slice none 0 0)).setCell ⟨gz, 5, none⟩ (.slice none 0 0)).cell? ⟨g9, 2, none⟩ = some (.int .i64 cp') := cell_of_row _ _ 2 _ _ _ rZ9
    have m0 : ((((((w9.setCell ⟨gz, 0, none⟩ (.int .i64 0)).setCell ⟨gz, 1, none⟩ (.int .i64 0)).setCell ⟨gz, 2, none⟩ (.int .i64 0)).setCell ⟨gz, 3, none⟩ (.int .i64 0)).setCell ⟨gz, 4, none⟩ (.slice none 0 0)).setCell ⟨gz, 5, none⟩ (.slice none 0 0)).cell? ⟨gf, 0, none⟩ = some (.int .i64 0) := cell_of_row _ _ 0 _ _ _ rZf
    have m1 : ((((((w9.setCell ⟨gz, 0, none⟩ (.int .i64 0)).setCell ⟨gz, 1, none⟩ (.int .i64 0)).setCell ⟨gz, 2, none⟩ (.int .i64 0)).setCell ⟨gz, 3, none⟩ (.int .i64 0)).setCell ⟨gz, 4, none⟩ (.slice none 0 0)).setCell ⟨gz, 5, none⟩ (.slice none 0 0)).cell? ⟨gf, 1, none⟩ = some (.bool false) := cell_of_row _ _ 1 _ _ _ rZf
    have m2 : ((((((w9.setCell ⟨gz, 0, none⟩ (.int .i64 0)).setCell ⟨gz, 1, none⟩ (.int .i64 0)).setCell ⟨gz, 2, none⟩ (.int .i64 0)).setCell ⟨gz, 3, none⟩ (.int .i64 0)).setCell ⟨gz, 4, none⟩ (.slice none 0 0)).setCell ⟨gz, 5, none⟩ (.slice none 0 0)).cell? ⟨gf, 2, none⟩ = some (.int .i64 0) := cell_of_row _ _ 2 _ _ _ rZf
    have n0 : ((((((w9.setCell ⟨gz, 0, none⟩ (.int .i64 0)).setCell ⟨gz, 1, none⟩ (.int .i64 0)).setCell ⟨gz, 2, none⟩ (.int .i64 0)).setCell ⟨gz, 3, none⟩ (.int .i64 0)).setCell ⟨gz, 4, none⟩ (.slice none 0 0)).setCell ⟨gz, 5, none⟩ (.slice none 0 0)).frozen? ⟨gf, 0, none⟩ = false := frozen_of_row _ gf 0 _ _ rZf
    have n1 : ((((((w9.setCell ⟨gz, 0, none⟩ (.int .i64 0)).setCell ⟨gz, 1, none⟩ (.int .i64 0)).setCell ⟨gz, 2, none⟩ (.int .i64 0)).setCell ⟨gz, 3, none⟩ (.int .i64 0)).setCell ⟨gz, 4, none⟩ (.slice none 0 0)).setCell ⟨gz, 5, none⟩ (.slice none 0 0)).frozen? ⟨gf, 1, none⟩ = false := frozen_of_row _ gf 1 _ _ rZf
    have n2 : ((((((w9.setCell ⟨gz, 0, none⟩ (.int .i64 0)).setCell ⟨gz, 1, none⟩ (.int .i64 0)).setCell ⟨gz, 2, none⟩ (.int .i64 0)).setCell ⟨gz, 3, none⟩ (.int .i64 0)).setCell ⟨gz, 4, none⟩ (.slice none 0 0)).setCell ⟨gz, 5, none⟩ (.slice none 0 0)).frozen? ⟨gf, 2, none⟩ = false := frozen_of_row _ gf 2 _ _ rZf
    have o0 : (((w9.setCell ⟨gf, 0, none⟩ (.int .i64 cd')).setCell ⟨gf, 1, none⟩ (.bool ch)).setCell ⟨gf, 2, none⟩ (.int .i64 cp')).cell? ⟨gz, 0, none⟩ = some (.int .i64 0) := cell_of_row _ _ 0 _ _ _ rFz
    have o1 : (((w9.setCell ⟨gf, 0, none⟩ (.int .i64 cd')).setCell ⟨gf, 1, none⟩ (.bool ch)).setCell ⟨gf, 2, none⟩ (.int .i64 cp')).cell? ⟨gz, 1, none⟩ = some (.int .i64 0) := cell_of_row _ _ 1 _ _ _ rFz
    have o2 : (((w9.setCell ⟨gf, 0, none⟩ (.int .i64 cd')).setCell ⟨gf, 1, none⟩ (.bool ch)).setCell ⟨gf, 2, none⟩ (.int .i64 cp')).cell? ⟨gz, 2, none⟩ = some (.int .i64 0) := cell_of_row _ _ 2 _ _ _ rFz
    have o3 : (((w9.setCell ⟨gf, 0, none⟩ (.int .i64 cd')).setCell ⟨gf, 1, none⟩ (.bool ch)).setCell ⟨gf, 2, none⟩ (.int .i64 cp')).cell? ⟨gz, 3, none⟩ = some (.int .i64 0) := cell_of_row _ _ 3 _ _ _ rFz
    have o4 : (((w9.setCell ⟨gf, 0, none⟩ (.int .i64 cd')).setCell ⟨gf, 1, none⟩ (.bool ch)).setCell ⟨gf, 2, none⟩ (.int .i64 cp')).cell? ⟨gz, 4, none⟩ = some (.slice none 0 0) := cell_of_row _ _ 4 _ _ _ rFz
    have o5 : (((w9.setCell ⟨gf, 0, none⟩ (.int .i64 cd')).setCell ⟨gf, 1, none⟩ (.bool ch)).setCell ⟨gf, 2, none⟩ (.int .i64 cp')).cell? ⟨gz, 5, none⟩ = some (.slice none 0 0) := cell_of_row _ _ 5 _ _ _ rFz
    have p0 : (((w9.setCell ⟨gf, 0, none⟩ (.int .i64 cd')).setCell ⟨gf, 1, none⟩ (.bool ch)).setCell ⟨gf, 2, none⟩ (.int .i64 cp')).frozen? ⟨gz, 0, none⟩ = false := frozen_of_row _ gz 0 _ _ rFz
    have p1 : (((w9.setCell ⟨gf, 0, none⟩ (.int .i64 cd')).setCell ⟨gf, 1, none⟩ (.bool ch)).setCell ⟨gf, 2, none⟩ (.int .i64 cp')).frozen? ⟨gz, 1, none⟩ = false := frozen_of_row _ gz 1 _ _ rFz
    have p2 : (((w9.setCell ⟨gf, 0, none⟩ (.int .i64 cd')).setCell ⟨gf, 1, none⟩ (.bool ch)).setCell ⟨gf, 2, none⟩ (.int .i64 cp')).frozen? ⟨gz, 2, none⟩ = false := frozen_of_row _ gz 2 _ _ rFz
    have p3 : (((w9.setCell ⟨gf, 0, none⟩ (.int .i64 cd')).setCell ⟨gf, 1, none⟩ (.bool ch)).setCell ⟨gf, 2, none⟩ (.int .i64 cp')).frozen? ⟨gz, 3, none⟩ = false := frozen_of_row _ gz 3 _ _ rFz
    have p4 : (((w9.setCell ⟨gf, 0, none⟩ (.int .i64 cd')).setCell ⟨gf, 1, none⟩ (.bool ch)).setCell ⟨gf, 2, none⟩ (.int .i64 cp')).frozen? ⟨gz, 4, none⟩ = false := frozen_of_row _ gz 4 _ _ rFz
    have p5 : (((w9.setCell ⟨gf, 0, none⟩ (.int .i64 cd')).setCell ⟨gf, 1, none⟩ (.bool ch)).setCell ⟨gf, 2, none⟩ (.int .i64 cp')).frozen? ⟨gz, 5, none⟩ = false := frozen_of_row _ gz 5 _ _ rFz
    clear tZ tF tZF tFZ rZ rF rZf rZ9 rFz
    go_wp2_with fail
    go_region
    all_goals
      first
        | (obtain ⟨wz, hwz⟩ : ∃ x, x = (((((((((w9.setCell ⟨gz, 0, none⟩ (.int .i64 0)).setCell ⟨gz, 1, none⟩ (.int .i64 0)).setCell ⟨gz, 2, none⟩ (.int .i64 0)).setCell ⟨gz, 3, none⟩ (.int .i64 0)).setCell ⟨gz, 4, none⟩ (.slice none 0 0)).setCell ⟨gz, 5, none⟩ (.slice none 0 0)).setCell ⟨gf, 0, none⟩ (.int .i64 cd')).setCell ⟨gf, 1, none⟩ (.bool ch)).setCell ⟨gf, 2, none⟩ (.int .i64 cp')) := ⟨_, rfl⟩; rw [← hwz] at eZ rZF BZ ⊢; have Rz := eZ; have Rf := rZF; have Bz := BZ; clear hwz)
        | (obtain ⟨wz, hwz⟩ : ∃ x, x = (((((((((w9.setCell ⟨gf, 0, none⟩ (.int .i64 cd')).setCell ⟨gf, 1, none⟩ (.bool ch)).setCell ⟨gf, 2, none⟩ (.int .i64 cp')).setCell ⟨gz, 0, none⟩ (.int .i64 0)).setCell ⟨gz, 1, none⟩ (.int .i64 0)).setCell ⟨gz, 2, none⟩ (.int .i64 0)).setCell ⟨gz, 3, none⟩ (.int .i64 0)).setCell ⟨gz, 4, none⟩ (.slice none 0 0)).setCell ⟨gz, 5, none⟩ (.slice none 0 0)) := ⟨_, rfl⟩; rw [← hwz] at rFZ eF BF ⊢; have Rz := rFZ; have Rf := eF; have Bz := BF; clear hwz)
      have s0 : wz.cell? ⟨gz, 0, none⟩ = some (.int .i64 0) := cell_of_row _ _ 0 _ _ _ Rz
      have s1 : wz.cell? ⟨gz, 1, none⟩ = some (.int .i64 0) := cell_of_row _ _ 1 _ _ _ Rz
      have s2 : wz.cell? ⟨gz, 2, none⟩ = some (.int .i64 0) := cell_of_row _ _ 2 _ _ _ Rz
      have s3 : wz.cell? ⟨gz, 3, none⟩ = some (.int .i64 0) := cell_of_row _ _ 3 _ _ _ Rz
      have s4 : wz.cell? ⟨gz, 4, none⟩ = some (.slice none 0 0) := cell_of_row _ _ 4 _ _ _ Rz
      have s5 : wz.cell? ⟨gz, 5, none⟩ = some (.slice none 0 0) := cell_of_row _ _ 5 _ _ _ Rz
      have t0 : wz.cell? ⟨gf, 0, none⟩ = some (.int .i64 cd') := cell_of_row _ _ 0 _ _ _ Rf
      have t1 : wz.cell? ⟨gf, 1, none⟩ = some (.bool ch) := cell_of_row _ _ 1 _ _ _ Rf
      have t2 : wz.cell? ⟨gf, 2, none⟩ = some (.int .i64 cp') := cell_of_row _ _ 2 _ _ _ Rf
      go_wp2_with fail
      refine bodyPost_ret (v := .tuple #[.agg #[.int .i64 0, .int .i64 0, .int .i64 0, .int .i64 0, .slice none 0 0, .slice none 0 0], fv cd' ch cp']) (by simp [results, go_sem, s0, s1, s2, s3, s4, s5, t0, t1, t2, fv]) rfl ?_
      exact ⟨Bz.drew, .inr ⟨fun hok => HC.out (by rw [HCD.out]; exact Er.code0.2 (HMBAD.out.fine_iff.2 hok)), er, by rw [HFV.out], HMBAD.out⟩⟩
  have hef : er = .fine := Er.code0.1 (by rw [← HCD.out]; exact hc)
  subst hef
  have HOK := Lib.hid (HMBAD.out.fine_iff.1 rfl)
  have hc' : (cd' != 0) = false := by rw [hc]; rfl
  have hN := fun W => fnone_calls W
  unfold fv at hN
  have hgmz : gm ≠ gz ∧ gm ≠ gf := ⟨Ne.symm HGM.2.1, Ne.symm HGM.2.2.1⟩
  clear hc
  have d0 : w9.cell? ⟨gm, 0, none⟩ = some (.int .i64 id) := cell_of_row _ _ 0 _ _ _ rowm9
  have d1 : w9.cell? ⟨gm, 1, none⟩ = some (.int .i64 base) := cell_of_row _ _ 1 _ _ _ rowm9
  have d2 : w9.cell? ⟨gm, 2, none⟩ = some (.int .i64 fin) := cell_of_row _ _ 2 _ _ _ rowm9
  have d3 : w9.cell? ⟨gm, 3, none⟩ = some (.int .i64 time) := cell_of_row _ _ 3 _ _ _ rowm9
  have d4 : w9.cell? ⟨gm, 4, none⟩ = some (.slice a2 eps.length c2) := cell_of_row _ _ 4 _ _ _ rowm9
  have d5 : w9.cell? ⟨gm, 5, none⟩ = some (.slice (some ⟨go, 0, none⟩) 2 2) := cell_of_row _ _ 5 _ _ _ rowm9
  have f0 : w9.cell? ⟨gz, 0, none⟩ = some (.int .i64 0) := cell_of_row _ _ 0 _ _ _ rowz9
  have f1 : w9.cell? ⟨gz, 1, none⟩ = some (.int .i64 0) := cell_of_row _ _ 1 _ _ _ rowz9
  have f2 : w9.cell? ⟨gz, 2, none⟩ = some (.int .i64 0) := cell_of_row _ _ 2 _ _ _ rowz9
  have f3 : w9.cell? ⟨gz, 3, none⟩ = some (.int .i64 0) := cell_of_row _ _ 3 _ _ _ rowz9
  have f4 : w9.cell? ⟨gz, 4, none⟩ = some (.slice none 0 0) := cell_of_row _ _ 4 _ _ _ rowz9
  have f5 : w9.cell? ⟨gz, 5, none⟩ = some (.slice none 0 0) := cell_of_row _ _ 5 _ _ _ rowz9
  have z0 : w9.frozen? ⟨gz, 0, none⟩ = false := frozen_of_row _ gz 0 _ _ rowz9
  have z1 : w9.frozen? ⟨gz, 1, none⟩ = false := frozen_of_row _ gz 1 _ _ rowz9
  have z2 : w9.frozen? ⟨gz, 2, none⟩ = false := frozen_of_row _ gz 2 _ _ rowz9
  have z3 : w9.frozen? ⟨gz, 3, none⟩ = false := frozen_of_row _ gz 3 _ _ rowz9
  have z4 : w9.frozen? ⟨gz, 4, none⟩ = false := frozen_of_row _ gz 4 _ _ rowz9
  have z5 : w9.frozen? ⟨gz, 5, none⟩ = false := frozen_of_row _ gz 5 _ _ rowz9
  have h0 : w9.cell? ⟨gf, 0, none⟩ = some (.int .i64 0) := cell_of_row _ _ 0 _ _ _ rowf9
  have h1 : w9.cell? ⟨gf, 1, none⟩ = some (.bool false) := cell_of_row _ _ 1 _ _ _ rowf9
  have h2 : w9.cell? ⟨gf, 2, none⟩ = some (.int .i64 0) := cell_of_row _ _ 2 _ _ _ rowf9
  have y0 : w9.frozen? ⟨gf, 0, none⟩ = false := frozen_of_row _ gf 0 _ _ rowf9
  have y1 : w9.frozen? ⟨gf, 1, none⟩ = false := frozen_of_row _ gf 1 _ _ rowf9
  have y2 : w9.frozen? ⟨gf, 2, none⟩ = false := frozen_of_row _ gf 2 _ _ rowf9
  go_wp2_with fail
  go_region_law (go_simp; go_at_call 23; (with_reducible refine (hN _).mono ?_); (rintro e wN ⟨rfl, bN⟩); (have bX : Below w9.heap.size w9 wN := nxt (Below.refl _ _).drew bN); (have BN := nxt B9 bX); (have rowmN := heap_below bX rowm9); (have rowzN := heap_below bX rowz9); (have rowfN := heap_below bX rowf9); (have da0 : wN.cell? ⟨gm, 0, none⟩ = some (.int .i64 id) := cell_of_row _ _ 0 _ _ _ rowmN); (have da1 : wN.cell? ⟨gm, 1, none⟩ = some (.int .i64 base) := cell_of_row _ _ 1 _ _ _ rowmN); (have da2 : wN.cell? ⟨gm, 2, none⟩ = some (.int .i64 fin) := cell_of_row _ _ 2 _ _ _ rowmN); (have da3 : wN.cell? ⟨gm, 3, none⟩ = some (.int .i64 time) := cell_of_row _ _ 3 _ _ _ rowmN); (have da4 : wN.cell? ⟨gm, 4, none⟩ = some (.slice a2 eps.length c2) := cell_of_row _ _ 4 _ _ _ rowmN); (have da5 : wN.cell? ⟨gm, 5, none⟩ = some (.slice (some ⟨go, 0, none⟩) 2 2) := cell_of_row _ _ 5 _ _ _ rowmN); (have fa0 : wN.cell? ⟨gz, 0, none⟩ = some (.int .i64 0) := cell_of_row _ _ 0 _ _ _ rowzN); (have fa1 : wN.cell? ⟨gz, 1, none⟩ = some (.int .i64 0) := cell_of_row _ _ 1 _ _ _ rowzN); (have fa2 : wN.cell? ⟨gz, 2, none⟩ = some (.int .i64 0) := cell_of_row _ _ 2 _ _ _ rowzN); (have fa3 : wN.cell? ⟨gz, 3, none⟩ = some (.int .i64 0) := cell_of_row _ _ 3 _ _ _ rowzN); (have fa4 : wN.cell? ⟨gz, 4, none⟩ = some (.slice none 0 0) := cell_of_row _ _ 4 _ _ _ rowzN); (have fa5 : wN.cell? ⟨gz, 5, none⟩ = some (.slice none 0 0) := cell_of_row _ _ 5 _ _ _ rowzN); (have za0 : wN.frozen? ⟨gz, 0, none⟩ = false := frozen_of_row _ gz 0 _ _ rowzN); (have za1 : wN.frozen? ⟨gz, 1, none⟩ = false := frozen_of_row _ gz 1 _ _ rowzN); (have za2 : wN.frozen? ⟨gz, 2, none⟩ = false := frozen_of_row _ gz 2 _ _ rowzN); (have za3 : wN.frozen? ⟨gz, 3, none⟩ = false := frozen_of_row _ gz 3 _ _ rowzN); (have za4 : wN.frozen? ⟨gz, 4, none⟩ = false := frozen_of_row _ gz 4 _ _ rowzN); (have za5 : wN.frozen? ⟨gz, 5, none⟩ = false := frozen_of_row _ gz 5 _ _ rowzN); (obtain ⟨rZ, tZ⟩ := setM' (.int .i64 id) (.int .i64 base) (.int .i64 fin) (.int .i64 time) (.slice a2 eps.length c2) (.slice (some ⟨go, 0, none⟩) 2 2) rowzN); (have rZf := tZ.heap rowfN (Ne.symm hgzw.2.2)); (obtain ⟨rZF, tZF⟩ := setF (.int .i64 0) (.bool false) (.int .i64 0) rZf); (have eZ := tZF.heap rZ hgzw.2.2); (have BZ := tZF.below (tZ.below BN hgzw.1 BN.size) hgzw.2.1 (tZ.below BN hgzw.1 BN.size).size); (have oZF := Touch.owns tZF (Touch.owns tZ (owns_below o9 bX) rowzN (by decide)) rZf (by decide)); (have roZF := tZF.heap (tZ.heap (heap_below bX rowo9) (Ne.symm hgoz.1)) (Ne.symm hgoz.2)); (have RD := Lib.hid (mkRd _ oZF roZF)); (have ma0 : ((((((wN.setCell ⟨gz, 0, none⟩ (.int .i64 id)).setCell ⟨gz, 1, none⟩ (.int .i64 base)).setCell ⟨gz, 2, none⟩ (.int .i64 fin)).setCell ⟨gz, 3, none⟩ (.int .i64 time)).setCell ⟨gz, 4, none⟩ (.slice a2 eps.length c2)).setCell ⟨gz, 5, none⟩ (.slice (some ⟨go, 0, none⟩) 2 2)).cell? ⟨gf, 0, none⟩ = some (.int .i64 0) := cell_of_row _ _ 0 _ _ _ rZf); (have ma1 : ((((((wN.setCell ⟨gz, 0, none⟩ (.int .i64 id)).setCell ⟨gz, 1, none⟩ (.int .i64 base)).setCell ⟨gz, 2, none⟩ (.int .i64 fin)).setCell ⟨gz, 3, none⟩ (.int .i64 time)).setCell ⟨gz, 4, none⟩ (.slice a2 eps.length c2)).setCell ⟨gz, 5, none⟩ (.slice (some ⟨go, 0, none⟩) 2 2)).cell? ⟨gf, 1, none⟩ = some (.bool false) := cell_of_row _ _ 1 _ _ _ rZf); (have ma2 : ((((((wN.setCell ⟨gz, 0, none⟩ (.int .i64 id)).setCell ⟨gz, 1, none⟩ (.int .i64 base)).setCell ⟨gz, 2, none⟩ (.int .i64 fin)).setCell ⟨gz, 3, none⟩ (.int .i64 time)).setCell ⟨gz, 4, none⟩ (.slice a2 eps.length c2)).setCell ⟨gz, 5, none⟩ (.slice (some ⟨go, 0, none⟩) 2 2)).cell? ⟨gf, 2, none⟩ = some (.int .i64 0) := cell_of_row _ _ 2 _ _ _ rZf); (have na0 : ((((((wN.setCell ⟨gz, 0, none⟩ (.int .i64 id)).setCell ⟨gz, 1, none⟩ (.int .i64 base)).setCell ⟨gz, 2, none⟩ (.int .i64 fin)).setCell ⟨gz, 3, none⟩ (.int .i64 time)).setCell ⟨gz, 4, none⟩ (.slice a2 eps.length c2)).setCell ⟨gz, 5, none⟩ (.slice (some ⟨go, 0, none⟩) 2 2)).frozen? ⟨gf, 0, none⟩ = false := frozen_of_row _ gf 0 _ _ rZf); (have na1 : ((((((wN.setCell ⟨gz, 0, none⟩ (.int .i64 id)).setCell ⟨gz, 1, none⟩ (.int .i64 base)).setCell ⟨gz, 2, none⟩ (.int .i64 fin)).setCell ⟨gz, 3, none⟩ (.int .i64 time)).setCell ⟨gz, 4, none⟩ (.slice a2 eps.length c2)).setCell ⟨gz, 5, none⟩ (.slice (some ⟨go, 0, none⟩) 2 2)).frozen? ⟨gf, 1, none⟩ = false := frozen_of_row _ gf 1 _ _ rZf); (have na2 : ((((((wN.setCell ⟨gz, 0, none⟩ (.int .i64 id)).setCell ⟨gz, 1, none⟩ (.int .i64 base)).setCell ⟨gz, 2, none⟩ (.int .i64 fin)).setCell ⟨gz, 3, none⟩ (.int .i64 time)).setCell ⟨gz, 4, none⟩ (.slice a2 eps.length c2)).setCell ⟨gz, 5, none⟩ (.slice (some ⟨go, 0, none⟩) 2 2)).frozen? ⟨gf, 2, none⟩ = false := frozen_of_row _ gf 2 _ _ rZf); (clear tZ tZF rZ rZf oZF roZF rowmN rowzN rowfN))
  all_goals
    obtain ⟨wz, hwz⟩ : ∃ x, x = (((((((((wN.setCell ⟨gz, 0, none⟩ (.int .i64 id)).setCell ⟨gz, 1, none⟩ (.int .i64 base)).setCell ⟨gz, 2, none⟩ (.int .i64 fin)).setCell ⟨gz, 3, none⟩ (.int .i64 time)).setCell ⟨gz, 4, none⟩ (.slice a2 eps.length c2)).setCell ⟨gz, 5, none⟩ (.slice (some ⟨go, 0, none⟩) 2 2)).setCell ⟨gf, 0, none⟩ (.int .i64 0)).setCell ⟨gf, 1, none⟩ (.bool false)).setCell ⟨gf, 2, none⟩ (.int .i64 0)) := ⟨_, rfl⟩
    rw [← hwz] at eZ rZF BZ RD ⊢
    clear hwz
    have s0 : wz.cell? ⟨gz, 0, none⟩ = some (.int .i64 id) := cell_of_row _ _ 0 _ _ _ eZ
    have s1 : wz.cell? ⟨gz, 1, none⟩ = some (.int .i64 base) := cell_of_row _ _ 1 _ _ _ eZ
    have s2 : wz.cell? ⟨gz, 2, none⟩ = some (.int .i64 fin) := cell_of_row _ _ 2 _ _ _ eZ
    have s3 : wz.cell? ⟨gz, 3, none⟩ = some (.int .i64 time) := cell_of_row _ _ 3 _ _ _ eZ
    have s4 : wz.cell? ⟨gz, 4, none⟩ = some (.slice a2 eps.length c2) := cell_of_row _ _ 4 _ _ _ eZ
    have s5 : wz.cell? ⟨gz, 5, none⟩ = some (.slice (some ⟨go, 0, none⟩) 2 2) := cell_of_row _ _ 5 _ _ _ eZ
    have t0 : wz.cell? ⟨gf, 0, none⟩ = some (.int .i64 0) := cell_of_row _ _ 0 _ _ _ rZF
    have t1 : wz.cell? ⟨gf, 1, none⟩ = some (.bool false) := cell_of_row _ _ 1 _ _ _ rZF
    have t2 : wz.cell? ⟨gf, 2, none⟩ = some (.int .i64 0) := cell_of_row _ _ 2 _ _ _ rZF
    go_wp2_with fail
    refine bodyPost_ret (v := .tuple #[.agg #[.int .i64 id, .int .i64 base, .int .i64 fin, .int .i64 time, .slice a2 eps.length c2, .slice (some ⟨go, 0, none⟩) 2 2], fv 0 false 0]) (by simp [results, go_sem, s0, s1, s2, s3, s4, s5, t0, t1, t2, fv]) rfl ?_
    first
      | exact ⟨BZ, .inl ⟨HOK.out, _, _, by rw [HMA.out], RD.out⟩⟩
      | exact ⟨BZ.drew, .inl ⟨HOK.out, _, _, by rw [HMA.out], RD.out.below (Below.refl _ _).drew⟩⟩
end Go.Proofs.YtegiingcnhafbaaGreatDoor
