/- The document's ReadIndex: an index of bytes, or what is amiss. -/
import Derived.Test.YtjhebnjajnjhhaaDoorRefIdxBase
import Derived.Test.YtjhebnjajnjhhaaDoorPlain
import Derived.Test.YtjhebnjajnjhhaaDoorIdxRead
import Derived.StillTailTactics
import Derived.Deep.DeepCutAuto
import Derived.Deep.CutBlock
import Derived.Deep.RegionWith
namespace Go.Proofs.YtjhebnjajnjhhaaDoor
open Go Go.RowKit Idx Vint

def RefIdxPost (b : List UInt8) (w : World) (e : Ending) (w' : World) : Prop :=
  Below w.heap.size w w' ∧ (((readIdx b).1 = .fine ∧ ∃ g vm, e = .returned (.tuple #[.pointer (some ⟨g, 0, none⟩), fv 0 false 0]) ∧ w'.cell? ⟨g, 1, none⟩ = some vm ∧ Rd w' 3 vm (readIdx b).2.2.length ((readIdx b).2.2.flatMap mkV)) ∨
    ((readIdx b).1 ≠ .fine ∧ e = .returned (.tuple #[.pointer none, fv (readIdx b).1.code (readIdx b).1.has (readIdx b).1.pos])))

set_option maxRecDepth 100000 in
set_option maxHeartbeats 4000000 in
theorem refReadIdx_calls {w : World} {v : Value} {bs : List UInt8} (h : Rd w 1 v bs.length (bvs bs)) (hl : bs.length ≤ 1099511627776) :
    Calls Tryd.prog 52 #[v] w (RefIdxPost bs w) := by
  obtain ⟨i0, hi, hz0, hz1, hz2⟩ := info_parts info_refMark
  obtain ⟨am, cm, rfl⟩ := h.slice
  have b0 := below_alloc w (.cells #[.int .i64 0, .bool false, .int .i64 0] 67)
  have row0 := heap_alloc_new w (.cells #[.int .i64 0, .bool false, .int .i64 0] 67)
  have ho := refOpen_calls _ bs (w.alloc (.cells #[.int .i64 0, .bool false, .int .i64 0] 67)) (h.below b0) hl
  unfold ROpenPost at ho
  go_enter Tryd.func52, Tryd.ntmps52
  go_wp2_with fail
  with_reducible refine ho.mono ?_
  rintro e w1 ⟨⟨m1, hw1⟩, hr⟩
  have b1 : Below w.heap.size w w1 := by rw [hw1]; exact below_drewN b0 m1
  have row1 : w1.heap[w.heap.size]? = some (.cells #[.int .i64 0, .bool false, .int .i64 0] 67 (0, 0)) := by rw [hw1]; exact row0
  have s1 : w1.heap.size = w.heap.size + 1 := by rw [hw1]; simp [World.drewN]
  clear ho b0 row0 hw1
  cases hop : openL bs with
  | fin =>
    rw [hop] at hr
    simp only at hr
    subst hr
    have HOP := Lib.hid hop
    clear hop
    go_wp2_with fail
    with_reducible refine (bare_calls _ _).mono ?_
    rintro e w6 ⟨rfl, b6⟩
    go_wp2_with (refine wpList_store_row_g rfl 67 _ _ rfl w.heap.size _ rfl rfl 67 _ (heap_below b6 row1) faultSize rfl (by simp [Value.oneCell']) ?_)
    intro w9 row9 g9 s9
    have B9 : Below w.heap.size w w9 := (nxt b1 b6).grown g9 (nxt b1 b6).size (fun k e => by cases e; exact Nat.le_refl _)
    have d0 : w9.cell? ⟨w.heap.size, 0, none⟩ = some (.int .i64 101) := cell_of_row w9 _ 0 _ _ _ row9
    have d1 : w9.cell? ⟨w.heap.size, 1, none⟩ = some (.bool false) := cell_of_row w9 _ 1 _ _ _ row9
    have d2 : w9.cell? ⟨w.heap.size, 2, none⟩ = some (.int .i64 0) := cell_of_row w9 _ 2 _ _ _ row9
    clear row9 g9 s9
    go_wp2_with fail
    refine bodyPost_ret (v := .tuple #[.pointer none, fv 101 false 0]) (by simp [results, go_sem, fv, d0, d1, d2]) rfl ?_
    unfold RefIdxPost
    have hrI : readIdx bs = (.bare 0, 0, []) := by unfold readIdx; rw [HOP.out]
    rw [hrI]
    exact ⟨B9, .inr ⟨by simp, rfl⟩⟩
  | sum =>
    rw [hop] at hr
    simp only at hr
    subst hr
    have HOP := Lib.hid hop
    clear hop
    go_wp2_with fail
    with_reducible refine (bare_calls _ _).mono ?_
    rintro e w6 ⟨rfl, b6⟩
    go_wp2_with (refine wpList_store_row_g rfl 67 _ _ rfl w.heap.size _ rfl rfl 67 _ (heap_below b6 row1) faultSize rfl (by simp [Value.oneCell']) ?_)
    intro w9 row9 g9 s9
    have B9 : Below w.heap.size w w9 := (nxt b1 b6).grown g9 (nxt b1 b6).size (fun k e => by cases e; exact Nat.le_refl _)
    have d0 : w9.cell? ⟨w.heap.size, 0, none⟩ = some (.int .i64 102) := cell_of_row w9 _ 0 _ _ _ row9
    have d1 : w9.cell? ⟨w.heap.size, 1, none⟩ = some (.bool false) := cell_of_row w9 _ 1 _ _ _ row9
    have d2 : w9.cell? ⟨w.heap.size, 2, none⟩ = some (.int .i64 0) := cell_of_row w9 _ 2 _ _ _ row9
    clear row9 g9 s9
    go_wp2_with fail
    refine bodyPost_ret (v := .tuple #[.pointer none, fv 102 false 0]) (by simp [results, go_sem, fv, d0, d1, d2]) rfl ?_
    unfold RefIdxPost
    have hrI : readIdx bs = (.bare 1, 0, []) := by unfold readIdx; rw [HOP.out]
    rw [hrI]
    exact ⟨B9, .inr ⟨by simp, rfl⟩⟩
  | ok c =>
    rw [hop] at hr
    simp only at hr
    obtain ⟨v1, rfl, rc⟩ := hr
    have HOP := Lib.hid hop
    have hcl : c.length ≤ 1099511627776 := by have := openL_back hop; rw [← this, sealed_len] at hl; omega
    clear hop
    obtain ⟨a1, ca1, rfl⟩ := rc.slice
    have hoff : ∀ k, w1.heap.size ≤ k → OffV k (.slice a1 c.length ca1) := fun k hk => OffV.of_rd rc (by omega) hk
    have b2 := below_alloc w1 (.cells #[.slice a1 c.length ca1, .int .i64 0, .int .i64 0, .bool false, .int .i64 0] 126)
    have B2 := nxt b1 b2
    have row2 := heap_below b2 row1
    have rr2 : RefR (w1.alloc (.cells #[.slice a1 c.length ca1, .int .i64 0, .int .i64 0, .bool false, .int .i64 0] 126)) w1.heap.size (.slice a1 c.length ca1) (rs0 c) :=
      ⟨⟨Nat.zero_le _, hcl⟩, heap_alloc_new w1 _, rc.below b2, hoff _ (Nat.le_refl _)⟩
    have S1 := Lib.hid s1
    clear s1
    go_upto_region 5 with fail
    have hw2s : w1.heap.size < (w1.alloc (.cells #[.slice a1 c.length ca1, .int .i64 0, .int .i64 0, .bool false, .int .i64 0] 126)).heap.size := by simp
    generalize w1.alloc (.cells #[.slice a1 c.length ca1, .int .i64 0, .int .i64 0, .bool false, .int .i64 0] 126) = w2 at *
    obtain ⟨gr, hgr⟩ : ∃ gr, gr = w1.heap.size := ⟨_, rfl⟩
    have s1 := S1.out
    rw [← hgr] at rr2 hw2s s1 hoff
    rw [← hgr]
    have s1' : w.heap.size < gr := by omega
    clear s1 S1
    clear hgr row1 b1 b2 rc h
    have hnum := refNum_calls rr2 1048576
    unfold RefNumPost at hnum
    obtain ⟨ev, hev⟩ : ∃ n, n = (num 1048576 (rs0 c)).1 := ⟨_, rfl⟩
    obtain ⟨t1, ht1⟩ : ∃ s, s = (num 1048576 (rs0 c)).2 := ⟨_, rfl⟩
    have hev1 : ev ≤ 1048576 := by rw [hev]; exact (num_val 1048576).1
    obtain ⟨n0, hn0⟩ : ∃ n, n = (num 4096 t1).1 := ⟨_, rfl⟩
    obtain ⟨s0, hs0⟩ : ∃ s, s = (num 4096 t1).2 := ⟨_, rfl⟩
    have hn1 : n0 ≤ 4096 := by rw [hn0]; exact (num_val 4096).1
    obtain ⟨Q, hQ⟩ : ∃ Q, Q = readMks n0 mk0 s0 [] := ⟨_, rfl⟩
    have HP : Hid (readIdx bs = if Q.2.bad ≠ .fine then (Q.2.bad, 0, []) else if 0 < Q.2.left.length then (.placed 2 Q.2.pos, 0, []) else if (Q.1.all Idx.right && rise Q.1) = false then (.bare 2, 0, []) else if ev = 0 then (.bare 4, 0, []) else (.fine, (ev : Int), Q.1)) := Lib.hid (by
      unfold readIdx
      rw [HOP.out, hQ, hn0, hs0, ht1, hev]; rfl)
    rw [← ht1, ← hev, show ((1048576 : Nat) : Int) = 1048576 from rfl] at hnum
    have hnum2 := fun W (k : RefR W gr (.slice a1 c.length ca1) t1) => refNum_calls k 4096
    unfold RefNumPost at hnum2
    rw [← hn0, ← hs0] at hnum2
    rw [show ((4096 : Nat) : Int) = 4096 from rfl] at hnum2
    have HQ := Lib.hid hQ
    clear hev ht1 hn0 hs0 hQ HOP rr2
    have evw : IntKind.i64.wrap (ev : Int) = (ev : Int) := by rw [IntKind.wrap_i64]; omega
    have n0w : IntKind.i64.wrap (n0 : Int) = (n0 : Int) := by rw [IntKind.wrap_i64]; omega
    go_wp2_with fail
    with_reducible refine hnum.mono ?_
    rintro e w3 ⟨rfl, r3, t3⟩
    have B3 := t3.new B2 (by omega)
    have row3 := t3.heap row2 (by omega)
    have s3 := t3.size
    clear hnum row2 B2
    go_wp2_with fail
    with_reducible refine (hnum2 _ r3).mono ?_
    rintro e w4 ⟨rfl, r4, t4⟩
    have B4 := t4.new B3 (by omega)
    have row4 := t4.heap row3 (by omega)
    have s4 := t4.size
    clear hnum2 row3 B3 r3 t3
    have b5 := below_alloc w4 (.cells #[.int .i64 0, .int .i64 0, .int .i64 0] 141)
    have I5 : RIx w w.heap.size gr w4.heap.size (.slice a1 c.length ca1) (.slice none 0 0) s0 mk0 [] (w4.alloc (.cells #[.int .i64 0, .int .i64 0, .int .i64 0] 141)) :=
      ⟨r4.below b5, heap_alloc_new w4 _, World.ownsRow_nil _ _ _ _, heap_below b5 row4, nxt B4 b5, Nat.le_refl _, by omega, by omega, hoff⟩
    go_upto_region 9 with fail
    have hg10 : gr < w4.heap.size := by omega
    generalize w4.alloc (.cells #[.int .i64 0, .int .i64 0, .int .i64 0] 141) = w5 at *
    generalize w4.heap.size = g10 at *
    clear b5 r4 t4 B4 row4 s3 s4 hw2s
    go_wp2_with fail
    go_loopw [9, 11] (fun lv iv wr => ∃ (i : Nat) (s : Rs) (l : List Mk) (q : Mk), iv = .int .i64 i ∧ i ≤ n0 ∧ Hid (readMks (n0 - i) q s l = Q) ∧ l.length ≤ i ∧ (0 ≤ q.off ∧ q.off ≤ 1099511627776 * (i : Int) ∧ -4398046511104 * (i : Int) ≤ q.time ∧ q.time ≤ 4398046511104 * (i : Int) ∧ 0 ≤ q.pos ∧ q.pos ≤ 1073741824 * (i : Int)) ∧ Hid (∀ m ∈ l, 0 ≤ m.pos) ∧ RIx w w.heap.size gr g10 (.slice a1 c.length ca1) lv s q l wr) (fun _ iv _ => n0 - (intOf iv).toNat)
    case atStart => exact ⟨0, s0, [], mk0, rfl, Nat.zero_le _, Lib.hid HQ.out.symm, Nat.le_refl _, by simp [mk0], Lib.hid (by simp), I5⟩
    case round =>
      obtain ⟨i, s, l, q, rfl, hin, HR, hln, ⟨hq1, hq2, hq3, hq4, hq5, hq6⟩, HNN, I⟩ := hrel
      obtain ⟨al, cl, rfl⟩ := owns_slice I.row
      by_cases hgo : i < n0 ∧ s.bad = .fine
      · obtain ⟨hlt, hfine⟩ := hgo
        have HR2 := HR.out
        rw [show n0 - i = (n0 - (i + 1)) + 1 by omega, readMks_go q l hfine] at HR2
        have hfc := refFine_yes I.rdr hfine
        have v1 := (num_val (s := s) 1099511627776).1
        have v2 := int_val (s := (num 1099511627776 s).2) (-4398046511104) 4398046511104 (by omega) (by omega)
        have v3 := (num_val (s := (int (-4398046511104) 4398046511104 (num 1099511627776 s).2).2) 1073741824).1
        have c1 := fun W (k : RefR W gr (.slice a1 c.length ca1) s) => refNum_calls k 1099511627776
        unfold RefNumPost at c1
        have hro : readMk q s = readMk q s := rfl
        conv at hro => rhs; unfold readMk
        obtain ⟨x, hx⟩ : ∃ x, x = (num 1099511627776 s).1 := ⟨_, rfl⟩
        obtain ⟨s1, hs1⟩ : ∃ x, x = (num 1099511627776 s).2 := ⟨_, rfl⟩
        rw [← hx, ← hs1] at c1 hro
        rw [← hx] at v1
        rw [← hs1] at v2 v3
        have c2 := fun W (k : RefR W gr (.slice a1 c.length ca1) s1) => refInt_calls k (-4398046511104) 4398046511104
        unfold RefIntPost at c2
        obtain ⟨y, hy⟩ : ∃ x, x = (int (-4398046511104) 4398046511104 s1).1 := ⟨_, rfl⟩
        obtain ⟨s2, hs2⟩ : ∃ x, x = (int (-4398046511104) 4398046511104 s1).2 := ⟨_, rfl⟩
        rw [← hy, ← hs2] at c2 hro
        rw [← hy] at v2
        rw [← hs2] at v3
        have c3 := fun W (k : RefR W gr (.slice a1 c.length ca1) s2) => refNum_calls k 1073741824
        unfold RefNumPost at c3
        obtain ⟨z, hz⟩ : ∃ x, x = (num 1073741824 s2).1 := ⟨_, rfl⟩
        obtain ⟨s3, hs3⟩ : ∃ x, x = (num 1073741824 s2).2 := ⟨_, rfl⟩
        rw [← hz, ← hs3] at c3 hro
        rw [← hz] at v3
        rw [hro] at HR2
        have HRR := Lib.hid HR2
        clear HR2 HR hro hx hs1 hy hs2 hz hs3 hfine
        obtain ⟨qo, qt, qp⟩ := q
        simp only at hq1 hq2 hq3 hq4 hq5 hq6 HRR
        have hob : (Value.slice al l.length cl).ownBlock ≠ some g10 := fun e => by have := I.row.lt _ e; omega
        have d0 : wr.cell? ⟨g10, 0, none⟩ = some (.int .i64 qo) := cell_of_row _ _ 0 _ _ _ I.last
        go_wp2_with fail
        with_reducible refine hfc.mono ?_
        rintro e w6 ⟨rfl, rfl⟩
        clear hfc
        have x1 : IntKind.i64.wrap (x : Int) = (x : Int) := by rw [IntKind.wrap_i64]; omega
        have x2 : IntKind.i64.wrap (qo + (x : Int)) = qo + (x : Int) := by rw [IntKind.wrap_i64]; omega
        have c1' : Calls Tryd.prog 74 #[.pointer (some ⟨gr, 0, none⟩), .int .u64 1099511627776] wr.drew (fun e w' => e = .returned (.int .u64 (x : Int)) ∧ RefR w' gr (.slice a1 c.length ca1) s1 ∧ Touch gr wr.drew w') := c1 _ (I.rdr.below (Below.refl _ _).drew)
        go_upto_region 12 with fail
        go_cut [12] (fun pv wx => ∃ gm, pv = .pointer (some ⟨gm, 0, none⟩) ∧ g10 < gm ∧ (Value.slice al l.length cl).ownBlock ≠ some gm ∧ wx.heap[gm]? = some (.cells #[.int .i64 (qo + (x : Int)), .int .i64 0, .int .i64 0] 141 (0, 0)) ∧ RIx w w.heap.size gr g10 (.slice a1 c.length ca1) (.slice al l.length cl) s1 ⟨qo, qt, qp⟩ l wx)
        case first =>
          have ba := (below_alloc wr (.cells #[.int .i64 0, .int .i64 0, .int .i64 0] 141)).drew
          have c1'' := c1 (wr.alloc (.cells #[.int .i64 0, .int .i64 0, .int .i64 0] 141)).drew (I.rdr.below ba)
          rw [show ((1099511627776 : Nat) : Int) = 1099511627776 from rfl] at c1''
          have rowm : (wr.alloc (.cells #[.int .i64 0, .int .i64 0, .int .i64 0] 141)).drew.heap[wr.heap.size]? = some (.cells #[.int .i64 0, .int .i64 0, .int .i64 0] 141 (0, 0)) := heap_alloc_new wr _
          have d0' : (wr.alloc (.cells #[.int .i64 0, .int .i64 0, .int .i64 0] 141)).cell? ⟨g10, 0, none⟩ = some (.int .i64 qo) := cell_of_row _ _ 0 _ _ _ (heap_below (below_alloc _ _) I.last)
          have hgr : wr.heap.size ≠ gr := by have := I.rdr.row_lt; omega
          have hgl : g10 < wr.heap.size := (Array.getElem?_eq_some_iff.1 I.last).1
          have hgo' : (Value.slice al l.length cl).ownBlock ≠ some wr.heap.size := fun e => absurd (owns_lt I.row _ e) (Nat.lt_irrefl _)
          go_region_with ((go_at_call 74; first
            | ((with_reducible refine c1'.mono ?_); (rintro e w7 ⟨rfl, r7, t7⟩); have I7 := (I.below (Below.refl _ _).drew).read t7 r7; have d1 : w7.cell? ⟨g10, 0, none⟩ = some (.int .i64 qo) := cell_of_row _ _ 0 _ _ _ I7.last; have d1' : (w7.alloc (.cells #[.int .i64 0, .int .i64 0, .int .i64 0] 141)).cell? ⟨g10, 0, none⟩ = some (.int .i64 qo) := cell_of_row _ _ 0 _ _ _ (heap_below (below_alloc _ _) I7.last))
            | ((with_reducible refine c1''.mono ?_); (rintro e w7 ⟨rfl, r7, t7⟩); have I7 := (I.below ba).read t7 r7; have d1 : w7.cell? ⟨g10, 0, none⟩ = some (.int .i64 qo) := cell_of_row _ _ 0 _ _ _ I7.last; have row7 := Touch.heap t7 rowm hgr; have m0 : w7.cell? ⟨wr.heap.size, 0, none⟩ = some (.int .i64 0) := cell_of_row w7 wr.heap.size 0 _ _ _ row7; have m1 : w7.cell? ⟨wr.heap.size, 1, none⟩ = some (.int .i64 0) := cell_of_row w7 wr.heap.size 1 _ _ _ row7; have m2 : w7.cell? ⟨wr.heap.size, 2, none⟩ = some (.int .i64 0) := cell_of_row w7 wr.heap.size 2 _ _ _ row7; have z0 : w7.frozen? ⟨wr.heap.size, 0, none⟩ = false := frozen_of_row w7 wr.heap.size 0 _ _ row7; have z1 : w7.frozen? ⟨wr.heap.size, 1, none⟩ = false := frozen_of_row w7 wr.heap.size 1 _ _ row7; have z2 : w7.frozen? ⟨wr.heap.size, 2, none⟩ = false := frozen_of_row w7 wr.heap.size 2 _ _ row7)))
          all_goals
            go_wp2_with fail
            go_meet
            first
            | exact ⟨w7.heap.size, rfl, (Array.getElem?_eq_some_iff.1 I7.last).1, fun e => absurd (owns_lt I7.row _ e) (Nat.lt_irrefl _), heap_alloc_new w7 _, I7.below (below_alloc _ _)⟩
            | exact ⟨wr.heap.size, rfl, hgl, hgo', heap_setCell_same _ _ 2 _ _ _ (heap_setCell_same _ _ 1 _ _ _ (heap_setCell_same w7 _ 0 _ _ _ row7)), I7.other (((Touch.setCell w7 0 _).set 1 _).set 2 _) hgl hgo' row7⟩
        obtain ⟨gm, rfl, hgm, hom, rowm, J⟩ := hcut
        clear c1 c1' d0 x1 x2 I hob
        have y2 : IntKind.i64.wrap (qt + y) = qt + y := by rw [IntKind.wrap_i64]; omega
        have c2' : Calls Tryd.prog 91 #[.pointer (some ⟨gr, 0, none⟩), .int .i64 (-4398046511104), .int .i64 4398046511104] wc.drew (fun e w' => e = .returned (.int .i64 y) ∧ RefR w' gr (.slice a1 c.length ca1) s2 ∧ Touch gr wc.drew w') := c2 _ (J.rdr.below (Below.refl _ _).drew)
        have d2 : wc.cell? ⟨g10, 1, none⟩ = some (.int .i64 qt) := cell_of_row _ _ 1 _ _ _ J.last
        have hgmr : gm ≠ gr := by have := J.o2; omega
        go_upto_region 13 with fail
        go_cut [56] (fun _ wx => wx.heap[gm]? = some (.cells #[.int .i64 (qo + (x : Int)), .int .i64 (qt + y), .int .i64 0] 141 (0, 0)) ∧ RIx w w.heap.size gr g10 (.slice a1 c.length ca1) (.slice al l.length cl) s2 ⟨qo, qt, qp⟩ l wx)
        case first =>
          go_region_with ((go_at_call 91; ((with_reducible refine c2'.mono ?_); (rintro e w7 ⟨rfl, r7, t7⟩); have J7 := (J.below (Below.refl _ _).drew).read t7 r7; have row7 := Touch.heap t7 (show _ = some _ from rowm) hgmr; have d1 : w7.cell? ⟨g10, 1, none⟩ = some (.int .i64 qt) := cell_of_row _ _ 1 _ _ _ J7.last; have m1 : w7.cell? ⟨gm, 1, none⟩ = some (.int .i64 0) := cell_of_row _ _ 1 _ _ _ row7; have z1 : w7.frozen? ⟨gm, 1, none⟩ = false := frozen_of_row w7 gm 1 _ _ row7)))
          all_goals
            go_wp2_with fail
            go_meet
            exact ⟨heap_setCell_same w7 _ 1 _ _ _ row7, J7.other (Touch.setCell w7 1 _) hgm hom row7⟩
        obtain ⟨rowm2, J2⟩ := hcut
        clear c2 c2' d2 y2 J rowm
        have x3 : IntKind.i64.wrap (z : Int) = (z : Int) := by rw [IntKind.wrap_i64]; omega
        have x4 : IntKind.i64.wrap (qp + (z : Int)) = qp + (z : Int) := by rw [IntKind.wrap_i64]; omega
        have c3' : Calls Tryd.prog 74 #[.pointer (some ⟨gr, 0, none⟩), .int .u64 1073741824] wc.drew (fun e w' => e = .returned (.int .u64 (z : Int)) ∧ RefR w' gr (.slice a1 c.length ca1) s3 ∧ Touch gr wc.drew w') := c3 _ (J2.rdr.below (Below.refl _ _).drew)
        have d3 : wc.cell? ⟨g10, 2, none⟩ = some (.int .i64 qp) := cell_of_row _ _ 2 _ _ _ J2.last
        go_upto_region 14 with fail
        go_cut [63] (fun _ wx => wx.heap[gm]? = some (.cells #[.int .i64 (qo + (x : Int)), .int .i64 (qt + y), .int .i64 (qp + (z : Int))] 141 (0, 0)) ∧ RIx w w.heap.size gr g10 (.slice a1 c.length ca1) (.slice al l.length cl) s3 ⟨qo, qt, qp⟩ l wx)
        case first =>
          go_region_with ((go_at_call 74; ((with_reducible refine c3'.mono ?_); (rintro e w7 ⟨rfl, r7, t7⟩); have J7 := (J2.below (Below.refl _ _).drew).read t7 r7; have row7 := Touch.heap t7 (show _ = some _ from rowm2) hgmr; have d1 : w7.cell? ⟨g10, 2, none⟩ = some (.int .i64 qp) := cell_of_row _ _ 2 _ _ _ J7.last; have m1 : w7.cell? ⟨gm, 2, none⟩ = some (.int .i64 0) := cell_of_row _ _ 2 _ _ _ row7; have z1 : w7.frozen? ⟨gm, 2, none⟩ = false := frozen_of_row w7 gm 2 _ _ row7)))
          all_goals
            go_wp2_with fail
            go_meet
            exact ⟨heap_setCell_same w7 _ 2 _ _ _ row7, J7.other (Touch.setCell w7 2 _) hgm hom row7⟩
        obtain ⟨rowm3, J3⟩ := hcut
        clear c3 c3' d3 x3 x4 J2 rowm2
        have m0 : wc.cell? ⟨gm, 0, none⟩ = some (.int .i64 (qo + (x : Int))) := cell_of_row _ _ 0 _ _ _ rowm3
        have m1 : wc.cell? ⟨gm, 1, none⟩ = some (.int .i64 (qt + y)) := cell_of_row _ _ 1 _ _ _ rowm3
        have m2 : wc.cell? ⟨gm, 2, none⟩ = some (.int .i64 (qp + (z : Int))) := cell_of_row _ _ 2 _ _ _ rowm3
        generalize hX : qo + (x : Int) = X at *
        generalize hY : qt + y = Y at *
        generalize hZ : qp + (z : Int) = Z at *
        have HX := Lib.hid (show (0 ≤ X ∧ X ≤ 1099511627776 * ((i : Int) + 1)) ∧ (-4398046511104 * ((i : Int) + 1) ≤ Y ∧ Y ≤ 4398046511104 * ((i : Int) + 1)) ∧ (0 ≤ Z ∧ Z ≤ 1073741824 * ((i : Int) + 1)) by omega)
        clear hX hY hZ
        go_wp2_with (at_builtin; refine wpList_append_own _ rfl _ _ 93 rfl (g10 + 1) 141 i0 _ 3 24 Tryd.underlying93 hi hz0 hz1 hz2 rfl (by decide) _ _ _ rfl (J3.row.alloc _) ⟨wc.heap.size, 0, none⟩ 1 1 [.int .i64 X, .int .i64 Y, .int .i64 Z] rfl rfl ?c1 ?c2 ?c3 ?c4 ?c5 ?_)
        case c1 => exact cells_new wc #[.int .i64 X, .int .i64 Y, .int .i64 Z] 141
        case c2 => intro u hu; simp at hu; rcases hu with rfl | rfl | rfl <;> rfl
        case c3 => unfold maxLen; omega
        case c4 => omega
        case c5 => have := (Array.getElem?_eq_some_iff.1 J3.last).1; simp; omega
        intro v' w' hown' hgrow _
        have bA := below_alloc wc (.cells #[.int .i64 X, .int .i64 Y, .int .i64 Z] 141)
        have hown2 : w'.ownsRow (g10 + 1) 141 3 v' (l ++ [(⟨X, Y, Z⟩ : Mk)]).length ((l ++ [(⟨X, Y, Z⟩ : Mk)]).flatMap mkV) := by
          rw [List.length_append, List.flatMap_append]
          exact hown'
        have J4 := (J3.below bA).grown hgrow hown2
        have rowm4 : w'.heap[gm]? = some (.cells #[.int .i64 X, .int .i64 Y, .int .i64 Z] 141 (0, 0)) := by
          have := heap_below bA rowm3
          rw [hgrow.block gm (Array.getElem?_eq_some_iff.1 this).1 (fun e => hom e.symm)]
          exact this
        have m0 : w'.cell? ⟨gm, 0, none⟩ = some (.int .i64 X) := cell_of_row _ _ 0 _ _ _ rowm4
        have m1 : w'.cell? ⟨gm, 1, none⟩ = some (.int .i64 Y) := cell_of_row _ _ 1 _ _ _ rowm4
        have m2 : w'.cell? ⟨gm, 2, none⟩ = some (.int .i64 Z) := cell_of_row _ _ 2 _ _ _ rowm4
        clear hgrow hown' hown2 bA J3 rowm3
        go_wp2_with (refine wpList_store_row_g rfl 141 _ _ rfl g10 _ rfl rfl 141 _ J4.last refMarkSize rfl (by simp [Value.oneCell']) ?_)
        intro w9 row9 g9 _
        have J9 := J4.lasts (q1 := ⟨X, Y, Z⟩) g9 row9
        clear row9 g9 J4 rowm4 m0 m1 m2
        go_wp2_with fail
        refine ⟨⟨i + 1, s3, l ++ [⟨X, Y, Z⟩], ⟨X, Y, Z⟩, by go_num, by omega, HRR, by rw [List.length_append, List.length_singleton]; omega, ?_, Lib.hid ?_, J9⟩, by simp [intOf]; omega⟩
        · have := HX.out
          simp only
          push_cast
          omega
        · intro m hm
          rcases List.mem_append.1 hm with h1 | h1
          · exact HNN.out m h1
          · rw [List.mem_singleton.1 h1]; have := HX.out; simp only; omega
      · have hq : Q = (l, s) := by
          rw [← HR.out]
          by_cases h0 : i < n0
          · exact readMks_bad _ _ _ _ (fun e => hgo ⟨h0, e⟩)
          · rw [show n0 - i = 0 by omega]; rfl
        rw [hq] at HP
        simp only at HP
        clear hq HR HQ hq1 hq2 hq3 hq4 hq5 hq6
        have HGO := Lib.hid hgo
        clear hgo
        have hov := refOver_calls I.rdr 2
        rw [show ((101 + 2 : Nat) : Int) = 103 from rfl] at hov
        have hob := over_bad (s := s) (show (2 : Nat) ≠ 0 by omega)
        obtain ⟨so, hso⟩ : ∃ so, so = over 2 s := ⟨_, rfl⟩
        rw [← hso] at hov hob
        have HOB := Lib.hid hob
        clear hso hob
        go_upto_region 10 with fail
        go_cut [42] (fun b wx => b = .bool false ∧ wx = wr)
        case first =>
          by_cases h0 : i < n0
          · have hne : s.bad ≠ .fine := fun e => HGO.out ⟨h0, e⟩
            have hfc := refFine_no I.rdr hne
            go_wp2_with fail
            with_reducible refine hfc.mono ?_
            rintro e w3 ⟨rfl, rfl⟩
            go_wp2_with fail
            go_meet
            exact ⟨rfl, rfl⟩
          · go_wp2_with fail
            go_meet
            exact ⟨rfl, rfl⟩
        obtain ⟨rfl, hwc⟩ := hcut
        subst hwc
        go_wp2_with fail
        with_reducible refine hov.mono ?_
        rintro e w4 ⟨rfl, r4, t4⟩
        have K4 := I.read t4 r4
        clear hov I t4
        by_cases hfb : so.bad = .fine
        · have hfc := refFine_yes r4 hfb
          have hP : readIdx bs = if (l.all Idx.right && rise l) = false then (.bare 2, 0, []) else if ev = 0 then (.bare 4, 0, []) else (.fine, (ev : Int), l) := by
            rw [HP.out]
            have h1 := HOB.out
            rw [hfb] at h1
            by_cases h2 : s.bad = .fine
            · rw [if_neg (fun e => e h2)] at h1 ⊢
              by_cases h3 : 0 < s.left.length
              · rw [if_pos h3] at h1; cases h1
              · rw [if_neg h3]
            · rw [if_pos h2] at h1; exact absurd h1.symm h2
          have HPP := Lib.hid hP
          clear hP hfb
          go_wp2_with fail
          with_reducible refine hfc.mono ?_
          rintro e w5 ⟨rfl, rfl⟩
          clear hfc r4
          have hom := Rd.of_owns K4.row
          have hll : l.length ≤ 4096 := by omega
          go_wp2_with fail
          go_loopw [13] (fun iv wr => ∃ i : Nat, i ≤ l.length ∧ iv = .int .i64 i ∧ Hid (((l.take i).all Idx.right && rise (l.take i)) = true) ∧ Below w4.heap.size w4 wr) (fun iv _ => l.length - (intOf iv).toNat)
          case atStart => exact ⟨0, Nat.zero_le _, rfl, Lib.hid rfl, Below.refl _ _⟩
          case round =>
            obtain ⟨i2, hi2, rfl, HOK, hb⟩ := hrel
            by_cases hlt : i2 < l.length
            · obtain ⟨b, o, rfl, hc1, hm1, hx1⟩ := (hom.below hb).at (by omega)
              obtain ⟨p0, p1, p2⟩ := mk_cells hx1 i2 hlt
              obtain ⟨m, hm⟩ : ∃ m, m = l[i2] := ⟨_, rfl⟩
              rw [← hm] at p0 p1 p2
              have hnn : 0 ≤ m.pos := by rw [hm]; exact HNN.out _ (List.getElem_mem _)
              obtain ⟨G, hG⟩ : ∃ G, G = ((l.take (i2 + 1)).all Idx.right && rise (l.take (i2 + 1))) := ⟨_, rfl⟩
              have hgs := good_snoc l i2 hlt HOK.out
              obtain ⟨U, hU⟩ : ∃ U : Bool, U = (if h0 : 0 < i2 then decide (l[i2 - 1].off < l[i2].off ∧ l[i2 - 1].pos < l[i2].pos) else true) := ⟨_, rfl⟩
              rw [← hG, ← hU, ← hm] at hgs
              have HG := Lib.hid hG
              have HGS := Lib.hid hgs
              have hj : (i2 = 0 ∧ U = true) ∨ ∃ (j : Nat) (y : Mk), i2 = j + 1 ∧ j < l.length ∧ IntKind.i64.wrap (j : Int) = (j : Int) ∧ wr.cell? ⟨b, o + j * 3, none⟩ = some (.int .i64 y.off) ∧ wr.cell? ⟨b, o + j * 3 + 2, none⟩ = some (.int .i64 y.pos) ∧ U = decide (y.off < m.off ∧ y.pos < m.pos) := by
                by_cases h0 : i2 = 0
                · exact .inl ⟨h0, by rw [hU, dif_neg (by omega)]⟩
                · obtain ⟨j, rfl⟩ : ∃ j, i2 = j + 1 := ⟨i2 - 1, by omega⟩
                  have hj' : j < l.length := by omega
                  obtain ⟨q0, _, q2⟩ := mk_cells hx1 j hj'
                  refine .inr ⟨j, l[j], rfl, hj', by rw [IntKind.wrap_i64]; omega, q0, q2, ?_⟩
                  rw [hU, dif_pos (by omega), hm]
                  rfl
              have HM := Lib.hid hm
              clear hm hG hgs hx1 hU
              go_upto_region 23 with fail
              go_cut [14] (fun x wx => x = .bool U ∧ Below w4.heap.size w4 wx ∧ wx.cell? ⟨b, o + i2 * 3, none⟩ = some (.int .i64 m.off) ∧ wx.cell? ⟨b, o + i2 * 3 + 1, none⟩ = some (.int .i64 m.time) ∧ wx.cell? ⟨b, o + i2 * 3 + 2, none⟩ = some (.int .i64 m.pos))
              case first =>
                rcases hj with ⟨rfl, hU⟩ | ⟨j, y, hij, hjl, hw1, q0, q2, hU⟩
                · have HU := Lib.hid hU
                  clear hU
                  go_wp2_with fail
                  go_quiet (fail)
                  go_wp2_with fail
                  go_meet
                  exact ⟨by rw [HU.out], below_drewN hb _, p0, p1, p2⟩
                · have hd0 : ((i2 : Int) == 0) = false := by rw [beq_eq_false_iff_ne]; omega
                  have hw2 : IntKind.i64.wrap ((i2 : Int) - 1) = (j : Int) := by rw [IntKind.wrap_i64]; omega
                  clear hij hw1
                  have HU := Lib.hid hU
                  by_cases h1 : y.off < m.off
                  · have h1' : decide (y.off < m.off) = true := decide_eq_true h1
                    obtain ⟨D, hD⟩ : ∃ D, D = decide (y.pos < m.pos) := ⟨_, rfl⟩
                    have hUD : U = D := by rw [HU.out, hD]; by_cases h2 : y.pos < m.pos; (· rw [decide_eq_true h2, decide_eq_true ⟨h1, h2⟩]); rw [decide_eq_false h2, decide_eq_false (fun h => h2 h.2)]
                    have HUD := Lib.hid hUD
                    have HD := Lib.hid hD
                    clear hU hUD hD
                    go_wp2_with fail
                    go_quiet (fail)
                    go_wp2_with fail
                    go_meet
                    exact ⟨by rw [HUD.out, HD.out], below_drewN hb _, p0, p1, p2⟩
                  · have h1' : decide (y.off < m.off) = false := decide_eq_false h1
                    have hUF : U = false := by rw [HU.out, decide_eq_false (fun h => h1 h.1)]
                    have HUF := Lib.hid hUF
                    clear hU hUF
                    go_wp2_with fail
                    go_quiet (fail)
                    go_wp2_with fail
                    go_meet
                    exact ⟨by rw [HUF.out], below_drewN hb _, p0, p1, p2⟩
              obtain ⟨rfl, B8, n0', n1', n2'⟩ := hcut
              clear p0 p1 p2 hj hb
              have hc1 := refRight_calls m.off wc
              have hc2 := refTime_calls m.time wc
              have hrt : Idx.right m = decide (0 ≤ m.off ∧ m.off ≤ 1099511627776 ∧ -1099511627776 ≤ m.time ∧ m.time ≤ 1099511627776 ∧ 0 ≤ m.pos ∧ m.pos ≤ 1073741824) := rfl
              have HRT := Lib.hid hrt
              clear hrt
              go_upto_region 24 with fail
              go_cut [142] (fun x wx => x = .bool (!G) ∧ wx = wc)
              case first =>
                cases U with
                | false =>
                  go_wp2_with fail
                  go_meet
                  exact ⟨by rw [HGS.out, Bool.and_false]; rfl, rfl⟩
                | true =>
                  by_cases h1 : 0 ≤ m.off ∧ m.off ≤ 1099511627776
                  · rw [decide_eq_true h1] at hc1
                    by_cases h2 : -1099511627776 ≤ m.time ∧ m.time ≤ 1099511627776
                    · rw [decide_eq_true h2] at hc2
                      obtain ⟨D, hD⟩ : ∃ D, D = decide (1073741824 < m.pos) := ⟨_, rfl⟩
                      have hGD : G = !D := by
                        rw [HGS.out, Bool.and_true, HRT.out, hD]
                        by_cases h3 : 1073741824 < m.pos
                        · rw [decide_eq_true h3]; exact decide_eq_false (by omega)
                        · rw [decide_eq_false h3]; exact decide_eq_true (by omega)
                      have HGD := Lib.hid hGD
                      have HD := Lib.hid hD
                      clear hGD hD
                      go_wp2_with fail
                      with_reducible refine hc1.mono ?_
                      rintro e w9 ⟨rfl, rfl⟩
                      go_wp2_with fail
                      with_reducible refine hc2.mono ?_
                      rintro e w9 ⟨rfl, rfl⟩
                      go_wp2_with fail
                      go_meet
                      exact ⟨by rw [HGD.out, HD.out]; simp, rfl⟩
                    · rw [decide_eq_false h2] at hc2
                      have hGD : G = false := by rw [HGS.out, Bool.and_true, HRT.out]; exact decide_eq_false (fun h => h2 ⟨h.2.2.1, h.2.2.2.1⟩)
                      have HGD := Lib.hid hGD
                      clear hGD
                      go_wp2_with fail
                      with_reducible refine hc1.mono ?_
                      rintro e w9 ⟨rfl, rfl⟩
                      go_wp2_with fail
                      with_reducible refine hc2.mono ?_
                      rintro e w9 ⟨rfl, rfl⟩
                      go_wp2_with fail
                      go_meet
                      exact ⟨by rw [HGD.out]; rfl, rfl⟩
                  · rw [decide_eq_false h1] at hc1
                    have hGD : G = false := by rw [HGS.out, Bool.and_true, HRT.out]; exact decide_eq_false (fun h => h1 ⟨h.1, h.2.1⟩)
                    have HGD := Lib.hid hGD
                    clear hGD
                    go_wp2_with fail
                    with_reducible refine hc1.mono ?_
                    rintro e w9 ⟨rfl, rfl⟩
                    go_wp2_with fail
                    go_meet
                    exact ⟨by rw [HGD.out]; rfl, rfl⟩
              obtain ⟨rfl, hwc⟩ := hcut
              have HG2 := HG.out
              clear hc1 hc2 n0' n1' n2'
              rw [hwc] at *
              clear hwc
              cases G with
              | false =>
                have hbad := good_take l (i2 + 1) HG2.symm
                have hP := HPP.out
                rw [if_pos hbad] at hP
                have HP3 := Lib.hid hP
                have K8 := K4.below B8
                clear hbad HG2 hP
                go_wp2_with fail
                with_reducible refine (bare_calls _ _).mono ?_
                rintro e w6 ⟨rfl, b6⟩
                go_wp2_with (refine wpList_store_row_g rfl 67 _ _ rfl w.heap.size _ rfl rfl 67 _ (heap_below b6 K8.fault) faultSize rfl (by simp [Value.oneCell']) ?_)
                intro w9 row9 g9 s9
                have B9 : Below w.heap.size w w9 := (nxt K8.bel b6).grown g9 (nxt K8.bel b6).size (fun k e => by cases e; exact Nat.le_refl _)
                have d0 : w9.cell? ⟨w.heap.size, 0, none⟩ = some (.int .i64 103) := cell_of_row w9 _ 0 _ _ _ row9
                have d1 : w9.cell? ⟨w.heap.size, 1, none⟩ = some (.bool false) := cell_of_row w9 _ 1 _ _ _ row9
                have d2 : w9.cell? ⟨w.heap.size, 2, none⟩ = some (.int .i64 0) := cell_of_row w9 _ 2 _ _ _ row9
                clear row9 g9 s9
                go_wp2_with fail
                refine bodyPost_ret (v := .tuple #[.pointer none, fv 103 false 0]) (by simp [results, go_sem, fv, d0, d1, d2]) rfl ?_
                unfold RefIdxPost
                rw [HP3.out]
                exact ⟨B9, .inr ⟨by simp, rfl⟩⟩
              | true =>
                have HG3 := Lib.hid HG2.symm
                clear HG2
                go_wp2_with fail
                exact ⟨⟨i2 + 1, by omega, by go_num, HG3, B8⟩, by simp [intOf]; omega⟩
            · have hok : (l.all Idx.right && rise l) = true := by
                have := HOK.out
                rwa [List.take_of_length_le (by omega)] at this
              have hP := HPP.out
              rw [if_neg (by rw [hok]; simp)] at hP
              have HK := Lib.hid hok
              have K8 := K4.below hb
              clear hok HPP
              by_cases he0 : ev = 0
              · rw [if_pos he0] at hP
                subst he0
                have HP3 := Lib.hid hP
                clear hP
                have hnz := refNewIdx_zero wr
                go_wp2_with fail
                with_reducible refine hnz.mono ?_
                rintro e w7 ⟨rfl, rfl⟩
                go_wp2_with fail
                with_reducible refine (bare_calls _ _).mono ?_
                rintro e w6 ⟨rfl, b6⟩
                go_wp2_with (refine wpList_store_row_g rfl 67 _ _ rfl w.heap.size _ rfl rfl 67 _ (heap_below b6 K8.fault) faultSize rfl (by simp [Value.oneCell']) ?_)
                intro w9 row9 g9 s9
                have B9 : Below w.heap.size w w9 := (nxt K8.bel b6).grown g9 (nxt K8.bel b6).size (fun k e => by cases e; exact Nat.le_refl _)
                have d0 : w9.cell? ⟨w.heap.size, 0, none⟩ = some (.int .i64 105) := cell_of_row w9 _ 0 _ _ _ row9
                have d1 : w9.cell? ⟨w.heap.size, 1, none⟩ = some (.bool false) := cell_of_row w9 _ 1 _ _ _ row9
                have d2 : w9.cell? ⟨w.heap.size, 2, none⟩ = some (.int .i64 0) := cell_of_row w9 _ 2 _ _ _ row9
                clear row9 g9 s9
                go_wp2_with fail
                refine bodyPost_ret (v := .tuple #[.pointer none, fv 105 false 0]) (by simp [results, go_sem, fv, d0, d1, d2]) rfl ?_
                unfold RefIdxPost
                rw [HP3.out]
                exact ⟨B9, .inr ⟨by simp, rfl⟩⟩
              · rw [if_neg he0] at hP
                have HP3 := Lib.hid hP
                clear hP
                have hni := refNewIdx_calls (ev : Int) wr (by omega) (by omega)
                go_wp2_with fail
                with_reducible refine hni.mono ?_
                rintro e w7 ⟨rfl, rowx, b7⟩
                have K7 := K8.below b7
                have o7 := K7.row
                have hgg : g10 < wr.heap.size := (Array.getElem?_eq_some_iff.1 K8.last).1
                have hfg : w.heap.size < wr.heap.size := by have := K8.o0; have := K8.o1; have := K8.o2; omega
                generalize wr.heap.size = g at *
                have T8 := Touch.setCell (g := g) w7 1 (.slice al l.length cl)
                have o8 := T8.owns o7 rowx (by decide)
                have f8 := T8.heap K7.fault (by omega)
                have row8 : (w7.setCell ⟨g, 1, none⟩ (.slice al l.length cl)).heap[g]? = some (.cells #[.int .i64 (ev : Int), .slice al l.length cl, .slice none 0 0, .int .i64 0, .bool false] 95 (0, 0)) := heap_setCell_same w7 g 1 _ _ _ rowx
                have d1 : w7.cell? ⟨g, 1, none⟩ = some (.slice none 0 0) := cell_of_row w7 g 1 _ _ _ rowx
                have z1 := frozen_of_row w7 g 1 _ _ rowx
                have B8 := T8.new K7.bel (by omega)
                clear hni T8 o7
                go_upto_region 30 with fail
                generalize w7.setCell ⟨g, 1, none⟩ (.slice al l.length cl) = w8 at *
                clear d1 z1 rowx K7 b7
                go_upto_if 155 with fail
                go_cut [155] (fun _ wx => ∃ va t sm, wx.heap[g]? = some (.cells #[.int .i64 (ev : Int), .slice al l.length cl, va, .int .i64 t, .bool sm] 95 (0, 0)) ∧ wx.ownsRow (g10 + 1) 141 3 (.slice al l.length cl) l.length (l.flatMap mkV) ∧ wx.heap[w.heap.size]? = some (.cells #[.int .i64 0, .bool false, .int .i64 0] 67 (0, 0)) ∧ Below w.heap.size w wx)
                case first =>
                  by_cases hl0 : l.length = 0
                  · have hd0 : decide (0 < l.length) = false := decide_eq_false (by omega)
                    have hd1 : decide ((0 : Int) < (l.length : Int)) = false := decide_eq_false (by omega)
                    first | rw [hd0] | rw [hd1]
                    clear hl0
                    go_wp2_with fail
                    go_meet
                    exact ⟨_, _, _, row8, o8, f8, B8⟩
                  · obtain ⟨k, hk⟩ : ∃ k, l.length = k + 1 := ⟨l.length - 1, by omega⟩
                    have hk2 : k < l.length := by omega
                    obtain ⟨b, o, hal, hc1, hm1, hx1⟩ := (Rd.of_owns o8).at (by omega)
                    obtain ⟨p0, p1, p2⟩ := mk_cells hx1 k hk2
                    obtain ⟨y, hy⟩ : ∃ y, y = l[k] := ⟨_, rfl⟩
                    rw [← hy] at p0 p1 p2
                    have hd0 : decide (0 < l.length) = true := decide_eq_true (by omega)
                    have hd1 : decide ((0 : Int) < (l.length : Int)) = true := decide_eq_true (by omega)
                    first | rw [hd0] | rw [hd1]
                    have hw1 : IntKind.i64.wrap ((l.length : Int) - 1) = (k : Int) := by rw [IntKind.wrap_i64]; unfold maxLen at hm1; omega
                    have HY := Lib.hid hy
                    have b9 := below_alloc w8 (.cells #[.int .i64 y.off, .int .i64 y.time, .int .i64 y.pos] 141)
                    have rowm := heap_alloc_new w8 (.cells #[.int .i64 y.off, .int .i64 y.time, .int .i64 y.pos] 141)
                    have row9 := heap_below b9 row8
                    have o9 := owns_below o8 b9
                    have f9 := heap_below b9 f8
                    have B9 := nxt B8 b9
                    have hgw : g < w8.heap.size := (Array.getElem?_eq_some_iff.1 row8).1
                    subst hal
                    clear hk hy hx1 hl0
                    go_upto_region 32 with fail
                    generalize w8.alloc (.cells #[.int .i64 y.off, .int .i64 y.time, .int .i64 y.pos] 141) = w9 at *
                    generalize w8.heap.size = gm at *
                    clear p0 p1 p2 b9 row8 o8 f8 B8
                    have m0 : w9.cell? ⟨gm, 0, none⟩ = some (.int .i64 y.off) := cell_of_row _ _ 0 _ _ _ rowm
                    have m2 : w9.cell? ⟨gm, 2, none⟩ = some (.int .i64 y.pos) := cell_of_row _ _ 2 _ _ _ rowm
                    have ba := below_alloc w9 (.cells #[.int .i64 y.off, .int .i64 0, .int .i64 y.pos] 141)
                    have rowa := heap_below ba row9
                    have rowma := heap_below ba rowm
                    have oa := owns_below o9 ba
                    have fa := heap_below ba f9
                    have Ba := nxt B9 ba
                    have c2 : (w9.alloc (.cells #[.int .i64 y.off, .int .i64 0, .int .i64 y.pos] 141)).cell? ⟨g, 2, none⟩ = some (.slice none 0 0) := cell_of_row _ _ 2 _ _ _ rowa
                    have z2 : (w9.alloc (.cells #[.int .i64 y.off, .int .i64 0, .int .i64 y.pos] 141)).frozen? ⟨g, 2, none⟩ = false := frozen_of_row _ g 2 _ _ rowa
                    go_upto_region 33 with fail
                    generalize w9.alloc (.cells #[.int .i64 y.off, .int .i64 0, .int .i64 y.pos] 141) = wa at *
                    have Tb := Touch.setCell (g := g) wa 2 (.slice (some ⟨w9.heap.size, 0, none⟩) 1 1)
                    have rowb : (wa.setCell ⟨g, 2, none⟩ (.slice (some ⟨w9.heap.size, 0, none⟩) 1 1)).heap[g]? = some (.cells #[.int .i64 (ev : Int), .slice (some ⟨b, o, none⟩) l.length cl, .slice (some ⟨w9.heap.size, 0, none⟩) 1 1, .int .i64 0, .bool false] 95 (0, 0)) := heap_setCell_same wa g 2 _ _ _ rowa
                    have rowmb := Tb.heap rowma (by omega)
                    have ob := Tb.owns oa rowa (by decide)
                    have fb := Tb.heap fa (by omega)
                    have Bb := Tb.new Ba (by omega)
                    clear Tb c2 z2 rowa rowma oa fa Ba m0 m2 ba
                    generalize wa.setCell ⟨g, 2, none⟩ (.slice (some ⟨w9.heap.size, 0, none⟩) 1 1) = wb at *
                    have m1 : wb.cell? ⟨gm, 1, none⟩ = some (.int .i64 y.time) := cell_of_row _ _ 1 _ _ _ rowmb
                    have c3 : wb.cell? ⟨g, 3, none⟩ = some (.int .i64 0) := cell_of_row _ _ 3 _ _ _ rowb
                    have z3 : wb.frozen? ⟨g, 3, none⟩ = false := frozen_of_row _ g 3 _ _ rowb
                    have Tc := Touch.setCell (g := g) wb 3 (.int .i64 y.time)
                    have rowc : (wb.setCell ⟨g, 3, none⟩ (.int .i64 y.time)).heap[g]? = some (.cells #[.int .i64 (ev : Int), .slice (some ⟨b, o, none⟩) l.length cl, .slice (some ⟨w9.heap.size, 0, none⟩) 1 1, .int .i64 y.time, .bool false] 95 (0, 0)) := heap_setCell_same wb g 3 _ _ _ rowb
                    go_upto_region 34 with fail
                    generalize wb.setCell ⟨g, 3, none⟩ (.int .i64 y.time) = wd at *
                    have c4 : wd.cell? ⟨g, 4, none⟩ = some (.bool false) := cell_of_row _ _ 4 _ _ _ rowc
                    have z4 : wd.frozen? ⟨g, 4, none⟩ = false := frozen_of_row _ g 4 _ _ rowc
                    have oc := Tc.owns ob rowb (by decide)
                    have fc := Tc.heap fb (by omega)
                    have Bc := Tc.new Bb (by omega)
                    have Td := Touch.setCell (g := g) wd 4 (.bool true)
                    go_wp2_with fail
                    go_meet
                    exact ⟨_, _, _, heap_setCell_same wd g 4 _ _ _ rowc, Td.owns oc rowc (by decide), Td.heap fc (by omega), Td.new Bc (by omega)⟩
                obtain ⟨va, t, sm, rowz, oz, fz, Bz⟩ := hcut
                clear row8 o8 f8 B8
                go_wp2_with fail
                with_reducible refine (fnone_calls _).mono ?_
                rintro e w6 ⟨rfl, b6⟩
                go_wp2_with (refine wpList_store_row_g rfl 67 _ _ rfl w.heap.size _ rfl rfl 67 _ (heap_below b6 fz) faultSize rfl (by simp [Value.oneCell']) ?_)
                intro w9 row9 g9 s9
                have B9 : Below w.heap.size w w9 := (nxt Bz b6).grown g9 (nxt Bz b6).size (fun k e => by cases e; exact Nat.le_refl _)
                have d0 : w9.cell? ⟨w.heap.size, 0, none⟩ = some (.int .i64 0) := cell_of_row w9 _ 0 _ _ _ row9
                have d1 : w9.cell? ⟨w.heap.size, 1, none⟩ = some (.bool false) := cell_of_row w9 _ 1 _ _ _ row9
                have d2 : w9.cell? ⟨w.heap.size, 2, none⟩ = some (.int .i64 0) := cell_of_row w9 _ 2 _ _ _ row9
                have o9 := Touch.owns_from (g := w.heap.size) g9 (owns_below oz b6) (by have := K4.o0; have := K4.o1; have := K4.o2; omega)
                have rowg := Touch.heap (g := w.heap.size) g9 (heap_below b6 rowz) (by omega)
                clear row9 g9 s9
                go_wp2_with fail
                refine bodyPost_ret (v := .tuple #[.pointer (some ⟨g, 0, none⟩), fv 0 false 0]) (by simp [results, go_sem, fv, d0, d1, d2]) rfl ?_
                unfold RefIdxPost
                rw [HP3.out]
                exact ⟨B9, .inl ⟨rfl, g, _, rfl, cell_of_row w9 g 1 _ _ _ rowg, Rd.of_owns o9⟩⟩
        · have hfc := refFine_no r4 hfb
          have hP : readIdx bs = (so.bad, 0, []) := by
            rw [HP.out]
            have h1 := HOB.out
            by_cases h2 : s.bad = .fine
            · rw [if_neg (fun e => e h2)] at h1 ⊢
              by_cases h3 : 0 < s.left.length
              · rw [if_pos h3] at h1 ⊢; rw [h1]
              · rw [if_neg h3] at h1; exact absurd h1 hfb
            · rw [if_pos h2] at h1 ⊢; rw [h1]
          have HPP := Lib.hid hP
          have HFB := Lib.hid hfb
          obtain ⟨ab4, cb4, _, hrow4, _, _, k0, k1, k2, f1⟩ := r4.parts
          have k3 : w4.cell? ⟨gr, 3, none⟩ = some (.bool so.bad.has) := cell_of_row w4 _ 3 _ _ _ hrow4
          have k4 : w4.cell? ⟨gr, 4, none⟩ = some (.int .i64 so.bad.pos) := cell_of_row w4 _ 4 _ _ _ hrow4
          clear hP hfb hrow4
          go_wp2_with fail
          with_reducible refine hfc.mono ?_
          rintro e w5 ⟨rfl, rfl⟩
          clear hfc
          go_wp2_with fail
          go_still_tail 5, (by kernel_rfl)
          change wpList _ _ _ _ _ w4.drew
          have row5 : w4.drew.heap[w.heap.size]? = some (.cells #[.int .i64 0, .bool false, .int .i64 0] 67 (0, 0)) := K4.fault
          have B5 : Below w.heap.size w w4.drew := K4.bel.drew
          generalize w4.drew = w5 at *
          go_wp2_with (refine wpList_store_row_g rfl 67 _ _ rfl w.heap.size _ rfl rfl 67 _ row5 faultSize rfl (by simp [Value.oneCell']) ?_)
          intro w9 row9 g9 s9
          have B9 : Below w.heap.size w w9 := (B5).grown g9 (B5).size (fun k e => by cases e; exact Nat.le_refl _)
          have d0 : w9.cell? ⟨w.heap.size, 0, none⟩ = some (.int .i64 so.bad.code) := cell_of_row w9 _ 0 _ _ _ row9
          have d1 : w9.cell? ⟨w.heap.size, 1, none⟩ = some (.bool so.bad.has) := cell_of_row w9 _ 1 _ _ _ row9
          have d2 : w9.cell? ⟨w.heap.size, 2, none⟩ = some (.int .i64 so.bad.pos) := cell_of_row w9 _ 2 _ _ _ row9
          clear row9 g9 s9
          go_wp2_with fail
          refine bodyPost_ret (v := .tuple #[.pointer none, fv so.bad.code so.bad.has so.bad.pos]) (by simp [results, go_sem, fv, d0, d1, d2]) rfl ?_
          unfold RefIdxPost
          rw [HPP.out]
          exact ⟨B9, .inr ⟨HFB.out, rfl⟩⟩
end Go.Proofs.YtjhebnjajnjhhaaDoor
