/- index.Read: an index of bytes, or what is amiss. -/
import Derived.Test.YtjhebnjajnjhhaaDoorIdxBytes
import Derived.Test.YtjhebnjajnjhhaaDoorEpoRead
import Derived.Test.YtjhebnjajnjhhaaDoorReaderInt
import Derived.Test.YtjhebnjajnjhhaaDoorCrcOpen
import Derived.Test.YtjhebnjajnjhhaaDoorIdxSame
import Derived.Test.YtjhebnjajnjhhaaDoorIdxNew0
import Derived.Test.YtjhebnjajnjhhaaDoorPlain
import Derived.Test.YtjhebnjajnjhhaaDoorBase
import Derived.Deep.DeepCutAuto
import Derived.Deep.RegionWith
import Derived.Deep.RegionHeld3
namespace Go.Proofs.YtjhebnjajnjhhaaDoor
open Go Go.RowKit Idx Vint

/-- The index of what was read. -/
def ofMarks (e : Int) (l : List Mk) : Ix := ⟨e, l, (l.getLast?.map (fun m => (m.off, m.pos))).toList, (l.getLast?.map (·.time)).getD minT⟩
/-- What is read out of bytes with their sum. -/
def readIdx (b : List UInt8) : Er × Int × List Mk := match openL b with
  | .fin => (.bare 0, 0, [])
  | .sum => (.bare 1, 0, [])
  | .ok c => readIn c

theorem int_val {s : Rs} (a b : Int) (ha : a ≤ 0) (hb : 0 ≤ b) : a ≤ (int a b s).1 ∧ (int a b s).1 ≤ b := by
  unfold int
  split
  · exact ⟨ha, hb⟩
  · split
    · split
      · exact ⟨ha, hb⟩
      · simp only; omega
    · exact ⟨ha, hb⟩
    · exact ⟨ha, hb⟩

theorem idx_made {w : World} {g : Nat} {e t : Int} {l : List Mk} {ad : List (Int × Int)} {vm va : Value} {n0 n1 : Nat} (row : w.heap[g]? = some (.cells #[.int .i64 e, vm, va, .int .i64 t] 104 (0, 0))) (om : w.ownsRow n0 34 3 vm l.length (l.flatMap mkV)) (oa : w.ownsRow n1 34 3 va ad.length (ad.flatMap adV)) (hd : ∀ k, vm.ownBlock = some k → va.ownBlock ≠ some k) :
    IdxAt w (fun k => k = g ∨ vm.ownBlock = some k ∨ va.ownBlock = some k) g ⟨e, l, ad, t⟩ := by
  refine ⟨vm, va, .inl rfl, ?_, row, owns_zero om, fun k h => .inr (.inl h), owns_zero oa, fun k h => .inr (.inr h), hd⟩
  rintro k (rfl | h | h)
  · exact (Array.getElem?_eq_some_iff.1 row).1
  · exact owns_lt om k h
  · exact owns_lt oa k h

def IReadPost (A : Nat → Addr) (b : List UInt8) (w : World) (e : Ending) (w' : World) : Prop :=
  Below w.heap.size w w' ∧ ((∃ F g, (readIdx b).1 = .fine ∧ e = .returned (.tuple #[.pointer (some ⟨g, 0, none⟩), .nilIface]) ∧ IdxAt w' F g (ofMarks (readIdx b).2.1 (readIdx b).2.2) ∧ ∀ k, F k → w.heap.size ≤ k) ∨
    ∃ v, (readIdx b).1 ≠ .fine ∧ e = .returned (.tuple #[.pointer none, v]) ∧ ErRow A w' v (readIdx b).1)

set_option maxRecDepth 100000 in
set_option maxHeartbeats 2000000 in
theorem iread_calls' {S : List Nat} {A : Nat → Addr} {w : World} (hS : Sents S w A) (hE0 : 0 ∈ S) (hE1 : 1 ∈ S) (hE2 : 2 ∈ S) (hE4 : 4 ∈ S) {v : Value} {bs : List UInt8} (h : Rd w 1 v bs.length (bvs bs)) (hl : bs.length ≤ 1099511627776) :
    Calls Tryd.prog 51 #[v] w (IReadPost A bs w) := by
  obtain ⟨i0, hi, hz0, hz1, hz2⟩ := info_parts info_mark'
  have ho := open_calls S A hE0 hE1 v bs w hS h hl
  have hP : IReadPost A bs w = IReadPost A bs w := rfl
  unfold IReadPost readIdx at hP
  obtain ⟨am, cm, rfl⟩ := h.slice
  go_enter Tryd.func51, Tryd.ntmps51
  go_wp2_with fail
  refine ho.mono ?_
  rintro e w1 ⟨b1, hr⟩
  clear ho hP
  cases hop : openL bs with
  | fin =>
    rw [hop] at hr
    simp only [senV] at hr
    subst hr
    have HOP := Lib.hid hop
    clear hop
    go_wp2_with fail
    go_ret2
    unfold IReadPost readIdx
    rw [HOP.out]
    exact ⟨b1, .inr ⟨_, by simp, rfl, by omega, rfl⟩⟩
  | sum =>
    rw [hop] at hr
    simp only [senV] at hr
    subst hr
    have HOP := Lib.hid hop
    clear hop
    go_wp2_with fail
    go_ret2
    unfold IReadPost readIdx
    rw [HOP.out]
    exact ⟨b1, .inr ⟨_, by simp, rfl, by omega, rfl⟩⟩
  | ok c =>
    rw [hop] at hr
    simp only at hr
    obtain ⟨v1, rfl, rc⟩ := hr
    have HOP := Lib.hid hop
    have hcl : c.length ≤ 1099511627776 := by have := openL_back hop; rw [← this, sealed_len] at hl; omega
    clear hop
    obtain ⟨a1, c1, rfl⟩ := rc.slice
    have hnr := newReader_calls A _ c w1 rc hcl
    go_wp2_with fail
    refine hnr.mono ?_
    rintro e w2 ⟨gr, rfl, hgr, r2, b2⟩
    have B2 := nxt b1 b2
    have hgrw : w.heap.size ≤ gr := Nat.le_trans b1.size hgr
    have haw : Away S A gr := Away.of_new hS hgrw
    have hnum := num_calls' (hS.below B2) hE0 hE2 hE4 haw r2 1048576
    clear hnr
    go_wp2_with fail
    refine hnum.mono ?_
    rintro e w3 ⟨rfl, r3, t3⟩
    have B3 := t3.new B2 hgrw
    obtain ⟨ev, hev⟩ : ∃ n, n = (num 1048576 (rs0 c)).1 := ⟨_, rfl⟩
    obtain ⟨s1, hs1⟩ : ∃ s, s = (num 1048576 (rs0 c)).2 := ⟨_, rfl⟩
    have hev1 : ev ≤ 1048576 := by rw [hev]; exact (num_val 1048576).1
    obtain ⟨n0, hn0⟩ : ∃ n, n = (num 4096 s1).1 := ⟨_, rfl⟩
    obtain ⟨s0, hs0⟩ : ∃ s, s = (num 4096 s1).2 := ⟨_, rfl⟩
    have hn1 : n0 ≤ 4096 := by rw [hn0]; exact (num_val 4096).1
    obtain ⟨Q, hQ⟩ : ∃ Q, Q = readMks n0 mk0 s0 [] := ⟨_, rfl⟩
    have HP : Hid (readIdx bs = if Q.2.bad ≠ .fine then (Q.2.bad, 0, []) else if 0 < Q.2.left.length then (.placed 2 Q.2.pos, 0, []) else if (Q.1.all Idx.right && rise Q.1) = false then (.bare 2, 0, []) else if ev = 0 then (.bare 4, 0, []) else (.fine, (ev : Int), Q.1)) := Lib.hid (by
      unfold readIdx
      rw [HOP.out, hQ, hn0, hs0, hs1, hev]; rfl)
    rw [← hs1] at r3
    rw [← hev]
    have r4 := r3.below (below_alloc w3 (.cells #[.int .i64 0, .int .i64 0, .int .i64 0] 34))
    have B4 := bAlloc B3 (.cells #[.int .i64 0, .int .i64 0, .int .i64 0] 34)
    have row4 := heap_alloc_new w3 (.cells #[.int .i64 0, .int .i64 0, .int .i64 0] 34)
    have hg4 := B3.size
    have hnum2 := num_calls' (hS.below B4) hE0 hE2 hE4 haw r4 4096
    rw [← hn0, ← hs0] at hnum2
    have hgne : gr < w3.heap.size := (Array.getElem?_eq_some_iff.1 (r3.rowAt').choose_spec).1
    have HQ := Lib.hid hQ
    clear hev hs1 hn0 hs0 hQ hnum HOP r3 t3 b2 r2 B2 rc
    go_wp2_with fail
    generalize w3.alloc (.cells #[.int .i64 0, .int .i64 0, .int .i64 0] 34) = w4 at *
    generalize w3.heap.size = g4 at *
    refine hnum2.mono ?_
    rintro e w5 ⟨rfl, r5, t5⟩
    have B5 := t5.new B4 hgrw
    have row5 := Touch.heap t5 row4 (show g4 ≠ gr by omega)
    clear hnum2 r4 t5 B4 row4
    go_wp2_with fail
    go_loopw [8, 10] (fun lv nv wr => ∃ (n : Nat) (s : Rs) (l : List Mk) (q : Mk), nv = .int .u64 n ∧ n ≤ 4096 ∧ Hid (readMks n q s l = Q) ∧ l.length + n ≤ 4096 ∧ Rdr A wr gr s ∧ (0 ≤ q.off ∧ q.off ≤ 1099511627776 * (l.length : Int) ∧ -4398046511104 * (l.length : Int) ≤ q.time ∧ q.time ≤ 4398046511104 * (l.length : Int) ∧ 0 ≤ q.pos ∧ q.pos ≤ 1073741824 * (l.length : Int)) ∧ wr.heap[g4]? = some (.cells #[.int .i64 q.off, .int .i64 q.time, .int .i64 q.pos] 34 (0, 0)) ∧ wr.ownsRow (g4 + 1) 34 3 lv l.length (l.flatMap mkV) ∧ Below w.heap.size w wr) (fun _ nv _ => (intOf nv).toNat)
    case atStart => exact ⟨n0, s0, [], mk0, rfl, hn1, Lib.hid HQ.out.symm, by simpa using hn1, r5, by simp [mk0], row5, by simpa using World.ownsRow_nil _ _ _ _, B5⟩
    case round =>
      obtain ⟨n, s, l, q, rfl, hn, HR, hln, hr, ⟨hq1, hq2, hq3, hq4, hq5, hq6⟩, row4, ho, hb⟩ := hrel
      have herr := readerErr_calls hr
      by_cases hgo : 0 < n ∧ s.bad = .fine
      · obtain ⟨hpos, hfine⟩ := hgo
        obtain ⟨m, rfl⟩ : ∃ m, n = m + 1 := ⟨n - 1, by omega⟩
        have HR2 := HR.out
        rw [readMks_go q l hfine] at HR2
        rw [hfine] at herr
        have v1 := (num_val (s := s) 1099511627776).1
        have v2 := int_val (s := (num 1099511627776 s).2) (-4398046511104) 4398046511104 (by omega) (by omega)
        have v3 := (num_val (s := (int (-4398046511104) 4398046511104 (num 1099511627776 s).2).2) 1073741824).1
        have c1 := fun W (b : Below wr.heap.size wr W) => num_calls' ((hS.below hb).below b) hE0 hE2 hE4 haw (hr.below b) 1099511627776
        have hro : readMk q s = readMk q s := rfl
        conv at hro => rhs; unfold readMk
        obtain ⟨x, hx⟩ : ∃ x, x = (num 1099511627776 s).1 := ⟨_, rfl⟩
        obtain ⟨s1, hs1⟩ : ∃ x, x = (num 1099511627776 s).2 := ⟨_, rfl⟩
        rw [← hx, ← hs1] at c1 hro
        rw [← hx] at v1
        rw [← hs1] at v2 v3
        have c2 := fun W (hW : Sents S W A) (k : Rdr A W gr s1) => int_calls' hW hE0 hE2 hE4 haw k (-4398046511104) 4398046511104
        obtain ⟨y, hy⟩ : ∃ x, x = (int (-4398046511104) 4398046511104 s1).1 := ⟨_, rfl⟩
        obtain ⟨s2, hs2⟩ : ∃ x, x = (int (-4398046511104) 4398046511104 s1).2 := ⟨_, rfl⟩
        rw [← hy, ← hs2] at c2 hro
        rw [← hy] at v2
        rw [← hs2] at v3
        have c3 := fun W (hW : Sents S W A) (k : Rdr A W gr s2) => num_calls' hW hE0 hE2 hE4 haw k 1073741824
        obtain ⟨z, hz⟩ : ∃ x, x = (num 1073741824 s2).1 := ⟨_, rfl⟩
        obtain ⟨s3, hs3⟩ : ∃ x, x = (num 1073741824 s2).2 := ⟨_, rfl⟩
        rw [← hz, ← hs3] at c3 hro
        rw [← hz] at v3
        rw [hro] at HR2
        have HRR := Lib.hid HR2
        clear HR2 HR hro hx hs1 hy hs2 hz hs3 hfine
        obtain ⟨qo, qt, qp⟩ := q
        simp only at hq1 hq2 hq3 hq4 hq5 hq6 row4 HRR
        obtain ⟨al, cl, rfl⟩ := owns_slice ho
        have hob : (Value.slice al l.length cl).ownBlock ≠ some g4 := fun e => by have := ho.lt _ e; omega
        have d0 : wr.cell? ⟨g4, 0, none⟩ = some (.int .i64 qo) := cell_of_row _ _ 0 _ _ _ row4
        have z0 := frozen_of_row wr g4 0 _ _ row4
        go_wp2_with fail
        refine herr.mono ?_
        rintro e w6 ⟨v3', rfl, hv3, rfl⟩
        have hv4 : v3' = .nilIface := hv3
        subst hv4
        clear hv3 herr
        have hgg : g4 ≠ gr := by omega
        have x1 : IntKind.i64.wrap (x : Int) = (x : Int) := by rw [IntKind.wrap_i64]; omega
        have x2 : IntKind.i64.wrap (qo + (x : Int)) = qo + (x : Int) := by rw [IntKind.wrap_i64]; omega
        obtain ⟨cr, hrr⟩ := hr.rowAt'
        have c1' : Calls Tryd.prog 70 #[.pointer (some ⟨gr, 0, none⟩), .int .u64 1099511627776] w6.drew (fun e w' => e = .returned (.int .u64 (x : Int)) ∧ Rdr A w' gr s1 ∧ Touch gr w6.drew w') := c1 _ (Below.refl _ _).drew
        go_upto_region 11 with fail
        go_cut [44] (fun _ wx => Rdr A wx gr s1 ∧ wx.heap[g4]? = some (.cells #[.int .i64 (qo + (x : Int)), .int .i64 qt, .int .i64 qp] 34 (0, 0)) ∧ wx.ownsRow (g4 + 1) 34 3 (.slice al l.length cl) l.length (l.flatMap mkV) ∧ Below w.heap.size w wx)
        case first =>
          go_region_with ((go_at_call 70; ((with_reducible refine c1'.mono ?_); (rintro e w7 ⟨rfl, r7, t7⟩); have row7 := Touch.heap t7 (show _ = some _ from row4) hgg; have d1 : w7.cell? ⟨g4, 0, none⟩ = some (.int .i64 qo) := cell_of_row _ _ 0 _ _ _ row7; have z1 := frozen_of_row w7 g4 0 _ _ row7)))
          all_goals
            go_wp2_with fail
            go_meet
            have T := Touch.setCell (g := g4) w7 0 (.int .i64 (qo + (x : Int)))
            have o7 := t7.owns (owns_below ho (Below.refl _ _).drew) (show _ = some _ from hrr) (by decide)
            have B7 := t7.new hb.drew hgrw
            exact ⟨r7.touch T row7 (by decide) (by decide) (by decide), heap_setCell_same w7 g4 0 _ _ _ row7, (Frame.of_touch (F := fun k => k = g4) T rfl).owns o7 (fun k hk e => hob (by rw [hk, e])), T.new B7 hg4⟩
        obtain ⟨r8, row8, o8, B8⟩ := hcut
        clear c1 c1' hrr row4 ho hb d0 z0 hr x1 x2
        have y2 : IntKind.i64.wrap (qt + y) = qt + y := by rw [IntKind.wrap_i64]; omega
        have c2' : Calls Tryd.prog 89 #[.pointer (some ⟨gr, 0, none⟩), .int .i64 (-4398046511104), .int .i64 4398046511104] wc.drew (fun e w' => e = .returned (.int .i64 y) ∧ Rdr A w' gr s2 ∧ Touch gr wc.drew w') := c2 _ (hS.below B8.drew) (r8.below (Below.refl _ _).drew)
        have d2 : wc.cell? ⟨g4, 1, none⟩ = some (.int .i64 qt) := cell_of_row _ _ 1 _ _ _ row8
        have z2 := frozen_of_row wc g4 1 _ _ row8
        obtain ⟨cr8, hrr8⟩ := r8.rowAt'
        go_upto_region 12 with fail
        go_cut [49] (fun _ wx => Rdr A wx gr s2 ∧ wx.heap[g4]? = some (.cells #[.int .i64 (qo + (x : Int)), .int .i64 (qt + y), .int .i64 qp] 34 (0, 0)) ∧ wx.ownsRow (g4 + 1) 34 3 (.slice al l.length cl) l.length (l.flatMap mkV) ∧ Below w.heap.size w wx)
        case first =>
          go_region_with ((go_at_call 89; ((with_reducible refine c2'.mono ?_); (rintro e w7 ⟨rfl, r7, t7⟩); have row7 := Touch.heap t7 (show _ = some _ from row8) hgg; have d1 : w7.cell? ⟨g4, 1, none⟩ = some (.int .i64 qt) := cell_of_row _ _ 1 _ _ _ row7; have z1 := frozen_of_row w7 g4 1 _ _ row7)))
          all_goals
            go_wp2_with fail
            go_meet
            have T := Touch.setCell (g := g4) w7 1 (.int .i64 (qt + y))
            have o7 := t7.owns (owns_below o8 (Below.refl _ _).drew) (show _ = some _ from hrr8) (by decide)
            have B7 := t7.new B8.drew hgrw
            exact ⟨r7.touch T row7 (by decide) (by decide) (by decide), heap_setCell_same w7 g4 1 _ _ _ row7, (Frame.of_touch (F := fun k => k = g4) T rfl).owns o7 (fun k hk e => hob (by rw [hk, e])), T.new B7 hg4⟩
        obtain ⟨r9, row9, o9, B9⟩ := hcut
        clear c2 c2' hrr8 row8 o8 B8 d2 z2 r8 y2
        have x3 : IntKind.i64.wrap (z : Int) = (z : Int) := by rw [IntKind.wrap_i64]; omega
        have x4 : IntKind.i64.wrap (qp + (z : Int)) = qp + (z : Int) := by rw [IntKind.wrap_i64]; omega
        have c3' : Calls Tryd.prog 70 #[.pointer (some ⟨gr, 0, none⟩), .int .u64 1073741824] wc.drew (fun e w' => e = .returned (.int .u64 (z : Int)) ∧ Rdr A w' gr s3 ∧ Touch gr wc.drew w') := c3 _ (hS.below B9.drew) (r9.below (Below.refl _ _).drew)
        have d3 : wc.cell? ⟨g4, 2, none⟩ = some (.int .i64 qp) := cell_of_row _ _ 2 _ _ _ row9
        have z3 := frozen_of_row wc g4 2 _ _ row9
        obtain ⟨cr9, hrr9⟩ := r9.rowAt'
        go_upto_region 13 with fail
        go_cut [55] (fun _ wx => Rdr A wx gr s3 ∧ wx.heap[g4]? = some (.cells #[.int .i64 (qo + (x : Int)), .int .i64 (qt + y), .int .i64 (qp + (z : Int))] 34 (0, 0)) ∧ wx.ownsRow (g4 + 1) 34 3 (.slice al l.length cl) l.length (l.flatMap mkV) ∧ Below w.heap.size w wx)
        case first =>
          go_region_with ((go_at_call 70; ((with_reducible refine c3'.mono ?_); (rintro e w7 ⟨rfl, r7, t7⟩); have row7 := Touch.heap t7 (show _ = some _ from row9) hgg; have d1 : w7.cell? ⟨g4, 2, none⟩ = some (.int .i64 qp) := cell_of_row _ _ 2 _ _ _ row7; have z1 := frozen_of_row w7 g4 2 _ _ row7)))
          all_goals
            go_wp2_with fail
            go_meet
            have T := Touch.setCell (g := g4) w7 2 (.int .i64 (qp + (z : Int)))
            have o7 := t7.owns (owns_below o9 (Below.refl _ _).drew) (show _ = some _ from hrr9) (by decide)
            have B7 := t7.new B9.drew hgrw
            exact ⟨r7.touch T row7 (by decide) (by decide) (by decide), heap_setCell_same w7 g4 2 _ _ _ row7, (Frame.of_touch (F := fun k => k = g4) T rfl).owns o7 (fun k hk e => hob (by rw [hk, e])), T.new B7 hg4⟩
        obtain ⟨ra, rowa, oa, Ba⟩ := hcut
        clear c3 c3' hrr9 row9 o9 B9 d3 z3 r9 x3 x4
        have m0 : wc.cell? ⟨g4, 0, none⟩ = some (.int .i64 (qo + (x : Int))) := cell_of_row _ _ 0 _ _ _ rowa
        have m1 : wc.cell? ⟨g4, 1, none⟩ = some (.int .i64 (qt + y)) := cell_of_row _ _ 1 _ _ _ rowa
        have m2 : wc.cell? ⟨g4, 2, none⟩ = some (.int .i64 (qp + (z : Int))) := cell_of_row _ _ 2 _ _ _ rowa
        have hga := (Array.getElem?_eq_some_iff.1 rowa).1
        generalize hX : qo + (x : Int) = X at *
        generalize hY : qt + y = Y at *
        generalize hZ : qp + (z : Int) = Z at *
        have HX := Lib.hid (show (0 ≤ X ∧ X ≤ 1099511627776 * ((l.length : Int) + 1)) ∧ (-4398046511104 * ((l.length : Int) + 1) ≤ Y ∧ Y ≤ 4398046511104 * ((l.length : Int) + 1)) ∧ (0 ≤ Z ∧ Z ≤ 1073741824 * ((l.length : Int) + 1)) by omega)
        clear hX hY hZ
        go_wp2_with (at_builtin; refine wpList_append_own _ rfl _ _ 31 rfl (g4 + 1) 34 i0 _ 3 24 Tryd.underlying31 hi hz0 hz1 hz2 rfl (by decide) _ _ _ rfl (oa.alloc _) ⟨wc.heap.size, 0, none⟩ 1 1 [.int .i64 X, .int .i64 Y, .int .i64 Z] rfl rfl ?c1 ?c2 ?c3 ?c4 ?c5 ?_)
        case c1 => exact cells_new wc #[.int .i64 X, .int .i64 Y, .int .i64 Z] 34
        case c2 => intro u hu; simp at hu; rcases hu with rfl | rfl | rfl <;> rfl
        case c3 => unfold maxLen; omega
        case c4 => omega
        case c5 => simp; omega
        intro v' w' hown' hgrow _
        have Bb : Below w.heap.size w w' := (Ba.alloc Ba.size _).grown hgrow (by have := Ba.size; simp; omega) (fun k hk => by have := (oa.lt k hk).1; omega)
        have rb := (ra.below (below_alloc wc (.cells #[.int .i64 X, .int .i64 Y, .int .i64 Z] 34))).grown hgrow (owns_rowAt (oa.alloc _)) (by decide) (by decide) (by decide)
        have rowb : w'.heap[g4]? = some (.cells #[.int .i64 X, .int .i64 Y, .int .i64 Z] 34 (0, 0)) := by
          rw [hgrow.block g4 (by simp; omega) (fun e => hob e.symm)]
          exact heap_below (below_alloc wc _) rowa
        clear hgrow m0 m1 m2
        go_wp2_with fail
        refine ⟨⟨m, s3, l ++ [⟨X, Y, Z⟩], ⟨X, Y, Z⟩, by go_num, by omega, HRR, by rw [List.length_append, List.length_singleton]; omega, rb, ?_, rowb, ?_, Bb⟩, by simp [intOf]⟩
        · have := HX.out
          rw [List.length_append, List.length_singleton]
          simp only
          omega
        · rw [List.length_append, List.flatMap_append]
          exact hown'
      · have hq : Q = (l, s) := by
          rw [← HR.out]
          by_cases h0 : 0 < n
          · exact readMks_bad _ _ _ _ (fun e => hgo ⟨h0, e⟩)
          · obtain rfl : n = 0 := by omega
            rfl
        rw [hq] at HP
        simp only at HP
        clear hq HR HQ hq1 hq2 hq3 hq4 hq5 hq6 row4
        have HGO := Lib.hid hgo
        clear hgo
        obtain ⟨al, cl, rfl⟩ := owns_slice ho
        have g2 : ∀ w', Below w.heap.size w w' → w'.cell? ⟨2, 0, none⟩ = some (.iface 172 (.pointer (some (A 2)))) := fun w' b => (hS.below b).cell 2 hE2
        by_cases h0 : 0 < n
        all_goals
          first
          | (have hne : s.bad ≠ .fine := fun e => HGO.out ⟨h0, e⟩
             go_wp2_with fail
             refine herr.mono ?_
             rintro e w3 ⟨v3, rfl, hv3, rfl⟩
             obtain ⟨T3, u3, rfl⟩ := hv3.not_nil hne
             go_wp2_with fail
             refine herr.mono ?_
             rintro e w3 ⟨v4, rfl, hv4, rfl⟩)
          | (go_wp2_with fail
             refine herr.mono ?_
             rintro e w3 ⟨v4, rfl, hv4, rfl⟩)
        all_goals
          by_cases hfb : s.bad = .fine
          · first
            | exact absurd hfb hne
            | (rw [hfb] at hv4
               have hv5 : v4 = .nilIface := hv4
               subst hv5
               rw [if_neg (fun e => e hfb)] at HP
               have HFB := Lib.hid hfb
               clear hv4 hfb herr
               by_cases hlf : 0 < s.left.length
               · rw [if_pos hlf] at HP
                 have kA : ∀ O m, ((w3.drewN m).alloc O).cell? ⟨2, 0, none⟩ = some (.iface 172 (.pointer (some (A 2)))) := fun O m => g2 _ ((below_drewN hb m).alloc (below_drewN hb m).size _)
                 have k3 : ∀ m n, ((w3.drewN m).drewN n).drew.cell? ⟨2, 0, none⟩ = some (.iface 172 (.pointer (some (A 2)))) := fun m n => g2 w3 hb
                 go_wp2_with fail
                 refine (left_calls hr).mono ?_
                 rintro e w5 ⟨rfl, q5, rfl⟩
                 go_wp2_with fail
                 go_region_held3 (fun w' => w'.cell? ⟨2, 0, none⟩ = some (.iface 172 (.pointer (some (A 2))))) (first | exact k3 0 _ | exact kA _ _ | assumption)
                   ((go_at_call 73; refine (readerAt_calls (hr.drewN _)).mono ?_; rintro e w6 ⟨rfl, rfl⟩))
                 go_wp2_with fail
                 go_ret2
                 unfold IReadPost
                 rw [HP.out]
                 exact ⟨(below_drewN hb _).alloc (below_drewN hb _).size _, .inr ⟨_, by simp, rfl, by omega, _, rfl, heap_alloc_new _ _⟩⟩
               · rw [if_neg hlf] at HP
                 go_wp2_with fail
                 refine (left_calls hr).mono ?_
                 rintro e w5 ⟨rfl, q5, rfl⟩
                 have B5 := below_drewN hb q5
                 have ho5 : (w3.drewN q5).ownsRow (g4 + 1) 34 3 (.slice al l.length cl) l.length (l.flatMap mkV) := owns_below ho (below_drewN (Below.refl _ _) q5)
                 clear hr ho hb g2
                 generalize w3.drewN q5 = w6 at *
                 have hom := Rd.of_owns ho5
                 go_wp2_with fail
                 go_loopw [79] (fun iv wr => ∃ i : Nat, i ≤ l.length ∧ iv = .int .i64 i ∧ Hid (((l.take i).all Idx.right && rise (l.take i)) = true) ∧ Below w6.heap.size w6 wr) (fun iv _ => l.length - (intOf iv).toNat)
                 case atStart => exact ⟨0, Nat.zero_le _, rfl, Lib.hid rfl, Below.refl _ _⟩
                 case round =>
                   obtain ⟨i, hi2, rfl, HOK, hb⟩ := hrel
                   by_cases hlt : i < l.length
                   · obtain ⟨b, o, rfl, hc1, hm1, hx1⟩ := (hom.below hb).at (by omega)
                     obtain ⟨p0, p1, p2⟩ := mk_cells hx1 i hlt
                     obtain ⟨m, hm⟩ : ∃ m, m = l[i] := ⟨_, rfl⟩
                     rw [← hm] at p0 p1 p2
                     obtain ⟨G, hG⟩ : ∃ G, G = ((l.take (i + 1)).all Idx.right && rise (l.take (i + 1))) := ⟨_, rfl⟩
                     have hgs := good_snoc l i hlt HOK.out
                     rw [← hG, ← hm] at hgs
                     have HG := Lib.hid hG
                     have row7 := heap_alloc_new wr (.cells #[.int .i64 m.off, .int .i64 m.time, .int .i64 m.pos] 34)
                     have b7 := below_alloc wr (.cells #[.int .i64 m.off, .int .i64 m.time, .int .i64 m.pos] 34)
                     have B7 := bAlloc hb (.cells #[.int .i64 m.off, .int .i64 m.time, .int .i64 m.pos] 34)
                     have hj : i = 0 ∨ ∃ (j : Nat) (y : Mk), i = j + 1 ∧ j < l.length ∧ IntKind.i64.wrap (j : Int) = (j : Int) ∧ (wr.alloc (.cells #[.int .i64 m.off, .int .i64 m.time, .int .i64 m.pos] 34)).cell? ⟨b, o + j * 3, none⟩ = some (.int .i64 y.off) ∧ (wr.alloc (.cells #[.int .i64 m.off, .int .i64 m.time, .int .i64 m.pos] 34)).cell? ⟨b, o + j * 3 + 2, none⟩ = some (.int .i64 y.pos) ∧ G = (Idx.right m && decide (y.off < m.off ∧ y.pos < m.pos)) := by
                       by_cases h0 : i = 0
                       · exact .inl h0
                       · obtain ⟨j, rfl⟩ : ∃ j, i = j + 1 := ⟨i - 1, by omega⟩
                         have hj' : j < l.length := by omega
                         obtain ⟨q0, _, q2⟩ := mk_cells hx1 j hj'
                         refine .inr ⟨j, l[j], rfl, hj', by rw [IntKind.wrap_i64]; have := hom.len_le; omega, by rw [b7.cell (World.block_lt_of_cell? _ _ q0)]; exact q0, by rw [b7.cell (World.block_lt_of_cell? _ _ q2)]; exact q2, ?_⟩
                         rw [hgs, dif_pos (by omega)]
                         rfl
                     have hG0 : i = 0 → G = Idx.right m := fun e => by rw [hgs, dif_neg (by omega), Bool.and_true]
                     have HM := Lib.hid hm
                     have HG0 := Lib.hid hG0
                     clear hm hG hgs hx1 hG0
                     go_upto_region 22 with fail
                     have c70 : (wr.alloc (.cells #[.int .i64 m.off, .int .i64 m.time, .int .i64 m.pos] 34)).cell? ⟨wr.heap.size, 0, none⟩ = some (.int .i64 m.off) := cell_of_row _ _ 0 _ _ _ row7
                     have c71 : (wr.alloc (.cells #[.int .i64 m.off, .int .i64 m.time, .int .i64 m.pos] 34)).cell? ⟨wr.heap.size, 1, none⟩ = some (.int .i64 m.time) := cell_of_row _ _ 1 _ _ _ row7
                     have c72 : (wr.alloc (.cells #[.int .i64 m.off, .int .i64 m.time, .int .i64 m.pos] 34)).cell? ⟨wr.heap.size, 2, none⟩ = some (.int .i64 m.pos) := cell_of_row _ _ 2 _ _ _ row7
                     generalize wr.alloc (.cells #[.int .i64 m.off, .int .i64 m.time, .int .i64 m.pos] 34) = w7 at *
                     generalize wr.heap.size = g7 at *
                     have hrt := idxRight_calls m w7.drew
                     have hko : ∀ (a : Addr) (v : Value), w7.cell? a = some v → ∀ W, Below w7.drew.heap.size w7.drew W → W.cell? a = some v := fun a v h W hW => by
                       rw [hW.cell (World.block_lt_of_cell? _ _ (show w7.drew.cell? a = _ from h))]; exact h
                     go_cut [112] (fun x wx => x = .bool (!G) ∧ Below w6.heap.size w6 wx)
                     case first =>
                       cases hr : Idx.right m with
                       | false =>
                         have hGf : G = false := by rcases hj with h0 | ⟨j, y, _, _, _, _, _, e⟩; (· rw [HG0.out h0]; exact hr); rw [e, hr]; rfl
                         rw [hr] at hrt
                         have HGF := Lib.hid hGf; clear hj hr hGf
                         have KK : ∀ W, Below w7.drew.heap.size w7.drew W → (fun W => W.cell? ⟨g7, 0, none⟩ = some (.int .i64 m.off) ∧ W.cell? ⟨g7, 1, none⟩ = some (.int .i64 m.time) ∧ W.cell? ⟨g7, 2, none⟩ = some (.int .i64 m.pos) ∧ True ∧ True) W := fun W hW => ⟨hko _ _ c70 W hW, hko _ _ c71 W hW, hko _ _ c72 W hW, trivial, trivial⟩
                         go_wp2_with fail
                         refine wp_region_ord (S := (fun W => W.cell? ⟨g7, 0, none⟩ = some (.int .i64 m.off) ∧ W.cell? ⟨g7, 1, none⟩ = some (.int .i64 m.time) ∧ W.cell? ⟨g7, 2, none⟩ = some (.int .i64 m.pos) ∧ True ∧ True)) [(0, true), (1, false), (2, true), (3, true), (4, true), (5, true), (6, true), (7, true), (8, true), (9, true), (10, true), (11, true), (12, true), (13, true), (14, true), (15, true), (16, true), (17, true), (18, true), (19, true), (20, true), (21, true), (22, true), (23, true), (24, true), (25, true), (26, true), (27, true), (28, true)] (by kernel_rfl) (by kernel_rfl) rfl (by kernel_rfl) (fun _ _ _ _ _ h => h) (KK _ (Below.refl _ _)) ?_
                         simp only [List.map_cons, List.map_nil, List.getElem?_toArray, List.getElem?_cons_succ, List.getElem?_cons_zero]
                         iterate 1 (refine ord_take (v := ?_) (by kernel_rfl) (fun w hSw => ?_) ?_; rotate_left; (focus ((obtain ⟨s0, s1, s2, s3, s4⟩ := hSw); (try dsimp only at s0 s1 s2 s3 s4); go_simp; (first | done | with_reducible rfl))); simp only [Act.put, List.setIfInBounds_toArray, List.set_cons_zero, List.set_cons_succ])
                         refine ord_do (by kernel_rfl) (fun K hK => ?_)
                         go_simp
                         go_at_call 56
                         refine hrt.mono ?_
                         rintro e w8 ⟨rfl, b8⟩
                         show K _ _
                         refine hK.out _ _ (KK _ b8) ?_
                         clear hK
                         try simp only [Act.put, List.setIfInBounds_toArray, List.set_cons_zero, List.set_cons_succ]
                         iterate 2 (refine ord_take (v := ?_) (by kernel_rfl) (fun w hSw => ?_) ?_; rotate_left; (focus ((obtain ⟨s0, s1, s2, s3, s4⟩ := hSw); (try dsimp only at s0 s1 s2 s3 s4); go_simp; (first | done | with_reducible rfl))); simp only [Act.put, List.setIfInBounds_toArray, List.set_cons_zero, List.set_cons_succ])
                         iterate 24 (refine ord_skip (by kernel_rfl) ?_; simp only [Act.put, List.setIfInBounds_toArray, List.set_cons_zero, List.set_cons_succ])
                         iterate 1 (refine ord_take (v := ?_) (by kernel_rfl) (fun w hSw => ?_) ?_; rotate_left; (focus ((obtain ⟨s0, s1, s2, s3, s4⟩ := hSw); (try dsimp only at s0 s1 s2 s3 s4); go_simp; (first | done | with_reducible rfl))); simp only [Act.put, List.setIfInBounds_toArray, List.set_cons_zero, List.set_cons_succ])
                         refine ord_nil ?_
                         go_wp2_with fail
                         go_meet
                         exact ⟨by rw [HGF.out]; rfl, nxt B7 (nxt (below_drewN (Below.refl _ _) 1) b8)⟩
                       | true =>
                         rw [hr] at hrt
                         rcases hj with rfl | ⟨j, y, rfl, hjl, hw1, q0, q2, e⟩
                         · have hGf : G = true := (HG0.out rfl).trans hr
                           have HGF := Lib.hid hGf; clear hr hGf
                           have KK : ∀ W, Below w7.drew.heap.size w7.drew W → (fun W => W.cell? ⟨g7, 0, none⟩ = some (.int .i64 m.off) ∧ W.cell? ⟨g7, 1, none⟩ = some (.int .i64 m.time) ∧ W.cell? ⟨g7, 2, none⟩ = some (.int .i64 m.pos) ∧ True ∧ True) W := fun W hW => ⟨hko _ _ c70 W hW, hko _ _ c71 W hW, hko _ _ c72 W hW, trivial, trivial⟩
                           go_wp2_with fail
                           refine wp_region_ord (S := (fun W => W.cell? ⟨g7, 0, none⟩ = some (.int .i64 m.off) ∧ W.cell? ⟨g7, 1, none⟩ = some (.int .i64 m.time) ∧ W.cell? ⟨g7, 2, none⟩ = some (.int .i64 m.pos) ∧ True ∧ True)) [(0, true), (1, false), (2, true), (3, true), (4, true), (5, true), (6, true), (7, true), (8, true), (9, true), (10, true), (11, true), (12, true), (13, true), (14, true), (15, true), (16, true), (17, true), (18, true), (19, true), (20, true), (21, true), (22, true), (23, true), (24, true), (25, true), (26, true), (27, true), (28, true)] (by kernel_rfl) (by kernel_rfl) rfl (by kernel_rfl) (fun _ _ _ _ _ h => h) (KK _ (Below.refl _ _)) ?_
                           simp only [List.map_cons, List.map_nil, List.getElem?_toArray, List.getElem?_cons_succ, List.getElem?_cons_zero]
                           iterate 1 (refine ord_take (v := ?_) (by kernel_rfl) (fun w hSw => ?_) ?_; rotate_left; (focus ((obtain ⟨s0, s1, s2, s3, s4⟩ := hSw); (try dsimp only at s0 s1 s2 s3 s4); go_simp; (first | done | with_reducible rfl))); simp only [Act.put, List.setIfInBounds_toArray, List.set_cons_zero, List.set_cons_succ])
                           refine ord_do (by kernel_rfl) (fun K hK => ?_)
                           go_simp
                           go_at_call 56
                           refine hrt.mono ?_
                           rintro e w8 ⟨rfl, b8⟩
                           show K _ _
                           refine hK.out _ _ (KK _ b8) ?_
                           clear hK
                           try simp only [Act.put, List.setIfInBounds_toArray, List.set_cons_zero, List.set_cons_succ]
                           iterate 5 (refine ord_take (v := ?_) (by kernel_rfl) (fun w hSw => ?_) ?_; rotate_left; (focus ((obtain ⟨s0, s1, s2, s3, s4⟩ := hSw); (try dsimp only at s0 s1 s2 s3 s4); go_simp; (first | done | with_reducible rfl))); simp only [Act.put, List.setIfInBounds_toArray, List.set_cons_zero, List.set_cons_succ])
                           iterate 20 (refine ord_skip (by kernel_rfl) ?_; simp only [Act.put, List.setIfInBounds_toArray, List.set_cons_zero, List.set_cons_succ])
                           iterate 2 (refine ord_take (v := ?_) (by kernel_rfl) (fun w hSw => ?_) ?_; rotate_left; (focus ((obtain ⟨s0, s1, s2, s3, s4⟩ := hSw); (try dsimp only at s0 s1 s2 s3 s4); go_simp; (first | done | with_reducible rfl))); simp only [Act.put, List.setIfInBounds_toArray, List.set_cons_zero, List.set_cons_succ])
                           refine ord_nil ?_
                           go_wp2_with fail
                           go_meet
                           exact ⟨by rw [HGF.out]; rfl, nxt B7 (nxt (below_drewN (Below.refl _ _) 1) b8)⟩
                         · have hd0 : decide ((0 : Int) < ((j + 1 : Nat) : Int)) = true := decide_eq_true (by omega)
                           rw [hr, Bool.true_and] at e
                           have KK : ∀ W, Below w7.drew.heap.size w7.drew W → (fun W => W.cell? ⟨g7, 0, none⟩ = some (.int .i64 m.off) ∧ W.cell? ⟨g7, 1, none⟩ = some (.int .i64 m.time) ∧ W.cell? ⟨g7, 2, none⟩ = some (.int .i64 m.pos) ∧ W.cell? ⟨b, o + j * 3, none⟩ = some (.int .i64 y.off) ∧ W.cell? ⟨b, o + j * 3 + 2, none⟩ = some (.int .i64 y.pos)) W := fun W hW => ⟨hko _ _ c70 W hW, hko _ _ c71 W hW, hko _ _ c72 W hW, hko _ _ q0 W hW, hko _ _ q2 W hW⟩
                           by_cases h1 : m.off ≤ y.off
                           · have h1' : decide (m.off ≤ y.off) = true := decide_eq_true h1
                             have hGf : G = false := e.trans (decide_eq_false (by omega))
                             have HGF := Lib.hid hGf; clear hr hGf e
                             go_wp2_with fail
                             refine wp_region_ord (S := (fun W => W.cell? ⟨g7, 0, none⟩ = some (.int .i64 m.off) ∧ W.cell? ⟨g7, 1, none⟩ = some (.int .i64 m.time) ∧ W.cell? ⟨g7, 2, none⟩ = some (.int .i64 m.pos) ∧ W.cell? ⟨b, o + j * 3, none⟩ = some (.int .i64 y.off) ∧ W.cell? ⟨b, o + j * 3 + 2, none⟩ = some (.int .i64 y.pos))) [(0, true), (1, false), (2, true), (3, true), (4, true), (5, true), (6, true), (7, true), (8, true), (9, true), (10, true), (11, true), (12, true), (13, true), (14, true), (15, true), (16, true), (17, true), (18, true), (19, true), (20, true), (21, true), (22, true), (23, true), (24, true), (25, true), (26, true), (27, true), (28, true)] (by kernel_rfl) (by kernel_rfl) rfl (by kernel_rfl) (fun _ _ _ _ _ h => h) (KK _ (Below.refl _ _)) ?_
                             simp only [List.map_cons, List.map_nil, List.getElem?_toArray, List.getElem?_cons_succ, List.getElem?_cons_zero]
                             iterate 1 (refine ord_take (v := ?_) (by kernel_rfl) (fun w hSw => ?_) ?_; rotate_left; (focus ((obtain ⟨s0, s1, s2, s3, s4⟩ := hSw); (try dsimp only at s0 s1 s2 s3 s4); go_simp; (first | done | with_reducible rfl))); simp only [Act.put, List.setIfInBounds_toArray, List.set_cons_zero, List.set_cons_succ])
                             refine ord_do (by kernel_rfl) (fun K hK => ?_)
                             go_simp
                             go_at_call 56
                             refine hrt.mono ?_
                             rintro e w8 ⟨rfl, b8⟩
                             show K _ _
                             refine hK.out _ _ (KK _ b8) ?_
                             clear hK
                             try simp only [Act.put, List.setIfInBounds_toArray, List.set_cons_zero, List.set_cons_succ]
                             iterate 15 (refine ord_take (v := ?_) (by kernel_rfl) (fun w hSw => ?_) ?_; rotate_left; (focus ((obtain ⟨s0, s1, s2, s3, s4⟩ := hSw); (try dsimp only at s0 s1 s2 s3 s4); go_simp; (first | done | with_reducible rfl))); simp only [Act.put, List.setIfInBounds_toArray, List.set_cons_zero, List.set_cons_succ])
                             iterate 9 (refine ord_skip (by kernel_rfl) ?_; simp only [Act.put, List.setIfInBounds_toArray, List.set_cons_zero, List.set_cons_succ])
                             iterate 3 (refine ord_take (v := ?_) (by kernel_rfl) (fun w hSw => ?_) ?_; rotate_left; (focus ((obtain ⟨s0, s1, s2, s3, s4⟩ := hSw); (try dsimp only at s0 s1 s2 s3 s4); go_simp; (first | done | with_reducible rfl))); simp only [Act.put, List.setIfInBounds_toArray, List.set_cons_zero, List.set_cons_succ])
                             refine ord_nil ?_
                             go_wp2_with fail
                             go_meet
                             exact ⟨by rw [HGF.out]; rfl, nxt B7 (nxt (below_drewN (Below.refl _ _) 1) b8)⟩
                           · have h1' : decide (m.off ≤ y.off) = false := decide_eq_false h1
                             obtain ⟨D, hD⟩ : ∃ D, D = decide (m.pos ≤ y.pos) := ⟨_, rfl⟩
                             have hGf : G = !D := by
                               rw [e, hD]
                               by_cases h2 : m.pos ≤ y.pos
                               · rw [decide_eq_true h2, decide_eq_false (by omega)]; rfl
                               · rw [decide_eq_false h2, decide_eq_true (by omega)]; rfl
                             have HGF := Lib.hid hGf; have HD := Lib.hid hD; clear hr hGf e hD
                             go_wp2_with fail
                             refine wp_region_ord (S := (fun W => W.cell? ⟨g7, 0, none⟩ = some (.int .i64 m.off) ∧ W.cell? ⟨g7, 1, none⟩ = some (.int .i64 m.time) ∧ W.cell? ⟨g7, 2, none⟩ = some (.int .i64 m.pos) ∧ W.cell? ⟨b, o + j * 3, none⟩ = some (.int .i64 y.off) ∧ W.cell? ⟨b, o + j * 3 + 2, none⟩ = some (.int .i64 y.pos))) [(0, true), (1, false), (2, true), (3, true), (4, true), (5, true), (6, true), (7, true), (8, true), (9, true), (10, true), (11, true), (12, true), (13, true), (14, true), (15, true), (16, true), (17, true), (18, true), (19, true), (20, true), (21, true), (22, true), (23, true), (24, true), (25, true), (26, true), (27, true), (28, true)] (by kernel_rfl) (by kernel_rfl) rfl (by kernel_rfl) (fun _ _ _ _ _ h => h) (KK _ (Below.refl _ _)) ?_
                             simp only [List.map_cons, List.map_nil, List.getElem?_toArray, List.getElem?_cons_succ, List.getElem?_cons_zero]
                             iterate 1 (refine ord_take (v := ?_) (by kernel_rfl) (fun w hSw => ?_) ?_; rotate_left; (focus ((obtain ⟨s0, s1, s2, s3, s4⟩ := hSw); (try dsimp only at s0 s1 s2 s3 s4); go_simp; (first | done | with_reducible rfl))); simp only [Act.put, List.setIfInBounds_toArray, List.set_cons_zero, List.set_cons_succ])
                             refine ord_do (by kernel_rfl) (fun K hK => ?_)
                             go_simp
                             go_at_call 56
                             refine hrt.mono ?_
                             rintro e w8 ⟨rfl, b8⟩
                             show K _ _
                             refine hK.out _ _ (KK _ b8) ?_
                             clear hK
                             try simp only [Act.put, List.setIfInBounds_toArray, List.set_cons_zero, List.set_cons_succ]
                             iterate 27 (refine ord_take (v := ?_) (by kernel_rfl) (fun w hSw => ?_) ?_; rotate_left; (focus ((obtain ⟨s0, s1, s2, s3, s4⟩ := hSw); (try dsimp only at s0 s1 s2 s3 s4); go_simp; (first | done | with_reducible rfl))); simp only [Act.put, List.setIfInBounds_toArray, List.set_cons_zero, List.set_cons_succ])
                             refine ord_nil ?_
                             go_wp2_with fail
                             go_meet
                             exact ⟨by rw [HGF.out, HD.out]; simp, nxt B7 (nxt (below_drewN (Below.refl _ _) 1) b8)⟩
                     obtain ⟨rfl, B8⟩ := hcut
                     have HG2 := HG.out
                     have k4 : wc.cell? ⟨2, 0, none⟩ = some (.iface 172 (.pointer (some (A 2)))) := ((hS.below B5).below B8).cell 2 hE2
                     clear hj hko hrt c70 c71 c72 row7 b7 p0 p1 p2 B7
                     cases G with
                     | false =>
                       have hbad := good_take l (i + 1) HG2.symm
                       rw [if_pos hbad] at HP
                       have HBAD := Lib.hid hbad
                       clear hbad HG2
                       go_wp2_with fail
                       go_quiet (fail)
                       go_wp2_with fail
                       go_ret2
                       unfold IReadPost
                       rw [HP.out]
                       exact ⟨nxt B5 (nxt B8 (below_drewN (Below.refl _ _) _)), .inr ⟨_, by simp, rfl, by omega, rfl⟩⟩
                     | true =>
                       have HG3 := Lib.hid HG2.symm
                       clear HG2
                       go_wp2_with fail
                       exact ⟨⟨i + 1, by omega, by go_num, HG3, B8⟩, by simp [intOf]; omega⟩
                   · have hok : (l.all Idx.right && rise l) = true := by
                       have := HOK.out
                       rwa [List.take_of_length_le (by omega)] at this
                     rw [if_neg (by rw [hok]; simp)] at HP
                     have HK := Lib.hid hok
                     clear hok
                     by_cases he0 : ev = 0
                     · rw [if_pos he0] at HP
                       subst he0
                       have hnz := newIdx_zero S A ((hS.below B5).below hb) hE4
                       go_wp2_with fail
                       refine hnz.mono ?_
                       rintro e w7 ⟨he, b7⟩
                       simp only [senV] at he
                       subst he
                       go_wp2_with fail
                       go_ret2
                       unfold IReadPost
                       rw [HP.out]
                       exact ⟨nxt B5 (nxt hb b7), .inr ⟨_, by simp, rfl, by omega, rfl⟩⟩
                     · rw [if_neg he0] at HP
                       have hni := newIdx_calls (ev : Int) wr (by omega) (by omega)
                       have ho6 := owns_below ho5 hb
                       have hog : (Value.slice al l.length cl).ownBlock ≠ some wr.heap.size := fun e => by have := owns_lt ho6 _ e; omega
                       have hgw : w.heap.size ≤ wr.heap.size := (nxt B5 hb).size
                       have HPH := Lib.hid HP.out
                       clear HGO HFB HOK HP
                       go_wp2_with fail
                       refine hni.mono ?_
                       rintro e w7 ⟨rfl, ⟨vm, va, hx⟩, b7⟩
                       have B7 := nxt (nxt B5 hb) b7
                       have o7 := owns_below ho6 b7
                       have rowx := hx.row
                       have hva : ∀ k, va.ownBlock ≠ some k := fun k e => hx.not_row.1 (by rw [e, show k = wr.heap.size from hx.inA k e])
                       have oa7 := hx.adds
                       simp only [Idx.new] at rowx oa7
                       generalize wr.heap.size = g at *
                       have T8 := Touch.setCell (g := g) w7 1 (.slice al l.length cl)
                       have o8 := T8.owns o7 rowx (by decide)
                       have oa8 := T8.owns oa7 rowx (by decide)
                       have row8 : (w7.setCell ⟨g, 1, none⟩ (.slice al l.length cl)).heap[g]? = some (.cells #[.int .i64 (ev : Int), .slice al l.length cl, va, .int .i64 (-9223372036854775808)] 104 (0, 0)) := heap_setCell_same w7 g 1 _ _ _ rowx
                       have d1 := cell_of_row w7 g 1 _ _ _ rowx
                       have z1 := frozen_of_row w7 g 1 _ _ rowx
                       have B8 := T8.new B7 hgw
                       clear hx hni T8 o7 oa7
                       go_upto_region 29 with fail
                       generalize w7.setCell ⟨g, 1, none⟩ (.slice al l.length cl) = w8 at *
                       by_cases hl0 : l.length = 0
                       · have hln : l = [] := List.eq_nil_of_length_eq_zero hl0
                         subst hln
                         go_wp2_with fail
                         go_ret2
                         unfold IReadPost
                         rw [HPH.out]
                         refine ⟨B8, .inl ⟨_, g, rfl, rfl, idx_made row8 o8 oa8 (fun k _ e => hva k e), ?_⟩⟩
                         rintro k (rfl | h | h)
                         · exact hgw
                         · exact Nat.le_trans (Nat.le_succ_of_le hg4) (owns_ge o8 k h)
                         · exact absurd h (hva k)
                       · obtain ⟨k, hk⟩ : ∃ k, l.length = k + 1 := ⟨l.length - 1, by omega⟩
                         have hk2 : k < l.length := by omega
                         obtain ⟨b, o, rfl, hc1, hm1, hx1⟩ := (Rd.of_owns o8).at (by omega)
                         obtain ⟨p0, p1, p2⟩ := mk_cells hx1 k hk2
                         obtain ⟨y, hy⟩ : ∃ y, y = l[k] := ⟨_, rfl⟩
                         rw [← hy] at p0 p1 p2
                         have hd0 : decide ((0 : Int) < (l.length : Int)) = true := decide_eq_true (by omega)
                         have hw1 : IntKind.i64.wrap ((l.length : Int) - 1) = (k : Int) := by rw [IntKind.wrap_i64]; unfold maxLen at hm1; omega
                         have hgl : l.getLast? = some y := by rw [List.getLast?_eq_getElem?, hk, Nat.add_sub_cancel, List.getElem?_eq_getElem hk2, hy]
                         have HGL := Lib.hid hgl
                         have HY := Lib.hid hy
                         have z3 := frozen_of_row w8 g 3 _ _ row8
                         have c3 := cell_of_row w8 g 3 _ _ _ row8
                         have T9 := Touch.setCell (g := g) w8 3 (.int .i64 y.time)
                         have o9 := T9.owns o8 row8 (by decide)
                         have row9 : (w8.setCell ⟨g, 3, none⟩ (.int .i64 y.time)).heap[g]? = some (.cells #[.int .i64 (ev : Int), .slice (some ⟨b, o, none⟩) l.length cl, va, .int .i64 y.time] 104 (0, 0)) := heap_setCell_same w8 g 3 _ _ _ row8
                         have B9 := T9.new B8 hgw
                         clear hk hy hgl hx1 T9 hl0 oa8
                         go_upto_region 32 with fail
                         generalize w8.setCell ⟨g, 3, none⟩ (.int .i64 y.time) = w9 at *
                         clear c3 z3 p0 p1 p2 row8 o8 B8 w8
                         obtain ⟨b', o', e, _, _, hx1⟩ := (Rd.of_owns o9).at (by omega)
                         simp only [Option.some.injEq, Addr.mk.injEq] at e
                         obtain ⟨rfl, rfl, _⟩ := e
                         obtain ⟨p0, _, p2⟩ := mk_cells hx1 k hk2
                         rw [← HY.out] at p0 p2
                         have hbg : b ≠ g := fun e => by rw [e] at hog; exact hog rfl
                         have hko : ∀ (a : Addr) (v : Value), w9.cell? a = some v → ∀ W, Below w9.heap.size w9 W → W.cell? a = some v := fun a v h W hW => by
                           rw [hW.cell (World.block_lt_of_cell? _ _ h)]; exact h
                         refine wp_region_ord (S := (fun W => W.cell? ⟨b, o + k * 3, none⟩ = some (.int .i64 y.off) ∧ W.cell? ⟨b, o + k * 3 + 2, none⟩ = some (.int .i64 y.pos))) [(0, true), (1, true), (2, true), (3, true), (4, true), (5, true), (6, true), (7, true), (8, true), (9, true), (10, true), (11, true), (12, true), (13, true), (14, false), (15, true), (16, true), (17, false)] (by kernel_rfl) (by kernel_rfl) rfl (by kernel_rfl) (fun _ _ _ _ _ h => h) ⟨p0, p2⟩ ?_
                         simp only [List.map_cons, List.map_nil, List.getElem?_toArray, List.getElem?_cons_succ, List.getElem?_cons_zero]
                         iterate 14 (refine ord_take (v := ?_) (by kernel_rfl) (fun w hSw => ?_) ?_; rotate_left; (focus ((obtain ⟨s0, s1⟩ := hSw); (try dsimp only at s0 s1); go_simp; (first | done | with_reducible rfl))); simp only [Act.put, List.setIfInBounds_toArray, List.set_cons_zero, List.set_cons_succ])
                         refine ord_do (by kernel_rfl) (fun K hK => ?_)
                         go_simp
                         show K _ _
                         have ba := below_alloc w9 (.cells #[.int .i64 y.off, .int .i64 0, .int .i64 y.pos] 34)
                         have rowa := heap_alloc_new w9 (.cells #[.int .i64 y.off, .int .i64 0, .int .i64 y.pos] 34)
                         refine hK.out _ _ ⟨hko _ _ p0 _ ba.drew, hko _ _ p2 _ ba.drew⟩ ?_
                         clear hK
                         try simp only [Act.put, List.setIfInBounds_toArray, List.set_cons_zero, List.set_cons_succ]
                         iterate 2 (refine ord_take (v := ?_) (by kernel_rfl) (fun w hSw => ?_) ?_; rotate_left; (focus ((obtain ⟨s0, s1⟩ := hSw); (try dsimp only at s0 s1); go_simp; (first | done | with_reducible rfl))); simp only [Act.put, List.setIfInBounds_toArray, List.set_cons_zero, List.set_cons_succ])
                         have row10 := heap_below ba row9
                         have o10 := owns_below o9 ba
                         have ofr := World.ownsRow_lit (base := w9.heap.size) (e := 34) (size := 3) w9 #[.int .i64 y.off, .int .i64 0, .int .i64 y.pos] 1 (Nat.le_refl _) (by decide) rfl
                         generalize w9.alloc (.cells #[.int .i64 y.off, .int .i64 0, .int .i64 y.pos] 34) = wa at *
                         have c2 : wa.drew.cell? ⟨g, 2, none⟩ = some va := cell_of_row wa g 2 _ _ _ row10
                         have z2 : wa.drew.frozen? ⟨g, 2, none⟩ = false := frozen_of_row wa g 2 _ _ row10
                         refine ord_do (by kernel_rfl) (fun K hK => ?_)
                         go_simp
                         show K _ _
                         have TT := Touch.setCell (g := g) wa 2 (.slice (some ⟨w9.heap.size, 0, none⟩) 1 1)
                         have n0 := World.grownBy.cell TT (hko _ _ p0 _ ba) (fun e => hbg (Option.some.inj e))
                         have n2 := World.grownBy.cell TT (hko _ _ p2 _ ba) (fun e => hbg (Option.some.inj e))
                         refine hK.out _ _ ⟨n0, n2⟩ ?_
                         clear hK
                         try simp only [Act.put, List.setIfInBounds_toArray, List.set_cons_zero, List.set_cons_succ]
                         refine ord_nil ?_
                         have hgs : g < w9.heap.size := (Array.getElem?_eq_some_iff.1 row9).1
                         have o11 := TT.owns o10 row10 (by decide)
                         have ofr11 := TT.owns ofr row10 (by decide)
                         have row11 : (wa.setCell ⟨g, 2, none⟩ (.slice (some ⟨w9.heap.size, 0, none⟩) 1 1)).heap[g]? = some (.cells #[.int .i64 (ev : Int), .slice (some ⟨b, o, none⟩) l.length cl, .slice (some ⟨w9.heap.size, 0, none⟩) 1 1, .int .i64 y.time] 104 (0, 0)) := heap_setCell_same wa g 2 _ _ _ row10
                         have B11 := TT.new (nxt B9 ba) hgw
                         clear TT n0 n2 ba rowa c2 z2 p0 p2 o10 row10 hko
                         generalize wa.setCell ⟨g, 2, none⟩ (.slice (some ⟨w9.heap.size, 0, none⟩) 1 1) = wb at *
                         go_wp2_with fail
                         go_ret2
                         unfold IReadPost
                         rw [HPH.out]
                         have hof : ofMarks ev l = ⟨ev, l, [(y.off, y.pos)], y.time⟩ := by unfold ofMarks; rw [HGL.out]; rfl
                         have hIA := idx_made (w := wb) (ad := [(y.off, y.pos)]) row11 o11 ofr11 (fun k h e => by have := owns_lt o9 k h; have : w9.heap.size = k := Option.some.inj e; omega)
                         rw [← hof] at hIA
                         replace hIA := hIA.below (Below.refl wb.heap.size wb).drew
                         refine ⟨B11.drew, .inl ⟨_, g, rfl, rfl, hIA, ?_⟩⟩
                         rintro k (rfl | h | h)
                         · exact hgw
                         · exact Nat.le_trans (Nat.le_succ_of_le hg4) (owns_ge o11 k h)
                         · exact Nat.le_trans B9.size (owns_ge ofr11 k h))
          · rw [if_pos hfb] at HP
            obtain ⟨T4, u4, rfl⟩ := hv4.not_nil hfb
            go_wp2_with fail
            refine herr.mono ?_
            rintro e w3 ⟨v5, rfl, hv5, rfl⟩
            go_wp2_with fail
            go_ret2
            unfold IReadPost
            rw [HP.out]
            exact ⟨hb, .inr ⟨_, hfb, rfl, hv5⟩⟩

theorem iread_calls {S : List Nat} {A : Nat → Addr} {w : World} (hS : Sents S w A) (hall : All S) {v : Value} {bs : List UInt8} (h : Rd w 1 v bs.length (bvs bs)) (hl : bs.length ≤ 1099511627776) :
    Calls Tryd.prog 51 #[v] w (IReadPost A bs w) := iread_calls' hS (hall 0 (by omega)) (hall 1 (by omega)) (hall 2 (by omega)) (hall 4 (by omega)) h hl
end Go.Proofs.YtjhebnjajnjhhaaDoor
