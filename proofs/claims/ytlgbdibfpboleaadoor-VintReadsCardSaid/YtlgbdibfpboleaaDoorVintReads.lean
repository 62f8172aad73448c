/- VintReads returns true at every input. -/
import Derived.Test.YtlgbdibfpboleaaDoorRefReader2
import Derived.Test.YtlgbdibfpboleaaDoorRefReaderInt
import Derived.Test.YtlgbdibfpboleaaDoorReaderInt
import Derived.Test.YtlgbdibfpboleaaDoorReaderFixed
import Derived.Test.YtlgbdibfpboleaaDoorVintFirst
import Derived.Test.YtlgbdibfpboleaaDoorSameBytes
import Derived.Test.YtlgbdibfpboleaaDoorAsk
import Derived.Deep.RegionHeld3
import Derived.Deep.DeepCutAuto
import Derived.Deep.CutBlock
namespace Go.Proofs.YtlgbdibfpboleaaDoor
open Go Go.RowKit Vint

set_option maxRecDepth 100000 in
set_option maxHeartbeats 4000000 in
theorem vintReads_walk (S : List Nat) (A : Nat → Addr) (vb va : Value) (l : List UInt8) (xs : List AskR) (w : World) (hS : Sents S w A) (hall : All S) (hb : Rd w 1 vb l.length (bvs l)) (ha : Rd w 5 va xs.length (xs.flatMap askV)) (hok : ∀ x ∈ xs, x.ok) :
    Calls Tryd.prog 10 #[vb, va] w (fun e w' => e = .returned (.bool true) ∧ Below w.heap.size w w') := by
  obtain ⟨a1, c1, rfl⟩ := hb.slice
  obtain ⟨a2, c2, rfl⟩ := ha.slice
  have m1 := hb.len_le
  have m2 := ha.len_le
  by_cases t1 : 60 < l.length
  · go_enter Tryd.func10, Tryd.ntmps10
    go_wp2_with fail
    refine (vintFirst_calls _).mono ?_
    rintro e w1 ⟨rfl, b1⟩
    go_wp2_with fail
    go_ret
    exact ⟨rfl, b1⟩
  · by_cases t2 : 20 < xs.length
    · go_enter Tryd.func10, Tryd.ntmps10
      go_wp2_with fail
      refine (vintFirst_calls _).mono ?_
      rintro e w1 ⟨rfl, b1⟩
      go_wp2_with fail
      go_ret
      exact ⟨rfl, b1⟩
    · go_enter Tryd.func10, Tryd.ntmps10
      go_wp2_with fail
      refine (vintFirst_calls _).mono ?_
      rintro e w1 ⟨rfl, b1⟩
      go_wp2_with fail
      refine (newReader_calls A _ l _ (hb.below b1) (by omega)).mono ?_
      rintro e w2 ⟨g, rfl, hg, rr, b2⟩
      have B2 := nxt b1 b2
      have hgw : w.heap.size ≤ g := Nat.le_trans b1.size hg
      have haw : Away S A g := Away.of_new hS hgw
      go_wp2_with fail
      go_loopw [8, 9] (fun iv _ wr => ∃ i : Nat, i ≤ xs.length ∧ iv = .int .i64 i ∧ ∃ s : Rs, s.l = l ∧ Rdr A wr g s ∧ RefR wr w2.heap.size (.slice a1 l.length c1) s ∧ Below w.heap.size w wr) (fun iv _ _ => xs.length - (intOf iv).toNat)
      case atStart =>
        have hb3 := below_alloc w2 (.cells #[.slice a1 l.length c1, .int .i64 0, .int .i64 0, .bool false, .int .i64 0] 74)
        exact ⟨0, Nat.zero_le _, rfl, rs0 l, rfl, rr.below hb3, ⟨⟨Nat.zero_le _, by show l.length ≤ _; omega⟩, heap_alloc_new w2 _, (hb.below B2).below hb3, OffV.of_rd hb (by omega) B2.size⟩, nxt B2 hb3⟩
      case round =>
        obtain ⟨i, hi, rfl, s, hsl, hr, hx, hB⟩ := hrel
        by_cases hlt : i < xs.length
        · have hx0 := (ha.below hB).at (by omega) (by omega)
          obtain ⟨ba, oa, rfl, hc1, hm1, hcell⟩ := hx0
          have hoki := hok xs[i] (List.getElem_mem _)
          obtain ⟨q0, q1, q2, q3, q4⟩ := ask_cells hcell i hlt
          generalize xs[i] = x at *
          clear hcell
          have b3 := below_alloc wr (.cells #[.int .i64 x.kind, .int .i64 x.n, .int .u64 (x.a : Int), .int .i64 x.b, .int .i64 x.c] 76)
          have rW := hr.below b3
          have xW := hx.below b3
          have BW := nxt hB b3
          have rowW := heap_alloc_new wr (.cells #[.int .i64 x.kind, .int .i64 x.n, .int .u64 (x.a : Int), .int .i64 x.b, .int .i64 x.c] 76)
          have hgr : wr.heap.size ≠ g := by have := hr.row_lt; omega
          have hgx : wr.heap.size ≠ w2.heap.size := by have := hx.row_lt; omega
          have hgxw : w.heap.size ≤ w2.heap.size := B2.size
          have hpos := hr.1.1
          have hoff : OffV g (.slice a1 l.length c1) := OffV.of_rd hb (by omega) hgw
          clear b3 hr hx hB rr b2 B2
          go_upto_block 2 with fail
          generalize wr.alloc (.cells #[.int .i64 x.kind, .int .i64 x.n, .int .u64 (x.a : Int), .int .i64 x.b, .int .i64 x.c] 76) = W at *
          generalize wr.heap.size = ga at *
          have SW := hS.below BW
          obtain ⟨cg, rowg⟩ := rW.rowAt
          obtain ⟨cx, rowx⟩ := xW.rowAt
          go_cut [64] (fun _ wx => ∃ s' : Rs, s'.l = l ∧ Rdr A wx g s' ∧ RefR wx w2.heap.size (.slice a1 l.length c1) s' ∧ Below w.heap.size w wx)
          case first =>
            have k0 : W.cell? ⟨ga, 0, none⟩ = some (.int .i64 x.kind) := cell_of_row W ga 0 _ _ _ rowW
            by_cases h1 : x.kind = 1
            · have h1' : (x.kind == 1) = true := by rw [beq_iff_eq]; exact h1
              have H1 := Lib.hid h1
              clear h1
              have kS : ∀ W' : World, W'.heap[ga]? = some (.cells #[.int .i64 x.kind, .int .i64 x.n, .int .u64 (x.a : Int), .int .i64 x.b, .int .i64 x.c] 76 (0, 0)) → (W'.cell? ⟨ga, 2, none⟩ = some (.int .u64 (x.a : Int))) := fun W' h => cell_of_row W' ga 2 _ _ _ h
              have kSW := kS W.drew rowW
              go_wp2_with fail
              go_region_held3 (fun w' => w'.cell? ⟨ga, 2, none⟩ = some (.int .u64 (x.a : Int))) (first | exact kSW | exact kS _ (by assumption) | assumption)
                (first
                  | (go_at_call 42; refine (num_calls (SW.below ((Below.refl _ _).drew)) hall haw (rW.below ((Below.refl _ _).drew)) x.a).mono ?_; rintro e w5 ⟨rfl, r5, t5⟩; have row5 := t5.heap rowW hgr; have x5 := (xW.below ((Below.refl _ _).drew)).touch t5 rowg (by decide) hoff)
                  | (go_at_call 44; refine (refNum_calls x5 x.a).mono ?_; rintro e w6 ⟨rfl, x6, t6⟩; have row6 := t6.heap row5 hgx; obtain ⟨cx5, rowx5⟩ := x5.rowAt; have r6 := r5.touch t6 rowx5 (by decide) (by decide) (by decide)))
              have hne : ∀ q : Int, (q != q) = false := fun q => by simp
              go_wp2_with fail
              go_meet
              exact ⟨(num x.a s).2, by rw [(num_ok hpos x.a).2]; exact hsl, r6, x6, t6.new (t5.new BW.drew hgw) hgxw⟩
            · have h1' : (x.kind == 1) = false := by rw [beq_eq_false_iff_ne]; exact h1
              by_cases h2 : x.kind = 2
              · have h2' : (x.kind == 2) = true := by rw [beq_iff_eq]; exact h2
                have H2 := Lib.hid h2
                clear h2 h1
                have kS : ∀ W' : World, W'.heap[ga]? = some (.cells #[.int .i64 x.kind, .int .i64 x.n, .int .u64 (x.a : Int), .int .i64 x.b, .int .i64 x.c] 76 (0, 0)) → (W'.cell? ⟨ga, 3, none⟩ = some (.int .i64 x.b) ∧ W'.cell? ⟨ga, 4, none⟩ = some (.int .i64 x.c)) := fun W' h => ⟨cell_of_row W' ga 3 _ _ _ h, cell_of_row W' ga 4 _ _ _ h⟩
                have kSW := kS W.drew rowW
                go_wp2_with fail
                go_region_held3 (fun w' => w'.cell? ⟨ga, 3, none⟩ = some (.int .i64 x.b) ∧ w'.cell? ⟨ga, 4, none⟩ = some (.int .i64 x.c)) (first | exact kSW | exact kS _ (by assumption) | assumption)
                  (first
                    | (go_at_call 43; refine (int_calls (SW.below ((Below.refl _ _).drew)) hall haw (rW.below ((Below.refl _ _).drew)) x.b x.c).mono ?_; rintro e w5 ⟨rfl, r5, t5⟩; have row5 := t5.heap rowW hgr; have x5 := (xW.below ((Below.refl _ _).drew)).touch t5 rowg (by decide) hoff)
                    | (go_at_call 45; refine (refInt_calls x5 x.b x.c).mono ?_; rintro e w6 ⟨rfl, x6, t6⟩; have row6 := t6.heap row5 hgx; obtain ⟨cx5, rowx5⟩ := x5.rowAt; have r6 := r5.touch t6 rowx5 (by decide) (by decide) (by decide)))
                have hne : ∀ q : Int, (q != q) = false := fun q => by simp
                go_wp2_with fail
                go_meet
                exact ⟨(Vint.int x.b x.c s).2, by rw [(int_ok hpos x.b x.c).2]; exact hsl, r6, x6, t6.new (t5.new BW.drew hgw) hgxw⟩
              · have h2' : (x.kind == 2) = false := by rw [beq_eq_false_iff_ne]; exact h2
                by_cases h3 : x.kind = 3
                · have h3' : (x.kind == 3) = true := by rw [beq_iff_eq]; exact h3
                  have H3 := Lib.hid h3
                  clear h3 h2 h1
                  have kS : ∀ W' : World, W'.heap[ga]? = some (.cells #[.int .i64 x.kind, .int .i64 x.n, .int .u64 (x.a : Int), .int .i64 x.b, .int .i64 x.c] 76 (0, 0)) → (W'.cell? ⟨ga, 1, none⟩ = some (.int .i64 x.n)) := fun W' h => cell_of_row W' ga 1 _ _ _ h
                  have kSW := kS W.drew rowW
                  go_wp2_with fail
                  go_region_held3 (fun w' => w'.cell? ⟨ga, 1, none⟩ = some (.int .i64 x.n)) (first | exact kSW | exact kS _ (by assumption) | assumption)
                    (first
                      | (go_at_call 35; refine (bytes_calls (SW.below ((Below.refl _ _).drew)) hall haw (rW.below ((Below.refl _ _).drew)) x.n hoki.1).mono ?_; rintro e w5 ⟨v5, rfl, o5, r5, t5⟩; have row5 := t5.heap rowW hgr; have x5 := (xW.below ((Below.refl _ _).drew)).touch t5 rowg (by decide) hoff; (obtain ⟨av5, cv5, rfl⟩ := owns_slice o5))
                      | (go_at_call 46; refine (refRBytes_calls x5 x.n hoki.1).mono ?_; rintro e w6 ⟨v6, rfl, o6, x6, t6⟩; have row6 := t6.heap row5 hgx; obtain ⟨cx5, rowx5⟩ := x5.rowAt; have r6 := r5.touch t6 rowx5 (by decide) (by decide) (by decide); (obtain ⟨av6, cv6, rfl⟩ := owns_slice o6))
                      | (go_at_call 22; refine (sameBytes_calls _ _ (Vint.bytes x.n s).1 (Vint.bytes x.n s).1 _ (Rd.of_owns (t6.owns o5 rowx5 (by decide))) (Rd.of_owns o6)).mono ?_; rintro e w7 ⟨rfl, q7, rfl⟩))
                  have hbb : ∀ q : List UInt8, (q == q) = true := fun q => by simp
                  go_wp2_with fail
                  go_meet
                  exact ⟨(Vint.bytes x.n s).2, by rw [(bytes_ok hpos x.n).2]; exact hsl, r6.drewN q7, x6.drewN q7, below_drewN (t6.new (t5.new BW.drew hgw) hgxw) q7⟩
                · have h3' : (x.kind == 3) = false := by rw [beq_eq_false_iff_ne]; exact h3
                  have kS : ∀ W' : World, W'.heap[ga]? = some (.cells #[.int .i64 x.kind, .int .i64 x.n, .int .u64 (x.a : Int), .int .i64 x.b, .int .i64 x.c] 76 (0, 0)) → (W'.cell? ⟨ga, 1, none⟩ = some (.int .i64 x.n)) := fun W' h => cell_of_row W' ga 1 _ _ _ h
                  have kSW := kS W.drew rowW
                  go_wp2_with fail
                  go_region_held3 (fun w' => w'.cell? ⟨ga, 1, none⟩ = some (.int .i64 x.n)) (first | exact kSW | exact kS _ (by assumption) | assumption)
                    (first
                      | (go_at_call 41; refine (fixed_calls (SW.below ((Below.refl _ _).drew)) hall haw (rW.below ((Below.refl _ _).drew)) x.n).mono ?_; rintro e w5 ⟨rfl, r5, t5⟩; have row5 := t5.heap rowW hgr; have x5 := (xW.below ((Below.refl _ _).drew)).touch t5 rowg (by decide) hoff)
                      | (go_at_call 47; refine (refRFixed_calls x5 x.n).mono ?_; rintro e w6 ⟨rfl, x6, t6⟩; have row6 := t6.heap row5 hgx; obtain ⟨cx5, rowx5⟩ := x5.rowAt; have r6 := r5.touch t6 rowx5 (by decide) (by decide) (by decide)))
                  have hne : ∀ q : Int, (q != q) = false := fun q => by simp
                  go_wp2_with fail
                  go_meet
                  exact ⟨(fixed x.n s).2, by rw [(fixed_ok hpos x.n).2]; exact hsl, r6, x6, t6.new (t5.new BW.drew hgw) hgxw⟩
          case rest =>
            obtain ⟨s', hsl', r', x', B'⟩ := hcut
            have SC := hS.below B'
            have hrx := x'.2.1
            have hpos' := x'.1.1
            rw [hsl'] at hpos'
            have kS : ∀ W' : World, W'.heap[w2.heap.size]? = some (.cells #[.slice a1 l.length c1, .int .i64 (s'.pos : Nat), .int .i64 s'.bad.code, .bool s'.bad.has, .int .i64 s'.bad.pos] 74 (0, 0)) →
                (W'.cell? ⟨w2.heap.size, 1, none⟩ = some (.int .i64 (s'.pos : Nat)) ∧ W'.cell? ⟨w2.heap.size, 2, none⟩ = some (.int .i64 s'.bad.code) ∧ W'.cell? ⟨w2.heap.size, 3, none⟩ = some (.bool s'.bad.has) ∧ W'.cell? ⟨w2.heap.size, 4, none⟩ = some (.int .i64 s'.bad.pos)) :=
              fun W' h => ⟨cell_of_row W' _ 1 _ _ _ h, cell_of_row W' _ 2 _ _ _ h, cell_of_row W' _ 3 _ _ _ h, cell_of_row W' _ 4 _ _ _ h⟩
            have kSW := kS wc.drew hrx
            have hsub : IntKind.i64.wrap ((l.length : Int) - (s'.pos : Int)) = (s'.left.length : Int) := by rw [left_length, hsl', IntKind.wrap_i64]; omega
            have hne : ∀ q : Int, (q != q) = false := fun q => by simp
            have hdec : decide (s'.bad.code = s'.bad.code ∧ s'.bad.has = s'.bad.has ∧ s'.bad.pos = s'.bad.pos) = true := by simp
            have HSL := Lib.hid hsl'
            clear hsl' rW xW BW rowW SW rowg rowx hsl
            go_wp2_with fail
            go_region_held3 (fun w' => w'.cell? ⟨w2.heap.size, 1, none⟩ = some (.int .i64 (s'.pos : Nat)) ∧ w'.cell? ⟨w2.heap.size, 2, none⟩ = some (.int .i64 s'.bad.code) ∧ w'.cell? ⟨w2.heap.size, 3, none⟩ = some (.bool s'.bad.has) ∧ w'.cell? ⟨w2.heap.size, 4, none⟩ = some (.int .i64 s'.bad.pos)) (first | exact kSW | exact kS _ (by assumption) | assumption)
              (first
                | (go_at_call 39; refine (readerAt_calls (r'.below ?_)).mono ?_; (repeat (first | exact Below.refl _ _ | refine Below.drew ?_ | refine below_drewN ?_ _)); rintro e w5 ⟨rfl, rfl⟩)
                | (go_at_call 40; refine (left_calls (r'.below ?_)).mono ?_; (repeat (first | exact Below.refl _ _ | refine Below.drew ?_ | refine below_drewN ?_ _)); rintro e w5 ⟨rfl, q5, rfl⟩)
                | (go_at_call 37; refine (readerErr_calls (r'.below ?_)).mono ?_; (repeat (first | exact Below.refl _ _ | refine Below.drew ?_ | refine below_drewN ?_ _)); rintro e w5 ⟨v5, rfl, er, rfl⟩)
                | (go_at_call 36; refine (same_calls (SC.below ?_) hall _ s'.bad er.at s'.bad.code s'.bad.pos s'.bad.has).mono ?_; (repeat (first | exact Below.refl _ _ | refine Below.drew ?_ | refine below_drewN ?_ _)); rintro e w6 ⟨rfl, b6⟩; have row6 := heap_below b6 (show _ = _ from hrx); have bC : Below wc.heap.size wc w6 := nxt (by (repeat (first | exact Below.refl _ _ | refine Below.drew ?_ | refine below_drewN ?_ _))) b6))
            go_wp2_with fail
            exact ⟨⟨i + 1, by omega, by go_num, s', HSL.out, r'.below bC, x'.below bC, nxt B' bC⟩, by simp [intOf]; omega⟩
        · obtain rfl : i = xs.length := by omega
          go_wp2_with fail
          go_ret
          exact ⟨rfl, hB⟩
end Go.Proofs.YtlgbdibfpboleaaDoor
