/- The document's ValidManifest: what is amiss with a manifest. -/
import Derived.Test.YtegiingcnhafbaaGreatDoorManVal
import Derived.Test.YtegiingcnhafbaaGreatDoorRefNameVal
import Derived.Test.YtegiingcnhafbaaGreatDoorRefValidP
import Derived.Deep.CutBlock
import Derived.Deep.DeepCutAuto
namespace Go.Proofs.YtegiingcnhafbaaGreatDoor
open Go Go.RowKit Man

set_option maxRecDepth 100000 in
theorem refTime2_calls (a : Int) (w : World) :
    Calls Tryz.prog 51 #[.int .i64 a] w (fun e w' => e = .returned (.bool (decide (-1099511627776 ≤ a ∧ a ≤ 1099511627776))) ∧ w = w') := by
  by_cases h1 : -1099511627776 ≤ a
  · by_cases h2 : a ≤ 1099511627776
    · rw [decide_eq_true (⟨h1, h2⟩ : -1099511627776 ≤ a ∧ a ≤ 1099511627776)]
      go_enter Tryz.func51, Tryz.ntmps51
      go_wp2_with fail
      go_ret
      exact ⟨rfl, rfl⟩
    · rw [decide_eq_false (fun h : -1099511627776 ≤ a ∧ a ≤ 1099511627776 => h2 h.2)]
      have hd : decide (a ≤ 1099511627776) = false := decide_eq_false h2
      go_enter Tryz.func51, Tryz.ntmps51
      go_wp2_with fail
      go_ret
      exact ⟨rfl, rfl⟩
  · rw [decide_eq_false (fun h : -1099511627776 ≤ a ∧ a ≤ 1099511627776 => h1 h.1)]
    go_enter Tryz.func51, Tryz.ntmps51
    go_wp2_with fail
    go_ret
    exact ⟨rfl, rfl⟩

def RefMPost (m : ManD) (w : World) (e : Ending) (w' : World) : Prop := ∃ er : Er, e = .returned er.fault ∧ MBad m er ∧ Below w.heap.size w w'
theorem epv_code (l : List Epo.Pr) (h : Epo.valid l ≠ 0) : 101 + (Epo.valid l - 101) = Epo.valid l := by
  have h1 : Epo.valid l = 0 ∨ 101 ≤ Epo.valid l := by
    unfold Epo.valid
    split
    · exact .inr (by omega)
    · split
      · exact .inr (by omega)
      · split
        · exact .inr (by omega)
        · exact .inl rfl
  omega
theorem hasN_no {l : List ObjD} {i : Nat} {s : ByteArray} (h : ∀ j (hj : j < l.length), j < i → l[j].name ≠ s) : hasN (l.take i) s = false := by
  unfold hasN
  rw [List.any_eq_false]
  intro o ho
  obtain ⟨j, hj, rfl⟩ := List.mem_iff_getElem.1 ho
  rw [List.length_take] at hj
  rw [List.getElem_take]
  simp [h j (by omega) (by omega)]
theorem hasN_yes {l : List ObjD} {i k : Nat} {s : ByteArray} (hk : k < l.length) (hi : k < i) (h : l[k].name = s) : hasN (l.take i) s = true := by
  unfold hasN
  rw [List.any_eq_true]
  refine ⟨l[k], List.mem_iff_getElem.2 ⟨k, by rw [List.length_take]; omega, by rw [List.getElem_take]⟩, ?_⟩
  simp [h]

set_option maxRecDepth 100000 in
set_option maxHeartbeats 8000000 in
theorem refValidMan_calls {w : World} {m : ManD} {ve vo : Value} (h : ManRd w m ve vo) (hs : Small m) :
    Calls Tryz.prog 22 #[manA m ve vo] w (RefMPost m w) := by
  obtain ⟨re, ro⟩ := h
  obtain ⟨ae, ce, rfl⟩ := re.slice
  obtain ⟨ao, co, rfl⟩ := ro.slice
  have me := re.len_le
  have mo := ro.len_le
  have HN := Lib.hid hs.2.2
  clear hs
  obtain ⟨id, ba, fi, ti, eps, objs⟩ := m
  simp only at re ro me mo HN
  unfold manA
  simp only
  obtain ⟨M, hM⟩ : ∃ M : ManD, M = ⟨id, ba, fi, ti, eps, objs⟩ := ⟨_, rfl⟩
  have HP1 := Lib.hid (show ¬ rangeOk id ba fi ti → MBad M (.bare 4) from fun h => by rw [hM]; exact .range h)
  have HP2 := Lib.hid (show rangeOk id ba fi ti → Epo.valid eps ≠ 0 → MBad M (.bare (Epo.valid eps - 101)) from fun h1 h => by rw [hM]; exact .eps h1 h)
  have HP3 := Lib.hid (show rangeOk id ba fi ti → Epo.valid eps = 0 → ¬ shapeOk ba fi eps → MBad M (.bare 2) from fun h1 h2 h => by rw [hM]; exact .shape h1 h2 h)
  have HP4 := Lib.hid (show rangeOk id ba fi ti → Epo.valid eps = 0 → shapeOk ba fi eps → ∀ er, OBad objs er → MBad M er from fun h1 h2 h3 er h => by rw [hM]; exact .objs er h1 h2 h3 h)
  have HO := Lib.hid (show objsOk objs = (1 ≤ objs.length ∧ objs.length ≤ 8 ∧ (∀ i (h : i < objs.length), nameOk objs[i].name = true ∧ 0 ≤ objs[i].len ∧ objs[i].len ≤ 1073741824) ∧ ∀ i (h : i < objs.length), hasN (objs.take i) objs[i].name = false) from rfl)
  rw [← hM]
  clear hM
  have b1 := below_alloc w (.cells #[.int .i64 id, .int .i64 ba, .int .i64 fi, .int .i64 ti, .slice ae eps.length ce, .slice ao objs.length co] 27)
  have row1 := heap_alloc_new w (.cells #[.int .i64 id, .int .i64 ba, .int .i64 fi, .int .i64 ti, .slice ae eps.length ce, .slice ao objs.length co] 27)
  go_enter Tryz.func22, Tryz.ntmps22
  go_upto_region 1 with fail
  obtain ⟨w0, hw0⟩ : ∃ w0, w0 = w.alloc (.cells #[.int .i64 id, .int .i64 ba, .int .i64 fi, .int .i64 ti, .slice ae eps.length ce, .slice ao objs.length co] 27) := ⟨_, rfl⟩
  rw [← hw0] at b1 row1 ⊢
  have b2 := below_alloc w0 (.cells #[.int .i64 0, .bool false, .int .i64 0] 33)
  have rowf := heap_alloc_new w0 (.cells #[.int .i64 0, .bool false, .int .i64 0] 33)
  have row1 := heap_below b2 row1
  have B1 := nxt b1 b2
  have hszf : w0.heap.size = w.heap.size + 1 := by rw [hw0]; simp
  obtain ⟨w1, hw1⟩ : ∃ w1, w1 = w0.alloc (.cells #[.int .i64 0, .bool false, .int .i64 0] 33) := ⟨_, rfl⟩
  obtain ⟨g, hg⟩ : ∃ g, g = w.heap.size := ⟨_, rfl⟩
  obtain ⟨F, hF⟩ : ∃ F, F = w0.heap.size := ⟨_, rfl⟩
  have hFw : w.heap.size ≤ F := by omega
  rw [← hszf]
  rw [← hw1] at b2 rowf row1 B1 ⊢
  rw [← hg] at row1 ⊢
  rw [← hF] at rowf ⊢
  clear hw0 hw1 hg hF hszf b1 b2
  have d0 : w1.cell? ⟨g, 0, none⟩ = some (.int .i64 id) := cell_of_row _ _ 0 _ _ _ row1
  have d1 : w1.cell? ⟨g, 1, none⟩ = some (.int .i64 ba) := cell_of_row _ _ 1 _ _ _ row1
  have d2 : w1.cell? ⟨g, 2, none⟩ = some (.int .i64 fi) := cell_of_row _ _ 2 _ _ _ row1
  have d3 : w1.cell? ⟨g, 3, none⟩ = some (.int .i64 ti) := cell_of_row _ _ 3 _ _ _ row1
  have hc1 := refRight_calls ba w1
  have hc2 := refRight_calls fi w1
  have hc3 := refTime2_calls ti w1
  go_cut [40] (fun z wx => ∃ t : Bool, z = .bool t ∧ (t = false ↔ rangeOk id ba fi ti) ∧ wx = w1)
  case first =>
    by_cases e1 : id < 0
    · clear hc1 hc2 hc3
      go_wp2_with fail
      go_meet
      exact ⟨_, rfl, by unfold rangeOk; (try rw [decide_eq_true_eq] at r1); (try rw [decide_eq_false_iff_not] at r1); (try rw [decide_eq_true_eq] at r2); (try rw [decide_eq_false_iff_not] at r2); (try rw [decide_eq_true_eq] at r3); (try rw [decide_eq_false_iff_not] at r3); (try rw [decide_eq_false_iff_not] at *); simp; omega, rfl⟩
    have e1' : decide (id < 0) = false := decide_eq_false (by omega)
    clear e1
    by_cases e2 : 2147483647 < id
    · clear hc1 hc2 hc3
      go_wp2_with fail
      go_meet
      exact ⟨_, rfl, by unfold rangeOk; (try rw [decide_eq_true_eq] at r1); (try rw [decide_eq_false_iff_not] at r1); (try rw [decide_eq_true_eq] at r2); (try rw [decide_eq_false_iff_not] at r2); (try rw [decide_eq_true_eq] at r3); (try rw [decide_eq_false_iff_not] at r3); (try rw [decide_eq_false_iff_not] at *); simp; omega, rfl⟩
    have e2' : decide (2147483647 < id) = false := decide_eq_false (by omega)
    clear e2
    go_wp2_with fail
    with_reducible refine hc1.mono ?_
    rintro e w2 ⟨rfl, rfl⟩
    clear hc1
    cases r1 : decide (0 ≤ ba ∧ ba ≤ 1099511627776)
    · clear hc2 hc3
      go_wp2_with fail
      go_meet
      exact ⟨_, rfl, by unfold rangeOk; (try rw [decide_eq_true_eq] at r1); (try rw [decide_eq_false_iff_not] at r1); (try rw [decide_eq_true_eq] at r2); (try rw [decide_eq_false_iff_not] at r2); (try rw [decide_eq_true_eq] at r3); (try rw [decide_eq_false_iff_not] at r3); (try rw [decide_eq_false_iff_not] at *); simp; omega, rfl⟩
    go_wp2_with fail
    with_reducible refine hc2.mono ?_
    rintro e w2 ⟨rfl, rfl⟩
    clear hc2
    cases r2 : decide (0 ≤ fi ∧ fi ≤ 1099511627776)
    · clear hc3
      go_wp2_with fail
      go_meet
      exact ⟨_, rfl, by unfold rangeOk; (try rw [decide_eq_true_eq] at r1); (try rw [decide_eq_false_iff_not] at r1); (try rw [decide_eq_true_eq] at r2); (try rw [decide_eq_false_iff_not] at r2); (try rw [decide_eq_true_eq] at r3); (try rw [decide_eq_false_iff_not] at r3); (try rw [decide_eq_false_iff_not] at *); simp; omega, rfl⟩
    go_wp2_with fail
    with_reducible refine hc3.mono ?_
    rintro e w2 ⟨rfl, rfl⟩
    clear hc3
    cases r3 : decide (-1099511627776 ≤ ti ∧ ti ≤ 1099511627776)
    · skip
      go_wp2_with fail
      go_meet
      exact ⟨_, rfl, by unfold rangeOk; (try rw [decide_eq_true_eq] at r1); (try rw [decide_eq_false_iff_not] at r1); (try rw [decide_eq_true_eq] at r2); (try rw [decide_eq_false_iff_not] at r2); (try rw [decide_eq_true_eq] at r3); (try rw [decide_eq_false_iff_not] at r3); (try rw [decide_eq_false_iff_not] at *); simp; omega, rfl⟩
    by_cases e5 : fi ≤ ba
    · skip
      go_wp2_with fail
      go_meet
      exact ⟨_, rfl, by unfold rangeOk; (try rw [decide_eq_true_eq] at r1); (try rw [decide_eq_false_iff_not] at r1); (try rw [decide_eq_true_eq] at r2); (try rw [decide_eq_false_iff_not] at r2); (try rw [decide_eq_true_eq] at r3); (try rw [decide_eq_false_iff_not] at r3); (try rw [decide_eq_false_iff_not] at *); simp; omega, rfl⟩
    · have e5' : decide (fi ≤ ba) = false := decide_eq_false (by omega)
      clear e5
      go_wp2_with fail
      go_meet
      exact ⟨_, rfl, by unfold rangeOk; (try rw [decide_eq_true_eq] at r1); (try rw [decide_eq_false_iff_not] at r1); (try rw [decide_eq_true_eq] at r2); (try rw [decide_eq_false_iff_not] at r2); (try rw [decide_eq_true_eq] at r3); (try rw [decide_eq_false_iff_not] at r3); (try rw [decide_eq_false_iff_not] at *); simp; omega, rfl⟩
  obtain ⟨t, rfl, ht, rfl⟩ := hcut
  have HT := Lib.hid ht
  clear ht hc1 hc2 hc3 d0 d3
  cases t
  case true =>
    go_wp2_with fail
    with_reducible refine (bare_calls 105 _).mono ?_
    rintro e wb ⟨rfl, bb⟩
    have Bb := nxt B1 bb
    have rowb := heap_below bb rowf
    unfold fv
    go_wp2_with (refine wpList_store_row_g rfl 33 _ _ rfl F _ rfl rfl 33 _ rowb faultSize rfl (by simp [Value.oneCell']) ?_)
    intro wz hT hg2 hs2
    have hb2 : Below w.heap.size w wz := Bb.grown hg2 Bb.size (fun k hk => by simp only [Option.some.injEq] at hk; omega)
    clear hg2 hs2
    go_wp2_with fail
    refine ret_row rfl F rfl hT Tryz.underlying33 rfl faultSize rfl ?_
    exact ⟨.bare 4, rfl, HP1.out (fun h => absurd (HT.out.2 h) (by decide)), hb2⟩
  have HRA := Lib.hid (HT.out.1 rfl)
  clear HT HP1
  have d4 : wc.cell? ⟨g, 4, none⟩ = some (.slice ae eps.length ce) := cell_of_row _ _ 4 _ _ _ row1
  have hvp := refValid_calls (re.below B1)
  unfold ValidPost at hvp
  obtain ⟨q, hq⟩ : ∃ q, q = Epo.valid eps := ⟨_, rfl⟩
  rw [← hq] at hvp
  have HQ := Lib.hid hq
  clear hq d1 d2
  go_wp2_with fail
  with_reducible refine hvp.mono ?_
  rintro e w2 ⟨rfl, b2⟩
  have B2 := nxt B1 b2
  have rowf2 := heap_below b2 rowf
  have row2 := heap_below b2 row1
  clear hvp d4
  by_cases hq0 : q = 0
  case neg =>
    have q0' : ((q : Int) != 0) = true := by rw [bne_iff_ne]; omega
    go_wp2_with fail
    with_reducible refine (bare_calls (q : Int) _).mono ?_
    rintro e wb ⟨rfl, bb⟩
    have Bb := nxt B2 bb
    have rowb := heap_below bb rowf2
    unfold fv
    go_wp2_with (refine wpList_store_row_g rfl 33 _ _ rfl F _ rfl rfl 33 _ rowb faultSize rfl (by simp [Value.oneCell']) ?_)
    intro wz hT hg2 hs2
    have hb2 : Below w.heap.size w wz := Bb.grown hg2 Bb.size (fun k hk => by simp only [Option.some.injEq] at hk; omega)
    clear hg2 hs2
    go_wp2_with fail
    refine ret_row rfl F rfl hT Tryz.underlying33 rfl faultSize rfl ?_
    exact ⟨.bare (Epo.valid eps - 101), by show _ = Ending.returned (fv ((101 + (Epo.valid eps - 101) : Nat) : Int) false 0); rw [epv_code eps (by rw [← HQ.out]; exact hq0), ← HQ.out]; rfl, HP2.out HRA.out (by rw [← HQ.out]; exact hq0), hb2⟩
  have HV := Lib.hid (show Epo.valid eps = 0 by rw [← HQ.out]; exact hq0)
  have q0' : ((q : Int) != 0) = false := by rw [hq0]; rfl
  clear hq0 HP2 HQ
  have d1 : w2.cell? ⟨g, 1, none⟩ = some (.int .i64 ba) := cell_of_row _ _ 1 _ _ _ row2
  have d2 : w2.cell? ⟨g, 2, none⟩ = some (.int .i64 fi) := cell_of_row _ _ 2 _ _ _ row2
  have d4 : w2.cell? ⟨g, 4, none⟩ = some (.slice ae eps.length ce) := cell_of_row _ _ 4 _ _ _ row2
  go_upto_region 7 with fail
  clear q0'
  go_cut [75] (fun z wx => ∃ t : Bool, z = .bool t ∧ (t = false ↔ shapeOk ba fi eps) ∧ Below w2.heap.size w2 wx)
  case first =>
    by_cases n0 : eps.length = 0
    · have HS0 := Lib.hid (show ¬ shapeOk ba fi eps from fun h => by have := h.1; omega)
      go_wp2_with fail
      go_quiet (fail)
      go_wp2_with fail
      go_meet
      exact ⟨_, rfl, ⟨fun h => by simp at h, fun h => absurd h HS0.out⟩, below_drewN (Below.refl _ _) _⟩
    · obtain ⟨k, hk⟩ : ∃ k, eps.length = k + 1 := ⟨eps.length - 1, by omega⟩
      have n0' : ((eps.length : Int) == 0) = false := by rw [beq_eq_false_iff_ne]; omega
      obtain ⟨b, o, rfl, hx⟩ := pairs_at (re.below (nxt B1 b2)) 0 (by omega)
      obtain ⟨p0, p1⟩ := hx 0 (by omega)
      obtain ⟨q0, q1⟩ := hx k (by omega)
      obtain ⟨x, hxx⟩ : ∃ x, x = eps[0].st := ⟨_, rfl⟩
      obtain ⟨y, hyy⟩ : ∃ y, y = eps[k].st := ⟨_, rfl⟩
      have HSH := Lib.hid (show shapeOk ba fi eps ↔ (x = ba ∧ y < fi) by rw [hxx, hyy]; exact shape_iff ba fi eps k hk)
      rw [← hxx] at p1
      rw [← hyy] at q1
      simp only [Nat.zero_mul, Nat.add_zero] at p0 p1
      have hs1 : IntKind.i64.wrap ((eps.length : Int) - 1) = (k : Int) := by rw [IntKind.wrap_i64]; omega
      have hkl : k < eps.length := by omega
      have h0l : 0 < eps.length := by omega
      clear hx hxx hyy n0 hk p0 q0
      by_cases e1 : x = ba
      · subst e1
        by_cases e2 : fi ≤ y
        · go_wp2_with fail
          go_quiet (fail)
          go_wp2_with fail
          go_meet
          exact ⟨_, rfl, by rw [HSH.out]; simp; first | omega | (have hh := of_decide_eq_false e2'; omega), below_drewN (Below.refl _ _) _⟩
        · have e2' : decide (fi ≤ y) = false := decide_eq_false (by omega)
          clear e2
          go_wp2_with fail
          go_quiet (fail)
          go_wp2_with fail
          go_meet
          exact ⟨_, rfl, by rw [HSH.out]; simp; first | omega | (have hh := of_decide_eq_false e2'; omega), below_drewN (Below.refl _ _) _⟩
      · have e1' : (x == ba) = false := by rw [beq_eq_false_iff_ne]; exact e1
        have e2' : (!(x == ba)) = true := by rw [e1']; rfl
        have e3' : (x != ba) = true := e2'
        have e4' : (!decide (x = ba)) = true := by simp [e1]
        go_wp2_with fail
        go_quiet (fail)
        go_wp2_with fail
        go_meet
        exact ⟨_, rfl, by rw [HSH.out]; simp; first | omega | (have hh := of_decide_eq_false e2'; omega), below_drewN (Below.refl _ _) _⟩
  obtain ⟨t, rfl, ht, b3⟩ := hcut
  have HSP := Lib.hid ht
  have B3 := nxt B2 b3
  have rowf3 := heap_below b3 rowf2
  have row3 := heap_below b3 row2
  clear ht d1 d2 d4
  cases t
  case true =>
    go_wp2_with fail
    with_reducible refine (bare_calls 103 _).mono ?_
    rintro e wb ⟨rfl, bb⟩
    have Bb := nxt B3 bb
    have rowb := heap_below bb rowf3
    unfold fv
    go_wp2_with (refine wpList_store_row_g rfl 33 _ _ rfl F _ rfl rfl 33 _ rowb faultSize rfl (by simp [Value.oneCell']) ?_)
    intro wz hT hg2 hs2
    have hb2 : Below w.heap.size w wz := Bb.grown hg2 Bb.size (fun k hk => by simp only [Option.some.injEq] at hk; omega)
    clear hg2 hs2
    go_wp2_with fail
    refine ret_row rfl F rfl hT Tryz.underlying33 rfl faultSize rfl ?_
    exact ⟨.bare 2, rfl, HP3.out HRA.out HV.out (fun h => absurd (HSP.out.2 h) (by decide)), hb2⟩
  have HM := Lib.hid (HP4.out HRA.out HV.out (HSP.out.1 rfl))
  clear HP3 HP4 HRA HV HSP rowf rowf2 row1 row2 b2 b3 B1 B2
  have d5 : wc.cell? ⟨g, 5, none⟩ = some (.slice ao objs.length co) := cell_of_row _ _ 5 _ _ _ row3
  by_cases l0 : objs.length = 0
  case pos =>
    have l0' : ((objs.length : Int) == 0) = true := by rw [beq_iff_eq]; omega
    have HL := Lib.hid l0
    clear l0
    go_wp2_with fail
    with_reducible refine (bare_calls 104 _).mono ?_
    rintro e wb ⟨rfl, bb⟩
    have Bb := nxt B3 bb
    have rowb := heap_below bb rowf3
    unfold fv
    go_wp2_with (refine wpList_store_row_g rfl 33 _ _ rfl F _ rfl rfl 33 _ rowb faultSize rfl (by simp [Value.oneCell']) ?_)
    intro wz hT hg2 hs2
    have hb2 : Below w.heap.size w wz := Bb.grown hg2 Bb.size (fun k hk => by simp only [Option.some.injEq] at hk; omega)
    clear hg2 hs2
    go_wp2_with fail
    refine ret_row rfl F rfl hT Tryz.underlying33 rfl faultSize rfl ?_
    exact ⟨.bare 3, rfl, HM.out _ (.many (.inl (by have := HL.out; omega))), hb2⟩
  have l0' : ((objs.length : Int) == 0) = false := by rw [beq_eq_false_iff_ne]; omega
  by_cases l8 : 8 < objs.length
  case pos =>
    go_wp2_with fail
    with_reducible refine (bare_calls 104 _).mono ?_
    rintro e wb ⟨rfl, bb⟩
    have Bb := nxt B3 bb
    have rowb := heap_below bb rowf3
    unfold fv
    go_wp2_with (refine wpList_store_row_g rfl 33 _ _ rfl F _ rfl rfl 33 _ rowb faultSize rfl (by simp [Value.oneCell']) ?_)
    intro wz hT hg2 hs2
    have hb2 : Below w.heap.size w wz := Bb.grown hg2 Bb.size (fun k hk => by simp only [Option.some.injEq] at hk; omega)
    clear hg2 hs2
    go_wp2_with fail
    refine ret_row rfl F rfl hT Tryz.underlying33 rfl faultSize rfl ?_
    exact ⟨.bare 3, rfl, HM.out _ (.many (.inr l8)), hb2⟩
  have l8' : decide (8 < (objs.length : Int)) = false := decide_eq_false (by omega)
  go_wp2_with fail
  go_loopw [5] (fun iv wr => ∃ i : Nat, i ≤ objs.length ∧ iv = .int .i64 i ∧ wc = wr ∧ ∀ j (h : j < objs.length), j < i → nameOk objs[j].name = true ∧ 0 ≤ objs[j].len ∧ objs[j].len ≤ 1073741824) (fun iv _ => objs.length - (intOf iv).toNat)
  case atStart => exact ⟨0, Nat.zero_le _, rfl, rfl, fun j _ h => by omega⟩
  case round =>
    obtain ⟨i, hi, rfl, rfl, hj⟩ := hrel
    have HJ := Lib.hid hj
    clear hj
    by_cases hlt : i < objs.length
    · obtain ⟨b, o, rfl, hx⟩ := objs_at (ro.below B3) i hlt
      obtain ⟨q0, q1, q2⟩ := hx i hlt
      have hnm := HN.out objs[i] (List.getElem_mem hlt)
      obtain ⟨m, hm⟩ : ∃ m, m = objs[i] := ⟨_, rfl⟩
      rw [← hm] at q0 q1 q2 hnm
      have HMM := Lib.hid hm
      have HX5 := Lib.hid (show nameOk m.name = false → OBad objs (.placed 5 i) from fun h1 => .name i hlt (by omega) (fun j hj h => HJ.out j hj h) (by rw [← hm]; exact h1))
      have HX4 := Lib.hid (show nameOk m.name = true → (m.len < 0 ∨ 1073741824 < m.len) → OBad objs (.placed 4 i) from fun h1 h2 => .len i hlt (by omega) (fun j hj h => HJ.out j hj h) (by rw [← hm]; exact h1) (by rw [← hm]; exact h2))
      have hv := refName_calls m.name wc (by omega)
      clear hx hm
      go_wp2_with fail
      with_reducible refine hv.mono ?_
      rintro e w2 ⟨rfl, rfl⟩
      clear hv
      cases hno : nameOk m.name
      · go_wp2_with fail
        with_reducible refine (placed_calls 106 (i : Int) _ (by omega)).mono ?_
        rintro e wb ⟨rfl, bb⟩
        have Bb := nxt B3 bb
        have rowb := heap_below bb rowf3
        unfold fv
        go_wp2_with (refine wpList_store_row_g rfl 33 _ _ rfl F _ rfl rfl 33 _ rowb faultSize rfl (by simp [Value.oneCell']) ?_)
        intro wz hT hg2 hs2
        have hb2 : Below w.heap.size w wz := Bb.grown hg2 Bb.size (fun k hk => by simp only [Option.some.injEq] at hk; omega)
        clear hg2 hs2
        go_wp2_with fail
        refine ret_row rfl F rfl hT Tryz.underlying33 rfl faultSize rfl ?_
        exact ⟨.placed 5 (i : Int), rfl, HM.out _ (HX5.out hno), hb2⟩
      · by_cases e1 : m.len < 0
        · go_wp2_with fail
          with_reducible refine (placed_calls 105 (i : Int) _ (by omega)).mono ?_
          rintro e wb ⟨rfl, bb⟩
          have Bb := nxt B3 bb
          have rowb := heap_below bb rowf3
          unfold fv
          go_wp2_with (refine wpList_store_row_g rfl 33 _ _ rfl F _ rfl rfl 33 _ rowb faultSize rfl (by simp [Value.oneCell']) ?_)
          intro wz hT hg2 hs2
          have hb2 : Below w.heap.size w wz := Bb.grown hg2 Bb.size (fun k hk => by simp only [Option.some.injEq] at hk; omega)
          clear hg2 hs2
          go_wp2_with fail
          refine ret_row rfl F rfl hT Tryz.underlying33 rfl faultSize rfl ?_
          exact ⟨.placed 4 (i : Int), rfl, HM.out _ (HX4.out hno (.inl e1)), hb2⟩
        · have e1' : decide (m.len < 0) = false := decide_eq_false (by omega)
          by_cases e2 : 1073741824 < m.len
          · go_wp2_with fail
            with_reducible refine (placed_calls 105 (i : Int) _ (by omega)).mono ?_
            rintro e wb ⟨rfl, bb⟩
            have Bb := nxt B3 bb
            have rowb := heap_below bb rowf3
            unfold fv
            go_wp2_with (refine wpList_store_row_g rfl 33 _ _ rfl F _ rfl rfl 33 _ rowb faultSize rfl (by simp [Value.oneCell']) ?_)
            intro wz hT hg2 hs2
            have hb2 : Below w.heap.size w wz := Bb.grown hg2 Bb.size (fun k hk => by simp only [Option.some.injEq] at hk; omega)
            clear hg2 hs2
            go_wp2_with fail
            refine ret_row rfl F rfl hT Tryz.underlying33 rfl faultSize rfl ?_
            exact ⟨.placed 4 (i : Int), rfl, HM.out _ (HX4.out hno (.inr e2)), hb2⟩
          · have e2' : decide (1073741824 < m.len) = false := decide_eq_false (by omega)
            go_wp2_with fail
            refine ⟨⟨i + 1, by omega, by go_num, trivial, fun j hjl hj => ?_⟩, by simp [intOf]; omega⟩
            by_cases e : j = i
            · subst e; rw [← HMM.out]; exact ⟨hno, by omega, by omega⟩
            · exact HJ.out j hjl (by omega)
    · have HA := Lib.hid (show ∀ j (h : j < objs.length), nameOk objs[j].name = true ∧ 0 ≤ objs[j].len ∧ objs[j].len ≤ 1073741824 from fun j h => HJ.out j h (by omega))
      clear HJ
      go_wp2_with fail
      go_loopw [6, 7] (fun iv _ ww => ∃ i : Nat, i ≤ objs.length ∧ iv = .int .i64 i ∧ Below wc.heap.size wc ww ∧ ∀ j (h : j < objs.length), j < i → hasN (objs.take j) objs[j].name = false) (fun iv _ _ => objs.length - (intOf iv).toNat)
      case atStart => exact ⟨0, Nat.zero_le _, rfl, Below.refl _ _, fun j _ h => by omega⟩
      case round =>
        obtain ⟨i, hi, rfl, hbw, hj⟩ := hrel
        have HJ := Lib.hid hj
        clear hj
        by_cases hlt2 : i < objs.length
        · have HMi : ∃ x, x = objs[i].name := ⟨_, rfl⟩
          obtain ⟨x, hx⟩ := HMi
          have HX := Lib.hid hx
          have HTW := Lib.hid (show hasN (objs.take i) x = true → OBad objs (.bare 2) from fun h => .twice i hlt2 (by omega) (fun j hj => HA.out j hj) (by rw [← hx]; exact h))
          clear hx
          have hro := (ro.below B3).below hbw
          have rowf4 := heap_below hbw rowf3
          have B4 := nxt B3 hbw
          have row4 := heap_below hbw row3
          have e5w : wr.cell? ⟨g, 5, none⟩ = some (.slice ao objs.length co) := cell_of_row _ _ 5 _ _ _ row4
          go_wp2_with fail
          go_loopw [7] (fun kv wq => ∃ k : Nat, k ≤ i ∧ kv = .int .i64 k ∧ Below wr.heap.size wr wq ∧ ∀ j (h : j < objs.length), j < k → objs[j].name ≠ x) (fun kv _ => i - (intOf kv).toNat)
          case atStart => exact ⟨0, Nat.zero_le _, rfl, Below.refl _ _, fun j _ h => by omega⟩
          case round =>
            obtain ⟨k, hk, rfl, hbq, hjk⟩ := hrel
            have HJK := Lib.hid hjk
            clear hjk
            by_cases hki : k < i
            · obtain ⟨b, o, rfl, hx⟩ := objs_at (hro.below hbq) i hlt2
              obtain ⟨p0, -, -⟩ := hx i hlt2
              obtain ⟨q0, -, -⟩ := hx k (by omega)
              rw [← HX.out] at p0
              obtain ⟨y, hy⟩ : ∃ y, y = objs[k].name := ⟨_, rfl⟩
              rw [← hy] at q0
              have HY := Lib.hid hy
              have hkl : k < objs.length := by omega
              have e5 : wr.cell? ⟨g, 5, none⟩ = some (.slice (some ⟨b, o, none⟩) objs.length co) := cell_of_row _ _ 5 _ _ _ (heap_below hbq row4)
              clear hy hx
              by_cases hxy : x = y
              · have t0 : (x.toList == y.toList) = true := by rw [name_beq]; exact decide_eq_true hxy
                have HXY := Lib.hid hxy
                clear hxy
                go_wp2_with fail
                go_quiet (fail)
                go_wp2_with fail

                with_reducible refine (bare_calls 103 _).mono ?_
                rintro e wb ⟨rfl, bb⟩
                have Bb := nxt (below_drewN (nxt B4 hbq) _) bb
                have rowb := heap_below bb (heap_below (below_drewN hbq _) rowf4)
                unfold fv
                go_wp2_with (refine wpList_store_row_g rfl 33 _ _ rfl F _ rfl rfl 33 _ rowb faultSize rfl (by simp [Value.oneCell']) ?_)
                intro wz hT hg2 hs2
                have hb2 : Below w.heap.size w wz := Bb.grown hg2 Bb.size (fun k hk => by simp only [Option.some.injEq] at hk; omega)
                clear hg2 hs2
                go_wp2_with fail
                refine ret_row rfl F rfl hT Tryz.underlying33 rfl faultSize rfl ?_
                exact ⟨.bare 2, rfl, HM.out _ (HTW.out (hasN_yes hkl hki (by rw [← HY.out]; exact HXY.out.symm))), hb2⟩
              · have t0 : (x.toList == y.toList) = false := by rw [name_beq]; exact decide_eq_false hxy
                have HXY := Lib.hid hxy
                clear hxy
                go_wp2_with fail
                go_quiet (fail)
                go_wp2_with fail
                refine ⟨⟨k + 1, by omega, by go_num, below_drewN hbq _, fun j hjl hj => ?_⟩, by simp [intOf]; omega⟩
                by_cases e : j = k
                · subst e; rw [← HY.out]; exact fun h => HXY.out h.symm
                · exact HJK.out j hjl (by omega)
            · go_wp2_with fail
              refine ⟨⟨i + 1, by omega, by go_num, nxt hbw hbq, fun j hjl hj => ?_⟩, by simp [intOf]; omega⟩
              by_cases e : j = i
              · subst e; rw [← HX.out]; exact hasN_no (fun j hj h => HJK.out j hj (by omega))
              · exact HJ.out j hjl (by omega)
        · have HOK := Lib.hid (show objsOk objs by rw [HO.out]; exact ⟨by omega, by omega, HA.out, fun j hj => HJ.out j hj (by omega)⟩)
          have rowf4 := heap_below hbw rowf3
          have B4 := nxt B3 hbw
          have e5 : wr.cell? ⟨g, 5, none⟩ = some (.slice ao objs.length co) := cell_of_row _ _ 5 _ _ _ (heap_below hbw row3)
          go_wp2_with fail

          with_reducible refine (fnone_calls _).mono ?_
          rintro e wb ⟨rfl, bb⟩
          have Bb := nxt B4 bb
          have rowb := heap_below bb rowf4
          unfold fv
          go_wp2_with (refine wpList_store_row_g rfl 33 _ _ rfl F _ rfl rfl 33 _ rowb faultSize rfl (by simp [Value.oneCell']) ?_)
          intro wz hT hg2 hs2
          have hb2 : Below w.heap.size w wz := Bb.grown hg2 Bb.size (fun k hk => by simp only [Option.some.injEq] at hk; omega)
          clear hg2 hs2
          go_wp2_with fail
          refine ret_row rfl F rfl hT Tryz.underlying33 rfl faultSize rfl ?_
          exact ⟨.fine, rfl, HM.out _ (.fine HOK.out), hb2⟩

end Go.Proofs.YtegiingcnhafbaaGreatDoor
