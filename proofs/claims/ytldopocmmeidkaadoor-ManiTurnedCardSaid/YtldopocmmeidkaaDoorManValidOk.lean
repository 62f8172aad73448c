/- mani.Valid: what is amiss with a manifest, exact. -/
import Derived.Test.YtldopocmmeidkaaDoorManObjsOk
import Derived.Test.YtldopocmmeidkaaDoorManWorld
import Derived.Test.YtldopocmmeidkaaDoorEpoNew
namespace Go.Proofs.YtldopocmmeidkaaDoor
open Go Go.RowKit Man

def rangeOk (id ba fi ti : Int) : Prop := 0 ≤ id ∧ id ≤ 2147483647 ∧ 0 ≤ ba ∧ ba ≤ 1099511627776 ∧ 0 ≤ fi ∧ fi ≤ 1099511627776 ∧ -1099511627776 ≤ ti ∧ ti ≤ 1099511627776 ∧ ba < fi
def shapeOk (ba fi : Int) (eps : List Epo.Pr) : Prop := 0 < eps.length ∧ (∀ p, eps[0]? = some p → p.st = ba) ∧ ∀ p, eps[eps.length - 1]? = some p → p.st < fi
def manOk (m : ManD) : Prop := rangeOk m.id m.base m.fin m.time ∧ Epo.valid m.eps = 0 ∧ shapeOk m.base m.fin m.eps ∧ objsOk m.objs
/-- What is amiss with a manifest. -/
inductive MBad (m : ManD) : Er → Prop
  | range : ¬ rangeOk m.id m.base m.fin m.time → MBad m (.bare 4)
  | eps : rangeOk m.id m.base m.fin m.time → Epo.valid m.eps ≠ 0 → MBad m (.bare (Epo.valid m.eps - 101))
  | shape : rangeOk m.id m.base m.fin m.time → Epo.valid m.eps = 0 → ¬ shapeOk m.base m.fin m.eps → MBad m (.bare 2)
  | objs (er : Er) : rangeOk m.id m.base m.fin m.time → Epo.valid m.eps = 0 → shapeOk m.base m.fin m.eps → OBad m.objs er → MBad m er
theorem MBad.fine_iff {m : ManD} {e : Er} (h : MBad m e) : e = .fine ↔ manOk m := by
  unfold manOk
  cases h with
  | range h => exact ⟨fun h => (by cases h), fun h' => absurd h'.1 h⟩
  | eps _ h => exact ⟨fun h => (by cases h), fun h' => absurd h'.2.1 h⟩
  | shape _ _ h => exact ⟨fun h => (by cases h), fun h' => absurd h'.2.2.1 h⟩
  | objs er h1 h2 h3 h4 => rw [h4.fine_iff]; exact ⟨fun h => ⟨h1, h2, h3, h⟩, fun h => h.2.2.2⟩
theorem MBad.uniq {m : ManD} {e e' : Er} (h : MBad m e) (h' : MBad m e') : e = e' := by
  cases h with
  | range h =>
    cases h' with
    | range _ => rfl
    | eps k _ => exact absurd k h
    | shape k _ _ => exact absurd k h
    | objs _ k _ _ _ => exact absurd k h
  | eps h1 h =>
    cases h' with
    | range k => exact absurd h1 k
    | eps _ _ => rfl
    | shape _ k _ => exact absurd k h
    | objs _ _ k _ _ => exact absurd k h
  | shape h1 h2 h =>
    cases h' with
    | range k => exact absurd h1 k
    | eps _ k => exact absurd h2 k
    | shape _ _ _ => rfl
    | objs _ _ _ k _ => exact absurd k h
  | objs er h1 h2 h3 h4 =>
    cases h' with
    | range k => exact absurd h1 k
    | eps _ k => exact absurd h2 k
    | shape _ _ k => exact absurd h3 k
    | objs _ _ _ _ k => exact h4.uniq k
theorem epv_range (l : List Epo.Pr) : Epo.valid l - 101 < 19 := by
  unfold Epo.valid; split <;> (try omega); split <;> (try omega); split <;> omega
theorem shape_iff (ba fi : Int) (eps : List Epo.Pr) (k : Nat) (hk : eps.length = k + 1) : shapeOk ba fi eps ↔ (eps[0].st = ba ∧ eps[k].st < fi) := by
  unfold shapeOk
  rw [show eps.length - 1 = k by omega, List.getElem?_eq_getElem (show 0 < eps.length by omega), List.getElem?_eq_getElem (show k < eps.length by omega)]
  constructor
  · rintro ⟨_, h1, h2⟩; exact ⟨h1 _ rfl, h2 _ rfl⟩
  · rintro ⟨h1, h2⟩; exact ⟨by omega, fun p hp => by cases hp; exact h1, fun p hp => by cases hp; exact h2⟩

theorem validRight_is (n : Int) (w : World) : Calls Tryd.prog 46 #[.int .i64 n] w (fun e w' => e = .returned (.bool (decide (0 ≤ n ∧ n ≤ 1099511627776))) ∧ w' = w) := by
  by_cases h1 : 0 ≤ n
  · by_cases h2 : n ≤ 1099511627776
    · go_enter Tryd.func46, Tryd.ntmps46
      go_wp2_with fail
      go_ret
      exact ⟨by first | rfl | (simp; omega) | (simp; have hh := of_decide_eq_false h2'; omega) | (simp; have hh := of_decide_eq_false h1'; omega), rfl⟩
    · have h2' : decide (n ≤ 1099511627776) = false := decide_eq_false (by omega)
      clear h2
      go_enter Tryd.func46, Tryd.ntmps46
      go_wp2_with fail
      go_ret
      exact ⟨by first | rfl | (simp; omega) | (simp; have hh := of_decide_eq_false h2'; omega) | (simp; have hh := of_decide_eq_false h1'; omega), rfl⟩
  · have h1' : decide (0 ≤ n) = false := decide_eq_false (by omega)
    clear h1
    go_enter Tryd.func46, Tryd.ntmps46
    go_wp2_with fail
    go_ret
    exact ⟨by first | rfl | (simp; omega) | (simp; have hh := of_decide_eq_false h2'; omega) | (simp; have hh := of_decide_eq_false h1'; omega), rfl⟩

set_option maxRecDepth 100000 in
set_option maxHeartbeats 4000000 in
theorem maniValid_is (S : List Nat) (A : Nat → Addr) {w : World} {m : ManD} {ve vo : Value} (hS : Sents S w A) (h2 : 2 ∈ S) (h3 : 3 ∈ S) (h4 : 4 ∈ S) (h5 : 5 ∈ S) (h : ManRd w m ve vo) (hs : Small m) :
    Calls Tryd.prog 17 #[manA m ve vo] w (ErPost A (MBad m) w) := by
  obtain ⟨re, ro⟩ := h
  obtain ⟨ae, ce, rfl⟩ := re.slice
  obtain ⟨ao, co, rfl⟩ := ro.slice
  have me := re.len_le
  have HN := Lib.hid hs.2.2
  clear hs
  obtain ⟨id, ba, fi, ti, eps, objs⟩ := m
  simp only at re ro me HN
  unfold manA
  simp only
  obtain ⟨M, hM⟩ : ∃ M : ManD, M = ⟨id, ba, fi, ti, eps, objs⟩ := ⟨_, rfl⟩
  have HP1 := Lib.hid (show ¬ rangeOk id ba fi ti → MBad M (.bare 4) from fun h => by rw [hM]; exact .range h)
  have HP2 := Lib.hid (show rangeOk id ba fi ti → Epo.valid eps ≠ 0 → MBad M (.bare (Epo.valid eps - 101)) from fun h1 h => by rw [hM]; exact .eps h1 h)
  have HP3 := Lib.hid (show rangeOk id ba fi ti → Epo.valid eps = 0 → ¬ shapeOk ba fi eps → MBad M (.bare 2) from fun h1 h2 h => by rw [hM]; exact .shape h1 h2 h)
  have HP4 := Lib.hid (show rangeOk id ba fi ti → Epo.valid eps = 0 → shapeOk ba fi eps → ∀ er, OBad objs er → MBad M er from fun h1 h2 h3 er h => by rw [hM]; exact .objs er h1 h2 h3 h)
  rw [← hM]
  clear hM
  have b1 := below_alloc w (.cells #[.int .i64 id, .int .i64 ba, .int .i64 fi, .int .i64 ti, .slice ae eps.length ce, .slice ao objs.length co] 25)
  have row1 := heap_alloc_new w (.cells #[.int .i64 id, .int .i64 ba, .int .i64 fi, .int .i64 ti, .slice ae eps.length ce, .slice ao objs.length co] 25)
  go_enter Tryd.func17, Tryd.ntmps17
  go_upto_region 2 with fail
  obtain ⟨w1, hw1⟩ : ∃ w1, w1 = w.alloc (.cells #[.int .i64 id, .int .i64 ba, .int .i64 fi, .int .i64 ti, .slice ae eps.length ce, .slice ao objs.length co] 25) := ⟨_, rfl⟩
  obtain ⟨g, hg⟩ : ∃ g, g = w.heap.size := ⟨_, rfl⟩
  rw [← hw1] at b1 row1 ⊢
  rw [← hg] at row1 ⊢
  clear hw1 hg
  have d0 : w1.cell? ⟨g, 0, none⟩ = some (.int .i64 id) := cell_of_row _ _ 0 _ _ _ row1
  have d1 : w1.cell? ⟨g, 1, none⟩ = some (.int .i64 ba) := cell_of_row _ _ 1 _ _ _ row1
  have d2 : w1.cell? ⟨g, 2, none⟩ = some (.int .i64 fi) := cell_of_row _ _ 2 _ _ _ row1
  have d3 : w1.cell? ⟨g, 3, none⟩ = some (.int .i64 ti) := cell_of_row _ _ 3 _ _ _ row1
  have hc1 := validRight_is ba w1
  have hc2 := validRight_is fi w1
  go_cut [45] (fun z wx => ∃ t : Bool, z = .bool t ∧ (t = false ↔ rangeOk id ba fi ti) ∧ wx = w1)
  case first =>
    by_cases e1 : id < 0
    · go_wp2_with fail
      go_meet
      exact ⟨_, rfl, by unfold rangeOk; (try rw [decide_eq_true_eq] at r1); (try rw [decide_eq_false_iff_not] at r1); (try rw [decide_eq_true_eq] at r2); (try rw [decide_eq_false_iff_not] at r2); (try rw [decide_eq_false_iff_not] at *); simp; omega, rfl⟩
    · have e1' : decide (id < 0) = false := decide_eq_false (by omega)
      clear e1
      by_cases e2 : 2147483647 < id
      · go_wp2_with fail
        go_meet
        exact ⟨_, rfl, by unfold rangeOk; (try rw [decide_eq_true_eq] at r1); (try rw [decide_eq_false_iff_not] at r1); (try rw [decide_eq_true_eq] at r2); (try rw [decide_eq_false_iff_not] at r2); (try rw [decide_eq_false_iff_not] at *); simp; omega, rfl⟩
      · have e2' : decide (2147483647 < id) = false := decide_eq_false (by omega)
        clear e2
        go_wp2_with fail
        with_reducible refine hc1.mono ?_
        rintro e w2 ⟨rfl, rfl⟩
        cases r1 : decide (0 ≤ ba ∧ ba ≤ 1099511627776)
        · go_wp2_with fail
          go_meet
          exact ⟨_, rfl, by unfold rangeOk; (try rw [decide_eq_true_eq] at r1); (try rw [decide_eq_false_iff_not] at r1); (try rw [decide_eq_true_eq] at r2); (try rw [decide_eq_false_iff_not] at r2); (try rw [decide_eq_false_iff_not] at *); simp; omega, rfl⟩
        · go_wp2_with fail
          with_reducible refine hc2.mono ?_
          rintro e w2 ⟨rfl, rfl⟩
          cases r2 : decide (0 ≤ fi ∧ fi ≤ 1099511627776)
          · go_wp2_with fail
            go_meet
            exact ⟨_, rfl, by unfold rangeOk; (try rw [decide_eq_true_eq] at r1); (try rw [decide_eq_false_iff_not] at r1); (try rw [decide_eq_true_eq] at r2); (try rw [decide_eq_false_iff_not] at r2); (try rw [decide_eq_false_iff_not] at *); simp; omega, rfl⟩
          · by_cases e3 : ti < -1099511627776
            · go_wp2_with fail
              go_meet
              exact ⟨_, rfl, by unfold rangeOk; (try rw [decide_eq_true_eq] at r1); (try rw [decide_eq_false_iff_not] at r1); (try rw [decide_eq_true_eq] at r2); (try rw [decide_eq_false_iff_not] at r2); (try rw [decide_eq_false_iff_not] at *); simp; omega, rfl⟩
            · have e3' : decide (ti < -1099511627776) = false := decide_eq_false (by omega)
              clear e3
              by_cases e4 : 1099511627776 < ti
              · go_wp2_with fail
                go_meet
                exact ⟨_, rfl, by unfold rangeOk; (try rw [decide_eq_true_eq] at r1); (try rw [decide_eq_false_iff_not] at r1); (try rw [decide_eq_true_eq] at r2); (try rw [decide_eq_false_iff_not] at r2); (try rw [decide_eq_false_iff_not] at *); simp; omega, rfl⟩
              · have e4' : decide (1099511627776 < ti) = false := decide_eq_false (by omega)
                clear e4
                go_wp2_with fail
                go_meet
                exact ⟨_, rfl, by unfold rangeOk; (try rw [decide_eq_true_eq] at r1); (try rw [decide_eq_false_iff_not] at r1); (try rw [decide_eq_true_eq] at r2); (try rw [decide_eq_false_iff_not] at r2); (try rw [decide_eq_false_iff_not] at *); simp; omega, rfl⟩
  case rest =>
    obtain ⟨t, rfl, ht, rfl⟩ := hcut
    have HT := Lib.hid ht
    clear ht
    clear hc1 hc2 d0 d3
    have d4 : wc.cell? ⟨g, 4, none⟩ = some (.slice ae eps.length ce) := cell_of_row _ _ 4 _ _ _ row1
    have d5 : wc.cell? ⟨g, 5, none⟩ = some (.slice ao objs.length co) := cell_of_row _ _ 5 _ _ _ row1
    have k4 : wc.cell? ⟨0, 0, none⟩ = some (.iface 180 (.pointer (some (A 4)))) := (hS.below b1).cell 4 h4
    cases t
    · have hN := new_calls S A (hS.below b1) h2 h3 h4 (re.below b1)
      go_wp2_with fail
      with_reducible refine hN.mono ?_
      rintro e w2 ⟨hw | hw, b2⟩
      · obtain ⟨hvl, F, gl, rfl, -, -⟩ := hw
        have HV := Lib.hid hvl
        clear hvl
        have B2 := nxt b1 b2
        have row2 := heap_below b2 row1
        have d1' : w2.cell? ⟨g, 1, none⟩ = some (.int .i64 ba) := cell_of_row _ _ 1 _ _ _ row2
        have d2' : w2.cell? ⟨g, 2, none⟩ = some (.int .i64 fi) := cell_of_row _ _ 2 _ _ _ row2
        have d4' : w2.cell? ⟨g, 4, none⟩ = some (.slice ae eps.length ce) := cell_of_row _ _ 4 _ _ _ row2
        have d5' : w2.cell? ⟨g, 5, none⟩ = some (.slice ao objs.length co) := cell_of_row _ _ 5 _ _ _ row2
        have k2 : w2.cell? ⟨2, 0, none⟩ = some (.iface 180 (.pointer (some (A 2)))) := (hS.below B2).cell 2 h2
        have HO := Lib.hid (ro.below B2)
        clear hN d1 d2 d4 d5 k4 row1 row2
        go_upto_region 8 with fail
        go_cut [82] (fun z wx => ∃ t : Bool, z = .bool t ∧ (t = false ↔ shapeOk ba fi eps) ∧ Below w2.heap.size w2 wx)
        case first =>
          by_cases n0 : eps.length = 0
          · have HS0 := Lib.hid (show ¬ shapeOk ba fi eps from fun h => by have := h.1; omega)
            go_wp2_with fail
            go_quiet (fail)
            go_wp2_with fail
            go_meet
            exact ⟨_, rfl, ⟨fun h => by simp at h, fun h => absurd h HS0.out⟩, below_drewN (Below.refl _ _) _⟩
          · obtain ⟨k, hk⟩ : ∃ k, eps.length = k + 1 := ⟨eps.length - 1, by omega⟩
            have n0' : ((eps.length : Int) == 0) = false := by rw [beq_eq_false_iff_ne]; omega
            obtain ⟨b, o, rfl, hx⟩ := pairs_at ((re.below b1).below b2) 0 (by omega)
            obtain ⟨p0, p1⟩ := hx 0 (by omega)
            obtain ⟨q0, q1⟩ := hx k (by omega)
            obtain ⟨x, hxx⟩ : ∃ x, x = eps[0].st := ⟨_, rfl⟩
            obtain ⟨y, hyy⟩ : ∃ y, y = eps[k].st := ⟨_, rfl⟩
            have HSH := Lib.hid (show shapeOk ba fi eps ↔ (x = ba ∧ y < fi) by rw [hxx, hyy]; exact shape_iff ba fi eps k hk)
            rw [← hxx] at p1
            rw [← hyy] at q1
            simp only [Nat.zero_mul, Nat.add_zero] at p0 p1
            have hs1 : IntKind.i64.wrap ((eps.length : Int) - 1) = (k : Int) := by rw [IntKind.wrap_i64]; omega
            have hkl : k < eps.length := by omega
            have h0l : 0 < eps.length := by omega
            clear hx hxx hyy n0 hk p0 q0
            by_cases e1 : x = ba
            · subst e1
              by_cases e2 : fi ≤ y
              · go_wp2_with fail
                go_quiet (fail)
                go_wp2_with fail
                go_meet
                exact ⟨_, rfl, by rw [HSH.out]; simp; first | omega | (have hh := of_decide_eq_false e2'; omega), below_drewN (Below.refl _ _) _⟩
              · have e2' : decide (fi ≤ y) = false := decide_eq_false (by omega)
                clear e2
                go_wp2_with fail
                go_quiet (fail)
                go_wp2_with fail
                go_meet
                exact ⟨_, rfl, by rw [HSH.out]; simp; first | omega | (have hh := of_decide_eq_false e2'; omega), below_drewN (Below.refl _ _) _⟩
            · have e1' : (x == ba) = false := by rw [beq_eq_false_iff_ne]; exact e1
              have e2' : (!(x == ba)) = true := by rw [e1']; rfl
              have e3' : (x != ba) = true := e2'
              have e4' : (!decide (x = ba)) = true := by simp [e1]
              go_wp2_with fail
              go_quiet (fail)
              go_wp2_with fail
              go_meet
              exact ⟨_, rfl, by rw [HSH.out]; simp; first | omega | (have hh := of_decide_eq_false e2'; omega), below_drewN (Below.refl _ _) _⟩
        case rest =>
          obtain ⟨t, rfl, ht, b3⟩ := hcut
          have HSP := Lib.hid ht
          clear ht
          have e4 : wc.cell? ⟨g, 5, none⟩ = some (.slice ao objs.length co) := by rw [b3.cell (World.block_lt_of_cell? _ _ d5')]; exact d5'
          have k2' : wc.cell? ⟨2, 0, none⟩ = some (.iface 180 (.pointer (some (A 2)))) := (hS.below (nxt B2 b3)).cell 2 h2
          cases t
          · have hob := objects_is S A (hS.below (nxt B2 b3)) h2 h3 h4 h5 (HO.out.below b3) HN.out
            go_wp2_with fail
            with_reducible refine hob.mono ?_
            rintro e w4 ⟨v4, er, rfl, hob4, her, b4⟩
            go_wp2_with fail
            go_ret
            exact ⟨_, er, rfl, HP4.out (HT.out.1 (by first | rfl | trivial)) HV.out (HSP.out.1 (by first | rfl | trivial)) er hob4, her, nxt (nxt B2 b3) b4⟩
          · go_wp2_with fail
            go_ret
            exact ⟨_, _, rfl, HP3.out (HT.out.1 (by first | rfl | trivial)) HV.out (fun h => absurd (HSP.out.2 h) (by decide)), ⟨by omega, rfl⟩, nxt B2 b3⟩
      · obtain ⟨hvl, rfl⟩ := hw
        have HV := Lib.hid hvl
        clear hvl
        unfold senV
        go_wp2_with fail
        go_ret
        exact ⟨_, _, rfl, HP2.out (HT.out.1 (by first | rfl | trivial)) HV.out, ⟨epv_range _, rfl⟩, nxt b1 b2⟩
    · go_wp2_with fail
      go_ret
      exact ⟨_, _, rfl, HP1.out (fun h => absurd (HT.out.2 h) (by decide)), ⟨by omega, rfl⟩, b1⟩
end Go.Proofs.YtldopocmmeidkaaDoor
