/- rec.right, rec.Valid. -/
import Derived.Test.YtlfbdcgojbfcaaaDoorBat
import Derived.Test.YtlfbdcgojbfcaaaDoorSent
import Derived.Deep.DeepCutAuto
namespace Go.Proofs.YtlfbdcgojbfcaaaDoor
open Go Go.RowKit Rec

/-- A batch's value. -/
def batA (b : BatD) (v : Value) : Value := .agg #[.int .i64 b.base, .int .i64 b.epoch, v]

set_option maxRecDepth 100000 in
theorem recRight_calls (n a b : Int) (w : World) :
    Calls Tryd.prog 50 #[.int .i64 n, .int .i64 a, .int .i64 b] w (fun e w' => e = .returned (.bool (decide (a ≤ n ∧ n ≤ b))) ∧ w = w') := by
  by_cases h1 : a ≤ n
  · have h1' : decide (a ≤ n) = true := decide_eq_true h1
    by_cases h2 : n ≤ b
    · rw [decide_eq_true (⟨h1, h2⟩ : a ≤ n ∧ n ≤ b)]
      have h2' : decide (n ≤ b) = true := decide_eq_true h2
      clear h1 h2
      go_enter Tryd.func50, Tryd.ntmps50
      go_wp2_with fail
      go_ret
      exact ⟨rfl, rfl⟩
    · rw [decide_eq_false (fun h : a ≤ n ∧ n ≤ b => h2 h.2)]
      have h2' : decide (n ≤ b) = false := decide_eq_false h2
      clear h1 h2
      go_enter Tryd.func50, Tryd.ntmps50
      go_wp2_with fail
      go_ret
      exact ⟨rfl, rfl⟩
  · rw [decide_eq_false (fun h : a ≤ n ∧ n ≤ b => h1 h.1)]
    have h1' : decide (a ≤ n) = false := decide_eq_false h1
    clear h1
    go_enter Tryd.func50, Tryd.ntmps50
    go_wp2_with fail
    go_ret
    exact ⟨rfl, rfl⟩

def ValidB (A : Nat → Addr) (b : BatD) (w : World) (e : Ending) (w' : World) : Prop :=
  (valid b = 0 ∧ e = .returned .nilIface ∨ valid b ≠ 0 ∧ e = .returned (senV A (valid b - 101))) ∧ Below w.heap.size w w'

theorem all_take (l : List RecD) (i : Nat) (hi : i < l.length) (h : (l.take i).all recOk = true) : (l.take (i + 1)).all recOk = recOk l[i] := by
  rw [List.take_succ_eq_append_getElem hi, List.all_append, h]; simp
theorem all_not (l : List RecD) (i : Nat) (hi : i < l.length) (h : recOk l[i] = false) : l.all recOk = false := by
  cases hb : l.all recOk with
  | false => rfl
  | true => have := List.all_eq_true.1 hb l[i] (List.getElem_mem hi); rw [h] at this; cases this

set_option maxRecDepth 100000 in
set_option maxHeartbeats 2000000 in
theorem recValid_calls (S : List Nat) (A : Nat → Addr) {w : World} (hS : Sents S w A) (h3 : 3 ∈ S) (h4 : 4 ∈ S) {b : BatD} {v : Value} (h : RecsRd w v b.recs) :
    Calls Tryd.prog 28 #[batA b v] w (ValidB A b w) := by
  obtain ⟨a, c, rfl⟩ := h.slice
  have m1 := h.len_le
  obtain ⟨ba, ep, l⟩ := b
  simp only at h m1
  have hv : valid ⟨ba, ep, l⟩ = if l.length < 1 ∨ 64 < l.length then 104 else if ¬ (0 ≤ ba ∧ ba ≤ 1099511627776 - l.length ∧ 0 ≤ ep ∧ ep ≤ 1073741824) then 105 else if l.all recOk then 0 else 105 := rfl
  have HV := Lib.hid hv
  have b1 := below_alloc w (.cells #[.int .i64 ba, .int .i64 ep, .slice a l.length c] 34)
  have row1 := heap_alloc_new w (.cells #[.int .i64 ba, .int .i64 ep, .slice a l.length c] 34)
  have g3 : ∀ w', Below w.heap.size w w' → w'.cell? ⟨0, 0, none⟩ = some (.iface 138 (.pointer (some (A 3)))) := fun w' b => (hS.below b).cell 3 h3
  have g4 : ∀ w', Below w.heap.size w w' → w'.cell? ⟨1, 0, none⟩ = some (.iface 138 (.pointer (some (A 4)))) := fun w' b => (hS.below b).cell 4 h4
  have k3 := g3 _ b1
  have k4 := g4 _ b1
  unfold batA
  simp only
  clear hv
  go_enter Tryd.func28, Tryd.ntmps28
  by_cases t1 : l.length < 1 ∨ 64 < l.length
  · have HP : Hid (valid ⟨ba, ep, l⟩ = 104) := Lib.hid (by rw [HV.out, if_pos t1])
    rcases t1 with t1 | t1
    all_goals
      go_wp2_with fail
      all_goals (
        go_ret
        unfold ValidB
        rw [HP.out]
        exact ⟨.inr ⟨by simp, rfl⟩, b1⟩)
  · have hlen : 1 ≤ l.length ∧ l.length ≤ 64 := by omega
    have t1a : decide ((l.length : Int) < 1) = false := decide_eq_false (by omega)
    have t1b : decide ((64 : Int) < (l.length : Int)) = false := decide_eq_false (by omega)
    have hw1 : IntKind.i64.wrap (1099511627776 - (l.length : Int)) = 1099511627776 - (l.length : Int) := by rw [IntKind.wrap_i64]; omega
    have hrt := fun W => recRight_calls ba 0 (1099511627776 - (l.length : Int)) W
    by_cases t2 : 0 ≤ ba ∧ ba ≤ 1099511627776 - l.length ∧ 0 ≤ ep ∧ ep ≤ 1073741824
    · have HP : Hid (valid ⟨ba, ep, l⟩ = if l.all recOk then 0 else 105) := Lib.hid (by rw [HV.out, if_neg t1, if_neg (fun h => h t2)])
      have t2a : decide (ep < 0) = false := decide_eq_false (by omega)
      have t2b : decide ((1073741824 : Int) < ep) = false := decide_eq_false (by omega)
      rw [decide_eq_true (⟨t2.1, t2.2.1⟩ : 0 ≤ ba ∧ ba ≤ 1099511627776 - (l.length : Int))] at hrt
      clear t1 t2 HV
      go_wp2_with fail
      refine (hrt _).mono ?_
      rintro e w2 ⟨rfl, rfl⟩
      clear hrt
      go_wp2_with fail
      go_loopw [36] (fun iv wr => ∃ i : Nat, i ≤ l.length ∧ iv = .int .i64 i ∧ Hid ((l.take i).all recOk = true) ∧ Below w.heap.size w wr) (fun iv _ => l.length - (intOf iv).toNat)
      case atStart => exact ⟨0, Nat.zero_le _, rfl, Lib.hid rfl, b1⟩
      case round =>
        obtain ⟨i, hi, rfl, HOK, hb⟩ := hrel
        by_cases hlt : i < l.length
        · obtain ⟨b, o, rfl, hx⟩ := (h.below hb).cells i hlt
          obtain ⟨vk, vv, p0, p1, p2, rk, rv⟩ := hx i hlt
          have hnx := all_take l i hlt HOK.out
          have hno := all_not l i hlt
          have mk := rk.len_le
          have mv := rv.len_le
          obtain ⟨ak, ck, rfl⟩ := rk.slice
          obtain ⟨av, cv, rfl⟩ := rv.slice
          obtain ⟨r, hr⟩ : ∃ r, r = l[i] := ⟨_, rfl⟩
          rw [← hr] at p0 p1 p2 hnx hno mk mv
          have HNX := Lib.hid hnx
          have HNO := Lib.hid hno
          have hrk : recOk r = decide (-1099511627776 ≤ r.time ∧ r.time ≤ 1099511627776 ∧ r.key.length ≤ 64 ∧ r.val.length ≤ 512) := rfl
          have HRK := Lib.hid hrk
          clear hx rk rv hr hnx hno hrk
          obtain ⟨t, ht⟩ : ∃ t, t = r.time := ⟨_, rfl⟩
          obtain ⟨nk, hnk⟩ : ∃ t, t = r.key.length := ⟨_, rfl⟩
          obtain ⟨nv, hnv⟩ : ∃ t, t = r.val.length := ⟨_, rfl⟩
          rw [← ht, ← hnk, ← hnv] at HRK
          rw [← ht] at p0
          rw [← hnk] at p1 mk
          rw [← hnv] at p2 mv
          clear ht hnk hnv
          have row2 := heap_alloc_new wr (.cells #[.int .i64 t, .slice ak nk ck, .slice av nv cv] 44)
          have b2 := below_alloc wr (.cells #[.int .i64 t, .slice ak nk ck, .slice av nv cv] 44)
          have B2 := nxt hb b2
          go_upto_region 9 with fail
          generalize wr.alloc (.cells #[.int .i64 t, .slice ak nk ck, .slice av nv cv] 44) = w2 at *
          generalize wr.heap.size = g2 at *
          have d0 : w2.cell? ⟨g2, 0, none⟩ = some (.int .i64 t) := cell_of_row _ _ 0 _ _ _ row2
          have d1 : w2.cell? ⟨g2, 1, none⟩ = some (.slice ak nk ck) := cell_of_row _ _ 1 _ _ _ row2
          have d2 : w2.cell? ⟨g2, 2, none⟩ = some (.slice av nv cv) := cell_of_row _ _ 2 _ _ _ row2
          have k5 := g4 _ B2
          have hr2 := recRight_calls t (-1099511627776) 1099511627776 w2
          clear p0 p1 p2 row2 b2 hb
          by_cases q1 : -1099511627776 ≤ t ∧ t ≤ 1099511627776
          · rw [decide_eq_true q1] at hr2
            by_cases q2 : nk ≤ 64
            · have q2' : decide ((64 : Int) < (nk : Int)) = false := decide_eq_false (by omega)
              by_cases q3 : nv ≤ 512
              · have q3' : decide ((512 : Int) < (nv : Int)) = false := decide_eq_false (by omega)
                have hgood : (l.take (i + 1)).all recOk = true := by rw [HNX.out, HRK.out]; exact decide_eq_true ⟨q1.1, q1.2, q2, q3⟩
                have HG := Lib.hid hgood
                clear hgood q1 q2 q3
                go_wp2_with fail
                refine hr2.mono ?_
                rintro e w3 ⟨rfl, rfl⟩
                clear hr2
                go_wp2_with fail
                exact ⟨⟨i + 1, by omega, by go_num, HG, B2⟩, by simp [intOf]; omega⟩
              · have q3' : decide ((512 : Int) < (nv : Int)) = true := decide_eq_true (by omega)
                have hbad := HNO.out (by rw [HRK.out]; exact decide_eq_false (fun h => q3 h.2.2.2))
                rw [hbad, if_neg (by simp)] at HP
                clear hbad q1 q2 q3
                go_wp2_with fail
                refine hr2.mono ?_
                rintro e w3 ⟨rfl, rfl⟩
                clear hr2
                go_wp2_with fail
                go_ret
                unfold ValidB
                rw [HP.out]
                exact ⟨.inr ⟨by simp, rfl⟩, B2⟩
            · have q2' : decide ((64 : Int) < (nk : Int)) = true := decide_eq_true (by omega)
              have hbad := HNO.out (by rw [HRK.out]; exact decide_eq_false (fun h => q2 h.2.2.1))
              rw [hbad, if_neg (by simp)] at HP
              clear hbad q1 q2
              go_wp2_with fail
              refine hr2.mono ?_
              rintro e w3 ⟨rfl, rfl⟩
              clear hr2
              go_wp2_with fail
              go_ret
              unfold ValidB
              rw [HP.out]
              exact ⟨.inr ⟨by simp, rfl⟩, B2⟩
          · rw [decide_eq_false q1] at hr2
            have hbad := HNO.out (by rw [HRK.out]; exact decide_eq_false (fun h => q1 ⟨h.1, h.2.1⟩))
            rw [hbad, if_neg (by simp)] at HP
            clear hbad q1
            go_wp2_with fail
            refine hr2.mono ?_
            rintro e w3 ⟨rfl, rfl⟩
            clear hr2
            go_wp2_with fail
            go_ret
            unfold ValidB
            rw [HP.out]
            exact ⟨.inr ⟨by simp, rfl⟩, B2⟩
        · have hok : l.all recOk = true := by
            have := HOK.out
            rwa [List.take_of_length_le (by omega)] at this
          rw [hok, if_pos rfl] at HP
          clear hok
          go_wp2_with fail
          go_ret
          unfold ValidB
          rw [HP.out]
          exact ⟨.inl ⟨rfl, rfl⟩, hb⟩
    · have HP : Hid (valid ⟨ba, ep, l⟩ = 105) := Lib.hid (by rw [HV.out, if_neg t1, if_pos t2])
      clear HV t1
      by_cases q1 : 0 ≤ ba ∧ ba ≤ 1099511627776 - (l.length : Int)
      · rw [decide_eq_true q1] at hrt
        have q2 : ep < 0 ∨ 1073741824 < ep := by omega
        clear q1 t2
        by_cases q3 : ep < 0
        case' pos => have q3' : decide (ep < 0) = true := decide_eq_true q3
        case' neg =>
          have q3' : decide (ep < 0) = false := decide_eq_false q3
          have q4' : decide ((1073741824 : Int) < ep) = true := decide_eq_true (by omega)
        all_goals
          clear q2 q3
          go_wp2_with fail
          refine (hrt _).mono ?_
          rintro e w2 ⟨rfl, rfl⟩
          clear hrt
          go_wp2_with fail
          go_ret
          unfold ValidB
          rw [HP.out]
          exact ⟨.inr ⟨by simp, rfl⟩, b1⟩
      · rw [decide_eq_false q1] at hrt
        clear q1 t2
        go_wp2_with fail
        refine (hrt _).mono ?_
        rintro e w2 ⟨rfl, rfl⟩
        clear hrt
        go_wp2_with fail
        go_ret
        unfold ValidB
        rw [HP.out]
        exact ⟨.inr ⟨by simp, rfl⟩, b1⟩
end Go.Proofs.YtlfbdcgojbfcaaaDoor
