/- mani.objects: what is amiss with objects, exact. -/
import Derived.Test.YtldopocmmeidkaaDoorManOk
import Derived.Test.YtldopocmmeidkaaDoorReader
namespace Go.Proofs.YtldopocmmeidkaaDoor
open Go Go.RowKit Man

def objsOk (l : List ObjD) : Prop := 1 ≤ l.length ∧ l.length ≤ 8 ∧ (∀ i (h : i < l.length), nameOk l[i].name = true ∧ 0 ≤ l[i].len ∧ l[i].len ≤ 1073741824) ∧ ∀ i (h : i < l.length), hasN (l.take i) l[i].name = false
def goodO (o : ObjD) : Prop := nameOk o.name = true ∧ 0 ≤ o.len ∧ o.len ≤ 1073741824
/-- What is amiss with objects. -/
inductive OBad (l : List ObjD) : Er → Prop
  | fine : objsOk l → OBad l .fine
  | many : (l.length < 1 ∨ 8 < l.length) → OBad l (.bare 3)
  | name (i : Nat) (h : i < l.length) : l.length ≤ 8 → (∀ j (hj : j < l.length), j < i → goodO l[j]) → nameOk l[i].name = false → OBad l (.placed 5 i)
  | len (i : Nat) (h : i < l.length) : l.length ≤ 8 → (∀ j (hj : j < l.length), j < i → goodO l[j]) → nameOk l[i].name = true → (l[i].len < 0 ∨ 1073741824 < l[i].len) → OBad l (.placed 4 i)
  | twice (i : Nat) (h : i < l.length) : l.length ≤ 8 → (∀ j (hj : j < l.length), goodO l[j]) → hasN (l.take i) l[i].name = true → OBad l (.bare 2)
theorem OBad.fine_iff {l : List ObjD} {e : Er} (h : OBad l e) : e = .fine ↔ objsOk l := by
  constructor
  · rintro rfl; cases h; assumption
  · intro hk
    have hk' := hk
    unfold objsOk at hk'
    obtain ⟨h1, h2, h3, h4⟩ := hk'
    cases h with
    | fine _ => rfl
    | many h => omega
    | name i hi _ _ h => have := (h3 i hi).1; rw [h] at this; cases this
    | len i hi _ _ _ h => have := (h3 i hi).2; omega
    | twice i hi _ _ h => have := h4 i hi; rw [h] at this; cases this
theorem OBad.uniq {l : List ObjD} {e e' : Er} (h : OBad l e) (h' : OBad l e') : e = e' := by
  by_cases hk : objsOk l
  · rw [h.fine_iff.2 hk, h'.fine_iff.2 hk]
  · cases h with
    | fine h => exact absurd h hk
    | many h =>
      cases h' with
      | fine h => exact absurd h hk
      | many _ => rfl
      | name i hi _ _ _ => omega
      | len i hi _ _ _ _ => omega
      | twice i hi _ _ _ => omega
    | name i hi h1 h2 h3 =>
      cases h' with
      | fine h => exact absurd h hk
      | many h => omega
      | name j hj _ k2 k3 =>
        have e1 : i = j := by
          rcases Nat.lt_trichotomy i j with h | h | h
          · have := (k2 i hi h).1; rw [h3] at this; cases this
          · exact h
          · have := (h2 j hj h).1; rw [k3] at this; cases this
        subst e1; rfl
      | len j hj _ k2 k3 k4 =>
        exfalso
        rcases Nat.lt_trichotomy i j with h | h | h
        · have := (k2 i hi h).1; rw [h3] at this; cases this
        · subst h; rw [h3] at k3; cases k3
        · have := (h2 j hj h).2; omega
      | twice j hj _ k2 _ => have := (k2 i hi).1; rw [h3] at this; cases this
    | len i hi h1 h2 h3 h4 =>
      cases h' with
      | fine h => exact absurd h hk
      | many h => omega
      | name j hj _ k2 k3 =>
        exfalso
        rcases Nat.lt_trichotomy i j with h | h | h
        · have := (k2 i hi h).2; omega
        · subst h; rw [h3] at k3; cases k3
        · have := (h2 j hj h).1; rw [k3] at this; cases this
      | len j hj _ k2 k3 k4 =>
        have e1 : i = j := by
          rcases Nat.lt_trichotomy i j with h | h | h
          · have := (k2 i hi h).2; omega
          · exact h
          · have := (h2 j hj h).2; omega
        subst e1; rfl
      | twice j hj _ k2 _ => have := (k2 i hi).2; omega
    | twice i hi h1 h2 h3 =>
      cases h' with
      | fine h => exact absurd h hk
      | many h => omega
      | name j hj _ k2 k3 => have := (h2 j hj).1; rw [k3] at this; cases this
      | len j hj _ k2 k3 k4 => have := (h2 j hj).2; omega
      | twice j hj _ k2 _ => rfl

/-- It answers an error of which P holds. -/
def ErPost (A : Nat → Addr) (P : Er → Prop) (w : World) (e : Ending) (w' : World) : Prop := ∃ v er, e = .returned v ∧ P er ∧ ErRow A w' v er ∧ Below w.heap.size w w'
/-- It answers nil where P holds, else an error. -/
def NilIff (P : Prop) (w : World) (e : Ending) (w' : World) : Prop := ((e = .returned .nilIface ∧ P) ∨ ((∃ t u, e = .returned (.iface t u)) ∧ ¬ P)) ∧ Below w.heap.size w w'

set_option maxRecDepth 100000 in
set_option maxHeartbeats 2000000 in
theorem objects_is (S : List Nat) (A : Nat → Addr) {w : World} {v : Value} {l : List ObjD} (hS : Sents S w A) (h2 : 2 ∈ S) (h3 : 3 ∈ S) (h4 : 4 ∈ S) (h5 : 5 ∈ S) (h : Rd w 3 v l.length (l.flatMap obV)) (hn : ∀ o ∈ l, o.name.size ≤ 100) :
    Calls Tryd.prog 48 #[v] w (ErPost A (OBad l) w) := by
  obtain ⟨am, cm, rfl⟩ := h.slice
  have m1 := h.len_le
  have HN := Lib.hid hn
  have HP := Lib.hid (show objsOk l = (1 ≤ l.length ∧ l.length ≤ 8 ∧ (∀ i (h : i < l.length), nameOk l[i].name = true ∧ 0 ≤ l[i].len ∧ l[i].len ≤ 1073741824) ∧ ∀ i (h : i < l.length), hasN (l.take i) l[i].name = false) from rfl)
  clear hn
  have g2 : ∀ w', Below w.heap.size w w' → w'.cell? ⟨2, 0, none⟩ = some (.iface 180 (.pointer (some (A 2)))) := fun w' b => (hS.below b).cell 2 h2
  have g3 : ∀ w', Below w.heap.size w w' → w'.cell? ⟨4, 0, none⟩ = some (.iface 180 (.pointer (some (A 3)))) := fun w' b => (hS.below b).cell 3 h3
  have g4 : ∀ w', Below w.heap.size w w' → w'.cell? ⟨0, 0, none⟩ = some (.iface 180 (.pointer (some (A 4)))) := fun w' b => (hS.below b).cell 4 h4
  have g5 : ∀ w', Below w.heap.size w w' → w'.cell? ⟨6, 0, none⟩ = some (.iface 180 (.pointer (some (A 5)))) := fun w' b => (hS.below b).cell 5 h5
  by_cases t1 : l.length < 1
  · have k3 := g3 w (Below.refl _ _)
    go_enter Tryd.func48, Tryd.ntmps48
    go_wp2_with fail
    go_ret
    exact ⟨_, _, rfl, .many (by omega), ⟨by omega, rfl⟩, Below.refl _ _⟩
  · have t1' : decide ((l.length : Int) < 1) = false := decide_eq_false (by omega)
    by_cases t2 : 8 < l.length
    · have k3 := g3 w (Below.refl _ _)
      clear t1
      go_enter Tryd.func48, Tryd.ntmps48
      go_wp2_with fail
      go_ret
      exact ⟨_, _, rfl, .many (by omega), ⟨by omega, rfl⟩, Below.refl _ _⟩
    · have t2' : decide (8 < (l.length : Int)) = false := decide_eq_false (by omega)
      go_enter Tryd.func48, Tryd.ntmps48
      go_wp2_with fail
      go_loopw [3, 4, 18] (fun _ _ iv wr => ∃ i : Nat, i ≤ l.length ∧ iv = .int .i64 i ∧ Below w.heap.size w wr ∧ ∀ j (h : j < l.length), j < i → nameOk l[j].name = true ∧ 0 ≤ l[j].len ∧ l[j].len ≤ 1073741824) (fun _ _ iv _ => l.length - (intOf iv).toNat)
      case atStart => exact ⟨0, Nat.zero_le _, rfl, Below.refl _ _, fun j _ h => by omega⟩
      case round =>
        obtain ⟨i, hi, rfl, hb, hj⟩ := hrel
        have HJ := Lib.hid hj
        clear hj
        by_cases hlt : i < l.length
        · obtain ⟨b, o, rfl, hx⟩ := objs_at (h.below hb) i hlt
          obtain ⟨q0, q1, q2⟩ := hx i hlt
          have hnm := HN.out l[i] (List.getElem_mem hlt)
          obtain ⟨m, hm⟩ : ∃ m, m = l[i] := ⟨_, rfl⟩
          rw [← hm] at q0 q1 q2 hnm
          have HM := Lib.hid hm
          have HX5 := Lib.hid (show nameOk m.name = false → OBad l (.placed 5 i) from fun h1 => .name i hlt (by omega) (fun j hj h => HJ.out j hj h) (by rw [← hm]; exact h1))
          have HX4 := Lib.hid (show nameOk m.name = true → (m.len < 0 ∨ 1073741824 < m.len) → OBad l (.placed 4 i) from fun h1 h2 => .len i hlt (by omega) (fun j hj h => HJ.out j hj h) (by rw [← hm]; exact h1) (by rw [← hm]; exact h2))
          clear hx hm
          go_upto_region 6 with fail
          have ba := below_alloc wr (.cells #[.string m.name, .int .i64 m.len, .int .u32 (m.sum : Int)] 46)
          have rowa := heap_alloc_new wr (.cells #[.string m.name, .int .i64 m.len, .int .u32 (m.sum : Int)] 46)
          obtain ⟨wa, hwa⟩ : ∃ wa, wa = wr.alloc (.cells #[.string m.name, .int .i64 m.len, .int .u32 (m.sum : Int)] 46) := ⟨_, rfl⟩
          obtain ⟨g, hg⟩ : ∃ g, g = wr.heap.size := ⟨_, rfl⟩
          rw [← hwa] at ba rowa ⊢
          rw [← hg] at rowa ⊢
          clear hwa hg q0 q1 q2
          have p0 : wa.cell? ⟨g, 0, none⟩ = some (.string m.name) := cell_of_row _ _ 0 _ _ _ rowa
          have p1 : wa.cell? ⟨g, 1, none⟩ = some (.int .i64 m.len) := cell_of_row _ _ 1 _ _ _ rowa
          have B1 := nxt hb ba
          have k5 := g5 wa B1
          have k4 := g4 wa B1
          have hv := nameValid_is m.name wa (by omega)
          clear rowa
          go_wp2_with fail
          refine hv.mono ?_
          rintro e w2 ⟨rfl, rfl⟩
          clear hv
          cases hno : nameOk m.name
          · go_wp2_with fail
            go_ret
            exact ⟨_, _, rfl, HX5.out hno, ⟨by omega, _, rfl, heap_alloc_new _ _⟩, bAlloc B1 _⟩
          · by_cases e1 : m.len < 0
            · go_wp2_with fail
              go_ret
              exact ⟨_, _, rfl, HX4.out hno (by omega), ⟨by omega, _, rfl, heap_alloc_new _ _⟩, bAlloc B1 _⟩
            · by_cases e2 : 1073741824 < m.len
              · have e1' : decide (m.len < 0) = false := decide_eq_false (by omega)
                go_wp2_with fail
                go_ret
                exact ⟨_, _, rfl, HX4.out hno (by omega), ⟨by omega, _, rfl, heap_alloc_new _ _⟩, bAlloc B1 _⟩
              · have e1' : decide (m.len < 0) = false := decide_eq_false (by omega)
                have e2' : decide (1073741824 < m.len) = false := decide_eq_false (by omega)
                go_wp2_with fail
                refine ⟨⟨i + 1, by omega, by go_num, B1, fun j hjl hj => ?_⟩, by simp [intOf]; omega⟩
                by_cases e : j = i
                · subst e; rw [← HM.out]; exact ⟨hno, by omega, by omega⟩
                · exact HJ.out j hjl (by omega)
        · go_wp2_with fail
          go_loopw [5, 6, 48] (fun _ _ iv wr => ∃ i : Nat, i ≤ l.length ∧ iv = .int .i64 i ∧ Below w.heap.size w wr ∧ ∀ j (h : j < l.length), j < i → hasN (l.take j) l[j].name = false) (fun _ _ iv _ => l.length - (intOf iv).toNat)
          case atStart => exact ⟨0, Nat.zero_le _, rfl, hb, fun j _ h => by omega⟩
          case round =>
            obtain ⟨i2, hi2, rfl, hb2, hj2⟩ := hrel
            have HA := Lib.hid (show ∀ j (h : j < l.length), nameOk l[j].name = true ∧ 0 ≤ l[j].len ∧ l[j].len ≤ 1073741824 from fun j h => HJ.out j h (by omega))
            have HJ2 := Lib.hid hj2
            clear hj2
            by_cases hlt2 : i2 < l.length
            · have hR := h.below hb2
              obtain ⟨a', c', e', hcap, hT⟩ := objs_take hR i2 (by omega)
              have hcut : ∀ W, (Instr.sliceAt 23 (.slice am l.length cm) none (some (.int .i64 (i2 : Int))) none).run Tryd.prog W = .ok (.slice a' i2 c') W := fun W => by
                rw [run_cut_h 23 sl_obj 3 sz_obj am l.length cm i2 .i64 (by omega) W, e']
              obtain ⟨b, o, rfl, hx⟩ := objs_at (h.below hb2) i2 hlt2
              obtain ⟨q0, q1, q2⟩ := hx i2 hlt2
              obtain ⟨m, hm⟩ : ∃ m, m = l[i2] := ⟨_, rfl⟩
              rw [← hm] at q0 q1 q2
              have HM := Lib.hid hm
              clear hx hm hcap e'
              go_upto_region 14 with fail
              have ba := below_alloc wr (.cells #[.string m.name, .int .i64 m.len, .int .u32 (m.sum : Int)] 46)
              have rowa := heap_alloc_new wr (.cells #[.string m.name, .int .i64 m.len, .int .u32 (m.sum : Int)] 46)
              obtain ⟨wa, hwa⟩ : ∃ wa, wa = wr.alloc (.cells #[.string m.name, .int .i64 m.len, .int .u32 (m.sum : Int)] 46) := ⟨_, rfl⟩
              obtain ⟨g, hg⟩ : ∃ g, g = wr.heap.size := ⟨_, rfl⟩
              rw [← hwa] at ba rowa ⊢
              rw [← hg] at rowa ⊢
              clear hwa hg q0 q1 q2
              have p0 : wa.cell? ⟨g, 0, none⟩ = some (.string m.name) := cell_of_row _ _ 0 _ _ _ rowa
              have B1 := nxt hb2 ba
              have hc := objsHas_is m.name g p0 (hT wa ba)
              rw [show (l.take i2).length = i2 by rw [List.length_take]; omega] at hT
              clear hT rowa
              go_wp2_with (first | exact hcut _ | fail)
              with_reducible refine hc.mono ?_
              rintro e w2 ⟨rfl, b2⟩
              have B2 := nxt B1 b2
              have k2 := g2 w2 B2
              clear hc
              cases hno : hasN (l.take i2) m.name
              · go_wp2_with fail
                refine ⟨⟨i2 + 1, by omega, by go_num, B2, fun j hjl hj => ?_⟩, by simp [intOf]; omega⟩
                by_cases e : j = i2
                · subst e; rw [← HM.out]; exact hno
                · exact HJ2.out j hjl (by omega)
              · go_wp2_with fail
                go_ret
                exact ⟨_, _, rfl, .twice i2 hlt2 (by omega) (fun j hj => HA.out j hj) (by rw [← HM.out]; exact hno), ⟨by omega, rfl⟩, B2⟩
            · go_wp2_with fail
              go_ret
              exact ⟨_, _, rfl, .fine (by rw [HP.out]; exact ⟨by omega, by omega, HA.out, fun j hjl => HJ2.out j hjl (by omega)⟩), rfl, hb2⟩
end Go.Proofs.YtldopocmmeidkaaDoor
