/- What a lineage is asked: where an offset lies, its last pair, its pairs. -/
import Derived.Test.YtdlcpcpcojpecaaDoorEpoEnd
namespace Go.Proofs.YtdlcpcpcojpecaaDoor
open Go Go.RowKit Epo

def PlacePost (l : List Pr) (o : Int) (w : World) (e : Ending) (w' : World) : Prop :=
  e = .returned (.int .i64 (lastK (·.st) o l l.length)) ∧ Below w.heap.size w w'

set_option maxRecDepth 100000 in
set_option maxHeartbeats 1000000 in
theorem place_calls {w : World} {F : Nat → Prop} {g : Nat} {l : List Pr} (h : LineAt w F g l) (n : Int) :
    Calls Tryd.prog 42 #[.pointer (some ⟨g, 0, none⟩), .int .i64 n] w (PlacePost l n w) := by
  obtain ⟨v, h⟩ := h
  have hom := Rd.of_owns h.pairs
  have hrow := h.row
  obtain ⟨am, cm, rfl⟩ := hom.slice
  have m1 := hom.len_le
  have k1 : w.cell? ⟨g, 0, none⟩ = some (.slice am l.length cm) := cell_of_row w g 0 _ _ _ hrow
  clear h hrow
  go_enter Tryd.func42, Tryd.ntmps42
  go_wp2_with fail
  go_loopw [5, 13] (fun v9 iv wr => ∃ i : Nat, i ≤ l.length ∧ iv = .int .i64 i ∧ v9 = .int .i64 (lastK (·.st) n l i) ∧ Below w.heap.size w wr) (fun _ iv _ => l.length - (intOf iv).toNat)
  case atStart => exact ⟨0, Nat.zero_le _, rfl, rfl, Below.refl _ _⟩
  case round =>
    obtain ⟨i, hi, rfl, rfl, hb⟩ := hrel
    by_cases hlt : i < l.length
    · obtain ⟨b, o, rfl, hc1, hm1, hx1⟩ := (hom.below hb).at (by omega) (by omega)
      obtain ⟨q0, q1⟩ := pr_cells hx1 i hlt
      have hnext := lastK_next (·.st) n l i hlt
      have HNX := Lib.hid hnext
      clear hx1 hnext
      generalize l[i] = m at *
      generalize lastK (·.st) n l i = q at *
      have b2 := nxt hb (below_alloc wr (.cells #[.int .i64 m.ep, .int .i64 m.st] 46))
      by_cases ht : m.st ≤ n
      · go_wp2_with fail
        refine ⟨⟨i + 1, by omega, by go_num, congrArg (Value.int .i64) ?_, b2⟩, by simp [intOf]; omega⟩
        rw [HNX.out, if_pos ht]
      · go_wp2_with fail
        refine ⟨⟨i + 1, by omega, by go_num, congrArg (Value.int .i64) ?_, b2⟩, by simp [intOf]; omega⟩
        rw [HNX.out, if_neg ht]
    · obtain rfl : i = l.length := by omega
      go_wp2_with fail
      go_ret
      exact ⟨rfl, hb⟩

def AtSays (l : List Pr) (o : Int) (x : Int) (b : Bool) : Prop :=
  (lastK (·.st) o l l.length = -1 ∧ x = 0 ∧ b = false) ∨ ∃ k, ∃ hk : k < l.length, lastK (·.st) o l l.length = (k : Int) ∧ x = l[k].ep ∧ b = true
def AtPost (l : List Pr) (o : Int) (w : World) (e : Ending) (w' : World) : Prop :=
  ∃ x b, e = .returned (.tuple #[.int .i64 x, .bool b]) ∧ AtSays l o x b ∧ Below w.heap.size w w'

set_option maxRecDepth 100000 in
set_option maxHeartbeats 1000000 in
theorem at_calls {w : World} {F : Nat → Prop} {g : Nat} {l : List Pr} (h : LineAt w F g l) (n : Int) :
    Calls Tryd.prog 32 #[.pointer (some ⟨g, 0, none⟩), .int .i64 n] w (AtPost l n w) := by
  have hpl := place_calls h n
  obtain ⟨v, h⟩ := h
  have hom := Rd.of_owns h.pairs
  have hrow := h.row
  obtain ⟨am, cm, rfl⟩ := hom.slice
  have m1 := hom.len_le
  have hbd := lastK_bd (·.st) n l l.length
  unfold PlacePost at hpl
  clear h
  by_cases hneg : lastK (·.st) n l l.length < 0
  · have HQ := Lib.hid (show lastK (·.st) n l l.length = -1 by omega)
    obtain ⟨q, hq⟩ : ∃ q, q = lastK (·.st) n l l.length := ⟨_, rfl⟩
    rw [← hq] at hpl hbd hneg
    clear hq
    go_enter Tryd.func32, Tryd.ntmps32
    go_wp2_with fail
    refine hpl.mono ?_
    rintro e w1 ⟨rfl, b1⟩
    go_wp2_with fail
    go_ret2
    unfold AtPost AtSays
    exact ⟨0, false, rfl, .inl ⟨HQ.out, rfl, rfl⟩, b1⟩
  · obtain ⟨k, hk⟩ : ∃ k : Nat, lastK (·.st) n l l.length = (k : Int) := ⟨(lastK (·.st) n l l.length).toNat, by omega⟩
    have hkl : k < l.length := by omega
    have HK := Lib.hid hk
    rw [hk] at hpl
    clear hk hneg hbd
    go_enter Tryd.func32, Tryd.ntmps32
    go_wp2_with fail
    refine hpl.mono ?_
    rintro e w1 ⟨rfl, b1⟩
    have k1 : w1.cell? ⟨g, 0, none⟩ = some (.slice am l.length cm) := cell_of_row w1 g 0 _ _ _ (heap_below b1 hrow)
    obtain ⟨b, o, rfl, hc1, hm1, hx1⟩ := (hom.below b1).at (by omega) (by omega)
    obtain ⟨q0, q1⟩ := pr_cells hx1 k hkl
    obtain ⟨x, hx⟩ : ∃ x, x = l[k] := ⟨_, rfl⟩
    rw [← hx] at q0 q1
    have HX := Lib.hid hx
    clear hx1 hx
    go_wp2_with fail
    go_ret2
    unfold AtPost AtSays
    exact ⟨_, _, rfl, .inr ⟨k, hkl, HK.out, by rw [HX.out], rfl⟩, b1⟩

set_option maxRecDepth 100000 in
theorem pairs_calls {w : World} {F : Nat → Prop} {g : Nat} {l : List Pr} (h : LineAt w F g l) (hl : l.length ≤ 1000000) :
    Calls Tryd.prog 10 #[.pointer (some ⟨g, 0, none⟩)] w (NewRow 46 2 l.length (l.flatMap prV) w) := by
  obtain ⟨v, h⟩ := h
  have hom := Rd.of_owns h.pairs
  have hrow := h.row
  obtain ⟨am, cm, rfl⟩ := hom.slice
  have k1 : w.cell? ⟨g, 0, none⟩ = some (.slice am l.length cm) := cell_of_row w g 0 _ _ _ hrow
  go_enter Tryd.func10, Tryd.ntmps10
  go_wp2_with fail
  refine (clone_pairs _ _ _ _ hom (prV_one _) (by omega)).mono ?_
  rintro e w1 ⟨v1, rfl, o1, b1⟩
  go_wp2_with fail
  go_ret
  exact ⟨_, rfl, o1, b1⟩
end Go.Proofs.YtdlcpcpcojpecaaDoor
