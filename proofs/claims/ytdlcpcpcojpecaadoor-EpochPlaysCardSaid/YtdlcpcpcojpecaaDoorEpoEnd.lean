/- Line.End: where an epoch ends; chapter 9's examples. -/
import Derived.Test.YtdlcpcpcojpecaaDoorEpoNew
import Derived.Handy
namespace Go.Proofs.YtdlcpcpcojpecaaDoor
open Go Go.RowKit Epo

/-- What is told of an epoch's end. -/
def EndSays (l : List Pr) (n t : Int) (x y : Int) (b : Bool) : Prop :=
  (lastK (·.ep) n l l.length = -1 ∧ x = 0 ∧ y = 0 ∧ b = false) ∨
  ∃ k, ∃ hk : k < l.length, lastK (·.ep) n l l.length = (k : Int) ∧ x = l[k].ep ∧ (if h : k + 1 < l.length then y = l[k + 1].st else y = t) ∧ b = true

def EndPost (l : List Pr) (n t : Int) (w : World) (e : Ending) (w' : World) : Prop :=
  ∃ x y b, e = .returned (.tuple #[.int .i64 x, .int .i64 y, .bool b]) ∧ EndSays l n t x y b ∧ Below w.heap.size w w'

theorem lastK_next (f : Pr → Int) (n : Int) (l : List Pr) (i : Nat) (h : i < l.length) : lastK f n l (i + 1) = if f l[i] ≤ n then (i : Int) else lastK f n l i := by
  conv => lhs; unfold lastK
  rw [List.getElem?_eq_getElem h]

set_option maxRecDepth 100000 in
set_option maxHeartbeats 2000000 in
theorem end_calls {w : World} {F : Nat → Prop} {g : Nat} {l : List Pr} (h : LineAt w F g l) (n t : Int) :
    Calls Tryd.prog 19 #[.pointer (some ⟨g, 0, none⟩), .int .i64 n, .int .i64 t] w (EndPost l n t w) := by
  obtain ⟨v, h⟩ := h
  have hom := Rd.of_owns h.pairs
  have hrow := h.row
  obtain ⟨am, cm, rfl⟩ := hom.slice
  have m1 := hom.len_le
  have k1 : w.cell? ⟨g, 0, none⟩ = some (.slice am l.length cm) := cell_of_row w g 0 _ _ _ hrow
  have K1 : ∀ w', Below w.heap.size w w' → w'.cell? ⟨g, 0, none⟩ = some (.slice am l.length cm) := fun w' b => cell_of_row w' g 0 _ _ _ (heap_below b hrow)
  clear h hrow
  go_enter Tryd.func19, Tryd.ntmps19
  go_wp2_with fail
  go_loopw [9, 17] (fun v9 iv wr => ∃ i : Nat, i ≤ l.length ∧ iv = .int .i64 i ∧ v9 = .int .i64 (lastK (·.ep) n l i) ∧ Below w.heap.size w wr) (fun _ iv _ => l.length - (intOf iv).toNat)
  case atStart => exact ⟨0, Nat.zero_le _, rfl, rfl, Below.refl _ _⟩
  case round =>
    obtain ⟨i, hi, rfl, rfl, hb⟩ := hrel
    by_cases hlt : i < l.length
    · obtain ⟨b, o, rfl, hc1, hm1, hx1⟩ := (hom.below hb).at (by omega) (by omega)
      obtain ⟨q0, q1⟩ := pr_cells hx1 i hlt
      have hnext := lastK_next (·.ep) n l i hlt
      have HNX := Lib.hid hnext
      clear hx1 hnext
      generalize l[i] = m at *
      generalize lastK (·.ep) n l i = q at *
      have b2 := nxt hb (below_alloc wr (.cells #[.int .i64 m.ep, .int .i64 m.st] 46))
      by_cases ht : m.ep ≤ n
      · go_wp2_with fail
        refine ⟨⟨i + 1, by omega, by go_num, congrArg (Value.int .i64) ?_, b2⟩, by simp [intOf]; omega⟩
        rw [HNX.out, if_pos ht]
      · go_wp2_with fail
        refine ⟨⟨i + 1, by omega, by go_num, congrArg (Value.int .i64) ?_, b2⟩, by simp [intOf]; omega⟩
        rw [HNX.out, if_neg ht]
    · obtain rfl : i = l.length := by omega
      have hbd := lastK_bd (·.ep) n l l.length
      have kb := K1 wr hb
      by_cases hneg : lastK (·.ep) n l l.length < 0
      · have HQ := Lib.hid (show lastK (·.ep) n l l.length = -1 by omega)
        generalize hq : lastK (·.ep) n l l.length = q at *
        have HQ2 := Lib.hid hq
        clear hq
        go_wp2_with fail
        go_ret3
        unfold EndPost EndSays
        exact ⟨0, 0, false, rfl, .inl ⟨by rw [HQ2.out]; exact HQ.out, rfl, rfl, rfl⟩, hb⟩
      · obtain ⟨k, hk⟩ : ∃ k : Nat, lastK (·.ep) n l l.length = (k : Int) := ⟨(lastK (·.ep) n l l.length).toNat, by omega⟩
        have hkl : k < l.length := by omega
        have HK := Lib.hid hk
        rw [hk]
        clear hk hneg hbd
        obtain ⟨b, o, rfl, hc1, hm1, hx1⟩ := (hom.below hb).at (by omega) (by omega)
        obtain ⟨q0, q1⟩ := pr_cells hx1 k hkl
        by_cases hk2 : k + 1 < l.length
        · obtain ⟨p0, p1⟩ := pr_cells hx1 (k + 1) hk2
          obtain ⟨x, hx⟩ : ∃ x, x = l[k] := ⟨_, rfl⟩
          obtain ⟨y, hy⟩ : ∃ y, y = l[k + 1] := ⟨_, rfl⟩
          rw [← hx] at q0 q1
          rw [← hy] at p0 p1
          have HX := Lib.hid hx
          have HY := Lib.hid hy
          clear hx1 hx hy
          go_wp2_with fail
          go_quiet (fail)
          go_wp2_with fail
          go_ret3
          unfold EndPost EndSays
          exact ⟨_, _, _, rfl, .inr ⟨k, hkl, HK.out, by rw [HX.out], by rw [dif_pos hk2, HY.out], rfl⟩, below_drewN hb _⟩
        · obtain ⟨x, hx⟩ : ∃ x, x = l[k] := ⟨_, rfl⟩
          rw [← hx] at q0 q1
          have HX := Lib.hid hx
          clear hx1 hx
          go_wp2_with fail
          go_ret3
          unfold EndPost EndSays
          exact ⟨_, _, _, rfl, .inr ⟨k, hkl, HK.out, by rw [HX.out], by rw [dif_neg hk2], rfl⟩, hb⟩

set_option maxRecDepth 100000 in
set_option maxHeartbeats 1000000 in
theorem epoFirst_calls (S : List Nat) (A : Nat → Addr) (w : World) (hS : Sents S w A) (h2 : 2 ∈ S) (h3 : 3 ∈ S) (h4 : 4 ∈ S) :
    Calls Tryd.prog 4 #[] w (fun e w' => e = .returned (.bool true) ∧ Below w.heap.size w w') := by
  have b0 := below_alloc w (.cells #[.int .i64 1, .int .i64 0, .int .i64 3, .int .i64 10] 46)
  have r0 : Rd (w.alloc (.cells #[.int .i64 1, .int .i64 0, .int .i64 3, .int .i64 10] 46)) 2 (.slice (some ⟨w.heap.size, 0, none⟩) 2 2) ([⟨1, 0⟩, ⟨3, 10⟩] : List Pr).length (([⟨1, 0⟩, ⟨3, 10⟩] : List Pr).flatMap prV) := Rd.new w #[.int .i64 1, .int .i64 0, .int .i64 3, .int .i64 10] 46 2 2 rfl (by decide)
  have hn := new_calls S A (hS.below b0) h2 h3 h4 r0
  go_enter Tryd.func4, Tryd.ntmps4
  go_wp2_with fail
  refine hn.mono ?_
  rintro e w1 ⟨hv, b1⟩
  have hv0 : valid [⟨1, 0⟩, ⟨3, 10⟩] = 0 := by decide
  rcases hv with ⟨_, F, g, rfl, hl, _⟩ | ⟨hne, _⟩
  · have he := end_calls hl 2 20
    clear hn r0 hv0
    go_wp2_with fail
    refine he.mono ?_
    rintro e w2 ⟨x, y, b, rfl, hs, b2⟩
    have hxy : x = 1 ∧ y = 10 ∧ b = true := by
      have hk : lastK (·.ep) 2 [⟨1, 0⟩, ⟨3, 10⟩] 2 = 0 := by decide
      unfold EndSays at hs
      rcases hs with ⟨h1, _⟩ | ⟨k, hk1, h1, rfl, h3, rfl⟩
      · rw [show ([⟨1, 0⟩, ⟨3, 10⟩] : List Pr).length = 2 from rfl, hk] at h1; omega
      · rw [show ([⟨1, 0⟩, ⟨3, 10⟩] : List Pr).length = 2 from rfl, hk] at h1
        obtain rfl : k = 0 := by omega
        rw [dif_pos (by decide)] at h3
        exact ⟨rfl, h3, rfl⟩
    obtain ⟨rfl, rfl, rfl⟩ := hxy
    go_wp2_with fail
    go_ret
    exact ⟨rfl, nxt (nxt b0 b1) b2⟩
  · exact absurd hv0 hne
end Go.Proofs.YtdlcpcpcojpecaaDoor
