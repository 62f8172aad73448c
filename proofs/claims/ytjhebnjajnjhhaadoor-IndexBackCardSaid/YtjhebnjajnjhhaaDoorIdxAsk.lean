/- What an index is asked: its marks, the first offset whose time is not below one, where to begin to look; an addition that may not be. -/
import Derived.Test.YtjhebnjajnjhhaaDoorIdx
import Derived.Test.YtjhebnjajnjhhaaDoorSlices
namespace Go.Proofs.YtjhebnjajnjhhaaDoor
open Go Go.RowKit Idx

theorem sl_mark : Tryd.prog.underlying 31 = some (.slice (Tryd.prog.elem 31)) := by kernel_rfl
theorem info_mark' : (Tryd.prog.info? 34).map (fun i => (i.zero, i.size, i.bytes)) = some (some (.agg #[.int .i64 0, .int .i64 0, .int .i64 0]), 3, 24) := by kernel_rfl

theorem mkV_one (l : List Mk) : ∀ u ∈ l.flatMap mkV, u.oneCell' = true := by
  intro u hu
  obtain ⟨m, _, hm⟩ := List.mem_flatMap.1 hu
  simp only [mkV, List.mem_cons, List.not_mem_nil, or_false] at hm
  rcases hm with rfl | rfl | rfl <;> rfl

set_option maxHeartbeats 400000 in
theorem clone_marks (v : Value) (n : Nat) (xs : List Value) (w : World) (h : Rd w 3 v n xs) (h1 : ∀ u ∈ xs, u.oneCell' = true) (hn : n ≤ 1000000000) :
    Calls Tryd.prog 57 #[v] w (NewRow 34 3 n xs w) := by
  obtain ⟨i0, hi, hz0, hz1, hz2⟩ := info_parts info_mark'
  rcases h.2 with ⟨rfl, rfl⟩ | ⟨x, cap, rfl, hc, hm, hx⟩
  · have hxs : xs = [] := by have := h.1; simpa using this
    subst hxs
    have hq := fun w' => Lib.run_eql_slice_nil (P := Tryd.prog) w' 31 34 none 0 0 0 0 Tryd.underlying31
    go_enter Tryd.func57, Tryd.ntmps57
    go_wp2_with fail
    go_ret
    exact ⟨_, rfl, World.ownsRow_nil _ _ _ _, Below.refl _ _⟩
  · have hq := fun w' => Lib.run_eql_slice_nil (P := Tryd.prog) w' 31 34 (some x) n cap 0 0 Tryd.underlying31
    go_enter Tryd.func57, Tryd.ntmps57
    go_wp2_with (at_builtin; refine wpList_append_own _ rfl _ _ 31 rfl w.heap.size 34 i0 _ 3 24 Tryd.underlying31 hi hz0 hz1 hz2 rfl (by decide) _ 0 [] rfl (World.ownsRow_made w #[] 0 (Nat.le_refl _) (by decide) rfl) x n cap xs rfl ?c0 ?c1 ?c2 ?c3 ?c4 ?c5 ?_)
    case c0 => exact h.1
    case c1 => intro j u hu; have h3 := hx j u hu; rw [(Below.alloc (Below.refl w.heap.size w) (Nat.le_refl _) _).cell (World.block_lt_of_cell? w _ h3)]; exact h3
    case c2 => exact h1
    case c3 => unfold maxLen at hm ⊢; omega
    case c4 => omega
    case c5 => simp
    intro v' w' hown hgrow _
    go_wp2
    go_ret
    refine ⟨_, rfl, ?_, ?_⟩
    · simpa using hown
    · exact ((Below.refl _ _).alloc (Nat.le_refl _) _).grown hgrow (by simp) (by simp [Value.ownBlock])

set_option maxRecDepth 100000 in
theorem marks_calls {w : World} {F : Nat → Prop} {g : Nat} {x : Ix} (h : IdxAt w F g x) (hl : x.marks.length ≤ 1000000) :
    Calls Tryd.prog 20 #[.pointer (some ⟨g, 0, none⟩)] w (NewRow 34 3 x.marks.length (x.marks.flatMap mkV) w) := by
  obtain ⟨vm, va, h⟩ := h
  have hom := h.marks
  obtain ⟨am, cm, rfl⟩ := owns_slice hom
  have k1 : w.cell? ⟨g, 1, none⟩ = some (.slice am x.marks.length cm) := cell_of_row w g 1 _ _ _ h.row
  go_enter Tryd.func20, Tryd.ntmps20
  go_wp2_with fail
  refine (clone_marks _ _ _ _ (Rd.of_owns hom) (mkV_one _) (by omega)).mono ?_
  rintro e w1 ⟨v1, rfl, o1, b1⟩
  go_wp2_with fail
  go_ret
  exact ⟨_, rfl, o1, b1⟩

/-- What is told of a time. -/
def WhenPost (x : Ix) (t : Int) (w : World) (e : Ending) (w' : World) : Prop :=
  e = .returned (.tuple #[.int .i64 ((Idx.when x t).getD 0), .bool (Idx.when x t).isSome]) ∧ Below w.heap.size w w'

theorem when_none (l : List Mk) (t : Int) (h : ∀ m ∈ l, m.time < t) : l.find? (fun m => decide (t ≤ m.time)) = none := by
  rw [List.find?_eq_none]; intro m hm; have := h m hm; simp; omega

set_option maxRecDepth 100000 in
set_option maxHeartbeats 1000000 in
theorem when_calls {w : World} {F : Nat → Prop} {g : Nat} {x : Ix} (h : IdxAt w F g x) (t : Int) :
    Calls Tryd.prog 21 #[.pointer (some ⟨g, 0, none⟩), .int .i64 t] w (WhenPost x t w) := by
  obtain ⟨vm, va, h⟩ := h
  have hom := Rd.of_owns h.marks
  obtain ⟨am, cm, rfl⟩ := hom.slice
  have m1 := hom.len_le
  have k1 : w.cell? ⟨g, 1, none⟩ = some (.slice am x.marks.length cm) := cell_of_row w g 1 _ _ _ h.row
  clear h
  go_enter Tryd.func21, Tryd.ntmps21
  go_wp2_with fail
  go_loopw [7, 13] (fun _ iv wr => ∃ i : Nat, i ≤ x.marks.length ∧ iv = .int .i64 i ∧ (∀ m ∈ x.marks.take i, m.time < t) ∧ Below w.heap.size w wr) (fun _ iv _ => x.marks.length - (intOf iv).toNat)
  case atStart => exact ⟨0, Nat.zero_le _, rfl, by simp, Below.refl _ _⟩
  case round =>
    obtain ⟨i, hi, rfl, hs, hb⟩ := hrel
    have HS := Lib.hid hs
    clear hs
    by_cases hlt : i < x.marks.length
    · obtain ⟨b, o, rfl, hc1, hm1, hx1⟩ := (hom.below hb).at (by omega) (by omega)
      obtain ⟨q0, q1, q2⟩ := mk_cells hx1 i hlt
      have hsplit : x.marks = x.marks.take i ++ x.marks[i] :: x.marks.drop (i + 1) := by rw [← List.drop_eq_getElem_cons hlt, List.take_append_drop]
      have hnext : x.marks.take (i + 1) = x.marks.take i ++ [x.marks[i]] := List.take_succ_eq_append_getElem hlt
      have HSP := Lib.hid hsplit
      have HNX := Lib.hid hnext
      clear hx1 hsplit hnext
      generalize x.marks[i] = m at *
      have b2 := nxt hb (below_alloc wr (.cells #[.int .i64 m.off, .int .i64 m.time, .int .i64 m.pos] 34))
      by_cases ht : t ≤ m.time
      · go_wp2_with fail
        go_ret2
        unfold WhenPost
        have hf : Idx.when x t = some m.off := by
          unfold Idx.when
          rw [HSP.out, List.find?_append, when_none _ _ HS.out]
          simp [ht]
        rw [hf]
        exact ⟨rfl, b2⟩
      · go_wp2_with fail
        refine ⟨⟨i + 1, by omega, by go_num, ?_, b2⟩, by simp [intOf]; omega⟩
        intro y hy
        rw [HNX.out] at hy
        rcases List.mem_append.1 hy with h1 | h1
        · exact HS.out y h1
        · simp only [List.mem_singleton] at h1; subst h1; omega
    · have hall : Idx.when x t = none := by
        unfold Idx.when
        have := HS.out
        rw [List.take_of_length_le (by omega)] at this
        rw [when_none _ _ this]; rfl
      have HA := Lib.hid hall
      clear hall
      go_wp2_with fail
      go_ret2
      unfold WhenPost
      rw [HA.out]
      exact ⟨rfl, hb⟩

def FindPost (x : Ix) (o : Int) (w : World) (e : Ending) (w' : World) : Prop :=
  e = .returned (.int .i64 (Idx.find x o)) ∧ Below w.heap.size w w'

set_option maxRecDepth 100000 in
set_option maxHeartbeats 1000000 in
theorem find_calls {w : World} {F : Nat → Prop} {g : Nat} {x : Ix} (h : IdxAt w F g x) (off : Int) :
    Calls Tryd.prog 24 #[.pointer (some ⟨g, 0, none⟩), .int .i64 off] w (FindPost x off w) := by
  obtain ⟨vm, va, h⟩ := h
  have hom := Rd.of_owns h.marks
  obtain ⟨am, cm, rfl⟩ := hom.slice
  have m1 := hom.len_le
  have k1 : w.cell? ⟨g, 1, none⟩ = some (.slice am x.marks.length cm) := cell_of_row w g 1 _ _ _ h.row
  clear h
  go_enter Tryd.func24, Tryd.ntmps24
  go_wp2_with fail
  go_loopw [5, 7, 13] (fun pv _ iv wr => ∃ i : Nat, i ≤ x.marks.length ∧ iv = .int .i64 i ∧ pv = .int .i64 ((x.marks.take i).foldl (fun p m => if m.off ≤ off then m.pos else p) 0) ∧ Below w.heap.size w wr) (fun _ _ iv _ => x.marks.length - (intOf iv).toNat)
  case atStart => exact ⟨0, Nat.zero_le _, rfl, rfl, Below.refl _ _⟩
  case round =>
    obtain ⟨i, hi, rfl, rfl, hb⟩ := hrel
    by_cases hlt : i < x.marks.length
    · obtain ⟨b, o, rfl, hc1, hm1, hx1⟩ := (hom.below hb).at (by omega) (by omega)
      obtain ⟨q0, q1, q2⟩ := mk_cells hx1 i hlt
      have hnext : (x.marks.take (i + 1)).foldl (fun p m => if m.off ≤ off then m.pos else p) 0 = if x.marks[i].off ≤ off then x.marks[i].pos else (x.marks.take i).foldl (fun p m => if m.off ≤ off then m.pos else p) 0 := by
        rw [List.take_succ_eq_append_getElem hlt, List.foldl_append]; rfl
      have HNX := Lib.hid hnext
      clear hx1 hnext
      generalize x.marks[i] = m at *
      generalize (x.marks.take i).foldl (fun p m => if m.off ≤ off then m.pos else p) 0 = q at *
      have b2 := nxt hb (below_alloc wr (.cells #[.int .i64 m.off, .int .i64 m.time, .int .i64 m.pos] 34))
      by_cases ht : m.off ≤ off
      · go_wp2_with fail
        refine ⟨⟨i + 1, by omega, by go_num, congrArg (Value.int .i64) ?_, b2⟩, by simp [intOf]; omega⟩
        rw [HNX.out, if_pos ht]
      · go_wp2_with fail
        refine ⟨⟨i + 1, by omega, by go_num, congrArg (Value.int .i64) ?_, b2⟩, by simp [intOf]; omega⟩
        rw [HNX.out, if_neg ht]
    · have hall : x.marks.take i = x.marks := List.take_of_length_le (by omega)
      rw [hall]
      clear hall
      go_wp2_with fail
      go_ret
      exact ⟨rfl, hb⟩

/-- An addition whose numbers may not be is refused. -/
theorem idxAdd_wrong (S : List Nat) (A : Nat → Addr) {w : World} (hS : Sents S w A) (h4 : 4 ∈ S) (g : Nat) (m : Mk) (size : Int) (hr : Idx.right m = false) :
    Calls Tryd.prog 19 #[.pointer (some ⟨g, 0, none⟩), .int .i64 m.off, .int .i64 m.time, .int .i64 m.pos, .int .i64 size] w (fun e w' => e = .returned (senV A 4) ∧ Below w.heap.size w w') := by
  have hc := idxRight_calls m (w.alloc (.cells #[.int .i64 m.off, .int .i64 m.time, .int .i64 m.pos] 34))
  rw [hr] at hc
  have b1 := below_alloc w (.cells #[.int .i64 m.off, .int .i64 m.time, .int .i64 m.pos] 34)
  have g4 : ∀ w', Below w.heap.size w w' → w'.cell? ⟨0, 0, none⟩ = some (.iface 172 (.pointer (some (A 4)))) := fun w' b => (hS.below b).cell 4 h4
  clear hr
  go_enter Tryd.func19, Tryd.ntmps19
  go_wp2_with fail
  refine hc.mono ?_
  rintro e w2 ⟨rfl, b2⟩
  have k4 := g4 _ (nxt b1 b2)
  go_wp2_with fail
  go_ret
  exact ⟨rfl, nxt b1 b2⟩
end Go.Proofs.YtjhebnjajnjhhaaDoor
