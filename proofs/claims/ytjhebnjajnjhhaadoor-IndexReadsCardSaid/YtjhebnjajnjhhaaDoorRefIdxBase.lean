/- The document's ReadIndex: what stands in memory while it reads; NewIndex, RightTime. -/
import Derived.Test.YtjhebnjajnjhhaaDoorRefReadPairs
import Derived.Test.YtjhebnjajnjhhaaDoorRefReaderInt
import Derived.Test.YtjhebnjajnjhhaaDoorRefOpen
import Derived.Test.YtjhebnjajnjhhaaDoorIdx
import Derived.Test.YtjhebnjajnjhhaaDoorPlain
namespace Go.Proofs.YtjhebnjajnjhhaaDoor
open Go Go.RowKit Idx Vint

theorem refMarkSize : (Tryd.prog.info? 141).map (·.size) = some 3 := by kernel_rfl
theorem info_refMark : (Tryd.prog.info? 141).map (fun i => (i.zero, i.size, i.bytes)) = some (some (.agg #[.int .i64 0, .int .i64 0, .int .i64 0]), 3, 24) := by kernel_rfl

set_option maxRecDepth 100000 in
theorem refTime_calls (a : Int) (w : World) :
    Calls Tryd.prog 92 #[.int .i64 a] w (fun e w' => e = .returned (.bool (decide (-1099511627776 ≤ a ∧ a ≤ 1099511627776))) ∧ w = w') := by
  by_cases h1 : -1099511627776 ≤ a
  · by_cases h2 : a ≤ 1099511627776
    · rw [decide_eq_true (⟨h1, h2⟩ : -1099511627776 ≤ a ∧ a ≤ 1099511627776)]
      go_enter Tryd.func92, Tryd.ntmps92
      go_wp2_with fail
      go_ret
      exact ⟨rfl, rfl⟩
    · rw [decide_eq_false (fun h : -1099511627776 ≤ a ∧ a ≤ 1099511627776 => h2 h.2)]
      have hd : decide (a ≤ 1099511627776) = false := decide_eq_false h2
      go_enter Tryd.func92, Tryd.ntmps92
      go_wp2_with fail
      go_ret
      exact ⟨rfl, rfl⟩
  · rw [decide_eq_false (fun h : -1099511627776 ≤ a ∧ a ≤ 1099511627776 => h1 h.1)]
    go_enter Tryd.func92, Tryd.ntmps92
    go_wp2_with fail
    go_ret
    exact ⟨rfl, rfl⟩

set_option maxRecDepth 100000 in
theorem refNewIdx_zero (w : World) :
    Calls Tryd.prog 93 #[.int .i64 0] w (fun e w' => e = .returned (.pointer none) ∧ w = w') := by
  go_enter Tryd.func93, Tryd.ntmps93
  go_wp2_with fail
  go_ret
  exact ⟨rfl, rfl⟩

set_option maxRecDepth 100000 in
theorem refNewIdx_calls (every : Int) (w : World) (h1 : 1 ≤ every) (h2 : every ≤ 1048576) :
    Calls Tryd.prog 93 #[.int .i64 every] w (fun e w' => e = .returned (.pointer (some ⟨w.heap.size, 0, none⟩)) ∧ w'.heap[w.heap.size]? = some (.cells #[.int .i64 every, .slice none 0 0, .slice none 0 0, .int .i64 0, .bool false] 95 (0, 0)) ∧ Below w.heap.size w w') := by
  go_enter Tryd.func93, Tryd.ntmps93
  go_wp2_with fail
  go_ret
  exact ⟨rfl, heap_alloc_new w _, below_alloc _ _⟩

/-- While it reads: the reader, the last mark, the marks, and the result's cell. -/
structure RIx (w0 : World) (f gr g10 : Nat) (vr lv : Value) (s : Rs) (q : Mk) (l : List Mk) (w : World) : Prop where
  rdr : RefR w gr vr s
  last : w.heap[g10]? = some (.cells #[.int .i64 q.off, .int .i64 q.time, .int .i64 q.pos] 141 (0, 0))
  row : w.ownsRow (g10 + 1) 141 3 lv l.length (l.flatMap mkV)
  fault : w.heap[f]? = some (.cells #[.int .i64 0, .bool false, .int .i64 0] 67 (0, 0))
  bel : Below w0.heap.size w0 w
  o0 : w0.heap.size ≤ f
  o1 : f < gr
  o2 : gr < g10
  off : ∀ k, gr ≤ k → OffV k vr

theorem RIx.below {w0 w w1 : World} {f gr g10 : Nat} {vr lv : Value} {s : Rs} {q : Mk} {l : List Mk} (h : RIx w0 f gr g10 vr lv s q l w) (b : Below w.heap.size w w1) : RIx w0 f gr g10 vr lv s q l w1 :=
  ⟨h.rdr.below b, heap_below b h.last, owns_below h.row b, heap_below b h.fault, nxt h.bel b, h.o0, h.o1, h.o2, h.off⟩

/-- The reader has gone on. -/
theorem RIx.read {w0 w w1 : World} {f gr g10 : Nat} {vr lv : Value} {s s1 : Rs} {q : Mk} {l : List Mk} (h : RIx w0 f gr g10 vr lv s q l w) (t : Touch gr w w1) (r : RefR w1 gr vr s1) : RIx w0 f gr g10 vr lv s1 q l w1 :=
  ⟨r, t.heap h.last (by have := h.o2; omega), t.owns_from h.row (by have := h.o2; omega), t.heap h.fault (by have := h.o1; omega), t.new h.bel (by have := h.o0; have := h.o1; omega), h.o0, h.o1, h.o2, h.off⟩

/-- A block of its own, behind the last mark's, is written. -/
theorem RIx.other {w0 w w1 : World} {f gr g10 gm : Nat} {vr lv : Value} {s : Rs} {q : Mk} {l : List Mk} (h : RIx w0 f gr g10 vr lv s q l w) (t : Touch gm w w1) (hg : g10 < gm) (hn : lv.ownBlock ≠ some gm)
    {c : Array Value} (hk : w.heap[gm]? = some (.cells c 141 (0, 0))) : RIx w0 f gr g10 vr lv s q l w1 :=
  ⟨h.rdr.touch t hk (by decide) (h.off gm (by have := h.o0; have := h.o1; have := h.o2; omega)), t.heap h.last (by omega),
   (Frame.of_touch (F := fun k => k = gm) t rfl).owns h.row (fun k hk e => hn (by rw [hk, e])), t.heap h.fault (by have := h.o1; have := h.o2; omega), t.new h.bel (by have := h.o0; have := h.o1; have := h.o2; omega), h.o0, h.o1, h.o2, h.off⟩

/-- The last mark's block is written. -/
theorem RIx.lasts {w0 w w1 : World} {f gr g10 : Nat} {vr lv : Value} {s : Rs} {q q1 : Mk} {l : List Mk} (h : RIx w0 f gr g10 vr lv s q l w) (t : Touch g10 w w1) (hk : w1.heap[g10]? = some (.cells #[.int .i64 q1.off, .int .i64 q1.time, .int .i64 q1.pos] 141 (0, 0))) :
    RIx w0 f gr g10 vr lv s q1 l w1 :=
  ⟨h.rdr.touch t h.last (by decide) (h.off g10 (by have := h.o0; have := h.o1; have := h.o2; omega)), hk, t.owns_from h.row (by omega), t.heap h.fault (by have := h.o1; have := h.o2; omega), t.new h.bel (by have := h.o0; have := h.o1; have := h.o2; omega), h.o0, h.o1, h.o2, h.off⟩

/-- The row has grown. -/
theorem RIx.grown {w0 w w1 : World} {f gr g10 : Nat} {vr lv lv' : Value} {s : Rs} {q : Mk} {l l' : List Mk} (h : RIx w0 f gr g10 vr lv s q l w) (g : w.grownBy w1 lv.ownBlock) (ho : w1.ownsRow (g10 + 1) 141 3 lv' l'.length (l'.flatMap mkV)) : RIx w0 f gr g10 vr lv' s q l' w1 := by
  have hge : ∀ k, lv.ownBlock = some k → g10 + 1 ≤ k := owns_ge h.row
  have a0 := h.o0
  have a1 := h.o1
  have a2 := h.o2
  refine ⟨h.rdr.grown g (owns_rowAt h.row) (by decide) (fun k hk => h.off k (by have := hge k hk; omega)), ?_, ho, ?_, h.bel.grown g h.bel.size (fun k hk => by have := hge k hk; omega), a0, a1, a2, h.off⟩
  · rw [g.block _ (Array.getElem?_eq_some_iff.1 h.last).1 (fun e => by have := hge _ e.symm; omega)]; exact h.last
  · rw [g.block _ (Array.getElem?_eq_some_iff.1 h.fault).1 (fun e => by have := hge _ e.symm; omega)]; exact h.fault
end Go.Proofs.YtjhebnjajnjhhaaDoor
