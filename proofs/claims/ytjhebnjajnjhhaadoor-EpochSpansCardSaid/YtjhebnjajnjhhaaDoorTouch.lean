/- One block may have turned, and new ones may be there: what reads on as it did. No program, no Go function is named here. -/
import Derived.Test.YtjhebnjajnjhhaaDoorBase
namespace Go.Proofs.YtjhebnjajnjhhaaDoor
open Go Go.RowKit

/-- Of what was there at most block g has turned. -/
def Touch (g : Nat) (w w' : World) : Prop := w.grownBy w' (some g)

theorem Touch.size {g : Nat} {w w' : World} (h : Touch g w w') : w.heap.size ≤ w'.heap.size := World.grownBy.size h
theorem Touch.block {g : Nat} {w w' : World} (h : Touch g w w') {k : Nat} (hk : k < w.heap.size) (hne : k ≠ g) : w'.heap[k]? = w.heap[k]? :=
  World.grownBy.block h k hk (fun e => hne (Option.some.inj e))
theorem Touch.refl (g : Nat) (w : World) : Touch g w w := ⟨rfl, rfl, rfl, Nat.le_refl _, fun _ _ _ => rfl⟩
theorem Touch.of_below {g : Nat} {w w' : World} (h : Below w.heap.size w w') : Touch g w w' := ⟨h.os, h.tape, h.output, h.size, fun k hk _ => h.block k hk⟩
theorem Touch.trans {g : Nat} {a b c : World} (h : Touch g a b) (k : Touch g b c) : Touch g a c :=
  ⟨(World.grownBy.os k).trans (World.grownBy.os h), (World.grownBy.tape k).trans (World.grownBy.tape h), (World.grownBy.output k).trans (World.grownBy.output h), Nat.le_trans h.size k.size,
    fun i hi hne => (World.grownBy.block k i (Nat.lt_of_lt_of_le hi h.size) hne).trans (World.grownBy.block h i hi hne)⟩
theorem Touch.setCell {g : Nat} (w : World) (k : Nat) (v : Value) : Touch g w (w.setCell ⟨g, k, none⟩ v) :=
  ⟨rfl, rfl, rfl, by simp [World.setCell], fun i _ hne => Below.heap_setCell _ _ _ _ (fun e => hne (by rw [e]))⟩
theorem Touch.set {g : Nat} {a w : World} (h : Touch g a w) (k : Nat) (v : Value) : Touch g a (w.setCell ⟨g, k, none⟩ v) := h.trans (Touch.setCell w k v)
theorem Touch.below {g B : Nat} {a w w' : World} (h : Touch g w w') (b : Below B a w) (hg : B ≤ g) (hB : B ≤ w.heap.size) : Below B a w' :=
  b.trans ⟨World.grownBy.os h, World.grownBy.tape h, World.grownBy.output h, h.size, fun k hk => h.block (by omega) (by omega)⟩
theorem Touch.new {g : Nat} {a w w' : World} (h : Touch g w w') (b : Below a.heap.size a w) (hg : a.heap.size ≤ g) : Below a.heap.size a w' := h.below b hg b.size
theorem Touch.heap {g k : Nat} {w w' : World} {o : Obj} (t : Touch g w w') (h : w.heap[k]? = some o) (hk : k ≠ g) : w'.heap[k]? = some o := by
  rw [t.block (Array.getElem?_eq_some_iff.1 h).1 hk]; exact h
theorem Touch.drewN {g : Nat} {a w : World} (h : Touch g a w) (n : Nat) : Touch g a (w.drewN n) := ⟨(World.grownBy.os h : w.os = a.os), (World.grownBy.tape h : w.tape = a.tape), (World.grownBy.output h : w.output = a.output), h.size, fun k hk hne => (World.grownBy.block h k hk hne : w.heap[k]? = a.heap[k]?)⟩
theorem Touch.of_grown {g : Nat} {w w' : World} {row : Option Nat} (h : w.grownBy w' row) (hr : ∀ k, row = some k → k = g) : Touch g w w' :=
  ⟨h.os, h.tape, h.output, h.size, fun k hk hne => h.block k hk (fun e => hne (by rw [hr k e.symm]))⟩

/-- Rows of unlike kinds are two. -/
theorem row_ne {w : World} {g k : Nat} {c c' : Array Value} {t t' : TypeId} {f f' : Nat × Nat} (h : w.heap[g]? = some (.cells c t f)) (h' : w.heap[k]? = some (.cells c' t' f')) (ht : t' ≠ t) : k ≠ g := by
  rintro rfl
  rw [h] at h'
  simp only [Option.some.injEq, Obj.cells.injEq] at h'
  exact ht h'.2.1.symm

theorem Touch.row {g k : Nat} {w w' : World} {c c' : Array Value} {t t' : TypeId} {f f' : Nat × Nat} (u : Touch g w w') (h : w.heap[g]? = some (.cells c t f)) (h' : w.heap[k]? = some (.cells c' t' f')) (ht : t' ≠ t) : w'.heap[k]? = some (.cells c' t' f') :=
  u.heap h' (row_ne h h' ht)

theorem Touch.owns {g base e sz n : Nat} {w w' : World} {v : Value} {xs : List Value} (u : Touch g w w') (h : w.ownsRow base e sz v n xs) {c : Array Value} {t : TypeId} {f : Nat × Nat} (hg : w.heap[g]? = some (.cells c t f)) (ht : e ≠ t) : w'.ownsRow base e sz v n xs := by
  refine ⟨h.1, ?_⟩
  rcases h.2 with hn | ⟨k, cap, cur, rfl, h1, h2, r⟩
  · exact .inl hn
  · exact .inr ⟨k, cap, cur, rfl, h1, u.row hg h2 ht, r⟩

/-- A row whose blocks lie from base on, where another one, below it, turned. -/
theorem Touch.owns_from {g base e sz n : Nat} {w w' : World} {v : Value} {xs : List Value} (u : Touch g w w') (h : w.ownsRow base e sz v n xs) (hg : g < base) : w'.ownsRow base e sz v n xs := by
  refine ⟨h.1, ?_⟩
  rcases h.2 with hn | ⟨k, cap, cur, rfl, h1, h2, r⟩
  · exact .inl hn
  · exact .inr ⟨k, cap, cur, rfl, h1, u.heap h2 (by omega), r⟩

/-- Where the row that has turned is one whose kind is known. -/
theorem owns_grown {base e sz n : Nat} {w w' : World} {v : Value} {xs : List Value} {row : Option Nat} (u : w.grownBy w' row) (h : w.ownsRow base e sz v n xs) {t : TypeId} (hr : ∀ k, row = some k → ∃ c f, w.heap[k]? = some (.cells c t f)) (ht : e ≠ t) : w'.ownsRow base e sz v n xs := by
  cases row with
  | none => exact owns_below h ⟨u.os, u.tape, u.output, u.size, fun k hk => u.block k hk (by simp)⟩
  | some g =>
    obtain ⟨c, f, hc⟩ := hr g rfl
    exact Touch.owns (g := g) u h hc ht

end Go.Proofs.YtjhebnjajnjhhaaDoor
