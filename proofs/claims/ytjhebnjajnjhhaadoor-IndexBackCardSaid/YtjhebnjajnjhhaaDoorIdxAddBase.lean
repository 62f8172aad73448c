/- index.Add: what it leaves; the last of what was added. -/
import Derived.Test.YtjhebnjajnjhhaaDoorIdx
namespace Go.Proofs.YtjhebnjajnjhhaaDoor
open Go Go.RowKit Idx

/-- What an addition leaves. -/
def AddPost (F : Nat → Prop) (g : Nat) (x' : Ix) (w : World) (e : Ending) (w' : World) : Prop :=
  e = .returned .nilIface ∧ ∃ F', IdxAt w' F' g x' ∧ (∀ k, F' k → F k ∨ w.heap.size ≤ k) ∧ Frame F w w'

theorem info_mark : (Tryd.prog.info? 34).map (fun i => (i.zero, i.size, i.bytes)) = some (some (.agg #[.int .i64 0, .int .i64 0, .int .i64 0]), 3, 24) := by kernel_rfl

/-- The last of what was added, as a walk wants it. -/
theorem last_add {w : World} {x : Ix} {a : Option Addr} {n c : Nat} (h : w.ownsRow 0 34 3 (.slice a n c) n (x.adds.flatMap adV)) (hn : x.adds.length = n) (k : Nat) (hk : n = k + 1) :
    ∃ b, a = some ⟨b, 0, none⟩ ∧ n ≤ c ∧ ∃ y, x.adds.getLast? = some y ∧ w.cell? ⟨b, k * 3, none⟩ = some (.int .i64 y.1) ∧ w.cell? ⟨b, k * 3 + 2, none⟩ = some (.int .i64 y.2) := by
  obtain ⟨b, rfl, _⟩ := owns_at h (by omega)
  obtain ⟨b', o, e, hc, _, hx⟩ := (Rd.of_owns h).at (by omega)
  simp only [Option.some.injEq, Addr.mk.injEq] at e
  obtain ⟨rfl, rfl, _⟩ := e
  have hk2 : k < x.adds.length := by omega
  obtain ⟨h1, _, h3⟩ := ad_cells hx k hk2
  refine ⟨b, rfl, hc, x.adds[k], ?_, by simpa using h1, by simpa using h3⟩
  rw [List.getLast?_eq_getElem?, hn, hk]; simp [hk2]

theorem last_mark {w : World} {x : Ix} {a : Option Addr} {n c : Nat} (h : w.ownsRow 0 34 3 (.slice a n c) n (x.marks.flatMap mkV)) (hn : x.marks.length = n) (k : Nat) (hk : n = k + 1) :
    ∃ b, a = some ⟨b, 0, none⟩ ∧ n ≤ c ∧ ∃ y, x.marks.getLast? = some y ∧ y ∈ x.marks ∧ w.cell? ⟨b, k * 3 + 2, none⟩ = some (.int .i64 y.pos) ∧ w.cell? ⟨b, k * 3 + 1, none⟩ = some (.int .i64 y.time) := by
  obtain ⟨b, rfl, _⟩ := owns_at h (by omega)
  obtain ⟨b', o, e, hc, _, hx⟩ := (Rd.of_owns h).at (by omega)
  simp only [Option.some.injEq, Addr.mk.injEq] at e
  obtain ⟨rfl, rfl, _⟩ := e
  have hk2 : k < x.marks.length := by omega
  obtain ⟨_, h2, h3⟩ := mk_cells hx k hk2
  refine ⟨b, rfl, hc, x.marks[k], ?_, List.getElem_mem _, by simpa using h3, by simpa using h2⟩
  rw [List.getLast?_eq_getElem?, hn, hk]; simp [hk2]

theorem add_marked {x : Ix} {m : Mk} {T : Int} (h : Idx.marked x m.pos = true) (hT : T = max x.time m.time) : Idx.add x m = { x with adds := x.adds ++ [(m.off, m.pos)], time := T, marks := x.marks ++ [⟨m.off, T, m.pos⟩] } := by
  subst hT; unfold Idx.add; rw [if_pos h]
theorem add_unmarked {x : Ix} {m : Mk} {T : Int} (h : Idx.marked x m.pos = false) (hT : T = max x.time m.time) : Idx.add x m = { x with adds := x.adds ++ [(m.off, m.pos)], time := T } := by
  subst hT; unfold Idx.add; rw [if_neg (by rw [h]; simp)]

end Go.Proofs.YtjhebnjajnjhhaaDoor
