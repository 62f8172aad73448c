/- The sentinel errors as a walk meets them. No function is named here. -/
import Derived.Test.YtdlcpcpcojpecaaDoorProg
import Derived.Test.YtdlcpcpcojpecaaDoorBase
namespace Go.Proofs.YtdlcpcpcojpecaaDoor
open Go Go.RowKit

/-- The places of the package-level errors: by their codes, 101 on. -/
def glob : Nat → Nat
  | 0 => 4
  | 1 => 5
  | 2 => 2
  | 3 => 0
  | 4 => 1
  | 5 => 6
  | 6 => 7
  | 7 => 8
  | 8 => 9
  | 9 => 10
  | 10 => 11
  | 11 => 12
  | 12 => 13
  | 13 => 3
  | 14 => 14
  | 15 => 15
  | 16 => 16
  | 17 => 17
  | 18 => 18
  | _ => 0

/-- A sentinel as a value. -/
def senV (A : Nat → Addr) (i : Nat) : Value := .iface 85 (.pointer (some (A i)))

/-- The listed sentinels lie where they lie, each at an address of its own. -/
structure Sents (S : List Nat) (w : World) (A : Nat → Addr) : Prop where
  cell : ∀ i ∈ S, w.cell? ⟨glob i, 0, none⟩ = some (senV A i)
  inj : ∀ i ∈ S, ∀ j ∈ S, A i = A j → i = j
  row : ∀ i ∈ S, ∃ c t, w.heap[(A i).block]? = some (.cells c t (0, 0))

theorem Sents.below {S : List Nat} {w w' : World} {A : Nat → Addr} (h : Sents S w A) (hb : Below w.heap.size w w') : Sents S w' A :=
  ⟨fun i hi => by rw [hb.cell (World.block_lt_of_cell? w _ (h.cell i hi))]; exact h.cell i hi, h.inj, fun i hi => by
    obtain ⟨c, t, hc⟩ := h.row i hi
    exact ⟨c, t, by rw [hb.block _ (Array.getElem?_eq_some_iff.1 hc).1]; exact hc⟩⟩

theorem Sents.drewN {S : List Nat} {w : World} {A : Nat → Addr} (h : Sents S w A) (n : Nat) : Sents S (w.drewN n) A := ⟨h.cell, h.inj, h.row⟩


theorem Sents.drew1 {S : List Nat} {w : World} {A : Nat → Addr} (h : Sents S w A) : Sents S w.drew A := ⟨h.cell, h.inj, h.row⟩

end Go.Proofs.YtdlcpcpcojpecaaDoor
