/- A slice of texts (slices of bytes) that reads as a list of lists of bytes. No program is named here. -/
import Derived.Test.YtlfbdcgojbfcaaaDoorBase
namespace Go.Proofs.YtlfbdcgojbfcaaaDoor
open Go Go.RowKit

def RdT (w : World) (v : Value) (ts : List (List UInt8)) : Prop :=
  ∃ vs : List Value, Rd w 1 v ts.length vs ∧ ∀ (i : Nat) (h : i < ts.length), ∃ u, vs[i]? = some u ∧ Rd w 1 u ts[i].length (bvs ts[i])

theorem RdT.below {w w' : World} {v : Value} {ts : List (List UInt8)} (h : RdT w v ts) (b : Below w.heap.size w w') : RdT w' v ts := by
  obtain ⟨vs, h1, h2⟩ := h
  exact ⟨vs, h1.below b, fun i hi => by obtain ⟨u, h3, h4⟩ := h2 i hi; exact ⟨u, h3, h4.below b⟩⟩

theorem RdT.slice {w : World} {v : Value} {ts : List (List UInt8)} (h : RdT w v ts) : ∃ a c, v = .slice a ts.length c := by
  obtain ⟨vs, h1, _⟩ := h; exact h1.slice

theorem RdT.len_le {w : World} {v : Value} {ts : List (List UInt8)} (h : RdT w v ts) : ts.length ≤ 9223372036854775807 := by
  obtain ⟨vs, h1, _⟩ := h; exact h1.len_le

/-- One of the texts. -/
theorem RdT.at {w : World} {a : Option Addr} {c : Nat} {ts : List (List UInt8)} (h : RdT w (.slice a ts.length c) ts) (i : Nat) (hi : i < ts.length) :
    ∃ b off, a = some ⟨b, off, none⟩ ∧ ts.length ≤ c ∧ ∃ ai ci, w.cell? ⟨b, off + i, none⟩ = some (.slice ai ts[i].length ci) ∧ Rd w 1 (.slice ai ts[i].length ci) ts[i].length (bvs ts[i]) := by
  obtain ⟨vs, h1, h2⟩ := h
  obtain ⟨b, off, rfl, hc, _, hx⟩ := h1.at (by omega)
  obtain ⟨u, h3, h4⟩ := h2 i hi
  have h5 := hx i u h3
  obtain ⟨ai, ci, rfl⟩ := h4.slice
  exact ⟨b, off, rfl, hc, ai, ci, h5, h4⟩
end Go.Proofs.YtlfbdcgojbfcaaaDoor
