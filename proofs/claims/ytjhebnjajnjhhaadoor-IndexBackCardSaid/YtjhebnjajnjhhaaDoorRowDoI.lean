/- How what an index is told comes in: for the row. -/
import Derived.Test.YtjhebnjajnjhhaaDoorRowFlat
import Derived.Test.YtjhebnjajnjhhaaDoorIdxDo
import Derived.Test.YtjhebnjajnjhhaaDoorProg
namespace Go.Proofs.YtjhebnjajnjhhaaDoor
open Go Go.ChangeShapes Go.WideShapes Go.ChangeAt Go.RowKit Go.Deep

set_option maxRecDepth 100000 in
theorem rd_dois {H : Type} {enc : TypeId × Value → H} {W : World} {base : Nat} {held : Bool} {a : Option Addr} {len cap : Nat} {d : DataW H} {p : List MemPlace}
    (h : DataW.Trod enc Tryd.prog W base (fun _ => true) held 99 (.slice a len cap) d p) :
    ∃ xs : List DoI, xs.length = len ∧ Rd W 5 (.slice a len cap) xs.length (xs.flatMap doiV) ∧ ∀ x ∈ xs, True := by
  obtain ⟨cells, hr, he⟩ := rd_elems Tryd.underlying99 5 (by kernel_rfl) h
  obtain ⟨xs, h1, h2, h3⟩ := flat_of doiV 5 (fun _ => True) len cells hr.1 (fun i hi => by
    obtain ⟨n, x, hx⟩ := he i hi
    obtain ⟨z, hz, hw⟩ := trod_nums Tryd.underlying101 (by kernel_rfl) (by kernel_rfl) [.i64, .i64, .i64, .i64, .i64]
      (by intro j f hf; rcases j with _ | _ | _ | _ | _ | j <;> simp at hf <;> subst hf <;> kernel_rfl) hx
    refine ⟨⟨z 0, z 1, z 2, z 3, z 4⟩, trivial, ?_⟩
    rw [hz]
    rfl)
  subst h1
  exact ⟨xs, rfl, by rw [← h2]; exact hr, h3⟩
end Go.Proofs.YtjhebnjajnjhhaaDoor
