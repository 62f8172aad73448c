/- How what a lineage is told comes in: for the row. -/
import Derived.Test.YtdlcpcpcojpecaaDoorRowFlat
import Derived.Test.YtdlcpcpcojpecaaDoorDoE
import Derived.Test.YtdlcpcpcojpecaaDoorProg
namespace Go.Proofs.YtdlcpcpcojpecaaDoor
open Go Go.ChangeShapes Go.WideShapes Go.ChangeAt Go.RowKit Go.Deep

set_option maxRecDepth 100000 in
theorem rd_does {H : Type} {enc : TypeId × Value → H} {W : World} {base : Nat} {held : Bool} {a : Option Addr} {len cap : Nat} {d : DataW H} {p : List MemPlace}
    (h : DataW.Trod enc Tryd.prog W base (fun _ => true) held 23 (.slice a len cap) d p) :
    ∃ xs : List DoE, xs.length = len ∧ Rd W 3 (.slice a len cap) xs.length (xs.flatMap doeV) ∧ ∀ x ∈ xs, True := by
  obtain ⟨cells, hr, he⟩ := rd_elems Tryd.underlying23 3 (by kernel_rfl) h
  obtain ⟨xs, h1, h2, h3⟩ := flat_of doeV 3 (fun _ => True) len cells hr.1 (fun i hi => by
    obtain ⟨n, x, hx⟩ := he i hi
    obtain ⟨z, hz, hw⟩ := trod_nums Tryd.underlying36 (by kernel_rfl) (by kernel_rfl) [.i64, .i64, .i64]
      (by intro j f hf; rcases j with _ | _ | _ | j <;> simp at hf <;> subst hf <;> kernel_rfl) hx
    refine ⟨⟨z 0, z 1, z 2⟩, trivial, ?_⟩
    rw [hz]
    rfl)
  subst h1
  exact ⟨xs, rfl, by rw [← h2]; exact hr, h3⟩
end Go.Proofs.YtdlcpcpcojpecaaDoor
