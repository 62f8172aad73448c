/- How pairs come in: for the row. -/
import Derived.Test.YtdlcpcpcojpecaaDoorRowFlat
import Derived.Test.YtdlcpcpcojpecaaDoorEpo
import Derived.Test.YtdlcpcpcojpecaaDoorPlain
namespace Go.Proofs.YtdlcpcpcojpecaaDoor
open Go Go.ChangeShapes Go.WideShapes Go.ChangeAt Go.RowKit Go.Deep Vint

set_option maxRecDepth 100000 in
theorem rd_pairs {H : Type} {enc : TypeId × Value → H} {W : World} {base : Nat} {held : Bool} {a : Option Addr} {len cap : Nat} {d : DataW H} {p : List MemPlace}
    (h : DataW.Trod enc Tryd.prog W base (fun _ => true) held 22 (.slice a len cap) d p) :
    ∃ xs : List Epo.Pr, xs.length = len ∧ Rd W 2 (.slice a len cap) xs.length (xs.flatMap prV) ∧ ∀ x ∈ xs, I64 x.ep ∧ I64 x.st := by
  obtain ⟨cells, hr, he⟩ := rd_elems Tryd.underlying22 2 (by kernel_rfl) h
  obtain ⟨xs, h1, h2, h3⟩ := flat_of prV 2 (fun x => I64 x.ep ∧ I64 x.st) len cells hr.1 (fun i hi => by
    obtain ⟨n, x, hx⟩ := he i hi
    obtain ⟨z, hz, hw⟩ := trod_nums Tryd.underlying46 (by kernel_rfl) (by kernel_rfl) [.i64, .i64]
      (by intro j f hf; rcases j with _ | _ | j <;> simp at hf <;> subst hf <;> kernel_rfl) hx
    have w0 : (Lit.int .i64 (z 0)).wf = true := hw 0 (by decide)
    have w1 : (Lit.int .i64 (z 1)).wf = true := hw 1 (by decide)
    refine ⟨⟨z 0, z 1⟩, ⟨i64_of_wf w0, i64_of_wf w1⟩, ?_⟩
    rw [hz]
    rfl)
  subst h1
  exact ⟨xs, rfl, by rw [← h2]; exact hr, h3⟩
end Go.Proofs.YtdlcpcpcojpecaaDoor
