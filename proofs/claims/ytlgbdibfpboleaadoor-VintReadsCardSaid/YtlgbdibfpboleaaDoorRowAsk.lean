/- How what a reader is asked comes in: for the row. -/
import Derived.Test.YtlgbdibfpboleaaDoorRowFlat
import Derived.Test.YtlgbdibfpboleaaDoorAsk
import Derived.Test.YtlgbdibfpboleaaDoorProg
namespace Go.Proofs.YtlgbdibfpboleaaDoor
open Go Go.ChangeShapes Go.WideShapes Go.ChangeAt Go.RowKit Go.Deep

set_option maxRecDepth 100000 in
theorem rd_asks {H : Type} {enc : TypeId × Value → H} {W : World} {base : Nat} {held : Bool} {a : Option Addr} {len cap : Nat} {d : DataW H} {p : List MemPlace}
    (h : DataW.Trod enc Tryd.prog W base (fun _ => true) held 71 (.slice a len cap) d p) :
    ∃ xs : List AskR, xs.length = len ∧ Rd W 5 (.slice a len cap) xs.length (xs.flatMap askV) ∧ ∀ x ∈ xs, x.ok := by
  obtain ⟨cells, hr, he⟩ := rd_elems Tryd.underlying71 5 (by kernel_rfl) h
  obtain ⟨xs, h1, h2, h3⟩ := flat_of askV 5 AskR.ok len cells hr.1 (fun i hi => by
    obtain ⟨n, x, hx⟩ := he i hi
    obtain ⟨z, hz, hw⟩ := trod_nums Tryd.underlying76 (by kernel_rfl) (by kernel_rfl) [.i64, .i64, .u64, .i64, .i64]
      (by intro j f hf; rcases j with _ | _ | _ | _ | _ | j <;> simp at hf <;> subst hf <;> kernel_rfl) hx
    have w1 : (Lit.int .i64 (z 1)).wf = true := hw 1 (by decide)
    have w2 : (Lit.int .u64 (z 2)).wf = true := hw 2 (by decide)
    obtain ⟨m, hm, hmb⟩ := u64_of_wf w2
    refine ⟨⟨z 0, z 1, m, z 3, z 4⟩, ⟨i64_of_wf w1, hmb⟩, ?_⟩
    rw [hz]
    show [Value.int .i64 (z 0), Value.int .i64 (z 1), Value.int .u64 (z 2), Value.int .i64 (z 3), Value.int .i64 (z 4)] = _
    rw [hm]; rfl)
  subst h1
  exact ⟨xs, rfl, by rw [← h2]; exact hr, h3⟩
end Go.Proofs.YtlgbdibfpboleaaDoor
