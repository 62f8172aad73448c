/- How a slice of texts comes in: for the rows. -/
import Derived.Test.YtegiingcnhafbaaDoorRowFlat
import Derived.Sort.EncStr
namespace Go.Proofs.YtegiingcnhafbaaDoor
open Go Go.ChangeShapes Go.WideShapes Go.ChangeAt Go.RowKit Go.Deep

theorem rd_strs {H : Type} {enc : TypeId × Value → H} {W : World} {base : Nat} {held : Bool} {a : Option Addr} {len cap : Nat} {d : DataW H} {p : List MemPlace}
    (h : DataW.Trod enc Tryd.prog W base (fun _ => true) held 34 (.slice a len cap) d p) :
    ∃ ts : List (List UInt8), ts.length = len ∧ Rd W 1 (.slice a len cap) ts.length (ts.map encStr) ∧ ∀ t ∈ ts, t.length ≤ maxLen := by
  obtain ⟨cells, hr, he⟩ := rd_elems Tryd.underlying34 1 (by kernel_rfl) h
  obtain ⟨xs, h1, h2, h3⟩ := flat_of (fun t : List UInt8 => [encStr t]) 1 (fun t => t.length ≤ maxLen) len cells hr.1 (fun i hi => by
    obtain ⟨n, x, hx⟩ := he i hi
    obtain ⟨s, hs, -, hm⟩ := DataW.trod_string Tryd.underlying9 hx
    refine ⟨s.data.toList, by rw [Array.length_toList]; exact hm, ?_⟩
    rw [hs])
  have e : xs.flatMap (fun t : List UInt8 => [encStr t]) = xs.map encStr := by
    clear h1 h2 h3
    induction xs with
    | nil => rfl
    | cons a l ih => rw [List.flatMap_cons, ih]; rfl
  refine ⟨xs, h1, ?_, h3⟩
  rw [h1, ← e, ← h2]
  exact hr
end Go.Proofs.YtegiingcnhafbaaDoor
