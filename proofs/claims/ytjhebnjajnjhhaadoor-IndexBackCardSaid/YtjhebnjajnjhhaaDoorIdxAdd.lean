/- index.Add: a batch that may be added. -/
import Derived.Test.YtjhebnjajnjhhaaDoorIdxAdd0
import Derived.Test.YtjhebnjajnjhhaaDoorIdxAdd1
namespace Go.Proofs.YtjhebnjajnjhhaaDoor
open Go Go.RowKit Idx

theorem idxAdd_calls {w : World} {F : Nat → Prop} {g : Nat} {x : Ix} (h : IdxAt w F g x) (m : Mk) (size : Int) (hmay : Idx.may x m size = true) (hl1 : x.marks.length ≤ 1000000) (hl2 : x.adds.length ≤ 1000000) (hp : ∀ k ∈ x.marks, 0 ≤ k.pos ∧ k.pos ≤ 1073741824) :
    Calls Tryd.prog 19 #[.pointer (some ⟨g, 0, none⟩), .int .i64 m.off, .int .i64 m.time, .int .i64 m.pos, .int .i64 size] w (AddPost F g (Idx.add x m) w) := by
  rcases Nat.eq_zero_or_pos x.adds.length with hz | hz
  · exact idxAdd0_calls h m size hz hmay hl1 hl2 hp
  · exact idxAdd1_calls h m size hz hmay hl1 hl2 hp
end Go.Proofs.YtjhebnjajnjhhaaDoor
