/- 'string(b)' of bytes that read as a list: the list as text; two such texts are one, if the lists are. -/
import Derived.Test.YtegiingcnhafbaaGreatDoorSlices
import Derived.Laws.IdiomStrings
namespace Go.Proofs.YtegiingcnhafbaaGreatDoor
open Go Go.RowKit

def txt (l : List UInt8) : Value := .string ⟨l.toArray⟩

theorem txt_rd (v : Value) (l : List UInt8) (w : World) (h : Rd w 1 v l.length (bvs l)) :
    (convert 23 9 v).run Tryz.prog w = .ok (txt l) w := by
  rcases h.2 with ⟨rfl, h0⟩ | ⟨x, cap, rfl, hc, hm, hx⟩
  · have hl : l = [] := by cases l with
      | nil => rfl
      | cons a l => simp at h0
    subst hl
    rw [run_convert_bytes_string w _ _ _ none 0 0 Tryz.underlying23 Tryz.underlying5 Tryz.underlying9]
    rfl
  · exact run_convert_bytes_back w _ _ _ x cap l Tryz.underlying23 Tryz.underlying5 Tryz.underlying9 (fun j hj => hx j _ (bvs_at l j hj))

end Go.Proofs.YtegiingcnhafbaaGreatDoor
