/- The document's Seal. -/
import Derived.Test.YtldopocmmeidkaaDoorRefLittle
import Derived.Test.YtldopocmmeidkaaDoorLitLe4
import Derived.Test.YtldopocmmeidkaaDoorRefMore
import Derived.Test.YtldopocmmeidkaaDoorRefBytes
namespace Go.Proofs.YtldopocmmeidkaaDoor
open Go Go.RowKit Vint Crc

set_option maxRecDepth 100000 in
set_option maxHeartbeats 1000000 in
theorem refSeal_calls (v : Value) (l : List UInt8) (w : World) (hR : Rd w 1 v l.length (bvs l)) (hl : l.length ≤ 1099511627776) :
    Calls Tryd.prog 43 #[v] w (NewRow 5 1 (sealed l).length (bvs (sealed l)) w) := by
  obtain ⟨i0, hi, hz0, hz1, hz2⟩ := info_parts info_u8
  go_enter Tryd.func43, Tryd.ntmps43
  go_wp2_with fail
  refine (refBytes_calls _ l _ hR (by omega)).mono ?_
  rintro e w1 ⟨v1, rfl, o1, b1⟩
  go_wp2_with fail
  refine (refSum_calls _ l _ (hR.below b1)).mono ?_
  rintro e w2 ⟨rfl, rfl⟩
  have hx := lit_le4 (sum l)
  have hs : sealed l = l ++ le4 (sum l) := rfl
  rw [← hx] at hs
  have HS := Lib.hid hs
  clear hs hx
  have hlt := (sum l).isLt
  generalize (sum l).toNat = x at *
  go_wp2_with fail
  refine (refLittle_calls x 4 _ (by omega)).mono ?_
  rintro e w3 ⟨v3, rfl, o3, b3⟩
  have r3 := Rd.of_owns o3
  go_wp2_with (at_builtin; refine wpList_append_rd rfl _ _ 30 rfl w.heap.size 5 i0 (.int .u8 0) 1 1 Tryd.underlying30 hi hz0 hz1 hz2 rfl (by decide) _ l.length (bvs l) rfl (owns_below o1 b3) _ _ (bvs (lit x 4)) rfl r3 (bvs_one _) ?c3 ?c4 ?c5 ?_)
  case c3 => unfold maxLen; omega
  case c4 => omega
  case c5 => have := (nxt b1 b3).size; omega
  intro v4 w4 o4 Tr
  have B4 : Below w.heap.size w w4 := Tr w (nxt b1 b3) (Nat.le_refl _)
  clear Tr
  go_wp2_with fail
  go_ret
  refine ⟨_, rfl, ?_, B4⟩
  rw [HS.out, List.length_append, lit_length, bvs_append]
  exact o4

end Go.Proofs.YtldopocmmeidkaaDoor
