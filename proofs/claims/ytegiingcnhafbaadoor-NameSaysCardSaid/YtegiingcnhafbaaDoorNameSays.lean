/- NameSays: which names may be, those of segments and objects, and what any name says, are what the chapter says. -/
import Derived.Test.YtegiingcnhafbaaDoorNameFirst
import Derived.Test.YtegiingcnhafbaaDoorNameParts
import Derived.Test.YtegiingcnhafbaaDoorRefParts
import Derived.Test.YtegiingcnhafbaaDoorRefNameVal
namespace Go.Proofs.YtegiingcnhafbaaDoor
open Go Go.RowKit

set_option maxRecDepth 100000 in
set_option maxHeartbeats 4000000 in
theorem nameSays_walk (s kind : ByteArray) (id base : Int) (w : World) (ht : Tens w) (hsh : MaxL w) :
    Calls Tryd.prog 3 #[.string s, .string kind, .int .i64 id, .int .i64 base] w (fun e w' => e = .returned (.bool true) ∧ Below w.heap.size w w') := by
  have hf := nameFirst_calls w ht
  by_cases t1 : 100 < s.size
  case pos =>
    have t1' : decide (100 < (s.size : Int)) = true := decide_eq_true (by omega)
    clear t1
    go_enter Tryd.func3, Tryd.ntmps3
    go_wp2_with fail
    with_reducible refine hf.mono ?_
    rintro e w2 ⟨rfl, b2⟩
    go_wp2_with fail
    go_ret
    exact ⟨rfl, b2⟩
  have t1' : decide (100 < (s.size : Int)) = false := decide_eq_false (by omega)
  by_cases t2 : 20 < kind.size
  case pos =>
    have t2' : decide (20 < (kind.size : Int)) = true := decide_eq_true (by omega)
    clear t1 t2
    go_enter Tryd.func3, Tryd.ntmps3
    go_wp2_with fail
    with_reducible refine hf.mono ?_
    rintro e w2 ⟨rfl, b2⟩
    go_wp2_with fail
    go_ret
    exact ⟨rfl, b2⟩
  have t2' : decide (20 < (kind.size : Int)) = false := decide_eq_false (by omega)
  have hsm : s.size ≤ 1000000 := by omega
  have hkm : kind.size ≤ 1000000 := by omega
  clear t1 t2
  go_enter Tryd.func3, Tryd.ntmps3
  go_wp2_with fail
  with_reducible refine hf.mono ?_
  rintro e w2 ⟨rfl, b2⟩
  clear hf
  have hb1 := base_is s w2 hsm
  go_wp2_with fail
  with_reducible refine hb1.mono ?_
  rintro e w3 ⟨v1, rfl, hv1, hw3⟩
  subst hw3
  clear hb1
  obtain ⟨n, b, rfl⟩ := hv1.form
  have hb2 := refBase_is s w3 hsm
  go_wp2_with fail
  with_reducible refine hb2.mono ?_
  rintro e w4 ⟨v2, rfl, hv2, hw4⟩
  subst hw4
  obtain rfl := hv1.uniq hv2
  clear hb2 hv1 hv2
  have hp1 := parts_is s w4 hsm (hsh.below b2)
  go_wp2_with fail
  with_reducible refine hp1.mono ?_
  rintro e w5 ⟨v1, rfl, hv1, b5⟩
  clear hp1
  obtain ⟨i, k, a, ok, rfl⟩ := hv1.form
  have B5 := nxt b2 b5
  have hp2 := refParts_is s w5 hsm
  go_wp2_with fail
  with_reducible refine hp2.mono ?_
  rintro e w6 ⟨v2, rfl, hv2, b6⟩
  obtain rfl := hv1.uniq hv2
  clear hp2 hv1 hv2
  have B6 := nxt B5 b6
  have hn1 := nameValid_is s w6 hsm
  have hn2 := refName_calls s w6 hsm
  generalize nameOk s = NO at hn1 hn2
  go_wp2_with fail
  with_reducible refine hn1.mono ?_
  rintro e w7 ⟨rfl, hw7⟩
  subst hw7
  clear hn1
  go_wp2_with fail
  with_reducible refine hn2.mono ?_
  rintro e w8 ⟨rfl, hw8⟩
  subst hw8
  clear hn2
  have hs1 := segment_calls base w8 (ht.below B6)
  have hs2 := fun W => refSegment_calls base W
  generalize segO base = SG at hs1 hs2
  go_wp2_with fail
  with_reducible refine hs1.mono ?_
  rintro e w9 ⟨rfl, b9⟩
  clear hs1
  have B9 := nxt B6 b9
  go_wp2_with fail
  with_reducible refine (hs2 _).mono ?_
  rintro e wa ⟨rfl, ba⟩
  clear hs2
  have Ba := nxt B9 ba
  have ho1 := object_calls id kind base wa (by omega) (ht.below Ba)
  have ho2 := fun W => refObject_calls id kind base W hkm
  generalize (if objectOk id kind base = true then (⟨(objectL id.toNat kind base.toNat).toArray⟩ : ByteArray) else ⟨#[]⟩) = OB at ho1 ho2
  go_wp2_with fail
  with_reducible refine ho1.mono ?_
  rintro e wb ⟨rfl, bb⟩
  clear ho1
  have Bb := nxt Ba bb
  go_wp2_with fail
  with_reducible refine (ho2 _).mono ?_
  rintro e wc' ⟨rfl, bc⟩
  clear ho2
  have Bc := nxt Bb bc
  go_wp2_with fail
  go_ret
  exact ⟨by first | rfl | simp, Bc⟩
end Go.Proofs.YtegiingcnhafbaaDoor
