/- crc.Seal. -/
import Derived.Test.YtegiingcnhafbaaGreatDoorCrcWalk
namespace Go.Proofs.YtegiingcnhafbaaGreatDoor
open Go Go.RowKit Crc

/-- The four bytes of a sum, as the walk writes them. -/
theorem le4_walk (x : BitVec 32) : bvs (le4 x) = [.int .u8 ((x.toNat : Int) % 256), .int .u8 ((x.toNat : Int) / 256 % 256), .int .u8 ((x.toNat : Int) / 65536 % 256), .int .u8 ((x.toNat : Int) / 16777216)] := by
  have e : ∀ (y : BitVec 32), (((⟨y.setWidth 8⟩ : UInt8).toNat : Nat) : Int) = (y.toNat : Int) % 256 := fun y => by
    show (((y.setWidth 8).toNat : Nat) : Int) = _
    rw [BitVec.toNat_setWidth]
    omega
  unfold le4
  have h3 : ((x.toNat : Int) / 16777216) = (x.toNat : Int) / 16777216 % 256 := by have := x.isLt; omega
  rw [h3]
  simp only [bvs, bv, List.map_cons, List.map_nil, e, BitVec.toNat_ushiftRight, Nat.shiftRight_eq_div_pow]
  rfl

set_option maxRecDepth 100000 in
set_option maxHeartbeats 1000000 in
theorem seal_calls (v : Value) (l : List UInt8) (w : World) (h : Rd w 1 v l.length (bvs l)) (hn : l.length ≤ 1099511627776) :
    Calls Tryz.prog 30 #[v] w (NewRow 5 1 (sealed l).length (bvs (sealed l)) w) := by
  obtain ⟨i0, hi, hz0, hz1, hz2⟩ := info_parts info_u8
  obtain ⟨a, c, rfl⟩ := h.slice
  have ha := Below.refl w.heap.size w
  go_enter Tryz.func30, Tryz.ntmps30
  go_wp2_with fail
  refine (of_calls _ [.slice a l.length c] [l] _ (Rd.new w #[.slice a l.length c] _ 1 1 rfl (by decide)) (Parts.one (h.below (below_alloc w _)))).mono ?_
  rintro e w1 ⟨rfl, hb1⟩
  have hs : (sum [l].flatten) = sum l := by simp
  rw [hs]
  have hb1' : Below w.heap.size w w1 := nxt (below_alloc w _) hb1
  have hle := Lib.hid (le4_walk (sum l))
  have hsl : sealed l = l ++ le4 (sum l) := rfl
  have HSL := Lib.hid hsl
  clear hs hsl
  generalize sum l = x at *
  go_wp2_with fail
  refine (clone_bytes _ l.length (bvs l) _ (h.below hb1') (bvs_one l) (by omega)).mono ?_
  rintro e w2 ⟨v2, rfl, ho2, hb2⟩
  have hb2' := nxt hb1' hb2
  go_wp2_with (at_builtin; refine wpList_append_own _ rfl _ _ 23 rfl w1.heap.size 5 i0 (.int .u8 0) 1 1 Tryz.underlying23 hi hz0 hz1 hz2 rfl (by decide) _ _ _ rfl (ho2.alloc _) ⟨w2.heap.size, 0, none⟩ 4 4 [.int .u8 ((x.toNat : Int) % 256), .int .u8 ((x.toNat : Int) / 256 % 256), .int .u8 ((x.toNat : Int) / 65536 % 256), .int .u8 ((x.toNat : Int) / 16777216)] rfl rfl ?c1 ?c2 ?c3 ?c4 ?c5 ?_)
  case c1 => exact cells_new _ _ _
  case c2 => intro u hu; simp at hu; rcases hu with rfl | rfl | rfl | rfl <;> rfl
  case c3 => unfold maxLen; omega
  case c4 => omega
  case c5 => have := hb2.size; simp; omega
  intro v' w' hown' hgrow _
  rw [← hle.out] at hown'
  go_wp2
  go_ret
  refine ⟨v', rfl, ?_, ?_⟩
  · rw [HSL.out, bvs_append]
    have : (l ++ le4 x).length = l.length + 4 := by simp [le4]
    rw [this]
    exact owns_base hown' hb1'.size
  · exact (hb2'.alloc hb2'.size _).grown hgrow (by have := hb2'.size; simp; omega) (fun k hk => by have := (ho2.lt k hk).1; have := hb1'.size; omega)

end Go.Proofs.YtegiingcnhafbaaGreatDoor
