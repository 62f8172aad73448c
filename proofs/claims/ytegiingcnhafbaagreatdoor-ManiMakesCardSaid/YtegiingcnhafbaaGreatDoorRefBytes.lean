/- cordwoodref.Bytes: a copy in new memory. -/
import Derived.Test.YtegiingcnhafbaaGreatDoorSlices
namespace Go.Proofs.YtegiingcnhafbaaGreatDoor
open Go Go.RowKit

set_option maxRecDepth 100000 in
set_option maxHeartbeats 1000000 in
theorem refBytes_calls (v : Value) (l : List UInt8) (w : World) (h : Rd w 1 v l.length (bvs l)) (hn : l.length ≤ 1099511627776) :
    Calls Tryz.prog 13 #[v] w (NewRow 5 1 l.length (bvs l) w) := by
  obtain ⟨i0, hi, hz0, hz1, hz2⟩ := info_parts info_u8
  obtain ⟨a, c, rfl⟩ := h.slice
  have hlen := h.len_le
  go_enter Tryz.func13, Tryz.ntmps13
  go_wp2_with (at_make; refine wpList_make_own _ rfl _ _ 23 rfl w.heap.size 5 i0 (.int .u8 0) 1 Tryz.underlying23 hi hz0 hz1 _ _ _ l.length rfl rfl rfl ?c1 ?c2 ?c3 ?_)
  case c1 => rw [hz2]; omega
  case c2 => unfold maxLen; omega
  case c3 => omega
  intro w1 ho1 hg1
  have hb1 : Below w.heap.size w w1 := (Below.refl _ _).grown hg1 (Nat.le_refl _) (by simp)
  clear hg1
  go_wp2_with fail
  go_loopw [3, 4] (fun ov iv wr => ∃ k : Nat, k ≤ l.length ∧ iv = .int .i64 k ∧ wr.ownsRow w.heap.size 5 1 ov k (bvs (l.take k)) ∧ Below w.heap.size w wr) (fun _ iv _ => l.length - (intOf iv).toNat)
  case atStart => exact ⟨0, Nat.zero_le _, rfl, by simpa [bvs] using ho1, hb1⟩
  case round =>
    obtain ⟨k, hk, rfl, hown, hb⟩ := hrel
    by_cases hlt : k < l.length
    · obtain ⟨b, o, rfl, hc1, hm1, hx1⟩ := (h.below hb).at (by omega)
      have g1 := hx1 k _ (bvs_at l k hlt)
      clear hx1 hc1 hm1
      go_wp2_with (at_builtin; refine wpList_append_own _ rfl _ _ 23 rfl w.heap.size 5 i0 (.int .u8 0) 1 1 Tryz.underlying23 hi hz0 hz1 hz2 rfl (by decide) _ _ _ rfl (hown.alloc _) ⟨wr.heap.size, 0, none⟩ 1 1 [.int .u8 ((l[k].toNat : Nat) : Int)] rfl rfl ?c1 ?c2 ?c3 ?c4 ?c5 ?_)
      case c1 => exact cell_one_new _ _ _
      case c2 => intro u hu; simp at hu; subst hu; rfl
      case c3 => unfold maxLen; omega
      case c4 => omega
      case c5 => have := hb.size; simp; omega
      intro v' w' hown' hgrow _
      rw [bvs_take_succ l k hlt] at hown'
      have hb' : Below w.heap.size w w' := (hb.alloc hb.size _).grown hgrow (by have := hb.size; simp; omega) (fun j hj => (hown.lt j hj).1)
      clear hgrow
      go_wp2
      exact ⟨⟨k + 1, by omega, by go_num, hown', hb'⟩, by simp [intOf]; omega⟩
    · go_wp2_with fail
      go_ret
      refine ⟨_, rfl, ?_, hb⟩
      have hkl : k = l.length := by omega
      subst hkl
      rw [List.take_of_length_le (Nat.le_refl _)] at hown
      exact hown

end Go.Proofs.YtegiingcnhafbaaGreatDoor
