/- cordwoodref.Pairs: a copy in new memory. -/
import Derived.Test.YtdlcpcpcojpecaaDoorEpo
namespace Go.Proofs.YtdlcpcpcojpecaaDoor
open Go Go.RowKit Epo

theorem pr_snoc (l : List Pr) (k : Nat) (hk : k < l.length) : (l.take k).flatMap prV ++ [.int .i64 l[k].ep, .int .i64 l[k].st] = (l.take (k + 1)).flatMap prV := by
  rw [List.take_succ_eq_append_getElem hk, List.flatMap_append]; rfl

set_option maxRecDepth 100000 in
set_option maxHeartbeats 1000000 in
theorem refPairs_calls (v : Value) (l : List Pr) (w : World) (h : Rd w 2 v l.length (l.flatMap prV)) (hn : l.length ≤ 1000000) :
    Calls Tryd.prog 8 #[v] w (NewRow 46 2 l.length (l.flatMap prV) w) := by
  obtain ⟨i0, hi, hz0, hz1, hz2⟩ := info_parts info_pair
  obtain ⟨a, c, rfl⟩ := h.slice
  have hlen := h.len_le
  go_enter Tryd.func8, Tryd.ntmps8
  go_wp2_with (at_make; refine wpList_make_own _ rfl _ _ 22 rfl w.heap.size 46 i0 (.agg #[.int .i64 0, .int .i64 0]) 2 Tryd.underlying22 hi hz0 hz1 _ _ _ l.length rfl rfl rfl ?c1 ?c2 ?c3 ?_)
  case c1 => rw [hz2]; omega
  case c2 => unfold maxLen; omega
  case c3 => omega
  intro w1 ho1 hg1
  have hb1 : Below w.heap.size w w1 := (Below.refl _ _).grown hg1 (Nat.le_refl _) (by simp)
  clear hg1
  go_wp2_with fail
  go_loopw [3, 4] (fun ov iv wr => ∃ k : Nat, k ≤ l.length ∧ iv = .int .i64 k ∧ wr.ownsRow w.heap.size 46 2 ov k ((l.take k).flatMap prV) ∧ Below w.heap.size w wr) (fun _ iv _ => l.length - (intOf iv).toNat)
  case atStart => exact ⟨0, Nat.zero_le _, rfl, by simpa using ho1, hb1⟩
  case round =>
    obtain ⟨k, hk, rfl, hown, hb⟩ := hrel
    by_cases hlt : k < l.length
    · obtain ⟨b, o, rfl, hc1, hm1, hx1⟩ := (h.below hb).at (by omega)
      obtain ⟨q0, q1⟩ := pr_cells hx1 k hlt
      have HPS := Lib.hid (pr_snoc l k hlt)
      generalize l[k] = m at *
      clear hx1 hc1 hm1
      go_wp2_with (at_builtin; refine wpList_append_own _ rfl _ _ 22 rfl w.heap.size 46 i0 (.agg #[.int .i64 0, .int .i64 0]) 2 16 Tryd.underlying22 hi hz0 hz1 hz2 rfl (by decide) _ _ _ rfl (hown.alloc _) ⟨wr.heap.size, 0, none⟩ 1 1 [.int .i64 m.ep, .int .i64 m.st] rfl (by rfl) (cells_new wr #[.int .i64 m.ep, .int .i64 m.st] 46) ?c2 ?c3 ?c4 ?c5 ?_)
      case c2 => simp [Value.oneCell']
      case c3 => unfold maxLen; omega
      case c4 => omega
      case c5 => have := hb.size; simp; omega
      intro v' w' hown' hgrow _
      rw [HPS.out] at hown'
      have hb' : Below w.heap.size w w' := (hb.alloc hb.size _).grown hgrow (by have := hb.size; simp; omega) (fun j hj => (hown.lt j hj).1)
      clear hgrow
      go_wp2_with fail
      exact ⟨⟨k + 1, by omega, by go_num, hown', hb'⟩, by simp [intOf]; omega⟩
    · go_wp2_with fail
      go_ret
      refine ⟨_, rfl, ?_, hb⟩
      have hkl : k = l.length := by omega
      subst hkl
      rw [List.take_of_length_le (Nat.le_refl _)] at hown
      exact hown
end Go.Proofs.YtdlcpcpcojpecaaDoor
