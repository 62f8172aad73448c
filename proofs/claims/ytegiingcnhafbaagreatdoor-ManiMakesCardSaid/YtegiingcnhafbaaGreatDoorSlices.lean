/- slices.Clone at []byte: a new row with the same bytes. -/
import Derived.Test.YtegiingcnhafbaaGreatDoorProg
import Derived.Test.YtegiingcnhafbaaGreatDoorBase
namespace Go.Proofs.YtegiingcnhafbaaGreatDoor
open Go Go.RowKit

theorem info_u8 : (Tryz.prog.info? 5).map (fun i => (i.zero, i.size, i.bytes)) = some (some (.int .u8 0), 1, 1) := by kernel_rfl

theorem sl_u8 : Tryz.prog.underlying 23 = some (.slice (Tryz.prog.elem 23)) := by kernel_rfl
theorem sz_u8 : (Tryz.prog.info? (Tryz.prog.elem 23)).map (·.size) = some 1 := by kernel_rfl

/-- A new row comes back; nothing that was there has turned. -/
def NewRow (e sz n : Nat) (xs : List Value) (w : World) (r : Ending) (w' : World) : Prop :=
  ∃ v, r = .returned v ∧ w'.ownsRow w.heap.size e sz v n xs ∧ Below w.heap.size w w'

set_option maxHeartbeats 400000 in
theorem clone_bytes (v : Value) (n : Nat) (xs : List Value) (w : World) (h : Rd w 1 v n xs) (h1 : ∀ u ∈ xs, u.oneCell' = true) (hn : n ≤ 140737488355328) :
    Calls Tryz.prog 58 #[v] w (NewRow 5 1 n xs w) := by
  obtain ⟨i0, hi, hz0, hz1, hz2⟩ := info_parts info_u8
  rcases h.2 with ⟨rfl, rfl⟩ | ⟨x, cap, rfl, hc, hm, hx⟩
  · have hxs : xs = [] := by have := h.1; simpa using this
    subst hxs
    have hq := fun w' => Lib.run_eql_slice_nil (P := Tryz.prog) w' 23 5 none 0 0 0 0 Tryz.underlying23
    go_enter Tryz.func58, Tryz.ntmps58
    go_wp2_with fail
    go_ret
    exact ⟨_, rfl, World.ownsRow_nil _ _ _ _, Below.refl _ _⟩
  · have hq := fun w' => Lib.run_eql_slice_nil (P := Tryz.prog) w' 23 5 (some x) n cap 0 0 Tryz.underlying23
    go_enter Tryz.func58, Tryz.ntmps58
    go_wp2_with (at_builtin; refine wpList_append_own _ rfl _ _ 23 rfl w.heap.size 5 i0 (.int .u8 0) 1 1 Tryz.underlying23 hi hz0 hz1 hz2 rfl (by decide) _ 0 [] rfl (World.ownsRow_made w #[] 0 (Nat.le_refl _) (by decide) rfl) x n cap xs rfl ?c0 ?c1 ?c2 ?c3 ?c4 ?c5 ?_)
    case c0 => exact h.1
    case c1 => intro j u hu; have h3 := hx j u hu; rw [(Below.alloc (Below.refl w.heap.size w) (Nat.le_refl _) _).cell (World.block_lt_of_cell? w _ h3)]; exact h3
    case c2 => exact h1
    case c3 => unfold maxLen at hm ⊢; omega
    case c4 => omega
    case c5 => simp
    intro v' w' hown hgrow _
    go_wp2
    go_ret
    refine ⟨_, rfl, ?_, ?_⟩
    · simpa using hown
    · exact ((Below.refl _ _).alloc (Nat.le_refl _) _).grown hgrow (by simp) (by simp [Value.ownBlock])
end Go.Proofs.YtegiingcnhafbaaGreatDoor
