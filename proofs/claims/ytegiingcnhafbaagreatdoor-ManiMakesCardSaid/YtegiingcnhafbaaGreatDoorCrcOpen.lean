/- crc.Open: what stands ahead of a sum. -/
import Derived.Test.YtegiingcnhafbaaGreatDoorCrcSeal
import Derived.Test.YtegiingcnhafbaaGreatDoorEqual
import Derived.Test.YtegiingcnhafbaaGreatDoorCrcWalk
import Derived.Test.YtegiingcnhafbaaGreatDoorSent
namespace Go.Proofs.YtegiingcnhafbaaGreatDoor
open Go Go.RowKit Crc

/-- How an opening ends: it ends too early; the sum is another one; the bytes. -/
inductive OR where
  | fin
  | sum
  | ok (b : List UInt8)

def openL (l : List UInt8) : OR :=
  if l.length < 4 then .fin else if sealed (l.take (l.length - 4)) = l then .ok (l.take (l.length - 4)) else .sum

theorem openL_sum (s : List UInt8) (h : 4 ≤ s.length) (hne : run (~~~ 0#32) s ≠ kept) : openL s = .sum := by
  unfold openL
  rw [if_neg (by omega), if_neg]
  intro he
  have hq : (s.drop (s.length - 4)).length = 4 := by rw [List.length_drop]; omega
  have := (opens_iff (s.take (s.length - 4)) (s.drop (s.length - 4)) hq).1 (by rw [List.take_append_drop]; exact he)
  rw [List.take_append_drop] at this
  exact hne this

theorem sealed_len (b : List UInt8) : (sealed b).length = b.length + 4 := by simp [sealed, le4]

theorem openL_sealed (b : List UInt8) : openL (sealed b) = .ok b := by
  have h1 : (sealed b).take ((sealed b).length - 4) = b := by
    rw [sealed_len]; unfold sealed; simp
  unfold openL
  rw [if_neg (by rw [sealed_len]; omega), h1, if_pos rfl]

/-- What it returns. -/
def OpenPost (A : Nat → Addr) (w : World) (r : OR) (e : Ending) (w' : World) : Prop :=
  Below w.heap.size w w' ∧ match r with
  | .fin => e = .returned (.tuple #[.slice none 0 0, senV A 0])
  | .sum => e = .returned (.tuple #[.slice none 0 0, senV A 1])
  | .ok b => ∃ v, e = .returned (.tuple #[v, .nilIface]) ∧ Rd w' 1 v b.length (bvs b)

set_option maxRecDepth 100000 in
set_option maxHeartbeats 1000000 in
theorem open_calls (S : List Nat) (A : Nat → Addr) (h0 : 0 ∈ S) (h1 : 1 ∈ S) (v : Value) (l : List UInt8) (w : World) (hS : Sents S w A) (ha : Rd w 1 v l.length (bvs l)) (hn : l.length ≤ 1099511627776) :
    Calls Tryz.prog 31 #[v] w (OpenPost A w (openL l)) := by
  obtain ⟨a1, c1, rfl⟩ := ha.slice
  have m1 := ha.len_le
  have g0 : ∀ w', Below w.heap.size w w' → w'.cell? ⟨3, 0, none⟩ = some (senV A 0) := fun w' b => (hS.below b).cell 0 h0
  have g1 : ∀ w', Below w.heap.size w w' → w'.cell? ⟨1, 0, none⟩ = some (senV A 1) := fun w' b => (hS.below b).cell 1 h1
  by_cases hl : l.length < 4
  · have k0 := g0 w (Below.refl _ _)
    go_enter Tryz.func31, Tryz.ntmps31
    go_wp2_with (go_quiet (fail))
    go_ret2
    unfold openL
    rw [if_pos hl]
    exact ⟨below_drewN (Below.refl _ _) _, rfl⟩
  · go_enter Tryz.func31, Tryz.ntmps31
    go_wp2_with (refine wpList_slice_h rfl 23 _ _ rfl sl_u8 1 sz_u8 _ l.length _ rfl _ _ rfl (l.length - 4) (by omega) ha.cap (by omega) ?_)
    intro a5 c5 r5
    have r5' : ∀ w', Below w.heap.size w w' → Rd w' 1 (.slice a5 (l.length - 4) c5) (l.take (l.length - 4)).length (bvs (l.take (l.length - 4))) := fun w' b => by
      have := r5 _ _ (ha.below b)
      rw [List.length_take, Nat.min_eq_left (by omega)]
      rw [show ∀ z : List UInt8, ∀ k, bvs (z.take k) = (bvs z).take k from fun z k => by simp [bvs, List.map_take]]
      exact this
    clear r5
    go_wp2_with fail
    refine (seal_calls _ (l.take (l.length - 4)) _ (r5' _ (Below.refl _ _)) (by rw [List.length_take]; omega)).mono ?_
    rintro e w1 ⟨v1, rfl, o1, b1⟩
    have q1 := Rd.of_owns o1
    clear o1
    go_wp2_with fail
    refine (equal_calls _ _ _ _ _ q1 (ha.below b1)).mono ?_
    rintro e w2 ⟨rfl, q2, rfl⟩
    have B2 := nxt b1 (below_drewN (Below.refl _ _) q2)
    clear q1
    generalize World.drewN _ q2 = w2 at *
    by_cases he : sealed (l.take (l.length - 4)) = l
    · rw [show ((sealed (l.take (l.length - 4)) == l)) = true by rw [beq_iff_eq]; exact he]
      have HE := Lib.hid he
      clear he
      go_wp2_with fail
      refine (clone_bytes _ _ _ _ (r5' _ B2) (bvs_one _) (by rw [List.length_take]; omega)).mono ?_
      rintro e w3 ⟨v3, rfl, o3, b3⟩
      go_wp2_with fail
      go_ret2
      unfold openL
      rw [if_neg hl, if_pos HE.out]
      exact ⟨nxt B2 b3, _, rfl, Rd.of_owns o3⟩
    · rw [show ((sealed (l.take (l.length - 4)) == l)) = false by rw [beq_eq_false_iff_ne]; exact he]
      have HE := Lib.hid he
      have k1 := g1 w2 B2
      clear he
      go_wp2_with (go_quiet (fail))
      go_ret2
      unfold openL
      rw [if_neg hl, if_neg HE.out]
      exact ⟨below_drewN B2 _, rfl⟩
end Go.Proofs.YtegiingcnhafbaaGreatDoor
