/- The document's reader: is there something behind? -/
import Derived.Test.YtjhebnjajnjhhaaDoorRefReader
namespace Go.Proofs.YtjhebnjajnjhhaaDoor
open Go Go.RowKit Vint

/-- Something behind is amiss. -/
def over (i : Nat) (s : Rs) : Rs := if s.bad = .fine ∧ 0 < s.left.length then s.fail i else s

set_option maxRecDepth 100000 in
set_option maxHeartbeats 400000 in
theorem refOver_calls {w : World} {g : Nat} {vb : Value} {s : Rs} (h : RefR w g vb s) (i : Nat) :
    Calls Tryd.prog 76 #[.pointer (some ⟨g, 0, none⟩), .int .i64 ((101 + i : Nat) : Int)] w
      (fun e w' => e = .returned (.tuple #[]) ∧ RefR w' g vb (over i s) ∧ Touch g w w') := by
  by_cases hb : s.bad = .fine
  · have hfine : ∀ n, Calls Tryd.prog 75 #[.pointer (some ⟨g, 0, none⟩)] (w.drewN n) (fun e w' => e = .returned (.bool true) ∧ w' = w.drewN n) := fun n => (refFine_yes (h.drewN n) hb).mono fun _ _ ⟨he, hw⟩ => ⟨he, hw.symm⟩
    obtain ⟨ab, cb, rfl, hrow, hrd, hoff, k0, k1, k2, f1⟩ := h.parts
    have hpos := h.1.1
    have m1 := hrd.len_le
    have HB := Lib.hid hb
    have hll := left_length s
    have HLL := Lib.hid hll
    clear hb hrow hll
    by_cases hl : s.pos < s.l.length
    · have HO := Lib.hid (show over i s = s.fail i from if_pos ⟨HB.out, by rw [HLL.out]; omega⟩)
      have hf := fun n => refFail_calls (h.drewN n) i
      go_enter Tryd.func76, Tryd.ntmps76
      go_wp2_with fail
      go_quiet ((go_at_call 75; exact Calls.quiet_of_same (hfine _)))
      go_wp2_with fail
      refine (hf _).mono ?_
      rintro e w2 ⟨rfl, r2, t2⟩
      go_wp2_with fail
      go_end0
      rw [HO.out]
      exact ⟨rfl, r2, Touch.trans ((Touch.refl g w).drewN _) t2⟩
    · have HO := Lib.hid (show over i s = s from if_neg (fun e => by rw [HLL.out] at e; omega))
      have hd : decide (s.pos < s.l.length) = false := decide_eq_false hl
      go_enter Tryd.func76, Tryd.ntmps76
      go_wp2_with fail
      go_quiet ((go_at_call 75; exact Calls.quiet_of_same (hfine _)))
      go_wp2_with fail
      go_end0
      rw [HO.out]
      exact ⟨rfl, h.drewN _, (Touch.refl g w).drewN _⟩
  · have hfine : ∀ n, Calls Tryd.prog 75 #[.pointer (some ⟨g, 0, none⟩)] (w.drewN n) (fun e w' => e = .returned (.bool false) ∧ w' = w.drewN n) := fun n => (refFine_no (h.drewN n) hb).mono fun _ _ ⟨he, hw⟩ => ⟨he, hw.symm⟩
    have HO := Lib.hid (show over i s = s from if_neg (fun e => hb e.1))
    clear hb
    go_enter Tryd.func76, Tryd.ntmps76
    go_wp2_with fail
    go_quiet ((go_at_call 75; exact Calls.quiet_of_same (hfine _)))
    go_wp2_with fail
    go_end0
    rw [HO.out]
    exact ⟨rfl, h.drewN _, (Touch.refl g w).drewN _⟩
end Go.Proofs.YtjhebnjajnjhhaaDoor
