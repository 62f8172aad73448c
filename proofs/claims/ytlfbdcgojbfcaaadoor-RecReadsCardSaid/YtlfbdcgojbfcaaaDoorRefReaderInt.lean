/- The document's reader of numbers: a number with a sign. -/
import Derived.Test.YtlfbdcgojbfcaaaDoorRefReader
namespace Go.Proofs.YtlfbdcgojbfcaaaDoor
open Go Go.RowKit Vint

/-- The document's reading of a number with a sign. -/
def RefIntPost (g : Nat) (vb : Value) (from' to' : Int) (s : Rs) (w : World) (e : Ending) (w' : World) : Prop :=
  e = .returned (.int .i64 (Vint.int from' to' s).1) ∧ RefR w' g vb (Vint.int from' to' s).2 ∧ Touch g w w'

theorem int_stays {from' to' : Int} {s : Rs} (h : s.bad ≠ .fine) : Vint.int from' to' s = (0, s) := by unfold Vint.int; rw [if_pos h]
def intR (from' to' : Int) (s : Rs) : GR → Int × Rs
  | .ok n k => if unfold' n < from' ∨ to' < unfold' n then (0, s.fail 4) else (unfold' n, s.on k)
  | .fin => (0, s.fail 0)
  | .shape => (0, s.fail 2)
theorem intR_out {from' to' : Int} {n k : Nat} {s : Rs} (h : unfold' n < from' ∨ to' < unfold' n) : intR from' to' s (.ok n k) = (0, s.fail 4) := if_pos h
theorem intR_ok {from' to' : Int} {n k : Nat} {s : Rs} (h : ¬ (unfold' n < from' ∨ to' < unfold' n)) : intR from' to' s (.ok n k) = (unfold' n, s.on k) := if_neg h
theorem int_get {from' to' : Int} {s : Rs} (hb : s.bad = .fine) {r : GR} (hg : getL 0 0 s.left = r) : Vint.int from' to' s = intR from' to' s r := by
  unfold Vint.int; rw [if_neg (fun e => e hb), ← hg]; rfl

set_option maxRecDepth 100000 in
set_option maxHeartbeats 1000000 in
theorem refInt_calls {w : World} {g : Nat} {vb : Value} {s : Rs} (h : RefR w g vb s) (from' to' : Int) :
    Calls Tryd.prog 82 #[.pointer (some ⟨g, 0, none⟩), .int .i64 from', .int .i64 to'] w (RefIntPost g vb from' to' s w) := by
  by_cases hb : s.bad = .fine
  · obtain ⟨ab, cb, rfl, hrow, hrd, hoff, k0, k1, k2, f1⟩ := h.parts
    have hpos := h.1.1
    have m1 := hrd.len_le
    obtain ⟨a', c', hcut, hrd'⟩ := run_rest (P := Tryd.prog) 42 sl_u8 1 sz_u8 ab s.l.length cb s.pos .i64 hpos
    have rd' : ∀ w', Below w.heap.size w w' → Rd w' 1 (.slice a' (s.l.length - s.pos) c') s.left.length (bvs s.left) := fun w' b => by
      have := hrd' w' _ (hrd.below b)
      rw [Nat.mul_one] at this
      rw [left_length]; unfold Rs.left; rw [bvs_drop]; exact this
    have hget := fun n => refGetInt_calls _ s.left (w.drewN n) (rd' _ (below_drewN (Below.refl _ _) n))
    have hfine := refFine_yes h hb
    have HB := Lib.hid hb
    clear hrd hrd' rd' hrow hb
    cases hg : getL 0 0 s.left with
    | ok n k =>
      rw [hg] at hget
      simp only [ri] at hget
      have hk := get_ok hg
      rw [left_length] at hk
      have hk1 : s.pos + k ≤ s.l.length := by omega
      have hk2 : k ≤ 10 := hk.2.2.1
      have HG := Lib.hid (int_get (from' := from') (to' := to') HB.out hg)
      clear hg hk
      obtain ⟨z, hz⟩ : ∃ z, z = unfold' n := ⟨_, rfl⟩
      rw [← hz] at hget
      have HZ := Lib.hid hz
      clear hz
      by_cases hmn : z < from' ∨ to' < z
      · have hmn2 := Lib.hid hmn
        rcases hmn with hmn | hmn
        all_goals (
          go_enter Tryd.func82, Tryd.ntmps82
          go_wp2_with fail
          refine hfine.mono ?_
          rintro e w1 ⟨rfl, rfl⟩
          go_wp2_with fail
          go_quiet ((go_at_call 93; exact Calls.quiet_of_same (hget _)))
          go_wp2_with fail
          all_goals (
            refine (refFail_calls (h.drewN nq) 4).mono ?_
            rintro e w2 ⟨rfl, r2, t2⟩
            go_wp2_with fail
            go_ret
            unfold RefIntPost
            rw [HG.out, intR_out (by rw [← HZ.out]; exact hmn2.out)]
            exact ⟨rfl, r2, ((Touch.refl g w).drewN nq).trans t2⟩))
      · have hmn2 := Lib.hid hmn
        have hm3 : ¬ z < from' := fun e => hmn (.inl e)
        have hm4 : ¬ to' < z := fun e => hmn (.inr e)
        clear hmn
        go_enter Tryd.func82, Tryd.ntmps82
        go_wp2_with fail
        refine hfine.mono ?_
        rintro e w1 ⟨rfl, rfl⟩
        go_wp2_with fail
        go_quiet ((go_at_call 93; exact Calls.quiet_of_same (hget _)))
        go_wp2_with fail
        go_ret
        unfold RefIntPost
        rw [HG.out, intR_ok (by rw [← HZ.out]; exact hmn2.out), ← HZ.out]
        exact ⟨rfl, (h.drewN nq).moved k hk1 _ (by rw [Int.natCast_add]), ((Touch.refl g w).drewN nq).set 1 _⟩
    | fin =>
      rw [hg] at hget
      simp only [ri] at hget
      have HG := Lib.hid (int_get (from' := from') (to' := to') HB.out hg)
      clear hg
      go_enter Tryd.func82, Tryd.ntmps82
      go_wp2_with fail
      refine hfine.mono ?_
      rintro e w1 ⟨rfl, rfl⟩
      go_wp2_with fail
      go_quiet ((go_at_call 93; exact Calls.quiet_of_same (hget _)))
      go_wp2_with fail
      refine (refFail_calls (h.drewN nq) 0).mono ?_
      rintro e w2 ⟨rfl, r2, t2⟩
      go_wp2_with fail
      go_ret
      unfold RefIntPost
      rw [HG.out]
      exact ⟨rfl, r2, ((Touch.refl g w).drewN nq).trans t2⟩
    | shape =>
      rw [hg] at hget
      simp only [ri] at hget
      have HG := Lib.hid (int_get (from' := from') (to' := to') HB.out hg)
      clear hg
      go_enter Tryd.func82, Tryd.ntmps82
      go_wp2_with fail
      refine hfine.mono ?_
      rintro e w1 ⟨rfl, rfl⟩
      go_wp2_with fail
      go_quiet ((go_at_call 93; exact Calls.quiet_of_same (hget _)))
      go_wp2_with fail
      refine (refFail_calls (h.drewN nq) 2).mono ?_
      rintro e w2 ⟨rfl, r2, t2⟩
      go_wp2_with fail
      go_ret
      unfold RefIntPost
      rw [HG.out]
      exact ⟨rfl, r2, ((Touch.refl g w).drewN nq).trans t2⟩
  · go_enter Tryd.func82, Tryd.ntmps82
    go_wp2_with fail
    refine (refFine_no h hb).mono ?_
    rintro e w1 ⟨rfl, rfl⟩
    have HB := Lib.hid hb
    clear hb
    go_wp2_with fail
    go_ret
    unfold RefIntPost
    rw [int_stays HB.out]
    exact ⟨rfl, h, Touch.refl _ _⟩
end Go.Proofs.YtlfbdcgojbfcaaaDoor
