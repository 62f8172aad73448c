/- A reader of numbers: a number with a sign. -/
import Derived.Test.YtldopocmmeidkaaDoorReader
namespace Go.Proofs.YtldopocmmeidkaaDoor
open Go Go.RowKit Vint

set_option maxRecDepth 100000 in
set_option maxHeartbeats 1000000 in
theorem int_calls' {S : List Nat} {A : Nat → Addr} {w : World} (hS : Sents S w A) (hz0 : 0 ∈ S) (hz2 : 2 ∈ S) (hz4 : 4 ∈ S) {g : Nat} (haw : Away S A g) {s : Rs} (h : Rdr A w g s) (from' to' : Int) :
    Calls Tryd.prog 58 #[.pointer (some ⟨g, 0, none⟩), .int .i64 from', .int .i64 to'] w
      (fun e w' => e = .returned (.int .i64 (int from' to' s).1) ∧ Rdr A w' g (int from' to' s).2 ∧ Touch g w w') := by
  obtain ⟨ab, cb, ve, hrow, hown, her, k0, k1, k2, f1⟩ := h.parts
  have hpos := h.1.1
  have hL := h.1.2
  by_cases hb : s.bad = .fine
  · have hve : ve = .nilIface := by rw [hb] at her; exact her
    subst hve
    have rd := Rd.of_owns hown
    have m1 := rd.len_le
    obtain ⟨a', c', hcut, hrd⟩ := run_rest (P := Tryd.prog) 30 sl_u8 1 sz_u8 ab s.l.length cb s.pos .i64 hpos
    have rd' : ∀ w', Below w.heap.size w w' → Rd w' 1 (.slice a' (s.l.length - s.pos) c') s.left.length (bvs s.left) := fun w' b => by
      have := hrd w' _ (rd.below b)
      rw [Nat.mul_one] at this
      rw [left_length]; unfold Rs.left; rw [bvs_drop]; exact this
    have hget := fun n => getInt_calls S A hz0 hz2 _ s.left (w.drewN n) (hS.drewN n) (rd' _ (below_drewN (Below.refl _ _) n))
    have g4 : ∀ n, (w.drewN n).cell? ⟨0, 0, none⟩ = some (.iface 180 (.pointer (some (A 4)))) := fun n => (hS.drewN n).cell 4 hz4
    have hbad := fun n i hi him => bad_calls' (hS.drewN n) hz0 haw _ _ _ (s.pos : Int) (show (w.drewN n).heap[g]? = _ from hrow) i hi him
    have HB := Lib.hid hb
    have HR := Lib.hid hrow
    clear hrd rd rd' hS hrow hb
    cases hg : getL 0 0 s.left with
    | ok n k =>
      rw [hg] at hget
      simp only [gi] at hget
      have hk := get_ok hg
      rw [left_length] at hk
      have hk1 : s.pos + k ≤ s.l.length := by omega
      have hk2 : k ≤ 10 := hk.2.2.1
      have HG := Lib.hid hg
      clear hg hk
      obtain ⟨z, hz⟩ : ∃ z, z = unfold' n := ⟨_, rfl⟩
      rw [← hz] at hget
      have HZ := Lib.hid hz
      clear hz
      by_cases hmn : z < from' ∨ to' < z
      · have hmn2 := Lib.hid hmn
        rcases hmn with hmn | hmn
        all_goals (
          go_enter Tryd.func58, Tryd.ntmps58
          go_wp2_with fail
          go_quiet ((go_at_call 89; exact Calls.quiet_of (hget _)))
          go_wp2_with fail
          all_goals (
            refine (hbad _ 4 (by omega) hz4).mono ?_
            rintro e w1 ⟨rfl, ve', h1, h2, h3⟩
            go_wp2_with fail
            go_ret
            unfold int
            rw [if_neg (fun e => e HB.out), HG.out]
            simp only
            rw [← HZ.out, if_pos hmn2.out]
            exact ⟨rfl, ⟨⟨hpos, hL⟩, _, _, h1, h3.owns (show (w.drewN nq).ownsRow _ _ _ _ _ _ from hown) (show (w.drewN nq).heap[g]? = _ from HR.out) (by decide), h2⟩, Touch.trans ((Touch.refl g w).drewN nq) h3⟩))
      · have hmn2 := Lib.hid hmn
        have hm3 : ¬ z < from' := fun e => hmn (.inl e)
        have hm4 : ¬ to' < z := fun e => hmn (.inr e)
        clear hmn
        go_enter Tryd.func58, Tryd.ntmps58
        go_wp2_with fail
        go_quiet ((go_at_call 89; exact Calls.quiet_of (hget _)))
        go_wp2_with fail
        go_ret
        unfold int
        rw [if_neg (fun e => e HB.out), HG.out]
        simp only
        rw [← HZ.out, if_neg hmn2.out]
        exact ⟨rfl, (h.drewN nq).moved k hk1 _ (by rw [Int.natCast_add]), ((Touch.refl g w).drewN nq).set 1 _⟩
    | fin =>
      rw [hg] at hget
      simp only [gi, senV] at hget
      have HG := Lib.hid hg
      clear hg
      go_enter Tryd.func58, Tryd.ntmps58
      go_wp2_with fail
      go_quiet ((go_at_call 89; exact Calls.quiet_of (hget _)))
      go_wp2_with fail
      refine (hbad _ 0 (by omega) hz0).mono ?_
      rintro e w1 ⟨rfl, ve', h1, h2, h3⟩
      go_wp2_with fail
      go_ret
      unfold int
      rw [if_neg (fun e => e HB.out), HG.out]
      exact ⟨rfl, ⟨⟨hpos, hL⟩, _, _, h1, h3.owns (show (w.drewN nq).ownsRow _ _ _ _ _ _ from hown) (show (w.drewN nq).heap[g]? = _ from HR.out) (by decide), h2⟩, Touch.trans ((Touch.refl g w).drewN nq) h3⟩
    | shape =>
      rw [hg] at hget
      simp only [gi, senV] at hget
      have HG := Lib.hid hg
      clear hg
      go_enter Tryd.func58, Tryd.ntmps58
      go_wp2_with fail
      go_quiet ((go_at_call 89; exact Calls.quiet_of (hget _)))
      go_wp2_with fail
      refine (hbad _ 2 (by omega) hz2).mono ?_
      rintro e w1 ⟨rfl, ve', h1, h2, h3⟩
      go_wp2_with fail
      go_ret
      unfold int
      rw [if_neg (fun e => e HB.out), HG.out]
      exact ⟨rfl, ⟨⟨hpos, hL⟩, _, _, h1, h3.owns (show (w.drewN nq).ownsRow _ _ _ _ _ _ from hown) (show (w.drewN nq).heap[g]? = _ from HR.out) (by decide), h2⟩, Touch.trans ((Touch.refl g w).drewN nq) h3⟩
  · obtain ⟨T, u, rfl⟩ := her.not_nil hb
    have HB := Lib.hid hb
    clear hb hS hrow
    go_enter Tryd.func58, Tryd.ntmps58
    go_wp2_with fail
    go_ret
    unfold int
    rw [if_pos HB.out]
    exact ⟨rfl, h, Touch.refl _ _⟩

theorem int_calls {S : List Nat} {A : Nat → Addr} {w : World} (hS : Sents S w A) (hall : All S) {g : Nat} (haw : Away S A g) {s : Rs} (h : Rdr A w g s) (from' to' : Int) :
    Calls Tryd.prog 58 #[.pointer (some ⟨g, 0, none⟩), .int .i64 from', .int .i64 to'] w
      (fun e w' => e = .returned (.int .i64 (int from' to' s).1) ∧ Rdr A w' g (int from' to' s).2 ∧ Touch g w w') := int_calls' hS (hall 0 (by omega)) (hall 2 (by omega)) (hall 4 (by omega)) haw h from' to'
end Go.Proofs.YtldopocmmeidkaaDoor
