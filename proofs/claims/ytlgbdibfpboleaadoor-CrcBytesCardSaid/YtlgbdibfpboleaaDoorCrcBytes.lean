/- CrcBytes returns true at every input. -/
import Derived.Test.YtlgbdibfpboleaaDoorCrcOpen
import Derived.Test.YtlgbdibfpboleaaDoorCrcFirst
import Derived.Test.YtlgbdibfpboleaaDoorRefBytes
import Derived.Test.YtlgbdibfpboleaaDoorVintInt
import Derived.Test.YtlgbdibfpboleaaDoorSee
namespace Go.Proofs.YtlgbdibfpboleaaDoor
open Go Go.RowKit Crc Vint

set_option maxRecDepth 100000 in
set_option maxHeartbeats 2000000 in
theorem crcBytes_walk (S : List Nat) (A : Nat → Addr) (va : Value) (l : List UInt8) (at' : Int) (by' : UInt8) (w : World) (hS : Sents S w A) (hall : All S) (ha : Rd w 1 va l.length (bvs l)) (hat : -9223372036854775808 ≤ at' ∧ at' ≤ 9223372036854775807) :
    Calls Tryd.prog 7 #[va, .int .i64 at', .int .u8 (by'.toNat : Int)] w (fun e w' => e = .returned (.bool true) ∧ Below w.heap.size w w') := by
  obtain ⟨a1, c1, rfl⟩ := ha.slice
  have m1 := ha.len_le
  by_cases t1 : 500 < l.length ∨ l.length = 0 ∨ by'.toNat = 0
  · go_enter Tryd.func7, Tryd.ntmps7
    go_wp2_with fail
    refine (crcFirst_calls _).mono ?_
    rintro e w1 ⟨rfl, b1⟩
    generalize by'.toNat = q at *
    rcases t1 with t1 | t1 | t1
    · go_wp2_with fail
      all_goals (
        go_ret
        exact ⟨rfl, b1⟩)
    · go_wp2_with fail
      all_goals (
        go_ret
        exact ⟨rfl, b1⟩)
    · go_wp2_with fail
      all_goals (
        go_ret
        exact ⟨rfl, b1⟩)
  · have t2 : ¬ 500 < l.length := by omega
    have t3 : ¬ l.length = 0 := by omega
    have t4 : ¬ by'.toNat = 0 := by omega
    clear t1
    have t3' : ((l.length : Int) == 0) = false := by rw [beq_eq_false_iff_ne]; omega
    have t4' : ((by'.toNat : Int) == 0) = false := by rw [beq_eq_false_iff_ne]; omega
    have t2' : decide ((500 : Int) < (l.length : Int)) = false := by rw [decide_eq_false_iff_not]; omega
    go_enter Tryd.func7, Tryd.ntmps7
    go_wp2_with fail
    refine (crcFirst_calls _).mono ?_
    rintro e w1 ⟨rfl, b1⟩
    go_wp2_with fail
    refine (refBytes_calls _ l _ (ha.below b1) (by omega)).mono ?_
    rintro e w2 ⟨v2, rfl, o2, b2⟩
    obtain ⟨a2, c2, rfl⟩ := owns_slice o2
    obtain ⟨g2, rfl, hg2⟩ := owns_at o2 (by omega)
    have hd : by' ≠ 0 := by rintro rfl; exact t4 rfl
    go_wp2_with fail
    refine (number_calls at' (l.length : Int) _ (by omega) (by omega)).mono ?_
    rintro e w3 ⟨rfl, rfl⟩
    obtain ⟨k, hk, hkl⟩ : ∃ k : Nat, at' % (l.length : Int) = (k : Int) ∧ k < l.length := by
      have e1 := Int.emod_nonneg at' (show (l.length : Int) ≠ 0 by omega)
      have e2 := Int.emod_lt_of_pos at' (show (0 : Int) < (l.length : Int) by omega)
      exact ⟨(at' % (l.length : Int)).toNat, by omega, by omega⟩
    rw [hk]
    clear hk
    have f1 := World.ownsRow.cellAt o2 k (by simpa [bvs] using hkl)
    rw [bvs_at l k hkl] at f1
    have hfr := World.ownsRow.frozenAt o2 k
    have x1 := u8x l[k] by'
    have hst := (World.ownsRow.stored o2 k (.int .u8 (((l[k] ^^^ by').toNat : Nat) : Int))).1
    rw [bvs_set] at hst
    have B2 := nxt b1 b2
    have B3 := B2.setCell (p := ⟨g2, k, none⟩) (Nat.le_trans b1.size hg2) (.int .u8 (((l[k] ^^^ by').toNat : Nat) : Int))
    have hne := sum_turned_ne hd l k hkl
    obtain ⟨z, hz⟩ : ∃ z, z = l[k] ^^^ by' := ⟨_, rfl⟩
    rw [← hz] at x1 hst B3 hne
    clear hz
    have hlen : (l.set k z).length = l.length := by simp
    have HT := Lib.hid hst
    have HB := Lib.hid B3
    have HN := Lib.hid hne
    clear hst B3 hne b2 B2 o2
    generalize l[k] = x at *
    go_wp2_with fail
    have B4 := HB.out
    have o4 := HT.out
    have w4lt : g2 < (w2.setCell ⟨g2, k, none⟩ (.int .u8 ((z.toNat : Nat) : Int))).heap.size := by
      rw [World.size_setCell]; exact World.block_lt_of_cell? _ _ f1
    clear HT HB f1 hfr x1
    generalize World.setCell _ _ _ = w4 at *
    refine (seal_calls _ l _ (ha.below B4) (by omega)).mono ?_
    rintro e w5 ⟨v5, rfl, o5, b5⟩
    have B5 := nxt B4 b5
    have rc : Rd w4 1 (.slice (some ⟨g2, 0, none⟩) l.length c2) (l.set k z).length (bvs (l.set k z)) := by rw [hlen]; exact Rd.of_owns o4
    clear o4
    obtain ⟨a5, c5, rfl⟩ := owns_slice o5
    obtain ⟨g5, rfl, hg5⟩ := owns_at o5 (by rw [sealed_len]; omega)
    have hsl := sealed_len l
    have hrun := run_turned_ne hd (sealed l)
    obtain ⟨s0, hs0⟩ : ∃ s0, s0 = sealed l := ⟨_, rfl⟩
    have hkept := run_sealed l
    rw [← hs0] at o5 hsl hrun hkept ⊢
    clear hs0
    have hs4 : 4 ≤ s0.length := by omega
    have hs5 : s0.length ≤ 600 := by omega
    clear hsl
    go_wp2_with fail
    refine (number_calls _ (s0.length : Int) _ (by omega) (by omega)).mono ?_
    rintro e w6 ⟨rfl, rfl⟩
    obtain ⟨m, hm, hms⟩ : ∃ m : Nat, at'.tdiv 3 % (s0.length : Int) = (m : Int) ∧ m < s0.length := by
      have e1 := Int.emod_nonneg (at'.tdiv 3) (show (s0.length : Int) ≠ 0 by omega)
      have e2 := Int.emod_lt_of_pos (at'.tdiv 3) (show (0 : Int) < (s0.length : Int) by omega)
      exact ⟨(at'.tdiv 3 % (s0.length : Int)).toNat, by omega, by omega⟩
    rw [hm]
    clear hm
    have f1 := World.ownsRow.cellAt o5 m (by simpa [bvs] using hms)
    rw [bvs_at s0 m hms] at f1
    have hfr := World.ownsRow.frozenAt o5 m
    have x1 := u8x s0[m] by'
    have hst := (World.ownsRow.stored o5 m (.int .u8 (((s0[m] ^^^ by').toNat : Nat) : Int))).1
    rw [bvs_set] at hst
    have hB := b5.setCell (p := ⟨g5, m, none⟩) hg5 (.int .u8 (((s0[m] ^^^ by').toNat : Nat) : Int))
    have hO := hrun m hms (~~~ 0#32)
    rw [hkept] at hO
    obtain ⟨y, hy⟩ : ∃ y, y = s0[m] ^^^ by' := ⟨_, rfl⟩
    rw [← hy] at x1 hst hB hO
    clear hy hrun hkept
    have hlen2 : (s0.set m y).length = s0.length := List.length_set
    have hop := openL_sum (s0.set m y) (by omega) hO
    have HT := Lib.hid hst
    have HB := Lib.hid hB
    have HO := Lib.hid hop
    clear hst hB hO hop o5 b5 B5 w4lt
    generalize s0[m] = x at *
    go_wp2_with fail
    have B7 := HB.out
    have o7 := HT.out
    clear HT HB f1 hfr x1
    generalize World.setCell _ _ _ = w7 at *
    have B8 := nxt B4 B7
    have rs : Rd w7 1 (.slice (some ⟨g5, 0, none⟩) s0.length c5) (s0.set m y).length (bvs (s0.set m y)) := by rw [hlen2]; exact Rd.of_owns o7
    replace rc := rc.below B7
    refine (open_calls S A (hall 0 (by omega)) (hall 1 (by omega)) _ (s0.set m y) _ (hS.below B8) rs (by omega)).mono ?_
    rw [HO.out]
    rintro e w8 ⟨b8, rfl⟩
    have B9 := nxt B8 b8
    replace rc := rc.below b8
    clear rs o7 B7 B8 b8
    go_wp2_with fail
    refine (of_one _ _ _ _ (ha.below B9)).mono ?_
    rintro e w9 ⟨rfl, b9⟩
    have B10 := nxt B9 b9
    replace rc := rc.below b9
    clear B9 b9
    go_wp2_with fail
    refine (of_one _ _ _ _ rc).mono ?_
    rintro e w10 ⟨rfl, b10⟩
    have B11 := nxt B10 b10
    clear B10 b10 rc
    have hx : (((sum l).toNat : Int) != ((sum (l.set k z)).toNat : Int)) = true := by
      rw [bne_iff_ne]; intro e; exact HN.out (BitVec.eq_of_toNat_eq (by omega))
    go_wp2_with fail
    refine (is_calls (hS.below B11) hall _ (.bare 1) ⟨by omega, rfl⟩ _).mono ?_
    rintro e w12 ⟨rfl, b12⟩
    have B12 := nxt B11 b12
    clear B11 b12
    go_wp2_with fail
    go_ret
    exact ⟨rfl, B12⟩
end Go.Proofs.YtlgbdibfpboleaaDoor
