/- A reader of numbers: a number of so many bytes. -/
import Derived.Test.YtldopocmmeidkaaDoorReaderAll
import Derived.Test.YtldopocmmeidkaaDoorRefFixed
namespace Go.Proofs.YtldopocmmeidkaaDoor
open Go Go.RowKit Vint

/-- What a reading of a number of so many bytes leaves. -/
def FixedPost (A : Nat → Addr) (g : Nat) (n : Int) (s : Rs) (w : World) (e : Ending) (w' : World) : Prop :=
  e = .returned (.int .u64 ((fixed n s).1 : Nat)) ∧ Rdr A w' g (fixed n s).2 ∧ Touch g w w'

theorem fixed_not {n : Int} {s : Rs} (h : s.bad ≠ .fine ∨ n < 0 ∨ 8 < n) : fixed n s = (0, s) := by
  unfold fixed; rw [if_pos h]
theorem fixed_short {n : Int} {s : Rs} (hb : s.bad = .fine) (k : Nat) (hk : n = (k : Int)) (h8 : k ≤ 8) (hl : s.left.length < k) : fixed n s = (0, s.fail 0) := by
  subst hk
  unfold fixed
  rw [if_neg (by rw [hb]; simp; omega), if_pos (by omega)]
theorem fixed_yes {n : Int} {s : Rs} (hb : s.bad = .fine) (k : Nat) (hk : n = (k : Int)) (h8 : k ≤ 8) (hl : ¬ s.left.length < k) : fixed n s = (little (s.left.take k), s.on k) := by
  subst hk
  unfold fixed
  rw [if_neg (by rw [hb]; simp; omega), if_neg (by omega)]
  rfl

set_option maxRecDepth 100000 in
set_option maxHeartbeats 1000000 in
theorem fixed_calls' {S : List Nat} {A : Nat → Addr} {w : World} (hS : Sents S w A) (hz0 : 0 ∈ S) {g : Nat} (haw : Away S A g) {s : Rs} (h : Rdr A w g s) (n : Int) :
    Calls Tryd.prog 70 #[.pointer (some ⟨g, 0, none⟩), .int .i64 n] w (FixedPost A g n s w) := by
  obtain ⟨ab, cb, ve, hrow, hown, her, k0, k1, k2, f1⟩ := h.parts
  have hpos := h.1.1
  have hL := h.1.2
  by_cases hno : s.bad ≠ .fine ∨ n < 0 ∨ 8 < n
  · have HN := Lib.hid hno
    by_cases hb : s.bad = .fine
    · have hve : ve = .nilIface := by rw [hb] at her; exact her
      subst hve
      have hn2 : n < 0 ∨ 8 < n := hno.resolve_left (fun e => e hb)
      clear hno hb hrow hown her
      rcases hn2 with hn2 | hn2
      all_goals (
        go_enter Tryd.func70, Tryd.ntmps70
        go_wp2_with fail
        all_goals (
          go_ret
          unfold FixedPost
          rw [fixed_not HN.out]
          exact ⟨rfl, h, Touch.refl _ _⟩))
    · obtain ⟨T, u, rfl⟩ := her.not_nil hb
      clear hno hb hrow hown her
      go_enter Tryd.func70, Tryd.ntmps70
      go_wp2_with fail
      go_ret
      unfold FixedPost
      rw [fixed_not HN.out]
      exact ⟨rfl, h, Touch.refl _ _⟩
  · obtain ⟨hb, hn0, hn8⟩ : s.bad = .fine ∧ 0 ≤ n ∧ n ≤ 8 := by
      refine ⟨Classical.byContradiction fun e => hno (.inl e), ?_, ?_⟩ <;> omega
    obtain ⟨k, rfl⟩ : ∃ k : Nat, n = (k : Int) := ⟨n.toNat, by omega⟩
    have hk8 : k ≤ 8 := by omega
    have hve : ve = .nilIface := by rw [hb] at her; exact her
    subst hve
    have HB := Lib.hid hb
    have hlf := left_length s
    have rd := Rd.of_owns hown
    have m1 := rd.len_le
    have HR := Lib.hid hrow
    have HO := Lib.hid hown
    have HF := Lib.hid hlf
    have hll : s.left.length ≤ 9223372036854775807 := by omega
    by_cases hgt : s.left.length < k
    · clear hno hb hrow hown her hlf rd
      go_enter Tryd.func70, Tryd.ntmps70
      go_wp2_with fail
      refine (left_calls h).mono ?_
      rintro e w2 ⟨rfl, q2, rfl⟩
      go_wp2_with fail
      have c0 : (w.drewN q2).cell? ⟨3, 0, none⟩ = some (senV A 0) := (hS.drewN q2).cell 0 hz0
      have c1 : (w.drewN q2).cell? ⟨g, 1, none⟩ = some (.int .i64 (s.pos : Nat)) := k1
      have hbad := bad_calls' (hS.drewN q2).drew1 hz0 haw _ _ _ (s.pos : Int) (show ((w.drewN q2).drew).heap[g]? = _ from HR.out) 0 (by omega) hz0
      have c6 : (w.drewN q2).drew.ownsRow _ _ _ _ _ _ := HO.out
      have c7 : (w.drewN q2).drew.heap[g]? = _ := HR.out
      have c8 : Below w.heap.size w (w.drewN q2).drew := (below_drewN (Below.refl _ _) q2).drew
      have C6 := Lib.hid c6
      have C7 := Lib.hid c7
      clear c6 c7 k0 k1 k2 f1
      unfold senV at c0
      generalize w.drewN q2 = w5 at *
      go_still_tail 6, (by kernel_rfl)
      change wpList _ _ _ _ _ w5.drew
      go_wp2_with fail
      refine hbad.mono ?_
      rintro e w3 ⟨rfl, ve', h3, h4, h5⟩
      simp only [if_pos] at h4
      obtain ⟨_, rfl⟩ := h4
      go_wp2_with fail
      go_ret
      unfold FixedPost
      rw [fixed_short HB.out k rfl hk8 hgt]
      have h6 := h5.owns C6.out C7.out (by decide)
      exact ⟨rfl, ⟨⟨hpos, hL⟩, _, _, h3, h6, ⟨by omega, rfl⟩⟩, Touch.trans (Touch.of_below c8) h5⟩
    · have hle : s.pos + k ≤ s.l.length := by omega
      obtain ⟨a', c', hcut, hrd⟩ := run_part (P := Tryd.prog) 30 sl_u8 1 sz_u8 ab s.l.length cb s.pos (s.pos + k) .i64 .i64 (by omega) hle rd.cap
      rw [Nat.add_sub_cancel_left] at hcut hrd
      obtain ⟨l0, hl0⟩ : ∃ l0, l0 = s.left.take k := ⟨_, rfl⟩
      have hlen : l0.length = k := by rw [hl0, List.length_take]; omega
      have rd4 : Rd w 1 (.slice a' k c') k (bvs l0) := by
        have := hrd w _ rd
        simp only [Nat.mul_one] at this
        rw [hl0]; unfold Rs.left; rw [bvs_take, bvs_drop]; exact this
      obtain ⟨p3, hp3⟩ : ∃ p3, p3 = s.pos + k := ⟨_, rfl⟩
      have hadd : IntKind.i64.wrap ((s.pos : Int) + (k : Int)) = (p3 : Int) := by rw [IntKind.wrap_i64]; omega
      rw [← hp3] at hcut
      have HP3 := Lib.hid hp3
      have HL0 := Lib.hid hl0
      have HLEN := Lib.hid hlen
      clear hno hb hrow hown her hlf rd hrd hp3 hl0 hlen
      go_enter Tryd.func70, Tryd.ntmps70
      go_wp2_with fail
      refine (left_calls h).mono ?_
      rintro e w2 ⟨rfl, q2, rfl⟩
      go_wp2_with fail
      go_quiet (fail)
      clear hadd hcut
      go_wp2_with fail
      go_loop [5, 6, 7, 48] (fun nv _ _ iv => ∃ j : Nat, j ≤ k ∧ iv = .int .i64 j ∧ nv = .int .u64 (little (l0.take j) : Int)) (fun _ _ _ iv => k - (intOf iv).toNat)
      case atStart => exact ⟨0, Nat.zero_le _, rfl, rfl⟩
      case round =>
        obtain ⟨j, hj, rfl, rfl⟩ := hrel
        by_cases hlt : j < k
        · obtain ⟨b, o, rfl, hc1, hm1, hx1⟩ := rd4.at (by omega)
          have hlt2 : j < l0.length := by rw [HLEN.out]; exact hlt
          have g1 := hx1 j _ (bvs_at l0 j hlt2)
          have hnext := little_snoc (l0.take j) l0[j]
          rw [← List.take_succ_eq_append_getElem hlt2, List.length_take, Nat.min_eq_left (by omega)] at hnext
          have hlow := little_lt (l0.take j)
          rw [List.length_take, Nat.min_eq_left (by omega)] at hlow
          have hq := (l0[j]).toNat_lt
          clear hx1 rd4
          generalize little (l0.take j) = N at *
          generalize (l0[j]).toNat = q at *
          have HN := Lib.hid hnext
          clear hnext
          have hb : N + q * 2 ^ (8 * j) < 2 ^ (8 * (j + 1)) := by
            rw [show 8 * (j + 1) = 8 * j + 8 by omega, Nat.pow_add]
            have h1 : N < 2 ^ (8 * j) := by rw [Nat.pow_mul]; exact hlow
            have h2 := Nat.mul_le_mul_right (2 ^ (8 * j)) (show q ≤ 255 by omega)
            omega
          have hb2 := Nat.pow_le_pow_right (show 0 < 2 by omega) (show 8 * (j + 1) ≤ 64 by omega)
          have hor := Lib.hid (or_add8 N q j (by rw [Nat.pow_mul]; exact hlow) (by omega))
          clear hb hb2 hlow
          go_wp2_with fail
          refine ⟨⟨_, _, _, _, ?_, rfl, rfl, rfl, rfl⟩, by simp [intOf]; omega⟩
          exact ⟨j + 1, by omega, by go_num, congrArg (Value.int .u64) (by rw [hor.out, HN.out, show (256 : Nat) ^ j = 2 ^ (8 * j) by rw [Nat.pow_mul]])⟩
        · obtain rfl : j = k := by omega
          rw [List.take_of_length_le (by rw [HLEN.out]; exact Nat.le_refl _)]
          clear rd4
          go_wp2_with fail
          go_ret
          unfold FixedPost
          rw [fixed_yes HB.out j rfl hk8 hgt, ← HL0.out]
          exact ⟨rfl, (h.drewN _).moved j hle _ (by rw [Int.natCast_add]), ((Touch.refl g w).drewN _).set 1 _⟩

theorem fixed_calls {S : List Nat} {A : Nat → Addr} {w : World} (hS : Sents S w A) (hall : All S) {g : Nat} (haw : Away S A g) {s : Rs} (h : Rdr A w g s) (n : Int) :
    Calls Tryd.prog 70 #[.pointer (some ⟨g, 0, none⟩), .int .i64 n] w (FixedPost A g n s w) := fixed_calls' hS (hall 0 (by omega)) haw h n
end Go.Proofs.YtldopocmmeidkaaDoor
