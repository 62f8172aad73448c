/- Numbers out of bytes: the two readers and the document's. -/
import Derived.Test.YtegiingcnhafbaaGreatDoorSent
import Derived.Test.YtegiingcnhafbaaGreatDoorPlain
import Derived.Test.YtegiingcnhafbaaGreatDoorVintPutInt
namespace Go.Proofs.YtegiingcnhafbaaGreatDoor
open Go Go.RowKit Vint

/-- What a reading returns. -/
def gr (A : Nat → Addr) : GR → List Value
  | .ok n k => [.int .u64 (n : Int), .int .i64 (k : Int), .nilIface]
  | .fin => [.int .u64 0, .int .i64 0, senV A 0]
  | .shape => [.int .u64 0, .int .i64 0, senV A 2]

theorem or_add (N q k : Nat) (hN : N < 2 ^ (7 * k)) (hq : q < 256) (hb : N + q % 128 * 2 ^ (7 * k) < 18446744073709551616) :
    bits .or .u64 (N : Int) (IntKind.u64.wrap (IntKind.u64.wrap (bits .and .u8 (q : Int) 127) * 2 ^ (7 * k))) = ((N + q % 128 * 2 ^ (7 * k) : Nat) : Int) := by
  have e1 : bits .and .u8 (q : Int) 127 = ((q % 128 : Nat) : Int) := by
    have h := u8_and_nat q 127 hq (by omega)
    refine h.trans ?_
    rw [show (127 : Nat) = 2 ^ 7 - 1 by decide, Nat.and_two_pow_sub_one_eq_mod]
  have e3 : ((q % 128 : Nat) : Int) * 2 ^ (7 * k) = ((q % 128 * 2 ^ (7 * k) : Nat) : Int) := by push_cast; rfl
  have e2 : IntKind.u64.wrap ((q % 128 : Nat) : Int) = ((q % 128 : Nat) : Int) := by rw [IntKind.wrap_u64]; omega
  generalize hm : q % 128 * 2 ^ (7 * k) = m at *
  have e4 : IntKind.u64.wrap (m : Int) = (m : Int) := by rw [IntKind.wrap_u64]; omega
  rw [e1, e2, e3, e4, u64_or_nat N m (by omega) (by omega), ← hm]
  congr 1
  rw [Nat.or_comm, ← Nat.shiftLeft_eq, ← Nat.shiftLeft_add_eq_or_of_lt hN, Nat.add_comm]

set_option maxRecDepth 100000 in
set_option maxHeartbeats 1000000 in
theorem get_calls (S : List Nat) (A : Nat → Addr) (hS0 : 0 ∈ S) (hS2 : 2 ∈ S) (v : Value) (l : List UInt8) (w : World) (hS : Sents S w A) (ha : Rd w 1 v l.length (bvs l)) :
    Calls Tryz.prog 60 #[v] w (fun e w' => e = .returned (.tuple (gr A (getL 0 0 l)).toArray) ∧ ∃ m, w' = w.drewN m) := by
  obtain ⟨a1, c1, rfl⟩ := ha.slice
  have m1 := ha.len_le
  have g0 := hS.cell 0 hS0
  have g2 := hS.cell 2 hS2
  have e0 : glob 0 = 3 := rfl
  have e2 : glob 2 = 0 := rfl
  rw [e0] at g0
  rw [e2] at g2
  clear e0 e2
  go_enter Tryz.func60, Tryz.ntmps60
  go_wp2_with fail
  go_loop [5, 8] (fun nv iv => ∃ k N : Nat, k ≤ 9 ∧ k ≤ l.length ∧ N < 2 ^ (7 * k) ∧ iv = .int .i64 k ∧ nv = .int .u64 (N : Int) ∧ getL k N (l.drop k) = getL 0 0 l) (fun _ iv => 10 - (intOf iv).toNat)
  case atStart => exact ⟨0, 0, by omega, by omega, by simp, rfl, rfl, by simp⟩
  case round =>
    obtain ⟨k, N, hk, hkl, hN, rfl, rfl, hg⟩ := hrel
    by_cases hlt : k < l.length
    · obtain ⟨b, o, rfl, hc1, hm1, hx1⟩ := ha.at (by omega)
      have f1 := hx1 k _ (bvs_at l k hlt)
      rw [List.drop_eq_getElem_cons hlt] at hg
      clear hx1
      have hcb := (l[k]).toNat_lt
      generalize l[k] = c at *
      simp only [getL] at hg
      generalize c.toNat = q at *
      obtain ⟨rest, hr⟩ : ∃ r, r = List.drop (k + 1) l := ⟨_, rfl⟩
      rw [← hr] at hg
      have hd := Lib.hid hr
      clear hr
      by_cases h9 : k = 9 ∧ 1 < q
      · rw [if_pos h9] at hg
        obtain ⟨rfl, h9'⟩ := h9
        have HG := Lib.hid hg
        clear hg hN hkl hk
        go_wp2_with (go_quiet (fail))
        go_ret3
        exact ⟨by rw [← HG.out]; rfl, _, rfl⟩
      · rw [if_neg h9] at hg
        by_cases h128 : 128 ≤ q
        · rw [if_pos h128] at hg
          have h9' : k < 9 := by omega
          clear h9
          have hb : N + q % 128 * 2 ^ (7 * k) < 2 ^ (7 * (k + 1)) := add_lt_pow k N q hN
          have hor := Lib.hid (or_add N q k hN hcb (by
            have := Nat.pow_le_pow_right (show 0 < 2 by omega) (show 7 * (k + 1) ≤ 63 by omega)
            omega))
          go_wp2_with (go_quiet (fail))
          exact ⟨⟨k + 1, _, by omega, by omega, hb, by go_num, congrArg (Value.int .u64) hor.out, by rw [← hd.out]; exact hg⟩, by simp [intOf]; omega⟩
        · rw [if_neg h128] at hg
          by_cases h0 : 0 < k ∧ q = 0
          · rw [if_pos h0] at hg
            obtain ⟨h0', rfl⟩ := h0
            have HG := Lib.hid hg
            clear hg
            go_wp2_with (go_quiet (fail))
            all_goals (
              go_ret3
              exact ⟨by rw [← HG.out]; rfl, _, rfl⟩)
          · rw [if_neg h0] at hg
            have HG := Lib.hid hg
            clear hg
            by_cases h9' : k = 9
            · subst h9'
              have hc2 : q ≤ 1 := by omega
              have hor := or_add N q 9 hN hcb (by
                have hc3 : q % 128 ≤ 1 := by omega
                have := Nat.mul_le_mul_right (2 ^ (7 * 9)) hc3
                omega)
              have e63 : (2 : Int) ^ (7 * 9) = 9223372036854775808 := by decide
              rw [e63] at hor
              have HO := Lib.hid hor
              have hq0 : ¬ q = 0 := fun e => h0 ⟨by omega, e⟩
              clear hor e63 h9 h0
              go_wp2_with (go_quiet (fail))
              go_ret3
              exact ⟨by rw [← HG.out, HO.out]; rfl, 0, rfl⟩
            · have hor := Lib.hid (or_add N q k hN hcb (by
                have := Nat.pow_le_pow_right (show 0 < 2 by omega) (show 7 * (k + 1) ≤ 63 by omega)
                have := add_lt_pow k N q hN
                omega))
              go_wp2_with (go_quiet (fail))
              all_goals (
                go_ret3
                exact ⟨by rw [← HG.out, hor.out]; rfl, 0, rfl⟩)
    · have hkl' : k = l.length := by omega
      subst hkl'
      rw [List.drop_length] at hg
      have HG := Lib.hid hg
      clear hg hlt hkl
      go_wp2_with (go_quiet (fail))
      go_ret3
      exact ⟨by rw [← HG.out]; rfl, _, rfl⟩

theorem xor_i64_zero (a : Int) (h : I64 a) : bits .xor .i64 a 0 = a := by
  have h0 := h.out
  show IntKind.i64.wrap ((BitVec.ofInt 64 a ^^^ BitVec.ofInt 64 0).toNat : Nat) = a
  rw [show BitVec.ofInt 64 0 = 0#64 by decide, BitVec.xor_zero, BitVec.toNat_ofInt, IntKind.wrap_i64]
  omega

theorem xor_i64_ones (a : Int) (h : I64 a) : bits .xor .i64 a (-1) = -a - 1 := by
  have h0 := h.out
  show IntKind.i64.wrap ((BitVec.ofInt 64 a ^^^ BitVec.ofInt 64 (-1)).toNat : Nat) = _
  rw [show BitVec.ofInt 64 (-1) = BitVec.allOnes 64 by decide, BitVec.xor_allOnes, BitVec.toNat_not, BitVec.toNat_ofInt, IntKind.wrap_i64]
  omega

theorem unfold_bits (n : Nat) (h : n < 18446744073709551616) : bits .xor .i64 ((n : Int) / 2) (wrap64 (-wrap64 (bits .and .u64 (n : Int) 1))) = unfold' n := by
  have e1 : bits .and .u64 (n : Int) 1 = ((n % 2 : Nat) : Int) := by
    have := u64_and_nat n 1 h (by omega)
    refine this.trans ?_
    rw [Nat.and_one_is_mod]
  rw [e1]
  unfold unfold'
  rcases Nat.mod_two_eq_zero_or_one n with h2 | h2
  · rw [h2, if_pos rfl, show wrap64 (-wrap64 ((0 : Nat) : Int)) = 0 by unfold wrap64; omega, xor_i64_zero _ (by constructor <;> omega)]
    omega
  · rw [h2, if_neg (by omega), show wrap64 (-wrap64 ((1 : Nat) : Int)) = -1 by unfold wrap64; omega, xor_i64_ones _ (by constructor <;> omega)]
    omega

/-- What a reading of a number with a sign returns. -/
def gi (A : Nat → Addr) : GR → List Value
  | .ok n k => [.int .i64 (unfold' n), .int .i64 (k : Int), .nilIface]
  | .fin => [.int .i64 0, .int .i64 0, senV A 0]
  | .shape => [.int .i64 0, .int .i64 0, senV A 2]

set_option maxRecDepth 100000 in
set_option maxHeartbeats 1000000 in
theorem getInt_calls (S : List Nat) (A : Nat → Addr) (hS0 : 0 ∈ S) (hS2 : 2 ∈ S) (v : Value) (l : List UInt8) (w : World) (hS : Sents S w A) (ha : Rd w 1 v l.length (bvs l)) :
    Calls Tryz.prog 62 #[v] w (fun e w' => e = .returned (.tuple (gi A (getL 0 0 l)).toArray) ∧ ∃ m, w' = w.drewN m) := by
  go_enter Tryz.func62, Tryz.ntmps62
  go_wp2_with fail
  refine (get_calls S A hS0 hS2 v l w hS ha).mono ?_
  rintro e w1 ⟨rfl, m, rfl⟩
  cases hg : getL 0 0 l with
  | ok n k =>
    have hU := (get_ok hg).1.lt
    simp only [gr]
    have HG := Lib.hid hg
    clear hg
    go_wp2_with fail
    go_ret3
    exact ⟨by rw [HG.out]; exact congrArg (fun z => Ending.returned (.tuple #[.int .i64 z, .int .i64 (k : Int), .nilIface])) (unfold_bits n hU), _, rfl⟩
  | fin =>
    simp only [gr]
    have HG := Lib.hid hg
    clear hg
    go_wp2_with fail
    go_ret3
    exact ⟨by rw [HG.out]; exact congrArg (fun z => Ending.returned (.tuple #[.int .i64 z, .int .i64 0, senV A 0])) (unfold_bits 0 (by omega)), _, rfl⟩
  | shape =>
    simp only [gr]
    have HG := Lib.hid hg
    clear hg
    go_wp2_with fail
    go_ret3
    exact ⟨by rw [HG.out]; exact congrArg (fun z => Ending.returned (.tuple #[.int .i64 z, .int .i64 0, senV A 2])) (unfold_bits 0 (by omega)), _, rfl⟩
end Go.Proofs.YtegiingcnhafbaaGreatDoor
