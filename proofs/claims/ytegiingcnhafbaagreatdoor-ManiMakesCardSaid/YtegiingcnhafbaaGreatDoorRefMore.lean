/- The document's sums, bit by bit. -/
import Derived.Test.YtegiingcnhafbaaGreatDoorCrcWalk
namespace Go.Proofs.YtegiingcnhafbaaGreatDoor
open Go Go.RowKit Crc

theorem stn_snoc (k : Nat) : ∀ x, stn (k + 1) x = st (stn k x) := by
  induction k with
  | zero => intro x; rfl
  | succ k ih => intro x; rw [show stn (k + 1 + 1) x = stn (k + 1) (st x) from rfl, ih]; rfl

/-- The lowest bit as the code asks for it. -/
theorem bit_walk (x : BitVec 32) : bits .and .u32 (x.toNat : Int) 1 = if x.getLsbD 0 then 1 else 0 := by
  have := band x 1#32
  rw [show (((1#32 : BitVec 32).toNat : Nat) : Int) = 1 by rfl] at this
  rw [this]
  have e : (x &&& 1#32).toNat = x.toNat % 2 := by
    rw [BitVec.toNat_and]
    show x.toNat &&& 1 = _
    exact Nat.and_one_is_mod _
  rw [e, BitVec.getLsbD, Nat.testBit_zero]
  rcases Nat.mod_two_eq_zero_or_one x.toNat with h | h <;> simp [h]

theorem st_odd (x : BitVec 32) (h : x.getLsbD 0 = true) : bits .xor .u32 ((x.toNat : Int) / 2) 2197175160 = (((st x).toNat : Nat) : Int) := by
  have := bxor (x >>> 1) poly
  unfold st
  rw [if_pos h, ← this]
  have e : (((x >>> 1).toNat : Nat) : Int) = (x.toNat : Int) / 2 := by
    rw [BitVec.toNat_ushiftRight, Nat.shiftRight_eq_div_pow]; rfl
  rw [e]; rfl

theorem st_even (x : BitVec 32) (h : x.getLsbD 0 = false) : (x.toNat : Int) / 2 = (((st x).toNat : Nat) : Int) := by
  unfold st
  rw [h, if_neg (by decide), BitVec.xor_zero, BitVec.toNat_ushiftRight, Nat.shiftRight_eq_div_pow]; rfl

set_option maxRecDepth 100000 in
set_option maxHeartbeats 1000000 in
theorem refMore_calls (s : BitVec 32) (v : Value) (l : List UInt8) (w : World) (hR : Rd w 1 v l.length (bvs l)) :
    Calls Tryz.prog 43 #[.int .u32 (s.toNat : Int), v] w (fun e w' => e = .returned (.int .u32 ((more s l).toNat : Int)) ∧ w' = w) := by
  obtain ⟨a, c, rfl⟩ := hR.slice
  have hlen := hR.len_le
  have en := not_walk s
  go_enter Tryz.func43, Tryz.ntmps43
  go_wp2_with fail
  go_loop [5, 6] (fun sv iv => ∃ k : Nat, k ≤ l.length ∧ iv = .int .i64 k ∧ sv = .int .u32 ((run (~~~ s) (l.take k)).toNat : Int)) (fun _ iv => l.length - (intOf iv).toNat)
  case atStart => exact ⟨0, Nat.zero_le _, rfl, congrArg (Value.int .u32) (by show _ = ((~~~ s).toNat : Int); rw [BitVec.toNat_not])⟩
  case round =>
    obtain ⟨k, hk, rfl, rfl⟩ := hrel
    by_cases hlt : k < l.length
    · obtain ⟨b, o, rfl, hc1, hm1, hx1⟩ := hR.at (by omega)
      have g1 := hx1 k _ (bvs_at l k hlt)
      have hnext : run (~~~ s) (l.take (k + 1)) = byt (run (~~~ s) (l.take k)) l[k] := by
        rw [List.take_succ_eq_append_getElem hlt, run_append]; rfl
      have HN := Lib.hid hnext
      clear hx1 hR hnext en
      generalize run (~~~ s) (l.take k) = x at *
      have eb := byte_walk x l[k]
      have hb : stn 8 (x ^^^ (l[k]).toBitVec.setWidth 32) = byt x l[k] := rfl
      generalize byt x l[k] = t at *
      generalize x ^^^ (l[k]).toBitVec.setWidth 32 = y at *
      go_wp2_with fail
      go_loop [5, 7] (fun cv jv => ∃ (j : Nat) (z : BitVec 32), j ≤ 8 ∧ jv = .int .i64 j ∧ cv = .int .u32 (z.toNat : Int) ∧ stn (8 - j) z = t) (fun _ jv => 8 - (intOf jv).toNat)
      case atStart => exact ⟨0, y, by omega, rfl, rfl, hb⟩
      case round =>
        obtain ⟨j, z, hj, rfl, rfl, hz⟩ := hrel
        by_cases h8 : j < 8
        · have hz' : stn (8 - (j + 1)) (st z) = t := by
            rw [← hz, show 8 - j = (8 - (j + 1)) + 1 by omega]; rfl
          have HZ := Lib.hid hz'
          clear hz hz' hb
          by_cases hbit : z.getLsbD 0 = true
          · have q1 := bit_walk z
            rw [if_pos hbit] at q1
            have q2 := st_odd z hbit
            clear hbit eb
            go_wp2_with fail
            exact ⟨⟨j + 1, st z, by omega, by go_num, rfl, HZ.out⟩, by simp [intOf]; omega⟩
          · have hbit' : z.getLsbD 0 = false := by simpa using hbit
            have q1 := bit_walk z
            rw [if_neg hbit] at q1
            have q2 := st_even z hbit'
            clear hbit hbit' eb
            go_wp2_with fail
            exact ⟨⟨j + 1, st z, by omega, by go_num, rfl, HZ.out⟩, by simp [intOf]; omega⟩
        · obtain rfl : j = 8 := by omega
          have hzt : z = t := hz
          have HT := Lib.hid hzt
          clear hz hzt hb eb
          go_wp2_with fail
          exact ⟨⟨k + 1, by omega, by go_num, congrArg (Value.int .u32) (by rw [HN.out, ← HT.out])⟩, by simp [intOf]; omega⟩
    · have hkl : k = l.length := by omega
      subst hkl
      rw [List.take_of_length_le (Nat.le_refl _)]
      have e2 := not_walk (run (~~~ s) l)
      have hm : more s l = ~~~ run (~~~ s) l := rfl
      have HM := Lib.hid hm
      clear hm hR hk hlt en
      generalize run (~~~ s) l = x at *
      go_wp2_with fail
      go_ret
      exact ⟨by rw [HM.out, BitVec.toNat_not]; rfl, rfl⟩

set_option maxRecDepth 100000 in
set_option maxHeartbeats 400000 in
theorem refSum_calls (v : Value) (l : List UInt8) (w : World) (h : Rd w 1 v l.length (bvs l)) :
    Calls Tryz.prog 16 #[v] w (fun e w' => e = .returned (.int .u32 ((sum l).toNat : Int)) ∧ w' = w) := by
  go_enter Tryz.func16, Tryz.ntmps16
  go_wp2_with fail
  refine (refMore_calls 0#32 v l _ h).mono ?_
  rintro e w1 ⟨rfl, rfl⟩
  go_wp2_with fail
  go_ret
  exact ⟨rfl, rfl⟩
end Go.Proofs.YtegiingcnhafbaaGreatDoor
