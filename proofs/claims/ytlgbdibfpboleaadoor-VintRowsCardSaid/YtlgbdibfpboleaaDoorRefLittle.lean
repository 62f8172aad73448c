/- The document's numbers of so many bytes. -/
import Derived.Test.YtlgbdibfpboleaaDoorAppend
import Derived.Test.YtlgbdibfpboleaaDoorVintGet
namespace Go.Proofs.YtlgbdibfpboleaaDoor
open Go Go.RowKit Vint

theorem or_add8 (N q k : Nat) (hN : N < 2 ^ (8 * k)) (hb : N + q * 2 ^ (8 * k) < 18446744073709551616) :
    bits .or .u64 (N : Int) (IntKind.u64.wrap ((q : Int) * 2 ^ (8 * k))) = ((N + q * 2 ^ (8 * k) : Nat) : Int) := by
  have e3 : (q : Int) * 2 ^ (8 * k) = ((q * 2 ^ (8 * k) : Nat) : Int) := by push_cast; rfl
  generalize hm : q * 2 ^ (8 * k) = m at *
  have e4 : IntKind.u64.wrap (m : Int) = (m : Int) := by rw [IntKind.wrap_u64]; omega
  rw [e3, e4, u64_or_nat N m (by omega) (by omega), ← hm]
  congr 1
  rw [Nat.or_comm, ← Nat.shiftLeft_eq, ← Nat.shiftLeft_add_eq_or_of_lt hN, Nat.add_comm]

theorem lit_snoc (k : Nat) : ∀ n, lit n (k + 1) = lit n k ++ [UInt8.ofNat (n / 256 ^ k)] := by
  induction k with
  | zero => intro n; simp [lit]
  | succ k ih =>
    intro n
    rw [show lit n (k + 1 + 1) = UInt8.ofNat n :: lit (n / 256) (k + 1) from rfl, ih]
    show _ = UInt8.ofNat n :: lit (n / 256) k ++ _
    rw [Nat.div_div_eq_div_mul, Nat.pow_succ, Nat.mul_comm (256 ^ k) 256]
    rfl

set_option maxRecDepth 100000 in
set_option maxHeartbeats 1000000 in
theorem refLittle_calls (n k0 : Nat) (w : World) (hk0 : k0 ≤ 8) :
    Calls Tryd.prog 55 #[.int .u64 (n : Int), .int .i64 (k0 : Int)] w (NewRow 5 1 k0 (bvs (lit n k0)) w) := by
  obtain ⟨i0, hi, hz0, hz1, hz2⟩ := info_parts info_u8
  go_enter Tryd.func55, Tryd.ntmps55
  go_wp2_with fail
  go_loopw [5, 6] (fun ov iv wr => ∃ k : Nat, k ≤ k0 ∧ iv = .int .i64 k ∧ wr.ownsRow w.heap.size 5 1 ov k (bvs (lit n k)) ∧ Below w.heap.size w wr) (fun _ iv _ => k0 - (intOf iv).toNat)
  case atStart => exact ⟨0, Nat.zero_le _, rfl, World.ownsRow_nil w _ _ _, Below.refl _ _⟩
  case round =>
    obtain ⟨k, hk, rfl, hown, hb⟩ := hrel
    by_cases hlt : k < k0
    · go_wp2_with (at_builtin; (refine wpList_append_rd rfl _ _ 23 rfl w.heap.size 5 i0 (.int .u8 0) 1 1 Tryd.underlying23 hi hz0 hz1 hz2 rfl (by decide) _ k (bvs (lit n k)) rfl (hown.alloc _) _ _ _ rfl (Rd.new wr _ _ 1 1 (by rfl) (by decide)) ?c2 ?c3 ?c4 ?c5 ?_))
      case c2 => first | rfl | (simp [Value.oneCell'])
      case c3 => unfold maxLen; omega
      case c4 => omega
      case c5 => have := hb.size; simp; omega
      intro v' w' hown' Tr
      have e1 : (n : Int) / 2 ^ (8 * k) % 256 = ((UInt8.ofNat (n / 256 ^ k)).toNat : Int) := by
        rw [UInt8.toNat_ofNat', show (256 : Nat) ^ k = 2 ^ (8 * k) by rw [Nat.pow_mul]]
        push_cast
        rfl
      rw [e1, show bvs (lit n k) ++ [Value.int .u8 ((UInt8.ofNat (n / 256 ^ k)).toNat : Int)] = bvs (lit n (k + 1)) by rw [lit_snoc]; simp [bvs, bv]] at hown'
      have hb' : Below w.heap.size w w' := Tr w (bAlloc hb _) (Nat.le_refl _)
      clear Tr
      go_wp2_with fail
      exact ⟨⟨k + 1, by omega, by go_num, hown', hb'⟩, by simp [intOf]; omega⟩
    · obtain rfl : k = k0 := by omega
      go_wp2_with fail
      go_ret
      exact ⟨_, rfl, hown, hb⟩

set_option maxRecDepth 100000 in
set_option maxHeartbeats 1000000 in
theorem refFixed_calls (v : Value) (l : List UInt8) (w : World) (hR : Rd w 1 v l.length (bvs l)) (hl : l.length ≤ 8) :
    Calls Tryd.prog 52 #[v] w (fun e w' => e = .returned (.int .u64 (little l : Int)) ∧ w' = w) := by
  obtain ⟨a, c, rfl⟩ := hR.slice
  go_enter Tryd.func52, Tryd.ntmps52
  go_wp2_with fail
  go_loop [3, 4] (fun nv iv => ∃ k : Nat, k ≤ l.length ∧ iv = .int .i64 k ∧ nv = .int .u64 (little (l.take k) : Int)) (fun _ iv => l.length - (intOf iv).toNat)
  case atStart => exact ⟨0, Nat.zero_le _, rfl, rfl⟩
  case round =>
    obtain ⟨k, hk, rfl, rfl⟩ := hrel
    by_cases hlt : k < l.length
    · obtain ⟨b, o, rfl, hc1, hm1, hx1⟩ := hR.at (by omega)
      have g1 := hx1 k _ (bvs_at l k hlt)
      have hnext := little_snoc (l.take k) l[k]
      rw [← List.take_succ_eq_append_getElem hlt, List.length_take, Nat.min_eq_left (by omega)] at hnext
      have hlow := little_lt (l.take k)
      rw [List.length_take, Nat.min_eq_left (by omega)] at hlow
      have hq := (l[k]).toNat_lt
      clear hx1
      generalize little (l.take k) = N at *
      generalize (l[k]).toNat = q at *
      have HN := Lib.hid hnext
      clear hnext
      have hb : N + q * 2 ^ (8 * k) < 2 ^ (8 * (k + 1)) := by
        rw [show 8 * (k + 1) = 8 * k + 8 by omega, Nat.pow_add]
        have h1 : N < 2 ^ (8 * k) := by rw [Nat.pow_mul]; exact hlow
        have h2 := Nat.mul_le_mul_right (2 ^ (8 * k)) (show q ≤ 255 by omega)
        omega
      have hb2 := Nat.pow_le_pow_right (show 0 < 2 by omega) (show 8 * (k + 1) ≤ 64 by omega)
      have hor := Lib.hid (or_add8 N q k (by rw [Nat.pow_mul]; exact hlow) (by omega))
      clear hb hb2 hlow
      go_wp2_with fail
      exact ⟨⟨k + 1, by omega, by go_num, congrArg (Value.int .u64) (by rw [hor.out, HN.out, show (256 : Nat) ^ k = 2 ^ (8 * k) by rw [Nat.pow_mul]])⟩, by simp [intOf]; omega⟩
    · obtain rfl : k = l.length := by omega
      rw [List.take_of_length_le (Nat.le_refl _)]
      go_wp2_with fail
      go_ret
      exact ⟨rfl, rfl⟩
end Go.Proofs.YtlgbdibfpboleaaDoor
