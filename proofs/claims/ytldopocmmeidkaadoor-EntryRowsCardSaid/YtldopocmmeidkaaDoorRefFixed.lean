/- The document's number of so many bytes (Fixed). -/
import Derived.Test.YtldopocmmeidkaaDoorAppend
import Derived.Test.YtldopocmmeidkaaDoorPlain
namespace Go.Proofs.YtldopocmmeidkaaDoor
open Go Go.RowKit Vint

theorem or_add8 (N q k : Nat) (hN : N < 2 ^ (8 * k)) (hb : N + q * 2 ^ (8 * k) < 18446744073709551616) :
    bits .or .u64 (N : Int) (IntKind.u64.wrap ((q : Int) * 2 ^ (8 * k))) = ((N + q * 2 ^ (8 * k) : Nat) : Int) := by
  have e3 : (q : Int) * 2 ^ (8 * k) = ((q * 2 ^ (8 * k) : Nat) : Int) := by push_cast; rfl
  generalize hm : q * 2 ^ (8 * k) = m at *
  have e4 : IntKind.u64.wrap (m : Int) = (m : Int) := by rw [IntKind.wrap_u64]; omega
  rw [e3, e4, u64_or_nat N m (by omega) (by omega), ← hm]
  congr 1
  rw [Nat.or_comm, ← Nat.shiftLeft_eq, ← Nat.shiftLeft_add_eq_or_of_lt hN, Nat.add_comm]

theorem lit_snoc (k : Nat) : ∀ n, lit n (k + 1) = lit n k ++ [UInt8.ofNat (n / 256 ^ k)] := by
  induction k with
  | zero => intro n; simp [lit]
  | succ k ih =>
    intro n
    rw [show lit n (k + 1 + 1) = UInt8.ofNat n :: lit (n / 256) (k + 1) from rfl, ih]
    show _ = UInt8.ofNat n :: lit (n / 256) k ++ _
    rw [Nat.div_div_eq_div_mul, Nat.pow_succ, Nat.mul_comm (256 ^ k) 256]
    rfl

set_option maxRecDepth 100000 in
set_option maxHeartbeats 1000000 in
theorem refFixed_calls (v : Value) (l : List UInt8) (w : World) (hR : Rd w 1 v l.length (bvs l)) (hl : l.length ≤ 8) :
    Calls Tryd.prog 14 #[v] w (fun e w' => e = .returned (.int .u64 (little l : Int)) ∧ w' = w) := by
  obtain ⟨a, c, rfl⟩ := hR.slice
  go_enter Tryd.func14, Tryd.ntmps14
  go_wp2_with fail
  go_loop [3, 4] (fun nv iv => ∃ k : Nat, k ≤ l.length ∧ iv = .int .i64 k ∧ nv = .int .u64 (little (l.take k) : Int)) (fun _ iv => l.length - (intOf iv).toNat)
  case atStart => exact ⟨0, Nat.zero_le _, rfl, rfl⟩
  case round =>
    obtain ⟨k, hk, rfl, rfl⟩ := hrel
    by_cases hlt : k < l.length
    · obtain ⟨b, o, rfl, hc1, hm1, hx1⟩ := hR.at (by omega)
      have g1 := hx1 k _ (bvs_at l k hlt)
      have hnext := little_snoc (l.take k) l[k]
      rw [← List.take_succ_eq_append_getElem hlt, List.length_take, Nat.min_eq_left (by omega)] at hnext
      have hlow := little_lt (l.take k)
      rw [List.length_take, Nat.min_eq_left (by omega)] at hlow
      have hq := (l[k]).toNat_lt
      clear hx1
      generalize little (l.take k) = N at *
      generalize (l[k]).toNat = q at *
      have HN := Lib.hid hnext
      clear hnext
      have hb : N + q * 2 ^ (8 * k) < 2 ^ (8 * (k + 1)) := by
        rw [show 8 * (k + 1) = 8 * k + 8 by omega, Nat.pow_add]
        have h1 : N < 2 ^ (8 * k) := by rw [Nat.pow_mul]; exact hlow
        have h2 := Nat.mul_le_mul_right (2 ^ (8 * k)) (show q ≤ 255 by omega)
        omega
      have hb2 := Nat.pow_le_pow_right (show 0 < 2 by omega) (show 8 * (k + 1) ≤ 64 by omega)
      have hor := Lib.hid (or_add8 N q k (by rw [Nat.pow_mul]; exact hlow) (by omega))
      clear hb hb2 hlow
      go_wp2_with fail
      exact ⟨⟨k + 1, by omega, by go_num, congrArg (Value.int .u64) (by rw [hor.out, HN.out, show (256 : Nat) ^ k = 2 ^ (8 * k) by rw [Nat.pow_mul]])⟩, by simp [intOf]; omega⟩
    · obtain rfl : k = l.length := by omega
      rw [List.take_of_length_le (Nat.le_refl _)]
      go_wp2_with fail
      go_ret
      exact ⟨rfl, rfl⟩
end Go.Proofs.YtldopocmmeidkaaDoor
