/- vint.Put: a number's bytes behind bytes, in a new row. Merged of: VintPut, VintInt. -/
import Derived.Test.YtegiingcnhafbaaGreatDoorSlices
import Derived.Test.YtegiingcnhafbaaGreatDoorPlain

/-! vint.Put: a number's bytes behind bytes, in a new row. -/
namespace Go.Proofs.YtegiingcnhafbaaGreatDoor
open Go Go.RowKit Vint

set_option maxRecDepth 100000 in
set_option maxHeartbeats 400000 in
theorem put_calls (v : Value) (n : Nat) (l : List UInt8) (m0 : Nat) (w : World) (h : Rd w 1 v n (bvs l)) (hn : n ≤ 1099511627776) (hm0 : U64 m0) :
    Calls Tryz.prog 28 #[v, .int .u64 m0] w (NewRow 5 1 (n + (putL m0).length) (bvs (l ++ putL m0)) w) := by
  obtain ⟨i0, hi, hz0, hz1, hz2⟩ := info_parts info_u8
  go_enter Tryz.func28, Tryz.ntmps28
  go_wp2_with (go_at_call 58; refine (clone_bytes _ n (bvs l) _ h (bvs_one l) (by omega)).mono ?_; rintro e w1 ⟨v1, rfl, ho1, hb1⟩)
  go_loopw [1, 5] (fun nv ov wr => ∃ (m : Nat) (em : List UInt8), nv = .int .u64 m ∧ U64 m ∧ em ++ putL m = putL m0 ∧ wr.ownsRow w.heap.size 5 1 ov (n + em.length) (bvs (l ++ em)) ∧ Below w.heap.size w wr) (fun nv _ _ => (intOf nv).toNat)
  case atStart => exact ⟨m0, [], rfl, hm0, rfl, by simpa using ho1, hb1⟩
  case round =>
    obtain ⟨m, em, rfl, hm, hem, hown, hbel⟩ := hrel
    have HE := Lib.hid hem
    clear hem
    have hk : em.length ≤ (putL m0).length := by rw [← HE.out]; simp
    have hk2 := putL_len10 m0 hm0
    by_cases hc : m < 128
    · go_wp2_with (at_builtin; refine wpList_append_own _ rfl _ _ 23 rfl w.heap.size 5 i0 (.int .u8 0) 1 1 Tryz.underlying23 hi hz0 hz1 hz2 rfl (by decide) _ _ _ rfl (hown.alloc _) ⟨wr.heap.size, 0, none⟩ 1 1 [.int .u8 m] rfl rfl ?c1 ?c2 ?c3 ?c4 ?c5 ?_)
      case c1 => exact cell_one_new _ _ _
      case c2 => intro u hu; simp at hu; subst hu; rfl
      case c3 => unfold maxLen; omega
      case c4 => omega
      case c5 => have := hbel.size; simp; omega
      intro v' w' hown' hgrow _
      go_wp2
      go_ret
      refine ⟨v', rfl, ?_, ?_⟩
      · rw [bvs_snoc l em (UInt8.ofNat m) _ (byte_small m (by omega))] at hown'
        have hp := putL_low hc
        rw [hp] at HE
        rw [← HE.out]
        simpa [Nat.add_assoc] using hown'
      · exact (hbel.alloc hbel.size _).grown hgrow (by have := hbel.size; simp; omega) (fun k hk => (hown.lt k hk).1)
    · go_wp2_with (at_builtin; refine wpList_append_own _ rfl _ _ 23 rfl w.heap.size 5 i0 (.int .u8 0) 1 1 Tryz.underlying23 hi hz0 hz1 hz2 rfl (by decide) _ _ _ rfl (hown.alloc _) ⟨wr.heap.size, 0, none⟩ 1 1 [.int .u8 (bits .or .u8 ((m : Int) % 256) 128)] rfl rfl ?c1 ?c2 ?c3 ?c4 ?c5 ?_)
      case c1 => exact cell_one_new _ _ _
      case c2 => intro u hu; simp at hu; subst hu; rfl
      case c3 => unfold maxLen; omega
      case c4 => omega
      case c5 => have := hbel.size; simp; omega
      intro v' w' hown' hgrow _
      rw [or128] at hown'
      rw [bvs_snoc l em _ _ rfl] at hown'
      go_wp2
      go_roundw
      case rel =>
        refine ⟨m / 128, em ++ [UInt8.ofNat (m % 128 + 128)], by go_num, hm.le (Nat.div_le_self _ _), ?_, ?_, ?_⟩
        · rw [← HE.out, putL_high hc]; simp
        · simpa [Nat.add_assoc] using hown'
        · exact (hbel.alloc hbel.size _).grown hgrow (by have := hbel.size; simp; omega) (fun k hk => (hown.lt k hk).1)
      case measure => simp [intOf]; omega
end Go.Proofs.YtegiingcnhafbaaGreatDoor

/-! vint.PutInt. -/
namespace Go.Proofs.YtegiingcnhafbaaGreatDoor
open Go Go.RowKit Vint

theorem fold_bits (m : Int) (h : I64 m) : bits .xor .u64 (IntKind.u64.wrap (IntKind.u64.wrap m * 2)) (IntKind.u64.wrap (m / 9223372036854775808)) = (fold m : Int) := by
  have h0 := h.out
  have w64 : ∀ n, IntKind.u64.wrap n = n % 18446744073709551616 := fun n => by simp [IntKind.wrap, IntKind.bits, IntKind.signed]
  rw [w64, w64, w64]
  unfold fold
  split
  · have e1 : m % 18446744073709551616 * 2 % 18446744073709551616 = ((2 * m.toNat : Nat) : Int) := by omega
    have e2 : m / 9223372036854775808 % 18446744073709551616 = ((0 : Nat) : Int) := by omega
    rw [e1, e2, u64_xor_nat _ _ (by omega) (by omega)]
    simp
  · have e1 : m % 18446744073709551616 * 2 % 18446744073709551616 = ((18446744073709551616 - 2 * (-m).toNat : Nat) : Int) := by omega
    have e2 : m / 9223372036854775808 % 18446744073709551616 = ((18446744073709551615 : Nat) : Int) := by omega
    rw [e1, e2, u64_xor_nat _ _ (by omega) (by omega), not64 _ (by omega)]
    omega

set_option maxRecDepth 100000 in
set_option maxHeartbeats 400000 in
theorem putInt_calls (v : Value) (n : Nat) (l : List UInt8) (m0 : Int) (w : World) (h : Rd w 1 v n (bvs l)) (hn : n ≤ 1099511627776) (hm0 : I64 m0) :
    Calls Tryz.prog 29 #[v, .int .i64 m0] w (NewRow 5 1 (n + (putL (fold m0)).length) (bvs (l ++ putL (fold m0))) w) := by
  go_enter Tryz.func29, Tryz.ntmps29
  go_wp2_with fail
  rw [fold_bits m0 hm0]
  refine (put_calls v n l (fold m0) w h hn (fold_lt _ hm0.out.1 hm0.out.2)).mono ?_
  rintro e w1 ⟨v1, rfl, ho1, hb1⟩
  go_wp2
  go_ret
  exact ⟨v1, rfl, ho1, hb1⟩

end Go.Proofs.YtegiingcnhafbaaGreatDoor
