/- The document's Put. -/
import Derived.Test.YtldopocmmeidkaaDoorVintPutInt
namespace Go.Proofs.YtldopocmmeidkaaDoor
open Go Go.RowKit Vint

theorem bvs_snoc' (em : List UInt8) (c : UInt8) (x : Int) (h : x = c.toNat) : bvs em ++ [.int .u8 x] = bvs (em ++ [c]) := bvs_snoc [] em c x h

set_option maxRecDepth 100000 in
set_option maxHeartbeats 400000 in
theorem refPut_calls (m0 : Nat) (w : World) (hm0 : U64 m0) :
    Calls Tryd.prog 78 #[.int .u64 m0] w (NewRow 5 1 (putL m0).length (bvs (putL m0)) w) := by
  obtain ⟨i0, hi, hz0, hz1, hz2⟩ := info_parts info_u8
  go_enter Tryd.func78, Tryd.ntmps78
  go_wp2_with fail
  go_loopw [0, 3] (fun nv ov wr => ∃ (m : Nat) (em : List UInt8), nv = .int .u64 m ∧ U64 m ∧ em ++ putL m = putL m0 ∧ wr.ownsRow w.heap.size 5 1 ov em.length (bvs em) ∧ Below w.heap.size w wr) (fun nv _ _ => (intOf nv).toNat)
  case atStart => exact ⟨m0, [], rfl, hm0, rfl, World.ownsRow_nil w _ _ _, Below.refl _ _⟩
  case round =>
    obtain ⟨m, em, rfl, hm, hem, hown, hbel⟩ := hrel
    have HE := Lib.hid hem
    clear hem
    have hk : em.length ≤ (putL m0).length := by rw [← HE.out]; simp
    have hk2 := putL_len10 m0 hm0
    by_cases hc : m < 128
    · go_wp2_with (at_builtin; refine wpList_append_own _ rfl _ _ 30 rfl w.heap.size 5 i0 (.int .u8 0) 1 1 Tryd.underlying30 hi hz0 hz1 hz2 rfl (by decide) _ _ _ rfl (hown.alloc _) ⟨wr.heap.size, 0, none⟩ 1 1 [.int .u8 m] rfl rfl ?c1 ?c2 ?c3 ?c4 ?c5 ?_)
      case c1 => exact cell_one_new _ _ _
      case c2 => intro u hu; simp at hu; subst hu; rfl
      case c3 => unfold maxLen; omega
      case c4 => omega
      case c5 => have := hbel.size; simp; omega
      intro v' w' hown' hgrow _
      go_wp2
      go_ret
      refine ⟨v', rfl, ?_, ?_⟩
      · rw [bvs_snoc' em (UInt8.ofNat m) _ (byte_small m (by omega))] at hown'
        have hp := putL_low hc
        rw [hp] at HE
        rw [← HE.out]
        simpa [Nat.add_assoc] using hown'
      · exact (hbel.alloc hbel.size _).grown hgrow (by have := hbel.size; simp; omega) (fun k hk => (hown.lt k hk).1)
    · go_wp2_with (at_builtin; refine wpList_append_own _ rfl _ _ 30 rfl w.heap.size 5 i0 (.int .u8 0) 1 1 Tryd.underlying30 hi hz0 hz1 hz2 rfl (by decide) _ _ _ rfl (hown.alloc _) ⟨wr.heap.size, 0, none⟩ 1 1 [.int .u8 (bits .or .u8 ((m : Int) % 256) 128)] rfl rfl ?c1 ?c2 ?c3 ?c4 ?c5 ?_)
      case c1 => exact cell_one_new _ _ _
      case c2 => intro u hu; simp at hu; subst hu; rfl
      case c3 => unfold maxLen; omega
      case c4 => omega
      case c5 => have := hbel.size; simp; omega
      intro v' w' hown' hgrow _
      rw [or128] at hown'
      rw [bvs_snoc' em _ _ rfl] at hown'
      go_wp2
      go_roundw
      case rel =>
        refine ⟨m / 128, em ++ [UInt8.ofNat (m % 128 + 128)], by go_num, hm.le (Nat.div_le_self _ _), ?_, ?_, ?_⟩
        · rw [← HE.out, putL_high hc]; simp
        · simpa [Nat.add_assoc] using hown'
        · exact (hbel.alloc hbel.size _).grown hgrow (by have := hbel.size; simp; omega) (fun k hk => (hown.lt k hk).1)
      case measure => simp [intOf]; omega

end Go.Proofs.YtldopocmmeidkaaDoor
