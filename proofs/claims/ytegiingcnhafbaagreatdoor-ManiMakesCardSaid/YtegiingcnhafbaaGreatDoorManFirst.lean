/- Chapter 14's examples. -/
import Derived.Test.YtegiingcnhafbaaGreatDoorManCheck
import Derived.Test.YtegiingcnhafbaaGreatDoorRefMore
import Derived.Test.YtegiingcnhafbaaGreatDoorSee
import Derived.Lib.SlBytesConst
namespace Go.Proofs.YtegiingcnhafbaaGreatDoor
open Go Go.RowKit Man Crc

theorem chk_ab : chk ⟨⟨#[]⟩, 2, (sum [97, 98]).toNat⟩ [97, 98] = .fine := by decide +kernel
theorem chk_ac : chk ⟨⟨#[]⟩, 2, (sum [97, 98]).toNat⟩ [97, 99] = .bare 1 := by decide +kernel
theorem rd_two (w : World) (g : Nat) (a b : UInt8) (f : Nat × Nat) (h : w.heap[g]? = some (.cells #[.int .u8 a.toNat, .int .u8 b.toNat] 5 f)) : Rd w 1 (.slice (some ⟨g, 0, none⟩) 2 2) 2 (bvs [a, b]) :=
  ⟨rfl, .inr ⟨⟨g, 0, none⟩, 2, rfl, Nat.le_refl _, by decide, fun j u hu => by
    rw [add_none, cell_of_row w g _ _ _ _ h]
    simpa [bvs, bv] using hu⟩⟩

set_option maxRecDepth 100000 in
set_option maxHeartbeats 1000000 in
theorem manFirst_calls (S : List Nat) (A : Nat → Addr) {w : World} (hS : Sents S w A) (hall : All S) :
    Calls Tryz.prog 4 #[] w (fun e w' => e = .returned (.bool true) ∧ Below w.heap.size w w') := by
  have kc := fun (w : World) (C : Array Value) (n c : Nat) => Lib.run_convert_bytes_const (P := Tryz.prog) w 23 5 C n c Tryz.underlying23 Tryz.underlying5
  have b1 := below_alloc w (.cells #[.int .u8 97, .int .u8 98] 5 (2, 3))
  have hs := refSum_calls (.slice (some ⟨w.heap.size, 0, none⟩) 2 2) [97, 98] _ (rd_two (w.alloc (.cells #[.int .u8 97, .int .u8 98] 5 (2, 3))) w.heap.size 97 98 _ (heap_alloc_new w _))
  have k1 := chk_ab
  have k2 := chk_ac
  obtain ⟨s, hs'⟩ : ∃ s, s = (sum [97, 98]).toNat := ⟨_, rfl⟩
  rw [← hs'] at hs k1 k2
  have K1 := Lib.hid k1
  have K2 := Lib.hid k2
  clear hs' k1 k2
  go_enter Tryz.func4, Tryz.ntmps4
  go_wp2_with fail
  generalize w.alloc (.cells #[.int .u8 97, .int .u8 98] 5 (2, 3)) = w1 at *
  refine hs.mono ?_
  rintro e w2 ⟨rfl, rfl⟩
  have bo := below_alloc w2 (.cells #[.string ⟨#[]⟩, .int .i64 2, .int .u32 (s : Int)] 44)
  have rowo := heap_alloc_new w2 (.cells #[.string ⟨#[]⟩, .int .i64 2, .int .u32 (s : Int)] 44)
  clear hs
  go_upto_region 2 with fail
  obtain ⟨w3, hw3⟩ : ∃ w3, w3 = w2.alloc (.cells #[.string ⟨#[]⟩, .int .i64 2, .int .u32 (s : Int)] 44) := ⟨_, rfl⟩
  obtain ⟨g, hg⟩ : ∃ g, g = w2.heap.size := ⟨_, rfl⟩
  rw [← hw3] at bo rowo ⊢
  rw [← hg] at rowo ⊢
  clear hw3 hg
  have B3 := nxt b1 bo
  have o0 : w3.cell? ⟨g, 0, none⟩ = some (.string ⟨#[]⟩) := cell_of_row _ _ 0 _ _ _ rowo
  have o1 : w3.cell? ⟨g, 1, none⟩ = some (.int .i64 2) := cell_of_row _ _ 1 _ _ _ rowo
  have o2 : w3.cell? ⟨g, 2, none⟩ = some (.int .u32 (s : Int)) := cell_of_row _ _ 2 _ _ _ rowo
  have b4 := below_alloc w3 (.cells #[.int .u8 97, .int .u8 99] 5 (2, 3))
  have B4 := nxt B3 b4
  have hc1 := maniCheck_calls S A ⟨⟨#[]⟩, 2, s⟩ (hS.below B4) (hall 1 (by omega)) (hall 2 (by omega)) (rd_two (w3.alloc (.cells #[.int .u8 97, .int .u8 99] 5 (2, 3))) w3.heap.size 97 99 _ (heap_alloc_new w3 _))
  unfold ChkPost at hc1
  rw [K2.out] at hc1
  clear b1
  go_wp2_with fail
  generalize w3.alloc (.cells #[.int .u8 97, .int .u8 99] 5 (2, 3)) = w4 at *
  with_reducible refine hc1.mono ?_
  rintro e w5 ⟨v5, rfl, he5, b5⟩
  have B5 := nxt B4 b5
  have hi := is_calls (hS.below B5) hall v5 (.bare 1) he5.at 102
  clear hc1
  go_wp2_with fail
  with_reducible refine hi.mono ?_
  rintro e w6 ⟨rfl, b6⟩
  have B6 := nxt B5 b6
  have rowo6 := heap_below (nxt b4 (nxt b5 b6)) rowo
  clear hi o0 o1 o2
  have o0 : w6.cell? ⟨g, 0, none⟩ = some (.string ⟨#[]⟩) := cell_of_row _ _ 0 _ _ _ rowo6
  have o1 : w6.cell? ⟨g, 1, none⟩ = some (.int .i64 2) := cell_of_row _ _ 1 _ _ _ rowo6
  have o2 : w6.cell? ⟨g, 2, none⟩ = some (.int .u32 (s : Int)) := cell_of_row _ _ 2 _ _ _ rowo6
  have b7 := below_alloc w6 (.cells #[.int .u8 97, .int .u8 98] 5 (2, 3))
  have B7 := nxt B6 b7
  have hc2 := maniCheck_calls S A ⟨⟨#[]⟩, 2, s⟩ (hS.below B7) (hall 1 (by omega)) (hall 2 (by omega)) (rd_two (w6.alloc (.cells #[.int .u8 97, .int .u8 98] 5 (2, 3))) w6.heap.size 97 98 _ (heap_alloc_new w6 _))
  unfold ChkPost at hc2
  rw [K1.out] at hc2
  simp only [show decide ((Er.bare 1).code = 102 ∧ (Er.bare 1).has = false ∧ (Er.bare 1).pos = 0) = true from by decide]
  go_wp2_with fail
  generalize w6.alloc (.cells #[.int .u8 97, .int .u8 98] 5 (2, 3)) = w7 at *
  with_reducible refine hc2.mono ?_
  rintro e w8 ⟨v8, rfl, he8, b8⟩
  have hv8 : v8 = .nilIface := he8
  subst hv8
  go_wp2_with fail
  go_ret
  exact ⟨rfl, nxt B7 b8⟩
end Go.Proofs.YtegiingcnhafbaaGreatDoor
