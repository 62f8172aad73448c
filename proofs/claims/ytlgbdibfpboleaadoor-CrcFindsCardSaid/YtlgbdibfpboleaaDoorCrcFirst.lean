/- The example of chapter 1. -/
import Derived.Test.YtlgbdibfpboleaaDoorCrcWalk
namespace Go.Proofs.YtlgbdibfpboleaaDoor
open Go Go.RowKit Crc

set_option maxRecDepth 100000 in
set_option maxHeartbeats 1000000 in
theorem crcFirst_calls (w : World) :
    Calls Tryd.prog 25 #[] w (fun e w' => e = .returned (.bool true) ∧ Below w.heap.size w w') := by
  have kc := fun (w : World) (C : Array Value) (n c : Nat) => Lib.run_convert_bytes_const (P := Tryd.prog) w 23 5 C n c Tryd.underlying23 Tryd.underlying5
  go_enter Tryd.func25, Tryd.ntmps25
  go_wp2_with fail
  have r1 := Rd.newF w #[.int .u8 49, .int .u8 50, .int .u8 51, .int .u8 52, .int .u8 53, .int .u8 54, .int .u8 55, .int .u8 56, .int .u8 57] 5 (9, 10) 1 9 rfl (by decide)
  have b1 := below_alloc w (.cells #[.int .u8 49, .int .u8 50, .int .u8 51, .int .u8 52, .int .u8 53, .int .u8 54, .int .u8 55, .int .u8 56, .int .u8 57] 5 (9, 10))
  have b2 := below_alloc (w.alloc (.cells #[.int .u8 49, .int .u8 50, .int .u8 51, .int .u8 52, .int .u8 53, .int .u8 54, .int .u8 55, .int .u8 56, .int .u8 57] 5 (9, 10))) (.cells #[.slice (some ⟨w.heap.size, 0, none⟩) 9 9] 23)
  have r2 := Rd.new (w.alloc (.cells #[.int .u8 49, .int .u8 50, .int .u8 51, .int .u8 52, .int .u8 53, .int .u8 54, .int .u8 55, .int .u8 56, .int .u8 57] 5 (9, 10))) #[.slice (some ⟨w.heap.size, 0, none⟩) 9 9] 23 1 1 rfl (by decide)
  rw [alloc_size] at r2
  refine (of_calls _ [.slice (some ⟨w.heap.size, 0, none⟩) 9 9] [[49, 50, 51, 52, 53, 54, 55, 56, 57]] _ r2 (Parts.one (r1.below b2))).mono ?_
  rintro e w1 ⟨rfl, hb1⟩
  have hs : sum [[49, 50, 51, 52, 53, 54, 55, 56, 57]].flatten = 3808858755#32 := sum_first
  rw [hs]
  have hn : ((3808858755#32).toNat : Int) = 3808858755 := by decide
  rw [hn]
  have hb := nxt (nxt b1 b2) hb1
  clear r1 r2 b1 b2 hb1 hs hn kc
  go_wp2_with fail
  go_ret
  exact ⟨rfl, hb⟩
end Go.Proofs.YtlgbdibfpboleaaDoor
