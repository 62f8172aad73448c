/- Chapter 5's first example: a segment's name. -/
import Derived.Test.YtegiingcnhafbaaDoorNameLog
namespace Go.Proofs.YtegiingcnhafbaaDoor
open Go Go.RowKit

theorem seven : (segO 7).toList = [108, 111, 103, 45, 48, 48, 48, 48, 48, 48, 48, 48, 48, 48, 48, 48, 55] := by
  rw [ByteArray.toList_eq]
  have h : segO 7 = ⟨(segL 7).toArray⟩ := by
    unfold segO
    rw [show offOk 7 = true from by decide]
    rfl
  rw [h]
  show (segL 7).toArray.toList = _
  rw [List.toList_toArray]
  unfold segL wideL
  rw [Lib.decDigits_one (by omega)]
  rfl

set_option maxRecDepth 100000 in
theorem nameFirst_calls (w : World) (ht : Tens w) :
    Calls Tryd.prog 7 #[] w (fun e w' => e = .returned (.bool true) ∧ Below w.heap.size w w') := by
  have hs := segment_calls 7 w ht
  have h7 : ((segO 7).toList == ([108, 111, 103, 45, 48, 48, 48, 48, 48, 48, 48, 48, 48, 48, 48, 48, 55] : List UInt8)) = true := by rw [seven]; rfl
  generalize segO 7 = X at hs h7
  go_enter Tryd.func7, Tryd.ntmps7
  go_wp2_with fail
  with_reducible refine hs.mono ?_
  rintro e w2 ⟨rfl, b2⟩
  go_wp2_with fail
  go_ret
  exact ⟨by first | rfl | (rw [h7]), b2⟩

/-! The forms of what 'Base' and 'Parts' answer. -/
theorem BaseIs.form {l : List UInt8} {v : Value} (h : BaseIs l v) : ∃ (n : Int) (b : Bool), v = .tuple #[.int .i64 n, .bool b] := by
  rcases h with ⟨n, -, -, rfl⟩ | ⟨-, rfl⟩
  · exact ⟨_, _, rfl⟩
  · exact ⟨_, _, rfl⟩
theorem PartsIs.form {l : List UInt8} {v : Value} (h : PartsIs l v) : ∃ (i : Int) (k : ByteArray) (a : Int) (b : Bool), v = .tuple #[.int .i64 i, .string k, .int .i64 a, .bool b] := by
  rcases h with ⟨i, k, a, -, rfl⟩ | ⟨-, rfl⟩
  · exact ⟨_, _, _, _, rfl⟩
  · exact ⟨_, _, _, _, rfl⟩
end Go.Proofs.YtegiingcnhafbaaDoor
