/- The library's numbers as texts, and texts repeated: the shelf's contracts, laid here. -/
import Derived.Test.YtegiingcnhafbaaDoorProg
import Derived.Test.YtegiingcnhafbaaDoorBase
import Derived.Test.YtegiingcnhafbaaDoorPlain
import Derived.Shelf.Strconv.Itoa4
import Derived.Shelf.Strings.Repeat
import Derived.Shelf.Lay
import Derived.Ground.NamesProg
import Derived.Lib.Agree
import Derived.Lib.ItoaLen
namespace Go.Proofs.YtegiingcnhafbaaDoor
open Go Go.Shelf Go.RowKit

shelf_lay LaysM.n173 Nm 173 at Tryd as laysFmt
shelf_lay Lays.n105 Nm 105 at Tryd as laysRepeat

theorem extraRepeat : Builder.Extra Tryd.prog laysRepeat_ren where
  sizeBuilder := by kernel_rfl
  liesBuilder := by kernel_rfl
  t5 := laysRepeat.t5
  a5 := laysRepeat.a5
  z5 := laysRepeat.z5
  v5 := laysRepeat.v5
  infoByte := by kernel_rfl
  cellsByte := by kernel_rfl
  sizeByte := by kernel_rfl
  neB5 := by decide

theorem below_grow (w : World) (os : Array Obj) : Below w.heap.size w (Sort.grow w os) := by
  refine ⟨rfl, rfl, rfl, ?_, fun k hk => ?_⟩
  · unfold Sort.grow; simp
  · unfold Sort.grow; simp [Array.getElem?_append_left hk]

/-- Where the table of tens lies. -/
def Tens (w : World) : Prop := Lib.TabIs Tryd.prog w "internal/strconv.uint64pow10" .u64 Lib.pow10Tab

theorem formatInt_calls (n : Int) (h0 : -9223372036854775808 ≤ n) (h1 : n ≤ 9223372036854775807) (w : World) (ht : Tens w) :
    Calls Tryd.prog 41 #[.int .i64 n, .int .i64 10] w (fun e w' => e = .returned (.string ⟨(Lib.itoa n).toArray⟩) ∧ Below w.heap.size w w') :=
  (Any.strconv_FormatInt_10 laysFmt n h0 h1 w ht).mono (fun e w' h => by
    obtain ⟨h, k, os, rfl⟩ := h
    refine ⟨h, ?_⟩
    have b1 := below_drewN (Below.refl w.heap.size w) k
    exact nxt b1 (below_grow (w.drewN k) os))
theorem repeat_calls (s : ByteArray) (c : Nat) (w : World) (hc : c ≤ 9223372036854775807) (hlen : s.size * c ≤ 140737488355328) :
    Calls Tryd.prog 42 #[.string s, .int .i64 c] w (fun e w' => e = .returned (.string ⟨(Lib.repeatL s.data.toList c).toArray⟩) ∧ Below w.heap.size w w') :=
  Any.strings_Repeat laysRepeat extraRepeat s c w hc hlen

theorem Tens.below {w w' : World} (h : Tens w) (hb : Below w.heap.size w w') : Tens w' := by
  unfold Tens Lib.TabIs World.var? at h ⊢
  rw [show Tryd.prog.globalNamed "internal/strconv.uint64pow10" = some 1 by kernel_rfl] at h ⊢
  simp only [Option.bind_some] at h ⊢
  have hlt : 1 < w.heap.size := by
    rcases Nat.lt_or_ge 1 w.heap.size with h' | h'
    · exact h'
    · rw [Array.getElem?_eq_none h'] at h; cases h
  rw [hb.block _ hlt]
  exact h

theorem bytes_app (a b : List UInt8) : (⟨a.toArray⟩ : ByteArray) ++ (⟨b.toArray⟩ : ByteArray) = ⟨(a ++ b).toArray⟩ := by
  apply ByteArray.ext
  rw [ByteArray.data_append]
  simp

/-- A number in so many digits. -/
def wideL (n size : Nat) : List UInt8 := List.replicate (size - (Lib.decDigits n).length) 48 ++ Lib.decDigits n

theorem repeat48 (c : Nat) : Lib.repeatL [48] c = List.replicate c 48 := by
  have := Lib.repeatL_replicate 48 1 c
  simpa using this

set_option maxRecDepth 100000 in
set_option maxHeartbeats 1000000 in
theorem wide_calls (n size : Nat) (hn : n ≤ 9223372036854775807) (hs : size ≤ 100) (w : World) (ht : Tens w) :
    Calls Tryd.prog 33 #[.int .i64 n, .int .i64 size] w (fun e w' => e = .returned (.string ⟨(wideL n size).toArray⟩) ∧ Below w.heap.size w w') := by
  have hf := formatInt_calls (n : Int) (by omega) (by omega) w ht
  rw [Lib.itoa_nonneg n] at hf
  have hlen : (Lib.decDigits n).length ≤ 20 := by rw [Lib.decDigits_length]; exact Lib.nDigits_le20 n (by omega)
  go_enter Tryd.func33, Tryd.ntmps33
  go_wp2_with fail
  with_reducible refine hf.mono ?_
  rintro e w2 ⟨rfl, b2⟩
  clear hf
  go_wp2_with fail
  have hmx : max ((size : Int) - ((Lib.decDigits n).length : Int)) 0 = ((size - (Lib.decDigits n).length : Nat) : Int) := by omega
  have hr := repeat_calls ⟨#[48]⟩ (size - (Lib.decDigits n).length) w2 (by omega) (by have : (⟨#[48]⟩ : ByteArray).size = 1 := rfl; rw [this]; omega)
  rw [hmx]
  with_reducible refine hr.mono ?_
  rintro e w3 ⟨rfl, b3⟩
  clear hr
  have h1 : (⟨#[48]⟩ : ByteArray).data.toList = [48] := rfl
  rw [h1, repeat48]
  have hcc : ¬ 9223372036854775807 < (List.replicate (size - (Lib.decDigits n).length) (48 : UInt8)).length + (Lib.decDigits n).length := by rw [List.length_replicate]; omega
  obtain ⟨Z, hZ⟩ : ∃ Z, Z = List.replicate (size - (Lib.decDigits n).length) (48 : UInt8) := ⟨_, rfl⟩
  have HW : Hid (wideL n size = Z ++ Lib.decDigits n) := Lib.hid (by rw [hZ]; rfl)
  rw [← hZ] at hcc ⊢
  clear hZ
  go_wp2_with fail
  go_ret
  exact ⟨by rw [HW.out, bytes_app]; rfl, nxt b2 b3⟩
end Go.Proofs.YtegiingcnhafbaaDoor
