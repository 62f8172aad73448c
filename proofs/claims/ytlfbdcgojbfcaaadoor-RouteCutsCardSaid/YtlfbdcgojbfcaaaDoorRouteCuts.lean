/- RouteCuts returns true at every input. -/
import Derived.Test.YtlfbdcgojbfcaaaDoorRouteWant
import Derived.Test.YtlfbdcgojbfcaaaDoorRefBatCopy
import Derived.Test.YtlfbdcgojbfcaaaDoorWorldRow
import Derived.Test.YtlfbdcgojbfcaaaDoorRefSameBat
import Derived.Test.YtlfbdcgojbfcaaaDoorLong
namespace Go.Proofs.YtlfbdcgojbfcaaaDoor
open Go Go.RowKit Rec

theorem small_of {b : BatD} (hv : valid b = 0) : small b := by
  obtain ⟨h1, h2, h3⟩ := (valid_iff b).1 hv
  rw [List.all_eq_true] at h3
  exact ⟨by omega, fun r hr => recOk_small (h3 r hr)⟩

theorem cutGo_len (o most : Int) : ∀ (l out : List BatD) (s : Int), (cutGo o most l out s).length ≤ out.length + l.length := by
  intro l
  induction l with
  | nil => intro out s; simp [cutGo]
  | cons b l ih =>
    intro out s
    unfold cutGo
    split
    · have := ih out s; rw [List.length_cons]; omega
    · split
      · rw [List.length_cons]; omega
      · have := ih (out ++ [fromB b o]) (s + (sizeB (fromB b o) : Int))
        rw [List.length_append, List.length_singleton] at this
        rw [List.length_cons]; omega

set_option maxRecDepth 100000 in
set_option maxHeartbeats 1000000 in
theorem routeFirst3_calls (S : List Nat) (A : Nat → Addr) {w : World} (hS : Sents S w A) (hE3 : 3 ∈ S) (hE4 : 4 ∈ S) :
    Calls Tryd.prog 13 #[] w (fun e w' => e = .returned (.bool true) ∧ Below w.heap.size w w') := by
  have hc := cut_calls S A hS hE3 hE4 (BatsRd.nil w) (by simp) (by simp) 0 5 (by omega)
  go_enter Tryd.func13, Tryd.ntmps13
  go_wp2_with fail
  with_reducible refine hc.mono ?_
  rintro e w1 ⟨v1, rfl, o1, b1⟩
  obtain ⟨a1, c1, rfl⟩ := o1.rd.slice
  have h0 : cutL 0 5 ([] : List BatD) = [] := rfl
  rw [h0]
  go_wp2_with fail
  go_ret
  exact ⟨rfl, b1⟩

set_option maxRecDepth 100000 in
set_option maxHeartbeats 4000000 in
theorem routeCuts_walk (S : List Nat) (A : Nat → Addr) (zs : List Int) (vt : Value) (base0 off most : Int) (w : World) (hS : Sents S w A) (hE3 : 3 ∈ S) (hE4 : 4 ∈ S) (ht : Rd w 1 vt zs.length (zvs zs)) (hm : -9223372036854775808 ≤ most ∧ most ≤ 9223372036854775807) :
    Calls Tryd.prog 3 #[vt, .int .i64 base0, .int .i64 off, .int .i64 most] w (fun e w' => e = .returned (.bool true) ∧ Below w.heap.size w w') := by
  have hfst := routeFirst3_calls S A hS hE3 hE4
  obtain ⟨a1, c1, rfl⟩ := ht.slice
  have m1 := ht.len_le
  by_cases t1 : 20 < zs.length
  · go_enter Tryd.func3, Tryd.ntmps3
    go_wp2_with fail
    refine hfst.mono ?_
    rintro e w1 ⟨rfl, b1⟩
    go_wp2_with fail
    go_ret
    exact ⟨rfl, b1⟩
  have t2 : zs.length ≤ 20 := by omega
  have t2' : decide ((20 : Int) < (zs.length : Int)) = false := decide_eq_false (by omega)
  obtain ⟨B, hB, hB0, hB1⟩ : ∃ B, base0 % 1073741824 = B ∧ 0 ≤ B ∧ B < 1073741824 := ⟨_, rfl, by omega, by omega⟩
  obtain ⟨d, hd, hd0, hd1⟩ : ∃ d, off % 110 = d ∧ 0 ≤ d ∧ d < 110 := ⟨_, rfl, by omega, by omega⟩
  obtain ⟨L, hL⟩ : ∃ L, L = rowL B 3 zs zs.length := ⟨_, rfl⟩
  have hLl : L.length = zs.length := by rw [hL, rowL_len]
  have hLv : ∀ b ∈ L, valid b = 0 := by rw [hL]; exact rowL_valid B 3 zs _ (by omega) (by omega)
  have hrow := fun W (hW : Below w.heap.size w W) => row_calls zs _ B 3 W (by omega) (by omega) (by omega) (ht.below hW)
  rw [show ((3 : Nat) : Int) = 3 from rfl, ← hL] at hrow
  have HLV := Lib.hid hLv
  have HB := Lib.hid hB
  have HD := Lib.hid hd
  have hLb : L.length ≤ 20 := by omega
  clear t1 hL hLv hB hd hLl
  have hw1 : IntKind.i64.wrap (B + d) = B + d := by rw [IntKind.wrap_i64]; omega
  have hw2 : IntKind.i64.wrap (B + d - 3) = B + d - 3 := by rw [IntKind.wrap_i64]; omega
  go_enter Tryd.func3, Tryd.ntmps3
  go_wp2_with fail
  refine hfst.mono ?_
  rintro e w1 ⟨rfl, b1⟩
  have hlo := long_calls base0 1073741824 w1 (by omega) (by omega)
  rw [HB.out] at hlo
  clear hfst
  go_wp2_with fail
  with_reducible refine hlo.mono ?_
  rintro e w2 ⟨rfl, rfl⟩
  have hrow1 := hrow w1 b1
  clear hlo hrow
  go_wp2_with fail
  with_reducible refine hrow1.mono ?_
  rintro e w2 ⟨vl, rfl, rowA, b2⟩
  have B2 := nxt b1 b2
  have rowR := rowA.rd
  obtain ⟨al, cl, rfl⟩ := rowR.slice
  have hlo := long_calls off 110 w2 (by omega) (by omega)
  rw [HD.out] at hlo
  clear hrow1 rowA b1 b2
  go_wp2_with fail
  with_reducible refine hlo.mono ?_
  rintro e w3 ⟨rfl, rfl⟩
  have hcp := refBatches_calls rowR (by omega) (fun b hb => small_of (HLV.out b hb))
  clear hlo
  go_wp2_with fail
  with_reducible refine hcp.mono ?_
  rintro e w3 ⟨vw, rfl, ow, b3⟩
  have B3 := nxt B2 b3
  have rw3 := ow.rd
  obtain ⟨aw, cw, rfl⟩ := rw3.slice
  have R3 := rowR.below b3
  have hc1 := cut_calls S A (hS.below B3) hE3 hE4 R3 HLV.out (by omega) (B + d - 3) most hm
  clear hcp ow
  go_wp2_with fail
  with_reducible refine hc1.mono ?_
  rintro e w4 ⟨vx, rfl, ox, b4⟩
  have B4 := nxt B3 b4
  have rx := ox.rd
  obtain ⟨X, hX⟩ : ∃ X, X = cutL (B + d - 3) most L := ⟨_, rfl⟩
  have hXl : X.length ≤ 1000 := by
    have := cutGo_len (B + d - 3) most L [] 0
    rw [hX]; unfold cutL; rw [List.length_nil] at this; omega
  rw [← hX] at rx
  obtain ⟨ax, cx, rfl⟩ := rx.slice
  have hc2 := want_calls (R3.below b4) HLV.out (by omega) (B + d - 3) most hm (by omega)
  rw [← hX] at hc2
  clear hc1 ox hX
  go_wp2_with fail
  with_reducible refine hc2.mono ?_
  rintro e w5 ⟨vy, rfl, ry, b5⟩
  have B5 := nxt B4 b5
  have hs1 := sameBatches_calls _ _ X w5 (rx.below b5) ry (by omega)
  obtain ⟨ay, cy, rfl⟩ := ry.slice
  have b45 := nxt b4 b5
  clear hc2 ry rx
  go_wp2_with fail
  with_reducible refine hs1.mono ?_
  rintro e w6 ⟨rfl, b6⟩
  have hs2 := sameBatches_calls _ _ L w6 ((R3.below b45).below b6) ((rw3.below b45).below b6) (by omega)
  clear hs1
  go_wp2_with fail
  with_reducible refine hs2.mono ?_
  rintro e w7 ⟨rfl, b7⟩
  go_wp2_with fail
  go_ret
  exact ⟨rfl, nxt B5 (nxt b6 b7)⟩
end Go.Proofs.YtlfbdcgojbfcaaaDoor
