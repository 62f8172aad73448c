/- cordwoodref.SameRecord: two records of the same data are the same. -/
import Derived.Test.YtlfbdcgojbfcaaaDoorRecValid
import Derived.Test.YtlfbdcgojbfcaaaDoorSameBytes
import Derived.StillTailTactics
import Derived.Deep.DeepCutAuto
namespace Go.Proofs.YtlfbdcgojbfcaaaDoor
open Go Go.RowKit Rec

set_option maxRecDepth 100000 in
set_option maxHeartbeats 1000000 in
theorem sameRecord_calls (x y : RecR) (w : World) (hd : x.d = y.d) (hx : x.lies w) (hy : y.lies w) :
    Calls Tryd.prog 25 #[.agg (recV x).toArray, .agg (recV y).toArray] w (fun e w' => e = .returned (.bool true) ∧ Below w.heap.size w w') := by
  obtain ⟨d, k1, v1⟩ := x
  obtain ⟨d', k2, v2⟩ := y
  obtain rfl : d = d' := hd
  obtain ⟨hk1, hv1⟩ := hx
  obtain ⟨hk2, hv2⟩ := hy
  simp only at hk1 hv1 hk2 hv2
  obtain ⟨a1, c1, rfl⟩ := hk1.slice
  obtain ⟨a2, c2, rfl⟩ := hk2.slice
  obtain ⟨a3, c3, rfl⟩ := hv1.slice
  obtain ⟨a4, c4, rfl⟩ := hv2.slice
  have hsk := fun W (b : Below w.heap.size w W) => sameBytes_calls _ _ d.key d.key W (hk1.below b) (hk2.below b)
  have hsv := fun W (b : Below w.heap.size w W) => sameBytes_calls _ _ d.val d.val W (hv1.below b) (hv2.below b)
  simp only [beq_self_eq_true] at hsk hsv
  have htt : (d.time == d.time) = true := by simp
  unfold recV
  simp only
  have b1 := below_alloc w (.cells #[.int .i64 d.time, .slice a1 d.key.length c1, .slice a3 d.val.length c3] 44)
  have b2 := bAlloc b1 (.cells #[.int .i64 d.time, .slice a2 d.key.length c2, .slice a4 d.val.length c4] 44)
  clear hk1 hv1 hk2 hv2
  go_enter Tryd.func25, Tryd.ntmps25
  go_wp2_with fail
  refine (hsk _ b2).mono ?_
  rintro e w3 ⟨rfl, q3, rfl⟩
  clear hsk
  go_wp2_with fail
  refine (hsv _ (below_drewN b2 q3)).mono ?_
  rintro e w4 ⟨rfl, q4, rfl⟩
  go_wp2_with fail
  go_ret
  exact ⟨rfl, by first | exact below_drewN (below_drewN b2 q3) q4 | exact below_drewN b2 _ | exact (below_drewN (below_drewN b2 q3) q4).drew⟩

set_option maxRecDepth 100000 in
set_option maxHeartbeats 1000000 in
theorem sameRecords_calls (va vb : Value) (l : List RecD) (w : World) (h1 : RecsRd w va l) (h2 : RecsRd w vb l) :
    Calls Tryd.prog 55 #[va, vb] w (fun e w' => e = .returned (.bool true) ∧ Below w.heap.size w w') := by
  obtain ⟨a1, c1, rfl⟩ := h1.slice
  obtain ⟨a2, c2, rfl⟩ := h2.slice
  have m1 := h1.len_le
  have hl' : ((l.length : Int) != (l.length : Int)) = false := by simp
  go_enter Tryd.func55, Tryd.ntmps55
  go_wp2_with fail
  go_loopw [5, 6] (fun iv _ wr => ∃ k : Nat, k ≤ l.length ∧ iv = .int .i64 k ∧ Below w.heap.size w wr) (fun iv _ _ => l.length - (intOf iv).toNat)
  case atStart => exact ⟨0, Nat.zero_le _, rfl, Below.refl _ _⟩
  case round =>
    obtain ⟨k, hk, rfl, hb⟩ := hrel
    by_cases hlt : k < l.length
    · obtain ⟨b1, o1, rfl, hx1⟩ := (h1.below hb).cells k hlt
      obtain ⟨b2, o2, rfl, hx2⟩ := (h2.below hb).cells k hlt
      obtain ⟨k1, v1, p0, p1, p2, q1, q2⟩ := hx1 k hlt
      obtain ⟨k2, v2, r0, r1, r2, s1, s2⟩ := hx2 k hlt
      generalize l[k] = d at *
      have hs := sameRecord_calls ⟨d, k1, v1⟩ ⟨d, k2, v2⟩ wr.drew rfl ⟨q1.below (Below.refl _ _).drew, q2.below (Below.refl _ _).drew⟩ ⟨s1.below (Below.refl _ _).drew, s2.below (Below.refl _ _).drew⟩
      unfold recV at hs
      obtain ⟨a3, c3, rfl⟩ := q1.slice
      obtain ⟨a4, c4, rfl⟩ := q2.slice
      obtain ⟨a5, c5, rfl⟩ := s1.slice
      obtain ⟨a6, c6, rfl⟩ := s2.slice
      simp only at hs
      clear hx1 hx2 q1 q2 s1 s2
      go_upto_region 6 with fail
      go_still_tail 8, (by kernel_rfl)
      change wpList _ _ _ _ _ wr.drew
      go_wp2_with fail
      refine hs.mono ?_
      rintro e w4 ⟨rfl, b4⟩
      go_wp2_with fail
      exact ⟨⟨k + 1, by omega, by go_num, nxt hb.drew b4⟩, by simp [intOf]; omega⟩
    · go_wp2_with fail
      go_ret
      exact ⟨rfl, hb⟩

set_option maxRecDepth 100000 in
set_option maxHeartbeats 1000000 in
theorem sameBatch_calls (va vb : Value) (b : BatD) (w : World) (h1 : RecsRd w va b.recs) (h2 : RecsRd w vb b.recs) :
    Calls Tryd.prog 31 #[batA b va, batA b vb] w (fun e w' => e = .returned (.bool true) ∧ Below w.heap.size w w') := by
  have hs := fun W (hW : Below w.heap.size w W) => sameRecords_calls va vb b.recs W (h1.below hW) (h2.below hW)
  obtain ⟨a1, c1, rfl⟩ := h1.slice
  obtain ⟨a2, c2, rfl⟩ := h2.slice
  obtain ⟨ba, ep, l⟩ := b
  unfold batA
  simp only at hs ⊢
  have b1 := below_alloc w (.cells #[.int .i64 ba, .int .i64 ep, .slice a1 l.length c1] 34)
  have row1 := heap_alloc_new w (.cells #[.int .i64 ba, .int .i64 ep, .slice a1 l.length c1] 34)
  have b2 := below_alloc (w.alloc (.cells #[.int .i64 ba, .int .i64 ep, .slice a1 l.length c1] 34)) (.cells #[.int .i64 ba, .int .i64 ep, .slice a2 l.length c2] 34)
  have row2 := heap_alloc_new (w.alloc (.cells #[.int .i64 ba, .int .i64 ep, .slice a1 l.length c1] 34)) (.cells #[.int .i64 ba, .int .i64 ep, .slice a2 l.length c2] 34)
  have row1' := heap_below b2 row1
  have B2 := nxt b1 b2
  rw [alloc_size] at row2
  have t1 : (ba == ba) = true := by simp
  have t2 : (ep == ep) = true := by simp
  clear row1 b1 b2
  go_enter Tryd.func31, Tryd.ntmps31
  go_wp2_with fail
  refine (hs _ B2).mono ?_
  rintro e w3 ⟨rfl, b3⟩
  have q1 := heap_below b3 row1'
  have q2 := heap_below b3 row2
  have k0 : w3.cell? ⟨w.heap.size, 0, none⟩ = some (.int .i64 ba) := cell_of_row _ _ 0 _ _ _ q1
  have k1 : w3.cell? ⟨w.heap.size, 1, none⟩ = some (.int .i64 ep) := cell_of_row _ _ 1 _ _ _ q1
  have k2 : w3.cell? ⟨w.heap.size + 1, 0, none⟩ = some (.int .i64 ba) := cell_of_row _ _ 0 _ _ _ q2
  have k3 : w3.cell? ⟨w.heap.size + 1, 1, none⟩ = some (.int .i64 ep) := cell_of_row _ _ 1 _ _ _ q2
  go_wp2_with fail
  go_ret
  exact ⟨rfl, nxt B2 b3⟩

set_option maxRecDepth 100000 in
set_option maxHeartbeats 1000000 in
theorem sameBatches_calls (va vb : Value) (l : List BatD) (w : World) (h1 : BatsRd w va l) (h2 : BatsRd w vb l) (m1 : l.length ≤ 1000000000000) :
    Calls Tryd.prog 18 #[va, vb] w (fun e w' => e = .returned (.bool true) ∧ Below w.heap.size w w') := by
  obtain ⟨a1, c1, rfl⟩ := h1.slice
  obtain ⟨a2, c2, rfl⟩ := h2.slice
  have hl' : ((l.length : Int) != (l.length : Int)) = false := by simp
  go_enter Tryd.func18, Tryd.ntmps18
  go_wp2_with fail
  go_loopw [5, 6] (fun iv _ wr => ∃ k : Nat, k ≤ l.length ∧ iv = .int .i64 k ∧ Below w.heap.size w wr) (fun iv _ _ => l.length - (intOf iv).toNat)
  case atStart => exact ⟨0, Nat.zero_le _, rfl, Below.refl _ _⟩
  case round =>
    obtain ⟨k, hk, rfl, hb⟩ := hrel
    by_cases hlt : k < l.length
    · obtain ⟨b1, o1, rfl, hx1⟩ := (h1.below hb).cells k hlt
      obtain ⟨b2, o2, rfl, hx2⟩ := (h2.below hb).cells k hlt
      obtain ⟨v1, p0, p1, p2, q1⟩ := hx1 k hlt
      obtain ⟨v2, r0, r1, r2, q2⟩ := hx2 k hlt
      generalize l[k] = d at *
      have hs := sameBatch_calls v1 v2 d wr.drew (q1.below (Below.refl _ _).drew) (q2.below (Below.refl _ _).drew)
      unfold batA at hs
      obtain ⟨a3, c3, rfl⟩ := q1.slice
      obtain ⟨a4, c4, rfl⟩ := q2.slice
      clear hx1 hx2 q1 q2
      go_upto_region 6 with fail
      go_still_tail 8, (by kernel_rfl)
      change wpList _ _ _ _ _ wr.drew
      go_wp2_with fail
      refine hs.mono ?_
      rintro e w4 ⟨rfl, b4⟩
      go_wp2_with fail
      exact ⟨⟨k + 1, by omega, by go_num, nxt hb.drew b4⟩, by simp [intOf]; omega⟩
    · go_wp2_with fail
      go_ret
      exact ⟨rfl, hb⟩
end Go.Proofs.YtlfbdcgojbfcaaaDoor
