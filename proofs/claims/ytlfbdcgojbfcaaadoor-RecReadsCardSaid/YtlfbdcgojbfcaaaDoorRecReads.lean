/- RecReads returns true at every input. -/
import Derived.Test.YtlfbdcgojbfcaaaDoorRefRecAll
import Derived.Test.YtlfbdcgojbfcaaaDoorRefSameBat
import Derived.Test.YtlfbdcgojbfcaaaDoorRecTime
import Derived.Test.YtlfbdcgojbfcaaaDoorSee
namespace Go.Proofs.YtlfbdcgojbfcaaaDoor.Rec
theorem readB_code (l : List UInt8) : (readB l).1 = 0 ∨ (101 ≤ (readB l).1 ∧ (readB l).1 ≤ 104) := by
  unfold readB
  repeat' split
  all_goals simp
theorem allB_code : ∀ (f : Nat) (l : List UInt8), (allB f l).2.2 = 0 ∨ (101 ≤ (allB f l).2.2 ∧ (allB f l).2.2 ≤ 104) := by
  intro f
  induction f with
  | zero => intro l; exact .inl rfl
  | succ f ih =>
    intro l
    unfold allB
    split
    · exact .inl rfl
    · split
      · exact readB_code l
      · exact ih _
theorem allB_len : ∀ (f : Nat) (l : List UInt8), (allB f l).1.length ≤ f := by
  intro f
  induction f with
  | zero => intro l; exact Nat.le_refl _
  | succ f ih =>
    intro l
    unfold allB
    split
    · simp
    · split
      · simp
      · simp only [List.length_cons]; have := ih (l.drop (readB l).2.2); omega
end Go.Proofs.YtlfbdcgojbfcaaaDoor.Rec
namespace Go.Proofs.YtlfbdcgojbfcaaaDoor
open Go Go.RowKit Rec Vint

def errV (A : Nat → Addr) (c : Nat) : Value := if c = 0 then .nilIface else senV A (c - 101)
theorem errV_is {S : List Nat} {A : Nat → Addr} {w : World} (hS : Sents S w A) (hall : All S) (c : Nat) (hc : c = 0 ∨ (101 ≤ c ∧ c ≤ 104)) :
    Calls Tryd.prog 32 #[errV A c, .int .i64 (c : Int)] w (fun e w' => e = .returned (.bool true) ∧ Below w.heap.size w w') := by
  rcases hc with rfl | hc
  · have := is_calls hS hall .nilIface .fine rfl 0
    exact this
  · have := is_calls hS hall (senV A (c - 101)) (.bare (c - 101)) ⟨by omega, rfl⟩ (c : Int)
    unfold errV
    rw [if_neg (by omega)]
    have hd : decide ((Er.bare (c - 101)).code = (c : Int) ∧ (Er.bare (c - 101)).has = false ∧ (Er.bare (c - 101)).pos = 0) = true := by
      rw [decide_eq_true_iff]
      refine ⟨?_, rfl, rfl⟩
      show ((101 + (c - 101) : Nat) : Int) = (c : Int)
      omega
    rw [hd] at this
    exact this

set_option maxRecDepth 100000 in
set_option maxHeartbeats 4000000 in
theorem recReads_walk (S : List Nat) (A : Nat → Addr) (bs : List UInt8) (v : Value) (w : World) (hS : Sents S w A) (hall : All S) (hE0 : 0 ∈ S) (hE1 : 1 ∈ S) (hE2 : 2 ∈ S) (hE3 : 3 ∈ S) (hE4 : 4 ∈ S) (h : Rd w 1 v bs.length (bvs bs)) :
    Calls Tryd.prog 10 #[v] w (fun e w' => e = .returned (.bool true) ∧ Below w.heap.size w w') := by
  have hfst := recFirst_calls S A hS hE3 hE4
  obtain ⟨a, c, rfl⟩ := h.slice
  have m1 := h.len_le
  by_cases t1 : 2000 < bs.length
  · go_enter Tryd.func10, Tryd.ntmps10
    go_wp2_with fail
    refine hfst.mono ?_
    rintro e w1 ⟨rfl, b1⟩
    go_wp2_with fail
    go_ret
    exact ⟨rfl, b1⟩
  have t2 : bs.length ≤ 2000 := by omega
  have t2' : decide ((2000 : Int) < (bs.length : Int)) = false := decide_eq_false (by omega)
  obtain ⟨R, hR⟩ : ∃ R, R = readB bs := ⟨_, rfl⟩
  obtain ⟨Q, hQ⟩ : ∃ Q, Q = allB bs.length bs := ⟨_, rfl⟩
  have hrc := readB_code bs
  have hac := allB_code bs.length bs
  have hal := allB_len bs.length bs
  rw [← hR] at hrc
  rw [← hQ] at hac hal
  obtain ⟨rc, rb, rn⟩ := R
  obtain ⟨ql, qn, qc⟩ := Q
  simp only at hrc hac hal
  clear t1
  go_enter Tryd.func10, Tryd.ntmps10
  go_wp2_with fail
  refine hfst.mono ?_
  rintro e w1 ⟨rfl, b1⟩
  have h1 := recReadB_calls S A (hS.below b1) hE0 hE1 hE2 hE3 hE4 (h.below b1) (by omega)
  unfold ReadBPost at h1
  rw [← hR] at h1
  simp only at h1
  rw [show (if rc = 0 then Value.nilIface else senV A (rc - 101)) = errV A rc from rfl] at h1
  have hI1 := fun W (hW : Below w1.heap.size w1 W) => errV_is (hS.below (nxt b1 hW)) hall rc hrc
  have hI2 := fun W (hW : Below w1.heap.size w1 W) => errV_is (hS.below (nxt b1 hW)) hall qc hac
  obtain ⟨ve, hve⟩ : ∃ ve, ve = errV A rc := ⟨_, rfl⟩
  obtain ⟨vf, hvf⟩ : ∃ vf, vf = errV A qc := ⟨_, rfl⟩
  have hvo : ve.oneCell' = true := by rw [hve]; unfold errV senV; split <;> rfl
  have hvo2 : vf.oneCell' = true := by rw [hvf]; unfold errV senV; split <;> rfl
  rw [← hve] at h1 hI1
  rw [← hvf] at hI2
  have HVF := Lib.hid hvf
  have HR := Lib.hid hR
  have HQ := Lib.hid hQ
  clear hfst hve hvf hR hQ
  go_wp2_with fail
  with_reducible refine h1.mono ?_
  rintro e w2 ⟨v2, rfl, o2, b2⟩
  have r2 := o2.rd
  obtain ⟨a2, c2, rfl⟩ := r2.slice
  unfold batA
  have b3 := below_alloc w2 (.cells #[.int .i64 rb.base, .int .i64 rb.epoch, .slice a2 rb.recs.length c2] 34)
  have row3 := heap_alloc_new w2 (.cells #[.int .i64 rb.base, .int .i64 rb.epoch, .slice a2 rb.recs.length c2] 34)
  have b13 := nxt b2 b3
  have r3 := r2.below b3
  clear h1 o2 r2 b3
  go_upto_region 7 with fail
  obtain ⟨w3, hw3⟩ : ∃ w3, w3 = w2.alloc (.cells #[.int .i64 rb.base, .int .i64 rb.epoch, .slice a2 rb.recs.length c2] 34) := ⟨_, rfl⟩
  obtain ⟨g3, hg3⟩ : ∃ g3, g3 = w2.heap.size := ⟨_, rfl⟩
  rw [← hw3] at row3 b13 r3 ⊢
  rw [← hg3] at row3 ⊢
  clear hw3 hg3 b2
  have h2 := refRead_calls (h.below (nxt b1 b13)) (by omega)
  unfold RefReadPost at h2
  rw [← HR.out] at h2
  simp only at h2
  go_wp2_with fail
  with_reducible refine h2.mono ?_
  rintro e w4 ⟨v4, rfl, o4, b4⟩
  have r4 := o4.rd
  obtain ⟨a4, c4, rfl⟩ := r4.slice
  unfold batA
  have b5 := below_alloc w4 (.cells #[.int .i64 rb.base, .int .i64 rb.epoch, .slice a4 rb.recs.length c4] 34)
  have row5 := heap_alloc_new w4 (.cells #[.int .i64 rb.base, .int .i64 rb.epoch, .slice a4 rb.recs.length c4] 34)
  have b35 := nxt b4 b5
  have r5 := r4.below b5
  clear h2 o4 r4 b5
  go_upto_region 8 with fail
  obtain ⟨w5, hw5⟩ : ∃ w5, w5 = w4.alloc (.cells #[.int .i64 rb.base, .int .i64 rb.epoch, .slice a4 rb.recs.length c4] 34) := ⟨_, rfl⟩
  obtain ⟨g5, hg5⟩ : ∃ g5, g5 = w4.heap.size := ⟨_, rfl⟩
  rw [← hw5] at row5 b35 r5 ⊢
  rw [← hg5] at row5 ⊢
  clear hw5 hg5 b4
  have b15 := nxt b13 b35
  have h3 := recAll_calls S A (hS.below (nxt b1 b15)) hE0 hE1 hE2 hE3 hE4 (h.below (nxt b1 b15)) (by omega)
  unfold AllPost at h3
  rw [← HQ.out] at h3
  simp only at h3
  rw [show (if qc = 0 then Value.nilIface else senV A (qc - 101)) = vf from HVF.out.symm] at h3
  go_wp2_with fail
  with_reducible refine h3.mono ?_
  rintro e w6 ⟨v6, rfl, o6, b6⟩
  have b16 := nxt b15 b6
  have h4 := refAll_calls (h.below (nxt b1 b16)) (by omega)
  unfold RefAllPost at h4
  rw [← HQ.out] at h4
  simp only at h4
  have r6 := o6.rd
  obtain ⟨a6, c6, rfl⟩ := r6.slice
  clear h3 o6
  go_wp2_with fail
  with_reducible refine h4.mono ?_
  rintro e w7 ⟨v7, rfl, o7, b7⟩
  have b17 := nxt b16 b7
  have b57 := nxt b6 b7
  have r7 := o7.rd
  obtain ⟨a7, c7, rfl⟩ := r7.slice
  have hb1 := sameBatch_calls _ _ rb w7 (r3.below (nxt b35 b57)) (r5.below b57)
  have q3 := heap_below (nxt b35 b57) row3
  have q5 := heap_below b57 row5
  have d0 : w7.cell? ⟨g3, 0, none⟩ = some (.int .i64 rb.base) := cell_of_row _ _ 0 _ _ _ q3
  have d1 : w7.cell? ⟨g3, 1, none⟩ = some (.int .i64 rb.epoch) := cell_of_row _ _ 1 _ _ _ q3
  have d2 : w7.cell? ⟨g3, 2, none⟩ = some (.slice a2 rb.recs.length c2) := cell_of_row _ _ 2 _ _ _ q3
  have e0 : w7.cell? ⟨g5, 0, none⟩ = some (.int .i64 rb.base) := cell_of_row _ _ 0 _ _ _ q5
  have e1 : w7.cell? ⟨g5, 1, none⟩ = some (.int .i64 rb.epoch) := cell_of_row _ _ 1 _ _ _ q5
  have e2 : w7.cell? ⟨g5, 2, none⟩ = some (.slice a4 rb.recs.length c4) := cell_of_row _ _ 2 _ _ _ q5
  have n1 : ((rn : Int) == (rn : Int)) = true := by simp
  have n2 : ((qn : Int) == (qn : Int)) = true := by simp
  unfold batA at hb1
  clear h4 o7 q3 q5
  go_wp2_with fail
  with_reducible refine hb1.mono ?_
  rintro e w8 ⟨rfl, b8⟩
  have b18 := nxt b17 b8
  clear d0 d1 d2 e0 e1 e2 hb1
  go_wp2_with fail
  with_reducible refine (hI1 _ b18).mono ?_
  rintro e w9 ⟨rfl, b9⟩
  have b19 := nxt b18 b9
  have hsb := sameBatches_calls _ _ ql w9 (r6.below (nxt b7 (nxt b8 b9))) (r7.below (nxt b8 b9)) (by omega)
  clear hI1
  go_wp2_with fail
  with_reducible refine hsb.mono ?_
  rintro e w10 ⟨rfl, b10⟩
  have b110 := nxt b19 b10
  clear hsb
  go_wp2_with fail
  with_reducible refine (hI2 _ b110).mono ?_
  rintro e w11 ⟨rfl, b11⟩
  go_wp2_with fail
  go_ret
  exact ⟨rfl, nxt b1 (nxt b110 b11)⟩
end Go.Proofs.YtlfbdcgojbfcaaaDoor
