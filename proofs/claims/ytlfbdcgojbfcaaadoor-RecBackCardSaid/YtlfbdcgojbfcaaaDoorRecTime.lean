/- rec.Time, rec.Next; law3's first. -/
import Derived.Test.YtlfbdcgojbfcaaaDoorRecReadB
import Derived.Deep.DeepCutAuto
namespace Go.Proofs.YtlfbdcgojbfcaaaDoor
open Go Go.RowKit Rec Vint

def tmax (t : Int) (l : List RecD) : Int := l.foldl (fun a r => max a r.time) t
theorem tmax_snoc (t : Int) (l : List RecD) (i : Nat) (hi : i < l.length) : tmax t (l.take (i + 1)) = max (tmax t (l.take i)) l[i].time := by
  unfold tmax; rw [List.take_succ_eq_append_getElem hi, List.foldl_append]; rfl
def timeB (b : BatD) : Int := if b.recs.length = 0 then 0 else tmax (first b) b.recs

set_option maxRecDepth 100000 in
theorem recNext_calls {w : World} {b : BatD} {v : Value} (h : RecsRd w v b.recs) (hb : -4611686018427387904 ≤ b.base ∧ b.base ≤ 4611686018427387904) (hn : b.recs.length ≤ 1000000) :
    Calls Tryd.prog 35 #[batA b v] w (fun e w' => e = .returned (.int .i64 (b.base + (b.recs.length : Int))) ∧ Below w.heap.size w w') := by
  obtain ⟨a, c, rfl⟩ := h.slice
  obtain ⟨ba, ep, l⟩ := b
  unfold batA
  simp only at hb hn ⊢
  have hw : IntKind.i64.wrap (ba + (l.length : Int)) = ba + (l.length : Int) := by rw [IntKind.wrap_i64]; omega
  go_enter Tryd.func35, Tryd.ntmps35
  go_wp2_with fail
  go_ret
  exact ⟨rfl, below_alloc _ _⟩

set_option maxRecDepth 100000 in
set_option maxHeartbeats 1000000 in
theorem recTime_calls {w : World} {b : BatD} {v : Value} (h : RecsRd w v b.recs) :
    Calls Tryd.prog 34 #[batA b v] w (fun e w' => e = .returned (.int .i64 (timeB b)) ∧ Below w.heap.size w w') := by
  obtain ⟨a, c, rfl⟩ := h.slice
  have m1 := h.len_le
  have hT : timeB b = if b.recs.length = 0 then 0 else tmax (first b) b.recs := rfl
  have HT := Lib.hid hT
  clear hT
  obtain ⟨ba, ep, l⟩ := b
  unfold batA
  simp only at h m1 HT ⊢
  have b1 := below_alloc w (.cells #[.int .i64 ba, .int .i64 ep, .slice a l.length c] 34)
  have row1 := heap_alloc_new w (.cells #[.int .i64 ba, .int .i64 ep, .slice a l.length c] 34)
  go_enter Tryd.func34, Tryd.ntmps34
  go_upto_region 1 with fail
  generalize w.alloc (.cells #[.int .i64 ba, .int .i64 ep, .slice a l.length c] 34) = w1 at *
  have d2 : w1.cell? ⟨w.heap.size, 2, none⟩ = some (.slice a l.length c) := cell_of_row _ _ 2 _ _ _ row1
  by_cases h0 : l.length = 0
  · have h0' : ((l.length : Int) == 0) = true := by rw [beq_iff_eq]; omega
    have HT2 := Lib.hid (HT.out.trans (if_pos h0))
    clear h0
    go_wp2_with fail
    go_ret
    rw [HT2.out]
    exact ⟨rfl, b1⟩
  · have h0' : ((l.length : Int) == 0) = false := by rw [beq_eq_false_iff_ne]; omega
    have hpos : 0 < l.length := by omega
    have HT2 := Lib.hid (HT.out.trans (if_neg h0))
    obtain ⟨bb, o, rfl, hcs⟩ := (h.below b1).cells 0 hpos
    obtain ⟨_, _, t0, _⟩ := hcs 0 hpos
    have hf : l[0].time = first ⟨ba, ep, l⟩ := by
      unfold first
      cases l with
      | nil => simp at hpos
      | cons r l => rfl
    rw [hf] at t0
    obtain ⟨fi, hfi⟩ : ∃ fi, fi = first ⟨ba, ep, l⟩ := ⟨_, rfl⟩
    rw [← hfi] at t0 HT2
    clear h0 hcs hf hfi HT
    have t0' : w1.cell? ⟨bb, o, none⟩ = some (.int .i64 fi) := by simpa using t0
    clear t0
    go_wp2_with fail
    go_loopw [3, 18] (fun tv iv wr => ∃ i : Nat, iv = .int .i64 i ∧ i ≤ l.length ∧ tv = .int .i64 (tmax fi (l.take i)) ∧ Below w.heap.size w wr) (fun _ iv _ => l.length - (intOf iv).toNat)
    case atStart => exact ⟨0, rfl, Nat.zero_le _, rfl, b1⟩
    case round =>
      obtain ⟨i, rfl, hi, rfl, hb⟩ := hrel
      by_cases hlt : i < l.length
      · obtain ⟨b', o', e1, hcs⟩ := (h.below hb).cells i hlt
        simp only [Option.some.injEq, Addr.mk.injEq] at e1
        obtain ⟨rfl, rfl, _⟩ := e1
        obtain ⟨vk, vv, p0, p1, p2, rk, rv⟩ := hcs i hlt
        have hsn := tmax_snoc fi l i hlt
        obtain ⟨ak, ck, rfl⟩ := rk.slice
        obtain ⟨av, cv, rfl⟩ := rv.slice
        obtain ⟨t, ht⟩ : ∃ t, t = l[i].time := ⟨_, rfl⟩
        obtain ⟨nk, hnk⟩ : ∃ t, t = l[i].key.length := ⟨_, rfl⟩
        obtain ⟨nv, hnv⟩ : ∃ t, t = l[i].val.length := ⟨_, rfl⟩
        rw [← ht] at p0 hsn
        rw [← hnk] at p1
        rw [← hnv] at p2
        obtain ⟨T, hT⟩ : ∃ T, T = tmax fi (l.take i) := ⟨_, rfl⟩
        rw [← hT] at hsn ⊢
        have HSN := Lib.hid hsn
        clear hcs rk rv ht hnk hnv hsn hT
        have B2 := bAlloc hb (.cells #[.int .i64 t, .slice ak nk ck, .slice av nv cv] 44)
        by_cases hm : T ≤ t
        · have e1 : max T t = t := by omega
          rw [e1] at HSN
          go_wp2_with fail
          all_goals (first
            | exact ⟨⟨i + 1, by go_num, by omega, congrArg (Value.int .i64) HSN.out.symm, B2⟩, by simp [intOf]; omega⟩
            | (refine ⟨⟨i + 1, by go_num, by omega, congrArg (Value.int .i64) (by rw [HSN.out]; omega), B2⟩, by simp [intOf]; omega⟩))
        · have e1 : max T t = T := by omega
          rw [e1] at HSN
          go_wp2_with fail
          all_goals (first
            | exact ⟨⟨i + 1, by go_num, by omega, congrArg (Value.int .i64) HSN.out.symm, B2⟩, by simp [intOf]; omega⟩
            | (refine ⟨⟨i + 1, by go_num, by omega, congrArg (Value.int .i64) (by rw [HSN.out]; omega), B2⟩, by simp [intOf]; omega⟩))
      · obtain rfl : i = l.length := by omega
        rw [List.take_of_length_le (Nat.le_refl _)]
        go_wp2_with fail
        go_ret
        rw [HT2.out]
        exact ⟨rfl, hb⟩

def r0 : RecD := ⟨0, [], []⟩
set_option maxRecDepth 100000 in
set_option maxHeartbeats 1000000 in
theorem recFirst_calls (S : List Nat) (A : Nat → Addr) {w : World} (hS : Sents S w A) (hE3 : 3 ∈ S) (hE4 : 4 ∈ S) :
    Calls Tryd.prog 23 #[] w (fun e w' => e = .returned (.bool true) ∧ Below w.heap.size w w') := by
  have b0 := below_alloc w (.cells #[.int .i64 0, .slice none 0 0, .slice none 0 0] 44)
  have hr : RecsRd (w.alloc (.cells #[.int .i64 0, .slice none 0 0, .slice none 0 0] 44)) (.slice (some ⟨w.heap.size, 0, none⟩) 1 1) (⟨0, 0, [r0]⟩ : BatD).recs :=
    ⟨[⟨r0, .slice none 0 0, .slice none 0 0⟩], rfl, Rd.new w #[.int .i64 0, .slice none 0 0, .slice none 0 0] 44 3 1 rfl (by decide), by intro x hx; rw [List.mem_singleton.1 hx]; exact ⟨Rd.nil _ _, Rd.nil _ _⟩⟩
  have hby := recBytes_calls S A (hS.below b0) hE3 hE4 hr
  have hlen : (bytesL ⟨0, 0, [r0]⟩).length = 26 := by decide +kernel
  have hv : valid ⟨0, 0, [r0]⟩ = 0 := by decide
  unfold BytesB at hby
  rw [hlen, hv] at hby
  unfold batA at hby
  simp only at hby
  clear hlen hv
  go_enter Tryd.func23, Tryd.ntmps23
  go_wp2_with fail
  refine hby.mono ?_
  rintro e w2 ⟨(⟨_, v2, rfl, o2⟩ | ⟨h, _⟩), b2⟩
  · obtain ⟨a2, c2, rfl⟩ := owns_slice o2
    go_wp2_with fail
    go_ret
    exact ⟨rfl, nxt b0 b2⟩
  · exact absurd rfl h
end Go.Proofs.YtlfbdcgojbfcaaaDoor
