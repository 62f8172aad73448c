/- cordwoodworld.Bytes: are lists of bytes few and short? -/
import Derived.Test.YtlgbdibfpboleaaDoorRdT
import Derived.Test.YtlgbdibfpboleaaDoorProg
namespace Go.Proofs.YtlgbdibfpboleaaDoor
open Go Go.RowKit

def few (ts : List (List UInt8)) (most long : Int) : Bool := decide ((ts.length : Int) ≤ most ∧ ∀ t ∈ ts, (t.length : Int) ≤ long)

set_option maxRecDepth 100000 in
set_option maxHeartbeats 400000 in
theorem worldBytes_calls (v : Value) (ts : List (List UInt8)) (most long : Int) (w : World) (h : RdT w v ts) :
    Calls Tryd.prog 48 #[v, .int .i64 most, .int .i64 long] w (fun e w' => e = .returned (.bool (few ts most long)) ∧ w = w') := by
  obtain ⟨a1, c1, rfl⟩ := h.slice
  have m1 := h.len_le
  by_cases hm : most < (ts.length : Int)
  · have hf : few ts most long = false := by unfold few; rw [decide_eq_false_iff_not]; omega
    rw [hf]
    clear hf
    go_enter Tryd.func48, Tryd.ntmps48
    go_wp2_with fail
    go_ret
    exact ⟨rfl, rfl⟩
  · go_enter Tryd.func48, Tryd.ntmps48
    go_wp2_with fail
    go_loop [7] (fun iv => ∃ i : Nat, i ≤ ts.length ∧ iv = .int .i64 i ∧ ∀ t ∈ ts.take i, (t.length : Int) ≤ long) (fun iv => ts.length - (intOf iv).toNat)
    case atStart => exact ⟨0, Nat.zero_le _, rfl, by simp⟩
    case round =>
      obtain ⟨i, hi, rfl, hs⟩ := hrel
      have HS := Lib.hid hs
      clear hs
      by_cases hlt : i < ts.length
      · obtain ⟨b, off, rfl, hc, ai, ci, hcell, _⟩ := h.at i hlt
        by_cases hl : long < (ts[i].length : Int)
        · have hf : few ts most long = false := by
            unfold few; rw [decide_eq_false_iff_not]; rintro ⟨_, e⟩; have := e ts[i] (List.getElem_mem _); omega
          have HF := Lib.hid hf
          clear hf
          go_wp2_with fail
          go_ret
          rw [HF.out]
          exact ⟨rfl, rfl⟩
        · go_wp2_with fail
          exact ⟨⟨i + 1, by omega, by go_num, fun t ht => by
            rw [List.take_succ_eq_append_getElem hlt] at ht
            rcases List.mem_append.1 ht with h1 | h1
            · exact HS.out t h1
            · simp only [List.mem_singleton] at h1; subst h1; omega⟩, by simp [intOf]; omega⟩
      · have hf : few ts most long = true := by
          unfold few; rw [decide_eq_true_eq]
          refine ⟨by omega, fun t ht => HS.out t ?_⟩
          rw [List.take_of_length_le (by omega)]; exact ht
        have HF := Lib.hid hf
        clear hf
        go_wp2_with fail
        go_ret
        rw [HF.out]
        exact ⟨rfl, rfl⟩
end Go.Proofs.YtlgbdibfpboleaaDoor
