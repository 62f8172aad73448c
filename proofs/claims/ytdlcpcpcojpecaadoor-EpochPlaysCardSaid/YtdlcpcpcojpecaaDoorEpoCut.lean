/- Line.CutEnd: the closure that it hands over; the first pair that begins not ahead of a place. -/
import Derived.Test.YtdlcpcpcojpecaaDoorEpoLead
namespace Go.Proofs.YtdlcpcpcojpecaaDoor
open Go Go.RowKit Epo

set_option maxRecDepth 100000 in
set_option maxHeartbeats 400000 in
theorem cutEnd1_calls (m : Pr) (a : Int) (c : Nat) (w : World) (hc : w.cell? ⟨c, 0, none⟩ = some (.int .i64 a)) :
    Calls Tryd.prog 30 #[.agg #[.int .i64 m.ep, .int .i64 m.st], .pointer (some ⟨c, 0, none⟩)] w (fun e w' => e = .returned (.bool (decide (a ≤ m.st))) ∧ Below w.heap.size w w') := by
  have b1 := below_alloc w (.cells #[.int .i64 m.ep, .int .i64 m.st] 46)
  have c1 : (w.alloc (.cells #[.int .i64 m.ep, .int .i64 m.st] 46)).cell? ⟨c, 0, none⟩ = some (.int .i64 a) := by rw [b1.cell (World.block_lt_of_cell? _ _ hc)]; exact hc
  go_enter Tryd.func30, Tryd.ntmps30
  go_wp2_with fail
  go_ret
  exact ⟨rfl, b1⟩

/-- The first pair that begins not ahead of a place: its number; -1: none. -/
def CutIdxPost (l : List Pr) (a : Int) (w : World) (e : Ending) (w' : World) : Prop :=
  ∃ r : Int, e = .returned (.int .i64 r) ∧ (r = -1 ∧ (∀ m ∈ l, m.st < a) ∨ ∃ k, ∃ hk : k < l.length, r = (k : Int) ∧ a ≤ l[k].st ∧ ∀ m ∈ l.take k, m.st < a) ∧ Below w.heap.size w w'

set_option maxRecDepth 100000 in
set_option maxHeartbeats 1000000 in
theorem cutIdx_calls {w : World} {v : Value} {l : List Pr} (a : Int) (c : Nat) (hc : w.cell? ⟨c, 0, none⟩ = some (.int .i64 a)) (h : Rd w 2 v l.length (l.flatMap prV)) :
    Calls Tryd.prog 39 #[v, .func (.func 30) #[] #[.pointer (some ⟨c, 0, none⟩)]] w (CutIdxPost l a w) := by
  obtain ⟨am, cm, rfl⟩ := h.slice
  have m1 := h.len_le
  go_enter Tryd.func39, Tryd.ntmps39
  go_wp2_with fail
  go_loopw [5, 8] (fun _ iv wr => ∃ i : Nat, i ≤ l.length ∧ iv = .int .i64 i ∧ (∀ m ∈ l.take i, m.st < a) ∧ Below w.heap.size w wr) (fun _ iv _ => l.length - (intOf iv).toNat)
  case atStart => exact ⟨0, Nat.zero_le _, rfl, by simp, Below.refl _ _⟩
  case round =>
    obtain ⟨i, hi, rfl, hs, hb⟩ := hrel
    have HS := Lib.hid hs
    clear hs
    by_cases hlt : i < l.length
    · obtain ⟨b, o, rfl, hc1, hm1, hx1⟩ := (h.below hb).at (by omega) (by omega)
      obtain ⟨q0, q1⟩ := pr_cells hx1 i hlt
      have hnext : l.take (i + 1) = l.take i ++ [l[i]] := List.take_succ_eq_append_getElem hlt
      have hcl := cutEnd1_calls l[i] a c wr (by rw [hb.cell (World.block_lt_of_cell? _ _ hc)]; exact hc)
      obtain ⟨m, hm⟩ : ∃ m, m = l[i] := ⟨_, rfl⟩
      rw [← hm] at hcl q0 q1 hnext
      have HNX := Lib.hid hnext
      have HM := Lib.hid hm
      clear hx1 hnext hm
      by_cases hle : a ≤ m.st
      · rw [decide_eq_true hle] at hcl
        have HLE := Lib.hid hle
        clear hle
        go_wp2_with (go_at_call 30; refine hcl.mono ?_; rintro e w2 ⟨rfl, b2⟩)
        go_ret
        unfold CutIdxPost
        exact ⟨_, rfl, .inr ⟨i, hlt, rfl, by rw [← HM.out]; exact HLE.out, HS.out⟩, nxt hb (by assumption)⟩
      · rw [decide_eq_false hle] at hcl
        have HLE := Lib.hid hle
        clear hle
        go_wp2_with (go_at_call 30; refine hcl.mono ?_; rintro e w2 ⟨rfl, b2⟩)
        refine ⟨⟨i + 1, by omega, by go_num, ?_, nxt hb (by assumption)⟩, by simp [intOf]; omega⟩
        intro y hy
        rw [HNX.out] at hy
        rcases List.mem_append.1 hy with h1 | h1
        · exact HS.out y h1
        · simp only [List.mem_singleton] at h1; subst h1; have := HLE.out; omega
    · have HA := Lib.hid (show ∀ m ∈ l, m.st < a by
        have := HS.out
        rwa [List.take_of_length_le (by omega)] at this)
      go_wp2_with fail
      go_ret
      unfold CutIdxPost
      exact ⟨_, rfl, .inl ⟨rfl, HA.out⟩, hb⟩
end Go.Proofs.YtdlcpcpcojpecaaDoor
