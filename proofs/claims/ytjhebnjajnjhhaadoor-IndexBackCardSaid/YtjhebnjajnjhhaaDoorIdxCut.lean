/- Index.Cut: the closure that it hands over; the first mark that lies not ahead of a place. -/
import Derived.Test.YtjhebnjajnjhhaaDoorIdxAsk
namespace Go.Proofs.YtjhebnjajnjhhaaDoor
open Go Go.RowKit Idx

set_option maxRecDepth 100000 in
set_option maxHeartbeats 400000 in
theorem icut1_calls (m : Mk) (a : Int) (c : Nat) (w : World) (hc : w.cell? ⟨c, 0, none⟩ = some (.int .i64 a)) :
    Calls Tryd.prog 63 #[.agg #[.int .i64 m.off, .int .i64 m.time, .int .i64 m.pos], .pointer (some ⟨c, 0, none⟩)] w (fun e w' => e = .returned (.bool (decide (a ≤ m.pos))) ∧ Below w.heap.size w w') := by
  have b1 := below_alloc w (.cells #[.int .i64 m.off, .int .i64 m.time, .int .i64 m.pos] 34)
  have c1 : (w.alloc (.cells #[.int .i64 m.off, .int .i64 m.time, .int .i64 m.pos] 34)).cell? ⟨c, 0, none⟩ = some (.int .i64 a) := by rw [b1.cell (World.block_lt_of_cell? _ _ hc)]; exact hc
  go_enter Tryd.func63, Tryd.ntmps63
  go_wp2_with fail
  go_ret
  exact ⟨rfl, b1⟩

/-- The first pair that begins not ahead of a place: its number; -1: none. -/
def ICutIdxPost (l : List Mk) (a : Int) (w : World) (e : Ending) (w' : World) : Prop :=
  ∃ r : Int, e = .returned (.int .i64 r) ∧ (r = -1 ∧ (∀ m ∈ l, m.pos < a) ∨ ∃ k, ∃ hk : k < l.length, r = (k : Int) ∧ a ≤ l[k].pos ∧ ∀ m ∈ l.take k, m.pos < a) ∧ Below w.heap.size w w'

set_option maxRecDepth 100000 in
set_option maxHeartbeats 1000000 in
theorem icutIdx_calls {w : World} {v : Value} {l : List Mk} (a : Int) (c : Nat) (hc : w.cell? ⟨c, 0, none⟩ = some (.int .i64 a)) (h : Rd w 3 v l.length (l.flatMap mkV)) :
    Calls Tryd.prog 97 #[v, .func (.func 63) #[] #[.pointer (some ⟨c, 0, none⟩)]] w (ICutIdxPost l a w) := by
  obtain ⟨am, cm, rfl⟩ := h.slice
  have m1 := h.len_le
  go_enter Tryd.func97, Tryd.ntmps97
  go_wp2_with fail
  go_loopw [5, 8] (fun _ iv wr => ∃ i : Nat, i ≤ l.length ∧ iv = .int .i64 i ∧ (∀ m ∈ l.take i, m.pos < a) ∧ Below w.heap.size w wr) (fun _ iv _ => l.length - (intOf iv).toNat)
  case atStart => exact ⟨0, Nat.zero_le _, rfl, by simp, Below.refl _ _⟩
  case round =>
    obtain ⟨i, hi, rfl, hs, hb⟩ := hrel
    have HS := Lib.hid hs
    clear hs
    by_cases hlt : i < l.length
    · obtain ⟨b, o, rfl, hc1, hm1, hx1⟩ := (h.below hb).at (by omega) (by omega)
      obtain ⟨q0, q1, q2⟩ := mk_cells hx1 i hlt
      have hnext : l.take (i + 1) = l.take i ++ [l[i]] := List.take_succ_eq_append_getElem hlt
      have hcl := icut1_calls l[i] a c wr (by rw [hb.cell (World.block_lt_of_cell? _ _ hc)]; exact hc)
      obtain ⟨m, hm⟩ : ∃ m, m = l[i] := ⟨_, rfl⟩
      rw [← hm] at hcl q0 q1 q2 hnext
      have HNX := Lib.hid hnext
      have HM := Lib.hid hm
      clear hx1 hnext hm
      by_cases hle : a ≤ m.pos
      · rw [decide_eq_true hle] at hcl
        have HLE := Lib.hid hle
        clear hle
        go_wp2_with (go_at_call 63; refine hcl.mono ?_; rintro e w2 ⟨rfl, b2⟩)
        go_ret
        unfold ICutIdxPost
        exact ⟨_, rfl, .inr ⟨i, hlt, rfl, by rw [← HM.out]; exact HLE.out, HS.out⟩, nxt hb (by assumption)⟩
      · rw [decide_eq_false hle] at hcl
        have HLE := Lib.hid hle
        clear hle
        go_wp2_with (go_at_call 63; refine hcl.mono ?_; rintro e w2 ⟨rfl, b2⟩)
        refine ⟨⟨i + 1, by omega, by go_num, ?_, nxt hb (by assumption)⟩, by simp [intOf]; omega⟩
        intro y hy
        rw [HNX.out] at hy
        rcases List.mem_append.1 hy with h1 | h1
        · exact HS.out y h1
        · simp only [List.mem_singleton] at h1; subst h1; have := HLE.out; omega
    · have HA := Lib.hid (show ∀ m ∈ l, m.pos < a by
        have := HS.out
        rwa [List.take_of_length_le (by omega)] at this)
      go_wp2_with fail
      go_ret
      unfold ICutIdxPost
      exact ⟨_, rfl, .inl ⟨rfl, HA.out⟩, hb⟩
end Go.Proofs.YtjhebnjajnjhhaaDoor
