/- A reader of numbers: how it begins, where it is, what is left, what was amiss. -/
import Derived.Test.YtldopocmmeidkaaDoorReader
namespace Go.Proofs.YtldopocmmeidkaaDoor
open Go Go.RowKit Vint

set_option maxRecDepth 100000 in
theorem newReader_calls (A : Nat → Addr) (v : Value) (l : List UInt8) (w : World) (ha : Rd w 1 v l.length (bvs l)) (hl : l.length ≤ 1099511627776) :
    Calls Tryd.prog 56 #[v] w (fun e w' => ∃ g, e = .returned (.pointer (some ⟨g, 0, none⟩)) ∧ w.heap.size ≤ g ∧ Rdr A w' g (rs0 l) ∧ Below w.heap.size w w') := by
  go_enter Tryd.func56, Tryd.ntmps56
  go_wp2_with fail
  refine (clone_bytes _ _ _ _ ha (bvs_one _) (by omega)).mono ?_
  rintro e w1 ⟨v1, rfl, o1, b1⟩
  obtain ⟨a1, c1, rfl⟩ := owns_slice o1
  go_wp2_with fail
  go_ret
  have hb := below_alloc w1 (.cells #[.slice a1 l.length c1, .int .i64 0, .nilIface] 127)
  exact ⟨_, rfl, b1.size, ⟨⟨Nat.zero_le _, hl⟩, _, _, heap_alloc_new w1 _, owns_base (owns_below o1 hb) (Nat.zero_le _), rfl⟩, nxt b1 hb⟩

set_option maxRecDepth 100000 in
theorem left_calls {A : Nat → Addr} {w : World} {g : Nat} {s : Rs} (h : Rdr A w g s) :
    Calls Tryd.prog 61 #[.pointer (some ⟨g, 0, none⟩)] w (fun e w' => e = .returned (.int .i64 (s.left.length : Nat)) ∧ ∃ n, w' = w.drewN n) := by
  obtain ⟨ab, cb, ve, hrow, hown, her, k0, k1, k2, f1⟩ := h.parts
  have hpos := h.1.1
  have m1 := (Rd.of_owns hown).len_le
  have hl : (s.left.length : Int) = (s.l.length : Int) - (s.pos : Int) := by rw [left_length]; omega
  rw [hl]
  clear hl hrow
  go_enter Tryd.func61, Tryd.ntmps61
  go_wp2_with fail
  have hw : IntKind.i64.wrap ((s.l.length : Int) - (s.pos : Int)) = (s.l.length : Int) - (s.pos : Int) := by rw [IntKind.wrap_i64]; omega
  go_quiet (fail)
  go_wp2_with fail
  go_ret
  exact ⟨rfl, _, rfl⟩

set_option maxRecDepth 100000 in
theorem readerErr_calls {A : Nat → Addr} {w : World} {g : Nat} {s : Rs} (h : Rdr A w g s) :
    Calls Tryd.prog 59 #[.pointer (some ⟨g, 0, none⟩)] w (fun e w' => ∃ v, e = .returned v ∧ ErRow A w v s.bad ∧ w' = w) := by
  obtain ⟨ab, cb, ve, hrow, hown, her, k0, k1, k2, f1⟩ := h.parts
  clear hrow
  go_enter Tryd.func59, Tryd.ntmps59
  go_wp2_with fail
  go_ret
  exact ⟨_, rfl, her, rfl⟩
end Go.Proofs.YtldopocmmeidkaaDoor
