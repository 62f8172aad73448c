/- RecBounds returns true at every input. -/
import Derived.Test.YtlfbdcgojbfcaaaDoorRefSameBat
import Derived.Test.YtlfbdcgojbfcaaaDoorRecTime
import Derived.Test.YtlfbdcgojbfcaaaDoorNumber
import Derived.Test.YtlfbdcgojbfcaaaDoorSee
import Derived.Deep.DeepCutAuto
import Derived.Deep.RegionLaw
import Derived.Deep.CutBlock
import Derived.StillTailTactics
namespace Go.Proofs.YtlfbdcgojbfcaaaDoor
open Go Go.RowKit Rec Vint

theorem made_at (z : Array Value) (n j : Nat) (hj : j < n) : (madeCells z n).toList[j]? = some (z[j % z.size]!) := by
  simp [madeCells, hj]
theorem made_len (z : Array Value) (n : Nat) : (madeCells z n).toList.length = n := by simp [madeCells]
theorem made_recs (c : Nat) : (madeCells #[Value.int .i64 0, .slice none 0 0, .slice none 0 0] (c * 3)).toList = (List.replicate c (⟨r0, .slice none 0 0, .slice none 0 0⟩ : RecR)).flatMap recV := by
  apply List.ext_getElem?
  intro j
  have hl : ((List.replicate c (⟨r0, .slice none 0 0, .slice none 0 0⟩ : RecR)).flatMap recV).length = c * 3 := by
    rw [flat_length recV 3 _ (recV_len _), List.length_replicate]
  by_cases hj : j < c * 3
  · rw [made_at _ _ _ hj]
    have h1 : j = j / 3 * 3 + j % 3 := by omega
    have h2 := flat_at recV 3 (List.replicate c (⟨r0, .slice none 0 0, .slice none 0 0⟩ : RecR)) (recV_len _) (j / 3) (by rw [List.length_replicate]; omega) (j % 3) (by omega)
    rw [← h1] at h2
    rw [h2, List.getElem_replicate]
    have h3 : j % 3 = 0 ∨ j % 3 = 1 ∨ j % 3 = 2 := by omega
    rcases h3 with h3 | h3 | h3 <;> simp [h3, recV, r0]
  · rw [List.getElem?_eq_none (by rw [made_len]; omega), List.getElem?_eq_none (by rw [hl]; omega)]

theorem made_bytes (c : Nat) : (madeCells #[Value.int .u8 0] c).toList = bvs (List.replicate c 0) := by
  rw [toList_madeCells_one]
  unfold bvs
  rw [List.map_replicate]
  rfl
/-- The batch at a bound. -/
def bnd (q : Nat) (N : Int) : BatD :=
  if q = 0 then ⟨0, 0, List.replicate (64 + N).toNat r0⟩
  else if q = 1 then ⟨0, 0, [⟨0, List.replicate (64 + N).toNat 0, []⟩]⟩
  else if q = 2 then ⟨0, 0, [⟨0, [], List.replicate (512 + N).toNat 0⟩]⟩
  else if q = 3 then ⟨1099511627776 + N, 0, [r0]⟩
  else if q = 4 then ⟨0, 1073741824 + N, [r0]⟩
  else if q = 5 then ⟨0, 0, [⟨1099511627776 + N, [], []⟩]⟩
  else ⟨0, 0, [⟨-1099511627776 + N, [], []⟩]⟩
def bndBad (q : Nat) (N : Int) : Nat :=
  if q = 0 then (if 0 < N then 104 else 0)
  else if q = 3 then (if 0 ≤ N then 105 else 0)
  else if q = 6 then (if N < 0 then 105 else 0)
  else if 0 < N then 105 else 0
theorem bnd_valid (q : Nat) (hq : q < 7) (N : Int) (h1 : -4 ≤ N) (h2 : N ≤ 3) : valid (bnd q N) = bndBad q N := by
  have hN : N = -4 ∨ N = -3 ∨ N = -2 ∨ N = -1 ∨ N = 0 ∨ N = 1 ∨ N = 2 ∨ N = 3 := by omega
  have hQ : q = 0 ∨ q = 1 ∨ q = 2 ∨ q = 3 ∨ q = 4 ∨ q = 5 ∨ q = 6 := by omega
  rcases hQ with rfl | rfl | rfl | rfl | rfl | rfl | rfl <;> rcases hN with rfl | rfl | rfl | rfl | rfl | rfl | rfl | rfl <;> decide +kernel

theorem rd_of_row {w : World} {g : Nat} {cs : Array Value} {T : TypeId} {fr : Nat × Nat} (h : w.heap[g]? = some (.cells cs T fr)) (sz n : Nat) (hs : cs.size = n * sz) (hm : n ≤ maxLen) : Rd w sz (.slice (some ⟨g, 0, none⟩) n n) n cs.toList := by
  refine ⟨by simpa using hs, .inr ⟨⟨g, 0, none⟩, n, rfl, Nat.le_refl _, hm, fun j u hu => ?_⟩⟩
  rw [add_none]
  have := cell_of_row w g j cs T fr h
  simp only [Nat.zero_add]
  rw [this]; simpa using hu
theorem one_rec {w : World} {g : Nat} {r : RecD} {vk vv : Value} (h : w.heap[g]? = some (.cells #[.int .i64 r.time, vk, vv] 44 (0, 0))) (hk : Rd w 1 vk r.key.length (bvs r.key)) (hv : Rd w 1 vv r.val.length (bvs r.val)) :
    RecsRd w (.slice (some ⟨g, 0, none⟩) 1 1) [r] :=
  ⟨[⟨r, vk, vv⟩], rfl, rd_of_row h 3 1 rfl (by unfold maxLen; omega), by intro x hx; rw [List.mem_singleton.1 hx]; exact ⟨hk, hv⟩⟩
theorem emod7 (n : Int) : ∃ q : Nat, q < 7 ∧ n % 7 = (q : Int) := ⟨(n % 7).toNat, by omega, by omega⟩

set_option maxRecDepth 100000 in
set_option maxHeartbeats 4000000 in
theorem recBounds_walk (S : List Nat) (A : Nat → Addr) (what n : Int) (w : World) (hS : Sents S w A) (hall : All S) (hE0 : 0 ∈ S) (hE1 : 1 ∈ S) (hE2 : 2 ∈ S) (hE3 : 3 ∈ S) (hE4 : 4 ∈ S) :
    Calls Tryd.prog 8 #[.int .i64 what, .int .i64 n] w (fun e w' => e = .returned (.bool true) ∧ Below w.heap.size w w') := by
  obtain ⟨i0, hi, hz0, hz1, hz2⟩ := info_parts info_u8
  obtain ⟨i1, hj, hy0, hy1, hy2⟩ := info_parts info_rec
  have hfst := recFirst_calls S A hS hE3 hE4
  obtain ⟨q, hq, hqe⟩ := emod7 what
  obtain ⟨N, hNe, hN1, hN2⟩ : ∃ N : Int, N = n % 8 - 4 ∧ -4 ≤ N ∧ N ≤ 3 := ⟨_, rfl, by omega, by omega⟩
  have hwN : IntKind.i64.wrap (n % 8 - 4) = N := by rw [IntKind.wrap_i64]; omega
  have hval := bnd_valid q hq N hN1 hN2
  obtain ⟨bd, hbd⟩ : ∃ bd, bd = bnd q N := ⟨_, rfl⟩
  rw [← hbd] at hval
  have HBD := Lib.hid hbd
  have HVAL := Lib.hid hval
  have HQ := Lib.hid hqe
  clear hNe hbd hval hqe
  go_enter Tryd.func8, Tryd.ntmps8
  go_wp2_with fail
  refine hfst.mono ?_
  rintro e w1 ⟨rfl, b1⟩
  have b2 := below_alloc w1 (.cells #[.int .i64 0, .slice none 0 0, .slice none 0 0] 44)
  have row2 := heap_alloc_new w1 (.cells #[.int .i64 0, .slice none 0 0, .slice none 0 0] 44)
  have sz2 := alloc_size w1 (.cells #[.int .i64 0, .slice none 0 0, .slice none 0 0] 44)
  have B2 := nxt b1 b2
  clear hfst b2
  go_upto_region 5 with fail
  generalize w1.alloc (.cells #[.int .i64 0, .slice none 0 0, .slice none 0 0] 44) = w2 at *
  obtain ⟨g0, hg0⟩ : ∃ g0, g0 = w1.heap.size := ⟨_, rfl⟩
  have hg0w : w.heap.size ≤ g0 := by have := b1.size; omega
  rw [← hg0] at row2 sz2 ⊢
  have b3 := below_alloc w2 (.cells #[.int .i64 0, .int .i64 0, .slice (some ⟨g0, 0, none⟩) 1 1] 34)
  have row3 := heap_alloc_new w2 (.cells #[.int .i64 0, .int .i64 0, .slice (some ⟨g0, 0, none⟩) 1 1] 34)
  have rec3 := heap_below b3 row2
  have B3 := nxt B2 b3
  rw [sz2] at row3
  have sz3 := alloc_size w2 (.cells #[.int .i64 0, .int .i64 0, .slice (some ⟨g0, 0, none⟩) 1 1] 34)
  rw [sz2] at sz3
  generalize w2.alloc (.cells #[.int .i64 0, .int .i64 0, .slice (some ⟨g0, 0, none⟩) 1 1] 34) = w3 at *
  clear hg0 b1 B2 b3 row2 sz2
  go_wp2_with fail
  with_reducible refine (number_calls n 8 _ (by omega) (by omega)).mono ?_
  rintro e w4 ⟨rfl, rfl⟩
  go_wp2_with fail
  with_reducible refine (number_calls what 7 _ (by omega) (by omega)).mono ?_
  rintro e w4 ⟨rfl, rfl⟩
  rw [HQ.out]
  go_upto_block 0 with fail
  go_cut [7, 31, 32, 40, 51, 62, 69, 76] (fun bv _ _ _ _ _ _ _ wx => ∃ v, bv = .int .i64 ((valid bd : Nat) : Int) ∧ wx.heap[g0 + 1]? = some (.cells #[.int .i64 bd.base, .int .i64 bd.epoch, v] 34 (0, 0)) ∧ RecsRd wx v bd.recs ∧ Below w.heap.size w wx)
  case first =>
    have d2 : w3.cell? ⟨g0 + 1, 2, none⟩ = some (.slice (some ⟨g0, 0, none⟩) 1 1) := cell_of_row _ _ 2 _ _ _ row3
    have x2 : w3.frozen? ⟨g0 + 1, 2, none⟩ = false := frozen_of_row _ _ 2 _ _ row3
    have hQ : q = 0 ∨ q = 1 ∨ q = 2 ∨ q = 3 ∨ q = 4 ∨ q = 5 ∨ q = 6 := by omega
    rcases hQ with rfl | rfl | rfl | rfl | rfl | rfl | rfl
    · obtain ⟨c, hc, hc7⟩ : ∃ c : Nat, 64 + N = (c : Int) ∧ c < 70 := ⟨(64 + N).toNat, by omega, by omega⟩
      have hw1 : IntKind.i64.wrap (64 + N) = (c : Int) := by rw [IntKind.wrap_i64]; omega
      have hHc := Lib.hid hc
      have hbe : bd = ⟨0, 0, List.replicate c r0⟩ := by rw [HBD.out]; show (⟨0, 0, List.replicate (64 + N).toNat r0⟩ : BatD) = _; rw [hc]; rfl
      have HB := Lib.hid hbe
      clear hc hbe
      by_cases h0 : 0 < N
      all_goals
        go_wp2_with (at_make; refine wpList_make_full _ rfl _ _ 32 rfl (g0 + 1) 44 i1 _ 3 Tryd.underlying32 hj hy0 hy1 _ _ _ _ c rfl rfl rfl rfl ?_ ?_ ?_ ?_)
        all_goals (try (first | omega | (rw [hy2]; omega) | (unfold maxLen; omega)))
        intro w5 o5 g5
        rw [made_recs] at o5
        have b5 : Below w3.heap.size w3 w5 := (Below.refl _ _).grown g5 (Nat.le_refl _) (by simp)
        have row5 := heap_below b5 row3
        have d5 : w5.cell? ⟨g0 + 1, 2, none⟩ = some (.slice (some ⟨g0, 0, none⟩) 1 1) := cell_of_row _ _ 2 _ _ _ row5
        have x5 : w5.frozen? ⟨g0 + 1, 2, none⟩ = false := frozen_of_row _ _ 2 _ _ row5
        have T5 := Touch.setCell (g := g0 + 1) w5 2 (.slice (some ⟨g0 + 1 + 1, 0, none⟩) c c)
        have row6 : (w5.setCell ⟨g0 + 1, 2, none⟩ (.slice (some ⟨g0 + 1 + 1, 0, none⟩) c c)).heap[g0 + 1]? = some (.cells #[.int .i64 0, .int .i64 0, .slice (some ⟨g0 + 1 + 1, 0, none⟩) c c] 34 (0, 0)) := heap_setCell_same w5 _ 2 _ _ _ row5
        have o6 := T5.owns o5 row5 (by decide)
        have B6 := T5.new (nxt B3 b5) (by omega)
        clear g5 d2 x2 T5
        go_wp2_with fail
        go_meet
        rw [HVAL.out, HB.out]
        refine ⟨_, ?_, row6, ⟨List.replicate c ⟨r0, .slice none 0 0, .slice none 0 0⟩, by simp, ?_, ?_⟩, B6⟩
        · unfold bndBad
          first | (rw [if_pos rfl, if_pos (by omega)]; rfl) | (rw [if_pos rfl, if_neg (by omega)]; rfl)
        · rw [List.length_replicate]; exact Rd.of_owns o6
        · intro x hx
          rw [List.eq_of_mem_replicate hx]
          exact ⟨Rd.nil _ _, Rd.nil _ _⟩
    · obtain ⟨c, hc, hc7⟩ : ∃ c : Nat, 64 + N = (c : Int) ∧ c < 600 := ⟨(64 + N).toNat, by omega, by omega⟩
      have hw1 : IntKind.i64.wrap (64 + N) = (c : Int) := by rw [IntKind.wrap_i64]; omega
      have hbe : bd = ⟨0, 0, [⟨0, List.replicate c 0, []⟩]⟩ := by rw [HBD.out]; show (⟨0, 0, [⟨0, List.replicate (64 + N).toNat 0, []⟩]⟩ : BatD) = _; rw [hc]; rfl
      have HB := Lib.hid hbe
      have hmk : ∀ W : World, (Instr.makeSlice 42 (.int .i64 (c : Int)) (.int .i64 (c : Int))).run Tryd.prog W = .ok (.slice (some ⟨W.heap.size, 0, none⟩) c c) (W.alloc (.cells (madeCells #[.int .u8 0] c) 5)) := fun W => by
        have h := run_make (P := Tryd.prog) W 42 5 i0 (.int .u8 0) Tryd.underlying42 hi hz0 .i64 .i64 c c (by omega) (by omega) (by rw [hz2]; omega) (by omega)
        rw [Int.toNat_natCast, hz1, Nat.mul_one] at h
        exact h
      clear hc hbe
      by_cases h0 : 0 < N
      all_goals
        go_upto_region 16 with fail
        have e1 : w3.cell? ⟨g0, 1, none⟩ = some (.slice none 0 0) := cell_of_row _ _ 1 _ _ _ rec3
        have ez : w3.frozen? ⟨g0, 1, none⟩ = false := frozen_of_row _ _ 1 _ _ rec3
        have T4 := Touch.setCell (g := g0) w3 1 (.slice (some ⟨g0 + 1 + 1, 0, none⟩) c c)
        have rec4 : (w3.setCell ⟨g0, 1, none⟩ (.slice (some ⟨g0 + 1 + 1, 0, none⟩) c c)).heap[g0]? = some (.cells #[.int .i64 0, .slice (some ⟨g0 + 1 + 1, 0, none⟩) c c, .slice none 0 0] 44 (0, 0)) := heap_setCell_same w3 _ 1 _ _ _ rec3
        have row4 := T4.heap row3 (by omega)
        have sz4 : (w3.setCell ⟨g0, 1, none⟩ (.slice (some ⟨g0 + 1 + 1, 0, none⟩) c c)).heap.size = g0 + 1 + 1 := by rw [World.size_setCell]; exact sz3
        have B4 := T4.new B3 hg0w
        go_region
        generalize w3.setCell ⟨g0, 1, none⟩ (.slice (some ⟨g0 + 1 + 1, 0, none⟩) c c) = w4 at *
        have bA := below_alloc w4 (.cells (madeCells #[.int .u8 0] c) 5)
        have o5 := World.ownsRow_lit w4 (madeCells #[.int .u8 0] c) c (base := 0) (e := 5) (size := 1) (Nat.zero_le _) (by unfold maxLen; omega) (by rw [size_madeCells, Nat.mul_one])
        rw [sz4, made_bytes] at o5
        have row5 := heap_below bA row4
        have rec5 := heap_below bA rec4
        have B5 := nxt B4 bA
        generalize w4.alloc (.cells (madeCells #[.int .u8 0] c) 5) = w5 at *
        have o5 := owns_below o5 (show Below w5.heap.size w5 w5.drew from (Below.refl _ _).drew)
        clear T4 e1 ez bA row4 rec4 hmk
        go_wp2_with fail
        go_meet
        rw [HVAL.out, HB.out]
        refine ⟨_, ?_, row5, one_rec (vk := _) (vv := .slice none 0 0) rec5 (by simp only [List.length_replicate]; exact Rd.of_owns o5) (Rd.nil _ _), B5.drew⟩
        unfold bndBad
        first | (simp only [reduceIte, Nat.reduceEqDiff]; rw [if_pos (by omega)]; rfl) | (simp only [reduceIte, Nat.reduceEqDiff]; rw [if_neg (by omega)]; rfl)
    · obtain ⟨c, hc, hc7⟩ : ∃ c : Nat, 512 + N = (c : Int) ∧ c < 600 := ⟨(512 + N).toNat, by omega, by omega⟩
      have hw1 : IntKind.i64.wrap (512 + N) = (c : Int) := by rw [IntKind.wrap_i64]; omega
      have hbe : bd = ⟨0, 0, [⟨0, [], List.replicate c 0⟩]⟩ := by rw [HBD.out]; show (⟨0, 0, [⟨0, [], List.replicate (512 + N).toNat 0⟩]⟩ : BatD) = _; rw [hc]; rfl
      have HB := Lib.hid hbe
      have hmk : ∀ W : World, (Instr.makeSlice 42 (.int .i64 (c : Int)) (.int .i64 (c : Int))).run Tryd.prog W = .ok (.slice (some ⟨W.heap.size, 0, none⟩) c c) (W.alloc (.cells (madeCells #[.int .u8 0] c) 5)) := fun W => by
        have h := run_make (P := Tryd.prog) W 42 5 i0 (.int .u8 0) Tryd.underlying42 hi hz0 .i64 .i64 c c (by omega) (by omega) (by rw [hz2]; omega) (by omega)
        rw [Int.toNat_natCast, hz1, Nat.mul_one] at h
        exact h
      clear hc hbe
      by_cases h0 : 0 < N
      all_goals
        go_upto_region 20 with fail
        have e1 : w3.cell? ⟨g0, 2, none⟩ = some (.slice none 0 0) := cell_of_row _ _ 2 _ _ _ rec3
        have ez : w3.frozen? ⟨g0, 2, none⟩ = false := frozen_of_row _ _ 2 _ _ rec3
        have T4 := Touch.setCell (g := g0) w3 2 (.slice (some ⟨g0 + 1 + 1, 0, none⟩) c c)
        have rec4 : (w3.setCell ⟨g0, 2, none⟩ (.slice (some ⟨g0 + 1 + 1, 0, none⟩) c c)).heap[g0]? = some (.cells #[.int .i64 0, .slice none 0 0, .slice (some ⟨g0 + 1 + 1, 0, none⟩) c c] 44 (0, 0)) := heap_setCell_same w3 _ 2 _ _ _ rec3
        have row4 := T4.heap row3 (by omega)
        have sz4 : (w3.setCell ⟨g0, 2, none⟩ (.slice (some ⟨g0 + 1 + 1, 0, none⟩) c c)).heap.size = g0 + 1 + 1 := by rw [World.size_setCell]; exact sz3
        have B4 := T4.new B3 hg0w
        go_region
        generalize w3.setCell ⟨g0, 2, none⟩ (.slice (some ⟨g0 + 1 + 1, 0, none⟩) c c) = w4 at *
        have bA := below_alloc w4 (.cells (madeCells #[.int .u8 0] c) 5)
        have o5 := World.ownsRow_lit w4 (madeCells #[.int .u8 0] c) c (base := 0) (e := 5) (size := 1) (Nat.zero_le _) (by unfold maxLen; omega) (by rw [size_madeCells, Nat.mul_one])
        rw [sz4, made_bytes] at o5
        have row5 := heap_below bA row4
        have rec5 := heap_below bA rec4
        have B5 := nxt B4 bA
        generalize w4.alloc (.cells (madeCells #[.int .u8 0] c) 5) = w5 at *
        have o5 := owns_below o5 (show Below w5.heap.size w5 w5.drew from (Below.refl _ _).drew)
        clear T4 e1 ez bA row4 rec4 hmk
        go_wp2_with fail
        go_meet
        rw [HVAL.out, HB.out]
        refine ⟨_, ?_, row5, one_rec (vk := .slice none 0 0) (vv := _) rec5 (Rd.nil _ _) (by simp only [List.length_replicate]; exact Rd.of_owns o5), B5.drew⟩
        unfold bndBad
        first | (simp only [reduceIte, Nat.reduceEqDiff]; rw [if_pos (by omega)]; rfl) | (simp only [reduceIte, Nat.reduceEqDiff]; rw [if_neg (by omega)]; rfl)
    · have hw1 : IntKind.i64.wrap (1099511627776 + N) = 1099511627776 + N := by rw [IntKind.wrap_i64]; omega
      have hbe : bd = ⟨1099511627776 + N, 0, [r0]⟩ := HBD.out
      have HB := Lib.hid hbe
      clear hbe
      by_cases h0 : 0 ≤ N
      all_goals
        have e1 : w3.cell? ⟨g0 + 1, 0, none⟩ = some (.int .i64 0) := cell_of_row _ _ 0 _ _ _ row3
        have ez : w3.frozen? ⟨g0 + 1, 0, none⟩ = false := frozen_of_row _ _ 0 _ _ row3
        have T4 := Touch.setCell (g := g0 + 1) w3 0 (.int .i64 (1099511627776 + N))
        have rec4 := T4.heap rec3 (by omega)
        have row4 : (w3.setCell ⟨g0 + 1, 0, none⟩ (.int .i64 (1099511627776 + N))).heap[g0 + 1]? = some (.cells #[.int .i64 (1099511627776 + N), .int .i64 0, .slice (some ⟨g0, 0, none⟩) 1 1] 34 (0, 0)) := heap_setCell_same w3 _ 0 _ _ _ row3
        have B4 := T4.new B3 (by omega)
        have HT4 := Lib.hid T4
        clear T4
        go_wp2_with fail
        go_meet
        rw [HVAL.out, HB.out]
        refine ⟨_, ?_, row4, one_rec (vk := .slice none 0 0) (vv := .slice none 0 0) rec4 (Rd.nil _ _) (Rd.nil _ _), B4⟩
        unfold bndBad
        first | (simp only [reduceIte, Nat.reduceEqDiff]; rw [if_pos (by omega)]; rfl) | (simp only [reduceIte, Nat.reduceEqDiff]; rw [if_neg (by omega)]; rfl)
    · have hw1 : IntKind.i64.wrap (1073741824 + N) = 1073741824 + N := by rw [IntKind.wrap_i64]; omega
      have hbe : bd = ⟨0, 1073741824 + N, [r0]⟩ := HBD.out
      have HB := Lib.hid hbe
      clear hbe
      by_cases h0 : 0 < N
      all_goals
        have e1 : w3.cell? ⟨g0 + 1, 1, none⟩ = some (.int .i64 0) := cell_of_row _ _ 1 _ _ _ row3
        have ez : w3.frozen? ⟨g0 + 1, 1, none⟩ = false := frozen_of_row _ _ 1 _ _ row3
        have T4 := Touch.setCell (g := g0 + 1) w3 1 (.int .i64 (1073741824 + N))
        have rec4 := T4.heap rec3 (by omega)
        have row4 : (w3.setCell ⟨g0 + 1, 1, none⟩ (.int .i64 (1073741824 + N))).heap[g0 + 1]? = some (.cells #[.int .i64 0, .int .i64 (1073741824 + N), .slice (some ⟨g0, 0, none⟩) 1 1] 34 (0, 0)) := heap_setCell_same w3 _ 1 _ _ _ row3
        have B4 := T4.new B3 (by omega)
        have HT4 := Lib.hid T4
        clear T4
        go_wp2_with fail
        go_meet
        rw [HVAL.out, HB.out]
        refine ⟨_, ?_, row4, one_rec (vk := .slice none 0 0) (vv := .slice none 0 0) rec4 (Rd.nil _ _) (Rd.nil _ _), B4⟩
        unfold bndBad
        first | (simp only [reduceIte, Nat.reduceEqDiff]; rw [if_pos (by omega)]; rfl) | (simp only [reduceIte, Nat.reduceEqDiff]; rw [if_neg (by omega)]; rfl)
    · have hw1 : IntKind.i64.wrap (1099511627776 + N) = 1099511627776 + N := by rw [IntKind.wrap_i64]; omega
      have hbe : bd = ⟨0, 0, [⟨1099511627776 + N, [], []⟩]⟩ := HBD.out
      have HB := Lib.hid hbe
      clear hbe
      by_cases h0 : 0 < N
      all_goals
        have e1 : w3.cell? ⟨g0, 0, none⟩ = some (.int .i64 0) := cell_of_row _ _ 0 _ _ _ rec3
        have ez : w3.frozen? ⟨g0, 0, none⟩ = false := frozen_of_row _ _ 0 _ _ rec3
        have T4 := Touch.setCell (g := g0) w3 0 (.int .i64 (1099511627776 + N))
        have row4 := T4.heap row3 (by omega)
        have rec4 : (w3.setCell ⟨g0, 0, none⟩ (.int .i64 (1099511627776 + N))).heap[g0]? = some (.cells #[.int .i64 (1099511627776 + N), .slice none 0 0, .slice none 0 0] 44 (0, 0)) := heap_setCell_same w3 _ 0 _ _ _ rec3
        have B4 := T4.new B3 (by omega)
        have HT4 := Lib.hid T4
        clear T4
        go_wp2_with fail
        go_meet
        rw [HVAL.out, HB.out]
        refine ⟨_, ?_, row4, one_rec (vk := .slice none 0 0) (vv := .slice none 0 0) rec4 (Rd.nil _ _) (Rd.nil _ _), B4⟩
        unfold bndBad
        first | (simp only [reduceIte, Nat.reduceEqDiff]; rw [if_pos (by omega)]; rfl) | (simp only [reduceIte, Nat.reduceEqDiff]; rw [if_neg (by omega)]; rfl)
    · have hw1 : IntKind.i64.wrap (-1099511627776 + N) = -1099511627776 + N := by rw [IntKind.wrap_i64]; omega
      have hbe : bd = ⟨0, 0, [⟨-1099511627776 + N, [], []⟩]⟩ := HBD.out
      have HB := Lib.hid hbe
      clear hbe
      by_cases h0 : N < 0
      all_goals
        have e1 : w3.cell? ⟨g0, 0, none⟩ = some (.int .i64 0) := cell_of_row _ _ 0 _ _ _ rec3
        have ez : w3.frozen? ⟨g0, 0, none⟩ = false := frozen_of_row _ _ 0 _ _ rec3
        have T4 := Touch.setCell (g := g0) w3 0 (.int .i64 (-1099511627776 + N))
        have row4 := T4.heap row3 (by omega)
        have rec4 : (w3.setCell ⟨g0, 0, none⟩ (.int .i64 (-1099511627776 + N))).heap[g0]? = some (.cells #[.int .i64 (-1099511627776 + N), .slice none 0 0, .slice none 0 0] 44 (0, 0)) := heap_setCell_same w3 _ 0 _ _ _ rec3
        have B4 := T4.new B3 (by omega)
        have HT4 := Lib.hid T4
        clear T4
        go_wp2_with fail
        go_meet
        rw [HVAL.out, HB.out]
        refine ⟨_, ?_, row4, one_rec (vk := .slice none 0 0) (vv := .slice none 0 0) rec4 (Rd.nil _ _) (Rd.nil _ _), B4⟩
        unfold bndBad
        first | (simp only [reduceIte, Nat.reduceEqDiff]; rw [if_pos (by omega)]; rfl) | (simp only [reduceIte, Nat.reduceEqDiff]; rw [if_neg (by omega)]; rfl)
  case rest =>
    obtain ⟨v, rfl, row, hrd, hb⟩ := hcut
    have hv3 : valid bd = 0 ∨ valid bd = 104 ∨ valid bd = 105 := by
      rw [HVAL.out]; unfold bndBad
      repeat' split
      all_goals simp
    have hby := recBytes_calls S A (hS.below hb) hE3 hE4 hrd
    have hsz := fun W (hW : Below wc.heap.size wc W) => recSize_calls S A (hS.below (nxt hb hW)) hE3 hE4 (hrd.below hW)
    obtain ⟨a, c, rfl⟩ := hrd.slice
    have D : ∀ W, Below wc.heap.size wc W → W.cell? ⟨g0 + 1, 0, none⟩ = some (.int .i64 bd.base) ∧ W.cell? ⟨g0 + 1, 1, none⟩ = some (.int .i64 bd.epoch) ∧ W.cell? ⟨g0 + 1, 2, none⟩ = some (.slice a bd.recs.length c) := fun W hW => by
      have r := heap_below hW row
      exact ⟨cell_of_row _ _ 0 _ _ _ r, cell_of_row _ _ 1 _ _ _ r, cell_of_row _ _ 2 _ _ _ r⟩
    obtain ⟨d0, d1, d2⟩ := D wc (Below.refl _ _)
    unfold BytesB at hby
    unfold sizeB at hsz
    have hfin : ∀ vc, (vc = 104 ∨ vc = 105) → ∀ W (_ : Below wc.heap.size wc W), Calls Tryd.prog 32 #[senV A (vc - 101), .int .i64 (vc : Int)] W (fun e w' => e = .returned (.bool true) ∧ Below W.heap.size W w') := fun vc hvc W hW => by
      have := is_calls (hS.below (nxt hb hW)) hall _ (.bare (vc - 101)) ⟨by omega, rfl⟩ (vc : Int)
      rw [show decide ((Er.bare (vc - 101)).code = (vc : Int) ∧ (Er.bare (vc - 101)).has = false ∧ (Er.bare (vc - 101)).pos = 0) = true from by rcases hvc with rfl | rfl <;> decide] at this
      exact this
    have HREC : Hid (RecsRd wc (.slice a bd.recs.length c) bd.recs) := Lib.hid hrd
    clear row3 rec3 sz3 B3 hwN
    rcases hv3 with hv | hv
    · have hbyl := bytes_len bd
      have hbl := body_len hv
      have hRB := readB_put hv []
      rw [List.append_nil] at hRB
      simp only [hv, if_true] at hby hsz ⊢
      obtain ⟨BY, hBY⟩ : ∃ BY, BY = bytesL bd := ⟨_, rfl⟩
      rw [← hBY] at hby hsz hRB hbyl
      have HRB := Lib.hid hRB
      have HBL : Hid (BY.length ≤ 50000) := Lib.hid (by omega)
      have hee : ((BY.length : Int) == (BY.length : Int)) = true := by simp
      unfold batA at hby hsz
      clear hRB hbyl hbl hBY hv HVAL HBD hfin
      go_wp2_with fail
      with_reducible refine hby.mono ?_
      rintro e w4 ⟨(⟨_, v4, rfl, o4⟩ | ⟨h, _⟩), b4⟩
      rotate_left
      · exact absurd rfl h
      have B4 := nxt hb b4
      obtain ⟨a4, c4, rfl⟩ := owns_slice o4
      have hrr := recReadB_calls S A (hS.below B4) hE0 hE1 hE2 hE3 hE4 (Rd.of_owns o4) (by have := HBL.out; omega)
      unfold ReadBPost at hrr
      rw [HRB.out] at hrr
      rw [if_pos rfl] at hrr
      unfold batA at hrr
      simp only at hrr
      clear hby d0 d1 d2
      go_wp2_with fail
      with_reducible refine hrr.mono ?_
      rintro e w5 ⟨v5, rfl, ro5, b5⟩
      have B5 := nxt B4 b5
      have rd5 := ro5.rd
      obtain ⟨a5, c5, rfl⟩ := rd5.slice
      have b6 := below_alloc w5 (.cells #[.int .i64 bd.base, .int .i64 bd.epoch, .slice a5 bd.recs.length c5] 34)
      have row6 := heap_alloc_new w5 (.cells #[.int .i64 bd.base, .int .i64 bd.epoch, .slice a5 bd.recs.length c5] 34)
      have W6 := nxt b4 (nxt b5 b6)
      have B6 := nxt B5 b6
      have rd6 := rd5.below b6
      clear hrr ro5 rd5
      go_upto_region 39 with fail
      generalize w5.alloc (.cells #[.int .i64 bd.base, .int .i64 bd.epoch, .slice a5 bd.recs.length c5] 34) = w6 at *
      generalize w5.heap.size = g6 at *
      obtain ⟨d0, d1, d2⟩ := D w6 W6
      have k0 : w6.cell? ⟨g6, 0, none⟩ = some (.int .i64 bd.base) := cell_of_row _ _ 0 _ _ _ row6
      have k1 : w6.cell? ⟨g6, 1, none⟩ = some (.int .i64 bd.epoch) := cell_of_row _ _ 1 _ _ _ row6
      have k2 : w6.cell? ⟨g6, 2, none⟩ = some (.slice a5 bd.recs.length c5) := cell_of_row _ _ 2 _ _ _ row6
      have hsb := sameBatch_calls _ _ bd w6 rd6 (HREC.out.below W6)
      unfold batA at hsb
      go_wp2_with fail
      with_reducible refine hsb.mono ?_
      rintro e w7 ⟨rfl, b7⟩
      obtain ⟨d0, d1, d2⟩ := D w7 (nxt W6 b7)
      clear hsb k0 k1 k2
      go_wp2_with fail
      with_reducible refine (hsz _ (nxt W6 b7)).mono ?_
      rintro e w8 ⟨rfl, b8⟩
      go_wp2_with fail
      go_ret
      exact ⟨rfl, nxt B6 (nxt b7 b8)⟩
    · obtain ⟨vc, hvc⟩ : ∃ vc, vc = valid bd := ⟨_, rfl⟩
      rw [← hvc] at hv hby hsz ⊢
      have hfin2 := hfin vc hv
      have hn0 : ¬ vc = 0 := by omega
      have hn1 : ((vc : Int) != 0) = true := by rw [bne_iff_ne]; omega
      simp only [if_neg hn0] at hsz
      unfold batA at hby hsz
      unfold senV at hby hfin2
      clear hvc HVAL HBD hfin hv
      have HN0 := Lib.hid hn0
      clear hn0
      go_wp2_with fail
      with_reducible refine hby.mono ?_
      rintro e w4 ⟨(⟨h, _⟩ | ⟨_, rfl⟩), b4⟩
      · exact absurd h HN0.out
      clear hby d0 d1 d2
      go_wp2_with fail
      with_reducible refine (hfin2 _ b4).mono ?_
      rintro e w5 ⟨rfl, b5⟩
      obtain ⟨d0, d1, d2⟩ := D w5 (nxt b4 b5)
      go_wp2_with fail
      with_reducible refine (hsz _ (nxt b4 b5)).mono ?_
      rintro e w6 ⟨rfl, b6⟩
      go_wp2_with fail
      go_ret
      exact ⟨rfl, nxt hb (nxt b4 (nxt b5 b6))⟩
end Go.Proofs.YtlfbdcgojbfcaaaDoor
