/- Errors as plain data: what cordwoodsee tells of a sentinel, of one with a place, of none. -/
import Derived.Test.YtdlcpcpcojpecaaDoorSent
import Derived.Test.YtdlcpcpcojpecaaDoorPlain
import Derived.LaidEql
namespace Go.Proofs.YtdlcpcpcojpecaaDoor
open Go Go.RowKit

/-- Every one of the errors is listed. -/
def All (S : List Nat) : Prop := ∀ i, i < 19 → i ∈ S

set_option maxRecDepth 100000 in
theorem eql_sen {S : List Nat} {A : Nat → Addr} {w : World} (hS : Sents S w A) {i j : Nat} (hi : i ∈ S) (hj : j ∈ S) :
    (binOp .eql 27 (.iface 85 (.pointer (some (A i)))) (.iface 85 (.pointer (some (A j))))).run Tryd.prog w = .ok (.bool (decide (i = j))) w := by
  obtain ⟨i1, hi1⟩ : ∃ x, Tryd.prog.info? 85 = some x := ⟨_, rfl⟩
  obtain ⟨i2, hi2⟩ : ∃ x, Tryd.prog.info? 103 = some x := ⟨_, rfl⟩
  have hc : i1.comparable = true := by
    have : (Tryd.prog.info? 85).map (·.comparable) = some true := by kernel_rfl
    rw [hi1] at this; simpa using this
  have hz : i2.size ≠ 0 := by
    have : (Tryd.prog.info? 103).map (·.size != 0) = some true := by kernel_rfl
    rw [hi2] at this; simpa using this
  by_cases h : i = j
  · subst h
    rw [run_eql_iface_ptr_same w (A i) Tryd.underlying27 Tryd.underlying85 hi1 hc hi2]
    simp
  · obtain ⟨c1, t1, h1⟩ := hS.row i hi
    obtain ⟨c2, t2, h2⟩ := hS.row j hj
    rw [run_eql_iface_ptr_other w Tryd.underlying27 Tryd.underlying85 hi1 hc hi2 hz (fun e => h (hS.inj i hi j hj e)) h1 h2]
    simp [h]

set_option maxRecDepth 100000 in
set_option maxHeartbeats 400000 in
theorem alike_calls {S : List Nat} {A : Nat → Addr} {w : World} (hS : Sents S w A) {i j : Nat} (hi : i ∈ S) (hj : j ∈ S) :
    Calls Tryd.prog 47 #[senV A i, senV A j] w (fun e w' => e = .returned (.bool (decide (i = j))) ∧ w' = w) := by
  have hq := eql_sen hS hi hj
  unfold senV
  go_enter Tryd.func47, Tryd.ntmps47
  go_wp2_with fail
  go_ret
  exact ⟨rfl, rfl⟩

/-- The errors as a row. -/
def sens (A : Nat → Addr) : List Value := (List.range 19).map (senV A)

set_option maxRecDepth 100000 in
set_option maxHeartbeats 1000000 in
theorem sentinels_calls {S : List Nat} {A : Nat → Addr} {w : World} (hS : Sents S w A) (hall : All S) :
    Calls Tryd.prog 46 #[] w (fun e w' => ∃ v, e = .returned v ∧ Rd w' 1 v 19 (sens A) ∧ Below w.heap.size w w') := by
  have g0 : w.cell? ⟨4, 0, none⟩ = some (.iface 85 (.pointer (some (A 0)))) := hS.cell 0 (hall 0 (by omega))
  have g1 : w.cell? ⟨5, 0, none⟩ = some (.iface 85 (.pointer (some (A 1)))) := hS.cell 1 (hall 1 (by omega))
  have g2 : w.cell? ⟨2, 0, none⟩ = some (.iface 85 (.pointer (some (A 2)))) := hS.cell 2 (hall 2 (by omega))
  have g3 : w.cell? ⟨0, 0, none⟩ = some (.iface 85 (.pointer (some (A 3)))) := hS.cell 3 (hall 3 (by omega))
  have g4 : w.cell? ⟨1, 0, none⟩ = some (.iface 85 (.pointer (some (A 4)))) := hS.cell 4 (hall 4 (by omega))
  have g5 : w.cell? ⟨6, 0, none⟩ = some (.iface 85 (.pointer (some (A 5)))) := hS.cell 5 (hall 5 (by omega))
  have g6 : w.cell? ⟨7, 0, none⟩ = some (.iface 85 (.pointer (some (A 6)))) := hS.cell 6 (hall 6 (by omega))
  have g7 : w.cell? ⟨8, 0, none⟩ = some (.iface 85 (.pointer (some (A 7)))) := hS.cell 7 (hall 7 (by omega))
  have g8 : w.cell? ⟨9, 0, none⟩ = some (.iface 85 (.pointer (some (A 8)))) := hS.cell 8 (hall 8 (by omega))
  have g9 : w.cell? ⟨10, 0, none⟩ = some (.iface 85 (.pointer (some (A 9)))) := hS.cell 9 (hall 9 (by omega))
  have g10 : w.cell? ⟨11, 0, none⟩ = some (.iface 85 (.pointer (some (A 10)))) := hS.cell 10 (hall 10 (by omega))
  have g11 : w.cell? ⟨12, 0, none⟩ = some (.iface 85 (.pointer (some (A 11)))) := hS.cell 11 (hall 11 (by omega))
  have g12 : w.cell? ⟨13, 0, none⟩ = some (.iface 85 (.pointer (some (A 12)))) := hS.cell 12 (hall 12 (by omega))
  have g13 : w.cell? ⟨3, 0, none⟩ = some (.iface 85 (.pointer (some (A 13)))) := hS.cell 13 (hall 13 (by omega))
  have g14 : w.cell? ⟨14, 0, none⟩ = some (.iface 85 (.pointer (some (A 14)))) := hS.cell 14 (hall 14 (by omega))
  have g15 : w.cell? ⟨15, 0, none⟩ = some (.iface 85 (.pointer (some (A 15)))) := hS.cell 15 (hall 15 (by omega))
  have g16 : w.cell? ⟨16, 0, none⟩ = some (.iface 85 (.pointer (some (A 16)))) := hS.cell 16 (hall 16 (by omega))
  have g17 : w.cell? ⟨17, 0, none⟩ = some (.iface 85 (.pointer (some (A 17)))) := hS.cell 17 (hall 17 (by omega))
  have g18 : w.cell? ⟨18, 0, none⟩ = some (.iface 85 (.pointer (some (A 18)))) := hS.cell 18 (hall 18 (by omega))
  go_enter Tryd.func46, Tryd.ntmps46
  go_wp2_with fail
  go_ret
  exact ⟨_, rfl, Rd.new w _ _ 1 19 rfl (by decide), below_alloc w _⟩

theorem sens_at (A : Nat → Addr) (k : Nat) (h : k < 19) : (sens A)[k]? = some (senV A k) := by
  simp [sens, h]

set_option maxRecDepth 100000 in
set_option maxHeartbeats 1000000 in
theorem sentinel_calls {S : List Nat} {A : Nat → Addr} {w : World} (hS : Sents S w A) (hall : All S) {i : Nat} (hi : i < 19) :
    Calls Tryd.prog 44 #[senV A i] w (fun e w' => e = .returned (.int .i64 (101 + i : Nat)) ∧ Below w.heap.size w w') := by
  go_enter Tryd.func44, Tryd.ntmps44
  go_wp2_with fail
  refine (sentinels_calls hS hall).mono ?_
  rintro e w1 ⟨v, rfl, hr, hb⟩
  have hS1 := hS.below hb
  obtain ⟨a1, c1, rfl⟩ := hr.slice
  go_wp2_with fail
  go_loop [4] (fun iv => ∃ k : Nat, k ≤ i ∧ iv = .int .i64 k) (fun iv => 20 - (intOf iv).toNat)
  case atStart => exact ⟨0, Nat.zero_le _, rfl⟩
  case round =>
    obtain ⟨k, hk, rfl⟩ := hrel
    obtain ⟨b, o, rfl, hc1, hm1, hx1⟩ := hr.at (by omega)
    have f1 := hx1 k _ (sens_at A k (by omega))
    clear hx1
    by_cases hki : k = i
    · subst hki
      go_wp2_with fail
      refine (alike_calls hS1 (hall k hi) (hall k hi)).mono ?_
      rintro e w2 ⟨rfl, rfl⟩
      rw [decide_eq_true rfl]
      go_wp2_with fail
      go_ret
      exact ⟨by go_num, hb⟩
    · go_wp2_with fail
      refine (alike_calls hS1 (hall i hi) (hall k (by omega))).mono ?_
      rintro e w2 ⟨rfl, rfl⟩
      rw [decide_eq_false (fun h => hki h.symm)]
      go_wp2_with fail
      exact ⟨⟨k + 1, by omega, by go_num⟩, by simp [intOf]; omega⟩

theorem ret_row {P : Program} {fn : Func} {R : Ending → World → Prop} {a : Act} {w : World} {p : Tmp} {ty t : TypeId} {cs : Array Value} {fr : Nat × Nat} {d : TypeDesc} (h : fn.results = #[.cell p ty]) (g : Nat)
    (hp : a.tmps.getD p undef = .pointer (some ⟨g, 0, none⟩)) (hg : w.heap[g]? = some (.cells cs t fr))
    (hu : P.underlying ty = some d) (hd : (match d with | .struct _ | .array _ _ => true | _ => false) = true) (hi : (P.info? ty).map (·.size) = some cs.size)
    (hde : a.defers = []) (hR : R (.returned (.agg cs)) w) : bodyPost P fn R .ret a w :=
  bodyPost_ret (results_cell_row h a.tmps w g t cs fr d hp hg hu hd hi) hde hR

theorem faultSize : (Tryd.prog.info? 57).map (·.size) = some 3 := by kernel_rfl

/-- A fault's three words. -/
def fv (c : Int) (p : Bool) (n : Int) : Value := .agg #[.int .i64 c, .bool p, .int .i64 n]

set_option maxRecDepth 100000 in
set_option maxHeartbeats 400000 in
theorem fnone_calls (w : World) :
    Calls Tryd.prog 43 #[] w (fun e w' => e = .returned (fv 0 false 0) ∧ Below w.heap.size w w') := by
  go_enter Tryd.func43, Tryd.ntmps43
  go_wp2_with fail
  refine ret_row rfl w.heap.size rfl (heap_alloc_new w _) Tryd.underlying57 rfl faultSize rfl ?_
  exact ⟨rfl, below_alloc w _⟩

set_option maxRecDepth 100000 in
set_option maxHeartbeats 400000 in
theorem bare_calls (c : Int) (w : World) :
    Calls Tryd.prog 27 #[.int .i64 c] w (fun e w' => e = .returned (fv c false 0) ∧ Below w.heap.size w w') := by
  go_enter Tryd.func27, Tryd.ntmps27
  go_wp2_with fail
  refine ret_row rfl w.heap.size rfl (heap_alloc_new w _) Tryd.underlying57 rfl faultSize rfl ?_
  exact ⟨rfl, below_alloc w _⟩

set_option maxRecDepth 100000 in
set_option maxHeartbeats 400000 in
theorem placed_calls (c n : Int) (w : World) (h : c ≠ 0) :
    Calls Tryd.prog 45 #[.int .i64 c, .int .i64 n] w (fun e w' => e = .returned (fv c true n) ∧ Below w.heap.size w w') := by
  go_enter Tryd.func45, Tryd.ntmps45
  go_wp2_with fail
  refine ret_row rfl w.heap.size rfl (heap_alloc_new w _) Tryd.underlying57 rfl faultSize rfl ?_
  exact ⟨rfl, below_alloc w _⟩

set_option maxRecDepth 100000 in
set_option maxHeartbeats 400000 in
theorem sameFault_calls (c d : Int) (p q : Bool) (n m : Int) (w : World) :
    Calls Tryd.prog 40 #[fv c p n, fv d q m] w (fun e w' => e = .returned (.bool (decide (c = d ∧ p = q ∧ n = m))) ∧ Below w.heap.size w w') := by
  unfold fv
  go_enter Tryd.func40, Tryd.ntmps40
  go_wp2_with fail
  all_goals (
    go_ret
    exact ⟨congrArg (fun z => Ending.returned (.bool z)) (by simp_all; try (exact Bool.eq_iff_iff.2 (by simp))), bAlloc (below_alloc w _) _⟩)

theorem assert_at (T : TypeId) (v : Value) (w : World) : (Instr.typeAssert (.iface T v) 27 76 true).run Tryd.prog w = .ok (.tuple #[if T = 76 then v else .pointer none, .bool (decide (T = 76))]) w := by
  have hz : (zeroValue 76).run Tryd.prog w = .ok (.pointer none) w := by kernel_rfl
  by_cases h : T = 76
  · subst h
    simp [Instr.typeAssert, run_underlying Tryd.underlying76, go_sem, Result.andThen]
  · simp [Instr.typeAssert, run_underlying Tryd.underlying76, go_sem, Result.andThen, h, hz]

/-- How it lies there. -/
def ErAt (A : Nat → Addr) (w : World) (v : Value) : Er → Prop
  | .fine => v = .nilIface
  | .bare i => i < 19 ∧ v = senV A i
  | .placed i pos => i < 19 ∧ ∃ g o, v = .iface 76 (.pointer (some ⟨g, o, none⟩)) ∧ w.cell? ⟨g, o, none⟩ = some (.int .i64 pos) ∧ w.cell? ⟨g, o + 1, none⟩ = some (senV A i)

theorem ErAt.below {A : Nat → Addr} {w w1 : World} {v : Value} {e0 : Er} (h : ErAt A w v e0) (b1 : Below w.heap.size w w1) : ErAt A w1 v e0 := by
  cases e0 with
  | fine => exact h
  | bare i => exact h
  | placed i p =>
    obtain ⟨hi, g, o, hv, h1, h2⟩ := h
    exact ⟨hi, g, o, hv, by rw [b1.cell (World.block_lt_of_cell? _ _ h1)]; exact h1, by rw [b1.cell (World.block_lt_of_cell? _ _ h2)]; exact h2⟩

/-- The fault that it is. -/
def Er.fault : Er → Value
  | .fine => fv 0 false 0
  | .bare i => fv (101 + i : Nat) false 0
  | .placed i pos => fv (101 + i : Nat) true pos

set_option maxRecDepth 100000 in
set_option maxHeartbeats 1000000 in
theorem fault_calls {S : List Nat} {A : Nat → Addr} {w : World} (hS : Sents S w A) (hall : All S) (v : Value) (e0 : Er) (h : ErAt A w v e0) :
    Calls Tryd.prog 41 #[v] w (fun e w' => e = .returned e0.fault ∧ Below w.heap.size w w') := by
  cases e0 with
  | fine =>
    obtain rfl := h
    go_enter Tryd.func41, Tryd.ntmps41
    go_wp2_with fail
    refine (fnone_calls _).mono ?_
    rintro e w1 ⟨rfl, b1⟩
    unfold fv
    go_wp2_with (refine wpList_store_row_g rfl 57 _ _ rfl w.heap.size _ rfl rfl 57 _ (heap_below b1 (heap_alloc_new w _)) faultSize rfl (by simp [Value.oneCell']) ?_)
    intro w2 hT hg2 hs2
    have hb2 : Below w.heap.size w w2 := (nxt (below_alloc w _) b1).grown hg2 (nxt (below_alloc w _) b1).size (fun k hk => by simp only [Option.some.injEq] at hk; omega)
    clear hg2 hs2
    go_wp2_with fail
    refine ret_row rfl w.heap.size rfl hT Tryd.underlying57 rfl faultSize rfl ?_
    exact ⟨rfl, hb2⟩
  | bare i =>
    obtain ⟨hi, rfl⟩ := h
    have hc := fun O => sentinel_calls (hS.below (below_alloc w O)) hall hi
    unfold senV at *
    have ha := assert_at
    go_enter Tryd.func41, Tryd.ntmps41
    go_wp2_with fail
    refine (hc _).mono ?_
    rintro e w1 ⟨rfl, b1⟩
    clear ha hc
    go_wp2_with fail
    refine (bare_calls _ _).mono ?_
    rintro e w3 ⟨rfl, b3⟩
    have b13 := nxt b1 b3
    clear b1 b3
    unfold fv
    go_wp2_with (refine wpList_store_row_g rfl 57 _ _ rfl w.heap.size _ rfl rfl 57 _ (heap_below b13 (heap_alloc_new w _)) faultSize rfl (by simp [Value.oneCell']) ?_)
    intro w2 hT hg2 hs2
    have hb2 : Below w.heap.size w w2 := (nxt (below_alloc w _) b13).grown hg2 (nxt (below_alloc w _) b13).size (fun k hk => by simp only [Option.some.injEq] at hk; omega)
    clear hg2 hs2
    go_wp2_with fail
    refine ret_row rfl w.heap.size rfl hT Tryd.underlying57 rfl faultSize rfl ?_
    exact ⟨rfl, hb2⟩
  | placed i pos =>
    obtain ⟨hi, g, o, rfl, h1, h2⟩ := h
    have hc := fun O => sentinel_calls (hS.below (below_alloc w O)) hall hi
    have k1 : ∀ O, (w.alloc O).cell? ⟨g, o, none⟩ = some (.int .i64 pos) := fun O => by
      rw [(below_alloc w O).cell (World.block_lt_of_cell? w _ h1)]; exact h1
    have k2 : ∀ O, (w.alloc O).cell? ⟨g, o + 1, none⟩ = some (senV A i) := fun O => by
      rw [(below_alloc w O).cell (World.block_lt_of_cell? w _ h2)]; exact h2
    unfold senV at *
    have ha := assert_at
    go_enter Tryd.func41, Tryd.ntmps41
    go_wp2_with fail
    go_region_with (first
      | (go_at_call 44; refine (sentinel_calls (hS.below ?_) hall hi).mono ?_; (repeat (first | exact Below.refl _ _ | refine bAlloc ?_ _ | refine Below.drew ?_)); rintro e w1 ⟨rfl, b1⟩; have k3 : w1.cell? ⟨g, o, none⟩ = some (.int .i64 pos) := (by rw [b1.cell (World.block_lt_of_cell? _ _ (k1 _))]; exact k1 _))
      | (go_at_call 45; refine (placed_calls _ _ _ (by omega)).mono ?_; rintro e w3 ⟨rfl, b3⟩; have hT3 : w3.heap[w.heap.size]? = some (.cells #[.int .i64 0, .bool false, .int .i64 0] 57 (0, 0)) := (by refine heap_below b3 ?_; refine heap_below b1 ?_; exact heap_alloc_new w _); unfold fv; have c0 : w3.cell? ⟨w.heap.size, 0, none⟩ = some (.int .i64 0) := cell_of_row w3 _ 0 _ _ _ hT3; have c1 : w3.cell? ⟨w.heap.size, 1, none⟩ = some (.bool false) := cell_of_row w3 _ 1 _ _ _ hT3; have c2 : w3.cell? ⟨w.heap.size, 2, none⟩ = some (.int .i64 0) := cell_of_row w3 _ 2 _ _ _ hT3; have d0 := frozen_of_row w3 _ 0 _ _ hT3; have d1 := frozen_of_row w3 _ 1 _ _ hT3; have d2 := frozen_of_row w3 _ 2 _ _ hT3))
    all_goals (
      have bT : Below w.heap.size w w3 := by
        refine nxt (nxt (?_ : Below w.heap.size w _) b1) b3
        (repeat (first | exact Below.refl _ _ | refine bAlloc ?_ _ | refine Below.drew ?_))
      have hT4 := heap_setCell_same _ _ 2 _ _ (.int .i64 pos) (heap_setCell_same _ _ 1 _ _ (.bool true) (heap_setCell_same _ _ 0 _ _ (.int .i64 (101 + (i : Int))) hT3))
      go_wp2_with fail
      refine ret_row rfl w.heap.size rfl hT4 Tryd.underlying57 rfl faultSize rfl ?_
      exact ⟨rfl, ((bT.setCell (Nat.le_refl _) _).setCell (Nat.le_refl _) _).setCell (Nat.le_refl _) _⟩)

theorem Er.fault_eq (e : Er) : e.fault = fv e.code e.has e.pos := by cases e <;> rfl

set_option maxRecDepth 100000 in
set_option maxHeartbeats 1000000 in
theorem same_calls {S : List Nat} {A : Nat → Addr} {w : World} (hS : Sents S w A) (hall : All S) (v : Value) (e0 : Er) (h : ErAt A w v e0) (c n : Int) (p : Bool) :
    Calls Tryd.prog 26 #[v, fv c p n] w (fun e w' => e = .returned (.bool (decide (e0.code = c ∧ e0.has = p ∧ e0.pos = n))) ∧ Below w.heap.size w w') := by
  have hf := fun w' (b : Below w.heap.size w w') => fault_calls (hS.below b) hall v e0 (h.below b)
  rw [e0.fault_eq] at hf
  unfold fv
  go_enter Tryd.func26, Tryd.ntmps26
  go_wp2_with fail
  go_region_with (first
    | (go_at_call 41; refine (hf _ ?_).mono ?_; (repeat (first | exact Below.refl _ _ | refine bAlloc ?_ _ | refine Below.drew ?_)); rintro e w1 ⟨rfl, b1⟩; have hT3 : w1.heap[w.heap.size]? = some (.cells #[.int .i64 c, .bool p, .int .i64 n] 57 (0, 0)) := (by refine heap_below b1 ?_; exact heap_alloc_new w _); unfold fv; have c0 : w1.cell? ⟨w.heap.size, 0, none⟩ = some (.int .i64 c) := cell_of_row w1 _ 0 _ _ _ hT3; have c1 : w1.cell? ⟨w.heap.size, 1, none⟩ = some (.bool p) := cell_of_row w1 _ 1 _ _ _ hT3; have c2 : w1.cell? ⟨w.heap.size, 2, none⟩ = some (.int .i64 n) := cell_of_row w1 _ 2 _ _ _ hT3)
    | (go_at_call 40; refine (sameFault_calls _ _ _ _ _ _ _).mono ?_; rintro e w2 ⟨rfl, b2⟩))
  all_goals (
    have bT : Below w.heap.size w w2 := by
      refine nxt (nxt (?_ : Below w.heap.size w _) b1) b2
      (repeat (first | exact Below.refl _ _ | refine bAlloc ?_ _ | refine Below.drew ?_))
    go_wp2_with fail
    go_ret
    exact ⟨congrArg (fun z => Ending.returned (.bool z)) (by simp), bT⟩)

set_option maxRecDepth 100000 in
set_option maxHeartbeats 1000000 in
theorem is_calls {S : List Nat} {A : Nat → Addr} {w : World} (hS : Sents S w A) (hall : All S) (v : Value) (e0 : Er) (h : ErAt A w v e0) (c : Int) :
    Calls Tryd.prog 7 #[v, .int .i64 c] w (fun e w' => e = .returned (.bool (decide (e0.code = c ∧ e0.has = false ∧ e0.pos = 0))) ∧ Below w.heap.size w w') := by
  have hv : v.oneCell' = true := by
    cases e0 with
    | fine => obtain rfl := h; rfl
    | bare i => obtain ⟨_, rfl⟩ := h; rfl
    | placed i p => obtain ⟨_, g, o, rfl, _, _⟩ := h; rfl
  go_enter Tryd.func7, Tryd.ntmps7
  go_wp2_with fail
  refine (bare_calls c _).mono ?_
  rintro e w1 ⟨rfl, b1⟩
  have hS1 := hS.below b1
  have h1 := h.below b1
  go_wp2_with fail
  refine (same_calls hS1 hall v e0 h1 c 0 false).mono ?_
  rintro e w2 ⟨rfl, b2⟩
  go_wp2_with fail
  go_ret
  exact ⟨congrArg (fun z => Ending.returned (.bool z)) (by simp), nxt b1 b2⟩
end Go.Proofs.YtdlcpcpcojpecaaDoor
