/- A reader of numbers in memory, and what its methods do to it. -/
import Derived.Test.YtegiingcnhafbaaGreatDoorPlain
import Derived.Test.YtegiingcnhafbaaGreatDoorVintGetW
import Derived.Test.YtegiingcnhafbaaGreatDoorSee
import Derived.Test.YtegiingcnhafbaaGreatDoorBase
namespace Go.Proofs.YtegiingcnhafbaaGreatDoor
open Go Go.RowKit Vint

/-- No listed error lies in this block. -/
def Away (S : List Nat) (A : Nat → Addr) (g : Nat) : Prop := ∀ i ∈ S, glob i ≠ g ∧ (A i).block ≠ g

theorem Away.of_new {S : List Nat} {A : Nat → Addr} {w : World} (h : Sents S w A) {g : Nat} (hg : w.heap.size ≤ g) : Away S A g := fun i hi => by
  have h1 : glob i < w.heap.size := World.block_lt_of_cell? w _ (h.cell i hi)
  obtain ⟨c, t, h2⟩ := h.row i hi
  have h3 := (Array.getElem?_eq_some_iff.1 h2).1
  exact ⟨by omega, by omega⟩

theorem Sents.touch {S : List Nat} {A : Nat → Addr} {w w' : World} {g : Nat} (h : Sents S w A) (t : Touch g w w') (a : Away S A g) : Sents S w' A :=
  ⟨fun i hi => by
    have h1 := h.cell i hi
    rw [World.cell?_of_block (t.block (World.block_lt_of_cell? w _ h1) (a i hi).1)]; exact h1, h.inj, fun i hi => by
    obtain ⟨c, u, hc⟩ := h.row i hi
    exact ⟨c, u, t.heap hc (a i hi).2⟩⟩

/-- An error as the code may tell it, its block known whole. -/
def ErRow (A : Nat → Addr) (w : World) (v : Value) : Er → Prop
  | .fine => v = .nilIface
  | .bare i => i < 19 ∧ v = senV A i
  | .placed i pos => i < 19 ∧ ∃ g, v = .iface 73 (.pointer (some ⟨g, 0, none⟩)) ∧ w.heap[g]? = some (.cells #[.int .i64 pos, senV A i] 75 (0, 0))

theorem ErRow.at {A : Nat → Addr} {w : World} {v : Value} {e : Er} (h : ErRow A w v e) : ErAt A w v e := by
  cases e with
  | fine => exact h
  | bare i => exact h
  | placed i p =>
    obtain ⟨hi, g, hv, hg⟩ := h
    exact ⟨hi, g, 0, hv, cell_of_row w g 0 _ _ _ hg, cell_of_row w g 1 _ _ _ hg⟩

theorem ErRow.below {A : Nat → Addr} {w w1 : World} {v : Value} {e : Er} (h : ErRow A w v e) (b : Below w.heap.size w w1) : ErRow A w1 v e := by
  cases e with
  | fine => exact h
  | bare i => exact h
  | placed i p =>
    obtain ⟨hi, g, hv, hg⟩ := h
    exact ⟨hi, g, hv, heap_below b hg⟩

theorem ErRow.touch {A : Nat → Addr} {w w1 : World} {v : Value} {e : Er} (h : ErRow A w v e) {g : Nat} (b : Touch g w w1) {c : Array Value} {t : TypeId} {f : Nat × Nat} (hg : w.heap[g]? = some (.cells c t f)) (ht : 75 ≠ t) : ErRow A w1 v e := by
  cases e with
  | fine => exact h
  | bare i => exact h
  | placed i p =>
    obtain ⟨hi, k, hv, hk⟩ := h
    exact ⟨hi, k, hv, b.row hg hk ht⟩

/-- A reader lies in block g: its bytes, where it is, what was amiss. -/
def Rdr (A : Nat → Addr) (w : World) (g : Nat) (s : Rs) : Prop :=
  (s.pos ≤ s.l.length ∧ s.l.length ≤ 1099511627776) ∧ ∃ vb ve, w.heap[g]? = some (.cells #[vb, .int .i64 (s.pos : Nat), ve] 95 (0, 0)) ∧ w.ownsRow 0 5 1 vb s.l.length (bvs s.l) ∧ ErRow A w ve s.bad

theorem Rdr.below {A : Nat → Addr} {w w1 : World} {g : Nat} {s : Rs} (h : Rdr A w g s) (b : Below w.heap.size w w1) : Rdr A w1 g s := by
  obtain ⟨h0, vb, ve, h1, h2, h3⟩ := h
  exact ⟨h0, vb, ve, heap_below b h1, owns_below h2 b, h3.below b⟩

/-- Another block, of another kind, has turned. -/
theorem Rdr.touch {A : Nat → Addr} {w w1 : World} {g k : Nat} {s : Rs} (h : Rdr A w g s) (b : Touch k w w1) {c : Array Value} {t : TypeId} {f : Nat × Nat} (hk : w.heap[k]? = some (.cells c t f)) (t1 : 95 ≠ t) (t2 : 5 ≠ t) (t3 : 75 ≠ t) : Rdr A w1 g s := by
  obtain ⟨h0, vb, ve, h1, h2, h3⟩ := h
  exact ⟨h0, vb, ve, b.row hk h1 t1, b.owns h2 hk t2, h3.touch b hk t3⟩

theorem Rdr.drewN {A : Nat → Addr} {w : World} {g : Nat} {s : Rs} (h : Rdr A w g s) (n : Nat) : Rdr A (w.drewN n) g s := h.below (below_drewN (Below.refl _ _) n)

/-- It has gone on. -/
theorem Rdr.moved {A : Nat → Addr} {w : World} {g : Nat} {s : Rs} (h : Rdr A w g s) (k : Nat) (hk : s.pos + k ≤ s.l.length) (v : Value) (hv : v = .int .i64 ((s.pos + k : Nat) : Int)) : Rdr A (w.setCell ⟨g, 1, none⟩ v) g (s.on k) := by
  subst hv
  obtain ⟨h0, vb, ve, h1, h2, h3⟩ := h
  have t := Touch.setCell (g := g) w 1 (.int .i64 ((s.pos + k : Nat) : Int))
  exact ⟨⟨hk, h0.2⟩, vb, ve, heap_setCell_same _ g 1 _ _ _ h1, t.owns h2 h1 (by decide), h3.touch t h1 (by decide)⟩

set_option maxRecDepth 100000 in
theorem neq_sen {S : List Nat} {A : Nat → Addr} {w : World} (hS : Sents S w A) {i j : Nat} (hi : i ∈ S) (hj : j ∈ S) :
    (binOp .neq 29 (.iface 149 (.pointer (some (A i)))) (.iface 149 (.pointer (some (A j))))).run Tryz.prog w = .ok (.bool (decide (i ≠ j))) w := by
  obtain ⟨i1, hi1⟩ : ∃ x, Tryz.prog.info? 149 = some x := ⟨_, rfl⟩
  obtain ⟨i2, hi2⟩ : ∃ x, Tryz.prog.info? 164 = some x := ⟨_, rfl⟩
  have hc : i1.comparable = true := by
    have : (Tryz.prog.info? 149).map (·.comparable) = some true := by kernel_rfl
    rw [hi1] at this; simpa using this
  have hz : i2.size ≠ 0 := by
    have : (Tryz.prog.info? 164).map (·.size != 0) = some true := by kernel_rfl
    rw [hi2] at this; simpa using this
  by_cases h : i = j
  · subst h
    simp only [binOp]
    simp [Op.equal, Op.maxDepth, run_equalIn_iface_ptr_same w 9998 (A i) Tryz.underlying29 Tryz.underlying149 hi1 hc hi2]
  · obtain ⟨c1, t1, h1⟩ := hS.row i hi
    obtain ⟨c2, t2, h2⟩ := hS.row j hj
    simp only [binOp]
    simp [Op.equal, Op.maxDepth, run_equalIn_iface_ptr_other w 9998 Tryz.underlying29 Tryz.underlying149 hi1 hc hi2 hz (fun e => h (hS.inj i hi j hj e)) h1 h2, h]


set_option maxRecDepth 100000 in
set_option maxHeartbeats 1000000 in
theorem bad_calls' {S : List Nat} {A : Nat → Addr} {w : World} (hS : Sents S w A) (hz : 0 ∈ S) {g : Nat} (haw : Away S A g) (vb ve : Value) (p q : Int) (h : w.heap[g]? = some (.cells #[vb, .int .i64 p, ve] 95 (0, 0))) (i : Nat) (hi : i < 19) (him : i ∈ S) :
    Calls Tryz.prog 61 #[.pointer (some ⟨g, 0, none⟩), .int .i64 q, senV A i] w
      (fun e w' => e = .returned (.tuple #[]) ∧ ∃ ve', w'.heap[g]? = some (.cells #[vb, .int .i64 q, ve'] 95 (0, 0)) ∧ ErRow A w' ve' (if i = 0 then .bare 0 else .placed i q) ∧ Touch g w w') := by
  have hc1 : w.cell? ⟨g, 1, none⟩ = some (.int .i64 p) := cell_of_row w g 1 _ _ _ h
  have hc2 : w.cell? ⟨g, 2, none⟩ = some ve := cell_of_row w g 2 _ _ _ h
  have hf1 := frozen_of_row w g 1 _ _ h
  have hf2 := frozen_of_row w g 2 _ _ h
  obtain ⟨w2, hw2⟩ : ∃ w2, w2 = (w.setCell ⟨g, 1, none⟩ (.int .i64 q)).setCell ⟨g, 2, none⟩ (senV A i) := ⟨_, rfl⟩
  have t2 : Touch g w w2 := by rw [hw2]; exact ((Touch.refl g w).set 1 _).set 2 _
  have h2 : w2.heap[g]? = some (.cells #[vb, .int .i64 q, senV A i] 95 (0, 0)) := by
    rw [hw2]; exact heap_setCell_same _ _ 2 _ _ _ (heap_setCell_same _ _ 1 _ _ _ h)
  have hS2 := hS.touch t2 haw
  have gl : w2.cell? ⟨3, 0, none⟩ = some (senV A 0) := hS2.cell 0 hz
  have nq := neq_sen hS2 him hz
  have hd2 : w2.cell? ⟨g, 2, none⟩ = some (senV A i) := cell_of_row w2 g 2 _ _ _ h2
  have hg2 := frozen_of_row w2 g 2 _ _ h2
  unfold senV at *
  by_cases h0 : i = 0
  · subst h0
    rw [hw2] at gl nq
    have HW := Lib.hid hw2
    have H2 := Lib.hid h2
    clear hw2 h hd2 hg2 h2
    go_enter Tryz.func61, Tryz.ntmps61
    go_wp2_with fail
    go_end0
    rw [← HW.out]
    exact ⟨rfl, _, H2.out, ⟨by omega, rfl⟩, t2⟩
  · rw [hw2] at gl nq
    rw [decide_eq_true h0] at nq
    have hd3 : ∀ O, (w2.alloc O).cell? ⟨g, 2, none⟩ = some (.iface 149 (.pointer (some (A i)))) := fun O => by
      rw [(below_alloc w2 O).cell (World.block_lt_of_cell? _ _ hd2)]; exact hd2
    have hf3 : ∀ O, (w2.alloc O).frozen? ⟨g, 2, none⟩ = false := fun O => by
      rw [(below_alloc w2 O).frozen (World.block_lt_of_cell? _ _ hd2)]; exact hg2
    have h3 : ∀ O v, ((w2.alloc O).setCell ⟨g, 2, none⟩ v).heap[g]? = some (.cells #[vb, .int .i64 q, v] 95 (0, 0)) := fun O v => by
      have := heap_setCell_same _ g 2 _ _ v (heap_below (below_alloc w2 O) h2)
      exact this
    have hsz : w2.heap.size = w.heap.size := by rw [hw2]; simp
    have h4 : ∀ O v, ((w2.alloc O).setCell ⟨g, 2, none⟩ v).heap[w.heap.size]? = some O := fun O v => by
      rw [← hsz]
      exact (Touch.setCell (w2.alloc O) 2 v).heap (heap_alloc_new w2 O) (by have := (Array.getElem?_eq_some_iff.1 h2).1; omega)
    rw [hw2] at hd3 hf3
    have HW := Lib.hid hw2
    have H2 := Lib.hid h2
    have H3 := Lib.hid h3
    have H4 := Lib.hid h4
    clear hw2 h hd2 hg2 h2 h3 h4 hsz
    go_enter Tryz.func61, Tryz.ntmps61
    go_wp2_with fail
    go_end0
    rw [← HW.out]
    exact ⟨rfl, _, H3.out _ _, ⟨hi, _, rfl, H4.out _ _⟩, (t2.trans (Touch.of_below (below_alloc w2 _))).set 2 _⟩

theorem bad_calls {S : List Nat} {A : Nat → Addr} {w : World} (hS : Sents S w A) (hall : All S) {g : Nat} (haw : Away S A g) (vb ve : Value) (p q : Int) (h : w.heap[g]? = some (.cells #[vb, .int .i64 p, ve] 95 (0, 0))) (i : Nat) (hi : i < 19) :
    Calls Tryz.prog 61 #[.pointer (some ⟨g, 0, none⟩), .int .i64 q, senV A i] w
      (fun e w' => e = .returned (.tuple #[]) ∧ ∃ ve', w'.heap[g]? = some (.cells #[vb, .int .i64 q, ve'] 95 (0, 0)) ∧ ErRow A w' ve' (if i = 0 then .bare 0 else .placed i q) ∧ Touch g w w') := bad_calls' hS (hall 0 (by omega)) haw vb ve p q h i hi (hall i hi)

theorem run_rest {P : Program} (t : TypeId) (ht : P.underlying t = some (.slice (P.elem t))) (sz : Nat) (hsz : (P.info? (P.elem t)).map (·.size) = some sz) (ad : Option Addr) (n c l : Nat) (k : IntKind) (hl : l ≤ n) :
    ∃ a' c', (∀ W, (Instr.sliceAt t (.slice ad n c) (some (.int k (l : Int))) none none).run P W = .ok (.slice a' (n - l) c') W) ∧
      ∀ w0 xs, Rd w0 sz (.slice ad n c) n xs → Rd w0 sz (.slice a' (n - l) c') (n - l) (xs.drop (l * sz)) := by
  obtain ⟨a', c', e, r⟩ := part_all ad n c sz l n hl (Nat.le_refl _)
  refine ⟨a', c', fun W => ?_, fun w0 xs h => ?_⟩
  · rw [run_cut_l t ht sz hsz ad n c l k hl W, e]
  · have := r w0 xs h
    rwa [List.take_of_length_le (by rw [List.length_drop, h.1, ← Nat.sub_mul]; exact Nat.le_refl _)] at this

/-- The parts of a reader, as a walk wants them. -/
theorem Rdr.parts {A : Nat → Addr} {w : World} {g : Nat} {s : Rs} (h : Rdr A w g s) : ∃ ab cb ve, w.heap[g]? = some (.cells #[.slice ab s.l.length cb, .int .i64 (s.pos : Nat), ve] 95 (0, 0)) ∧
    w.ownsRow 0 5 1 (.slice ab s.l.length cb) s.l.length (bvs s.l) ∧ ErRow A w ve s.bad ∧ w.cell? ⟨g, 0, none⟩ = some (.slice ab s.l.length cb) ∧ w.cell? ⟨g, 1, none⟩ = some (.int .i64 (s.pos : Nat)) ∧ w.cell? ⟨g, 2, none⟩ = some ve ∧ w.frozen? ⟨g, 1, none⟩ = false := by
  obtain ⟨_, vb, ve, h1, h2, h3⟩ := h
  obtain ⟨ab, cb, rfl⟩ := owns_slice h2
  exact ⟨ab, cb, ve, h1, h2, h3, cell_of_row w g 0 _ _ _ h1, cell_of_row w g 1 _ _ _ h1, cell_of_row w g 2 _ _ _ h1, frozen_of_row w g 1 _ _ h1⟩

theorem ErRow.not_nil {A : Nat → Addr} {w : World} {v : Value} {e : Er} (h : ErRow A w v e) (hne : e ≠ .fine) : ∃ T u, v = .iface T u := by
  cases e with
  | fine => exact absurd rfl hne
  | bare i => exact ⟨_, _, h.2⟩
  | placed i p => obtain ⟨_, g, hv, _⟩ := h; exact ⟨_, _, hv⟩

theorem bvs_drop (l : List UInt8) (k : Nat) : bvs (l.drop k) = (bvs l).drop k := by simp [bvs, List.map_drop]
theorem bvs_take (l : List UInt8) (k : Nat) : bvs (l.take k) = (bvs l).take k := by simp [bvs, List.map_take]

set_option maxRecDepth 100000 in
set_option maxHeartbeats 1000000 in
theorem num_calls' {S : List Nat} {A : Nat → Addr} {w : World} (hS : Sents S w A) (hz0 : 0 ∈ S) (hz2 : 2 ∈ S) (hz4 : 4 ∈ S) {g : Nat} (haw : Away S A g) {s : Rs} (h : Rdr A w g s) (most : Nat) :
    Calls Tryz.prog 33 #[.pointer (some ⟨g, 0, none⟩), .int .u64 (most : Int)] w
      (fun e w' => e = .returned (.int .u64 ((num most s).1 : Nat)) ∧ Rdr A w' g (num most s).2 ∧ Touch g w w') := by
  obtain ⟨ab, cb, ve, hrow, hown, her, k0, k1, k2, f1⟩ := h.parts
  have hpos := h.1.1
  have hL := h.1.2
  by_cases hb : s.bad = .fine
  · have hve : ve = .nilIface := by rw [hb] at her; exact her
    subst hve
    have rd := Rd.of_owns hown
    have m1 := rd.len_le
    obtain ⟨a', c', hcut, hrd⟩ := run_rest (P := Tryz.prog) 23 sl_u8 1 sz_u8 ab s.l.length cb s.pos .i64 hpos
    have rd' : ∀ w', Below w.heap.size w w' → Rd w' 1 (.slice a' (s.l.length - s.pos) c') s.left.length (bvs s.left) := fun w' b => by
      have := hrd w' _ (rd.below b)
      rw [Nat.mul_one] at this
      rw [left_length]; unfold Rs.left; rw [bvs_drop]; exact this
    have hget := fun n => get_calls S A hz0 hz2 _ s.left (w.drewN n) (hS.drewN n) (rd' _ (below_drewN (Below.refl _ _) n))
    have g4 : ∀ n, (w.drewN n).cell? ⟨2, 0, none⟩ = some (.iface 149 (.pointer (some (A 4)))) := fun n => (hS.drewN n).cell 4 hz4
    have hbad := fun n i hi him => bad_calls' (hS.drewN n) hz0 haw _ _ _ (s.pos : Int) (show (w.drewN n).heap[g]? = _ from hrow) i hi him
    have HB := Lib.hid hb
    have HR := Lib.hid hrow
    clear hrd rd rd' hS hrow hb
    cases hg : getL 0 0 s.left with
    | ok n k =>
      rw [hg] at hget
      simp only [gr] at hget
      have hk := get_ok hg
      rw [left_length] at hk
      have hk1 : s.pos + k ≤ s.l.length := by omega
      have hk2 : k ≤ 10 := hk.2.2.1
      have HG := Lib.hid hg
      clear hg hk
      by_cases hmn : most < n
      · go_enter Tryz.func33, Tryz.ntmps33
        go_wp2_with fail
        go_quiet ((go_at_call 60; exact Calls.quiet_of (hget _)))
        go_wp2_with fail
        refine (hbad _ 4 (by omega) hz4).mono ?_
        rintro e w1 ⟨rfl, ve', h1, h2, h3⟩
        go_wp2_with fail
        go_ret
        unfold num
        rw [if_neg (fun e => e HB.out), HG.out]
        simp only
        rw [if_pos hmn]
        exact ⟨rfl, ⟨⟨hpos, hL⟩, _, _, h1, h3.owns (show (w.drewN nq).ownsRow _ _ _ _ _ _ from hown) (show (w.drewN nq).heap[g]? = _ from HR.out) (by decide), h2⟩, Touch.trans ((Touch.refl g w).drewN nq) h3⟩
      · go_enter Tryz.func33, Tryz.ntmps33
        go_wp2_with fail
        go_quiet ((go_at_call 60; exact Calls.quiet_of (hget _)))
        go_wp2_with fail
        go_ret
        unfold num
        rw [if_neg (fun e => e HB.out), HG.out]
        simp only
        rw [if_neg hmn]
        exact ⟨rfl, (h.drewN nq).moved k hk1 _ (by rw [Int.natCast_add]), ((Touch.refl g w).drewN nq).set 1 _⟩
    | fin =>
      rw [hg] at hget
      simp only [gr, senV] at hget
      have HG := Lib.hid hg
      clear hg
      go_enter Tryz.func33, Tryz.ntmps33
      go_wp2_with fail
      go_quiet ((go_at_call 60; exact Calls.quiet_of (hget _)))
      go_wp2_with fail
      refine (hbad _ 0 (by omega) hz0).mono ?_
      rintro e w1 ⟨rfl, ve', h1, h2, h3⟩
      go_wp2_with fail
      go_ret
      unfold num
      rw [if_neg (fun e => e HB.out), HG.out]
      exact ⟨rfl, ⟨⟨hpos, hL⟩, _, _, h1, h3.owns (show (w.drewN nq).ownsRow _ _ _ _ _ _ from hown) (show (w.drewN nq).heap[g]? = _ from HR.out) (by decide), h2⟩, Touch.trans ((Touch.refl g w).drewN nq) h3⟩
    | shape =>
      rw [hg] at hget
      simp only [gr, senV] at hget
      have HG := Lib.hid hg
      clear hg
      go_enter Tryz.func33, Tryz.ntmps33
      go_wp2_with fail
      go_quiet ((go_at_call 60; exact Calls.quiet_of (hget _)))
      go_wp2_with fail
      refine (hbad _ 2 (by omega) hz2).mono ?_
      rintro e w1 ⟨rfl, ve', h1, h2, h3⟩
      go_wp2_with fail
      go_ret
      unfold num
      rw [if_neg (fun e => e HB.out), HG.out]
      exact ⟨rfl, ⟨⟨hpos, hL⟩, _, _, h1, h3.owns (show (w.drewN nq).ownsRow _ _ _ _ _ _ from hown) (show (w.drewN nq).heap[g]? = _ from HR.out) (by decide), h2⟩, Touch.trans ((Touch.refl g w).drewN nq) h3⟩
  · obtain ⟨T, u, rfl⟩ := her.not_nil hb
    have HB := Lib.hid hb
    clear hb hS hrow
    go_enter Tryz.func33, Tryz.ntmps33
    go_wp2_with fail
    go_ret
    unfold num
    rw [if_pos HB.out]
    exact ⟨rfl, h, Touch.refl _ _⟩

theorem num_calls {S : List Nat} {A : Nat → Addr} {w : World} (hS : Sents S w A) (hall : All S) {g : Nat} (haw : Away S A g) {s : Rs} (h : Rdr A w g s) (most : Nat) :
    Calls Tryz.prog 33 #[.pointer (some ⟨g, 0, none⟩), .int .u64 (most : Int)] w
      (fun e w' => e = .returned (.int .u64 ((num most s).1 : Nat)) ∧ Rdr A w' g (num most s).2 ∧ Touch g w w') := num_calls' hS (hall 0 (by omega)) (hall 2 (by omega)) (hall 4 (by omega)) haw h most

end Go.Proofs.YtegiingcnhafbaaGreatDoor
