/- The document's reader of numbers in memory, and what its methods do to it. -/
import Derived.Test.YtlfbdcgojbfcaaaDoorReader
import Derived.Test.YtlfbdcgojbfcaaaDoorBase
namespace Go.Proofs.YtlfbdcgojbfcaaaDoor
open Go Go.RowKit Vint

/-- The document's reader lies in block g. -/
def RefR (w : World) (g : Nat) (vb : Value) (s : Rs) : Prop :=
  (s.pos ≤ s.l.length ∧ s.l.length ≤ 1099511627776) ∧ w.heap[g]? = some (.cells #[vb, .int .i64 (s.pos : Nat), .int .i64 s.bad.code, .bool s.bad.has, .int .i64 s.bad.pos] 115 (0, 0)) ∧ Rd w 1 vb s.l.length (bvs s.l) ∧ OffV g vb

theorem RefR.below {w w1 : World} {g : Nat} {vb : Value} {s : Rs} (h : RefR w g vb s) (b : Below w.heap.size w w1) : RefR w1 g vb s := by
  obtain ⟨h0, h1, h2, h3⟩ := h
  exact ⟨h0, heap_below b h1, h2.below b, h3⟩

theorem RefR.drewN {w : World} {g : Nat} {vb : Value} {s : Rs} (h : RefR w g vb s) (n : Nat) : RefR (w.drewN n) g vb s := h.below (below_drewN (Below.refl _ _) n)

/-- Another block, of another kind, has turned. -/
theorem RefR.touch {w w1 : World} {g k : Nat} {vb : Value} {s : Rs} (h : RefR w g vb s) (b : Touch k w w1) {c : Array Value} {t : TypeId} {f : Nat × Nat} (hk : w.heap[k]? = some (.cells c t f)) (t1 : 115 ≠ t) (o : OffV k vb) : RefR w1 g vb s :=
  ⟨h.1, b.row hk h.2.1 t1, h.2.2.1.touch b o, h.2.2.2⟩

theorem RefR.rowAt {w : World} {g : Nat} {vb : Value} {s : Rs} (h : RefR w g vb s) : ∃ c, w.heap[g]? = some (.cells c 115 (0, 0)) := ⟨_, h.2.1⟩
theorem RefR.row_lt {w : World} {g : Nat} {vb : Value} {s : Rs} (h : RefR w g vb s) : g < w.heap.size := (Array.getElem?_eq_some_iff.1 h.2.1).1
theorem Rdr.rowAt {A : Nat → Addr} {w : World} {g : Nat} {s : Rs} (h : Rdr A w g s) : ∃ c, w.heap[g]? = some (.cells c 105 (0, 0)) := by
  obtain ⟨_, vb, ve, h1, _⟩ := h; exact ⟨_, h1⟩
theorem Rdr.row_lt {A : Nat → Addr} {w : World} {g : Nat} {s : Rs} (h : Rdr A w g s) : g < w.heap.size := by
  obtain ⟨c, h1⟩ := h.rowAt; exact (Array.getElem?_eq_some_iff.1 h1).1

/-- The parts, as a walk wants them. -/
theorem RefR.parts {w : World} {g : Nat} {vb : Value} {s : Rs} (h : RefR w g vb s) : ∃ ab cb, vb = .slice ab s.l.length cb ∧ w.heap[g]? = some (.cells #[.slice ab s.l.length cb, .int .i64 (s.pos : Nat), .int .i64 s.bad.code, .bool s.bad.has, .int .i64 s.bad.pos] 115 (0, 0)) ∧
    Rd w 1 (.slice ab s.l.length cb) s.l.length (bvs s.l) ∧ OffV g (.slice ab s.l.length cb) ∧ w.cell? ⟨g, 0, none⟩ = some (.slice ab s.l.length cb) ∧ w.cell? ⟨g, 1, none⟩ = some (.int .i64 (s.pos : Nat)) ∧ w.cell? ⟨g, 2, none⟩ = some (.int .i64 s.bad.code) ∧ w.frozen? ⟨g, 1, none⟩ = false := by
  obtain ⟨_, h1, h2, h3⟩ := h
  obtain ⟨ab, cb, rfl⟩ := h2.slice
  exact ⟨ab, cb, rfl, h1, h2, h3, cell_of_row w g 0 _ _ _ h1, cell_of_row w g 1 _ _ _ h1, cell_of_row w g 2 _ _ _ h1, frozen_of_row w g 1 _ _ h1⟩

/-- It has gone on. -/
theorem RefR.moved {w : World} {g : Nat} {vb : Value} {s : Rs} (h : RefR w g vb s) (k : Nat) (hk : s.pos + k ≤ s.l.length) (v : Value) (hv : v = .int .i64 ((s.pos + k : Nat) : Int)) : RefR (w.setCell ⟨g, 1, none⟩ v) g vb (s.on k) := by
  subst hv
  obtain ⟨h0, h1, h2, h3⟩ := h
  have t := Touch.setCell (g := g) w 1 (.int .i64 ((s.pos + k : Nat) : Int))
  exact ⟨⟨hk, h0.2⟩, heap_setCell_same _ g 1 _ _ _ h1, h2.touch t h3, h3⟩

theorem Er.code_ne {e : Er} (h : e ≠ .fine) : (e.code == 0) = false := by
  rw [beq_eq_false_iff_ne]
  cases e with
  | fine => exact absurd rfl h
  | bare i => show ((101 + i : Nat) : Int) ≠ 0; omega
  | placed i p => show ((101 + i : Nat) : Int) ≠ 0; omega

set_option maxRecDepth 100000 in
theorem refFine_yes {w : World} {g : Nat} {vb : Value} {s : Rs} (h : RefR w g vb s) (hb : s.bad = .fine) :
    Calls Tryd.prog 83 #[.pointer (some ⟨g, 0, none⟩)] w (fun e w' => e = .returned (.bool true) ∧ w = w') := by
  obtain ⟨ab, cb, rfl, hrow, hrd, hoff, k0, k1, k2, f1⟩ := h.parts
  rw [hb] at k2
  simp only [Er.code] at k2
  clear hrow hb
  go_enter Tryd.func83, Tryd.ntmps83
  go_wp2_with fail
  go_ret
  exact ⟨rfl, rfl⟩

set_option maxRecDepth 100000 in
theorem refFine_no {w : World} {g : Nat} {vb : Value} {s : Rs} (h : RefR w g vb s) (hb : s.bad ≠ .fine) :
    Calls Tryd.prog 83 #[.pointer (some ⟨g, 0, none⟩)] w (fun e w' => e = .returned (.bool false) ∧ w = w') := by
  obtain ⟨ab, cb, rfl, hrow, hrd, hoff, k0, k1, k2, f1⟩ := h.parts
  have hne := Er.code_ne hb
  clear hrow hb
  generalize s.bad.code = c at *
  go_enter Tryd.func83, Tryd.ntmps83
  go_wp2_with fail
  go_ret
  exact ⟨rfl, rfl⟩

set_option maxRecDepth 100000 in
set_option maxHeartbeats 1000000 in
theorem refFail_calls {w : World} {g : Nat} {vb : Value} {s : Rs} (h : RefR w g vb s) (i : Nat) :
    Calls Tryd.prog 92 #[.pointer (some ⟨g, 0, none⟩), .int .i64 ((101 + i : Nat) : Int)] w
      (fun e w' => e = .returned (.tuple #[]) ∧ RefR w' g vb (s.fail i) ∧ Touch g w w') := by
  obtain ⟨ab, cb, rfl, hrow, hrd, hoff, k0, k1, k2, f1⟩ := h.parts
  have k3 : w.cell? ⟨g, 3, none⟩ = some (.bool s.bad.has) := cell_of_row w g 3 _ _ _ hrow
  have k4 : w.cell? ⟨g, 4, none⟩ = some (.int .i64 s.bad.pos) := cell_of_row w g 4 _ _ _ hrow
  have f2 := frozen_of_row w g 2 _ _ hrow
  have f3 := frozen_of_row w g 3 _ _ hrow
  have f4 := frozen_of_row w g 4 _ _ hrow
  have HR := Lib.hid hrow
  by_cases h0 : i = 0
  · subst h0
    clear hrow
    go_enter Tryd.func92, Tryd.ntmps92
    go_wp2_with fail
    refine (bare_calls 101 _).mono ?_
    rintro e w1 ⟨rfl, b1⟩
    have hr1 := heap_below b1 HR.out
    have k2' : w1.cell? ⟨g, 2, none⟩ = some (.int .i64 s.bad.code) := cell_of_row w1 g 2 _ _ _ hr1
    have k3' : w1.cell? ⟨g, 3, none⟩ = some (.bool s.bad.has) := cell_of_row w1 g 3 _ _ _ hr1
    have k4' : w1.cell? ⟨g, 4, none⟩ = some (.int .i64 s.bad.pos) := cell_of_row w1 g 4 _ _ _ hr1
    have f2' := frozen_of_row w1 g 2 _ _ hr1
    have f3' := frozen_of_row w1 g 3 _ _ hr1
    have f4' := frozen_of_row w1 g 4 _ _ hr1
    clear hr1
    unfold fv
    go_wp2_with fail
    refine bodyPost_ret (results_none rfl _ _ _) rfl ?_
    have h2 := heap_setCell_same _ _ 4 _ _ (.int .i64 0) (heap_setCell_same _ _ 3 _ _ (.bool false) (heap_setCell_same _ _ 2 _ _ (.int .i64 101) (heap_below b1 HR.out)))
    have t2 := ((Touch.of_below (g := g) b1).set 2 (.int .i64 101)).set 3 (.bool false) |>.set 4 (.int .i64 0)
    exact ⟨rfl, ⟨h.1, h2, hrd.touch t2 hoff, hoff⟩, t2⟩
  · have h0' : (((101 + i : Nat) : Int) == 101) = false := by rw [beq_eq_false_iff_ne]; omega
    have HI : s.fail i = { s with bad := .placed i s.pos } := by unfold Rs.fail; rw [if_neg h0]
    have HF := Lib.hid HI
    clear hrow HI
    generalize hc : ((101 + i : Nat) : Int) = c at *
    have hc0 : c ≠ 0 := by omega
    have HC := Lib.hid hc
    clear hc
    go_enter Tryd.func92, Tryd.ntmps92
    go_wp2_with fail
    refine (placed_calls c _ _ hc0).mono ?_
    rintro e w1 ⟨rfl, b1⟩
    have hr1 := heap_below b1 HR.out
    have k2' : w1.cell? ⟨g, 2, none⟩ = some (.int .i64 s.bad.code) := cell_of_row w1 g 2 _ _ _ hr1
    have k3' : w1.cell? ⟨g, 3, none⟩ = some (.bool s.bad.has) := cell_of_row w1 g 3 _ _ _ hr1
    have k4' : w1.cell? ⟨g, 4, none⟩ = some (.int .i64 s.bad.pos) := cell_of_row w1 g 4 _ _ _ hr1
    have f2' := frozen_of_row w1 g 2 _ _ hr1
    have f3' := frozen_of_row w1 g 3 _ _ hr1
    have f4' := frozen_of_row w1 g 4 _ _ hr1
    clear hr1
    unfold fv
    go_wp2_with fail
    go_end0
    rw [HF.out]
    have h2 := heap_setCell_same _ _ 4 _ _ (.int .i64 (s.pos : Int)) (heap_setCell_same _ _ 3 _ _ (.bool true) (heap_setCell_same _ _ 2 _ _ (.int .i64 c) (heap_below b1 HR.out)))
    have t2 := ((Touch.of_below (g := g) b1).set 2 (.int .i64 c)).set 3 (.bool true) |>.set 4 (.int .i64 (s.pos : Int))
    rw [show c = (Er.placed i (s.pos : Int)).code from HC.out.symm] at h2 t2 ⊢
    exact ⟨rfl, ⟨h.1, h2, hrd.touch t2 hoff, hoff⟩, t2⟩

/-- The document's reading of a number. -/
def RefNumPost (g : Nat) (vb : Value) (most : Nat) (s : Rs) (w : World) (e : Ending) (w' : World) : Prop :=
  e = .returned (.int .u64 ((num most s).1 : Nat)) ∧ RefR w' g vb (num most s).2 ∧ Touch g w w'

theorem num_stays {most : Nat} {s : Rs} (h : s.bad ≠ .fine) : num most s = (0, s) := by unfold num; rw [if_pos h]
def numR (most : Nat) (s : Rs) : GR → Nat × Rs
  | .ok n k => if most < n then (0, s.fail 4) else (n, s.on k)
  | .fin => (0, s.fail 0)
  | .shape => (0, s.fail 2)
theorem numR_gt {most n k : Nat} {s : Rs} (h : most < n) : numR most s (.ok n k) = (0, s.fail 4) := if_pos h
theorem numR_ok {most n k : Nat} {s : Rs} (h : ¬ most < n) : numR most s (.ok n k) = (n, s.on k) := if_neg h
theorem num_get {most : Nat} {s : Rs} (hb : s.bad = .fine) {r : GR} (hg : getL 0 0 s.left = r) : num most s = numR most s r := by
  unfold num; rw [if_neg (fun e => e hb), ← hg]; rfl

set_option maxRecDepth 100000 in
set_option maxHeartbeats 1000000 in
theorem refNum_calls {w : World} {g : Nat} {vb : Value} {s : Rs} (h : RefR w g vb s) (most : Nat) :
    Calls Tryd.prog 94 #[.pointer (some ⟨g, 0, none⟩), .int .u64 (most : Int)] w (RefNumPost g vb most s w) := by
  by_cases hb : s.bad = .fine
  · obtain ⟨ab, cb, rfl, hrow, hrd, hoff, k0, k1, k2, f1⟩ := h.parts
    have hpos := h.1.1
    have m1 := hrd.len_le
    obtain ⟨a', c', hcut, hrd'⟩ := run_rest (P := Tryd.prog) 42 sl_u8 1 sz_u8 ab s.l.length cb s.pos .i64 hpos
    have rd' : ∀ w', Below w.heap.size w w' → Rd w' 1 (.slice a' (s.l.length - s.pos) c') s.left.length (bvs s.left) := fun w' b => by
      have := hrd' w' _ (hrd.below b)
      rw [Nat.mul_one] at this
      rw [left_length]; unfold Rs.left; rw [bvs_drop]; exact this
    have hget := fun n => refGet_calls _ s.left (w.drewN n) (rd' _ (below_drewN (Below.refl _ _) n))
    have hfine := refFine_yes h hb
    have HB := Lib.hid hb
    clear hrd hrd' rd' hrow hb
    cases hg : getL 0 0 s.left with
    | ok n k =>
      rw [hg] at hget
      simp only [rr] at hget
      have hk := get_ok hg
      rw [left_length] at hk
      have hk1 : s.pos + k ≤ s.l.length := by omega
      have hk2 : k ≤ 10 := hk.2.2.1
      have HG := Lib.hid (num_get (most := most) HB.out hg)
      clear hg hk
      by_cases hmn : most < n
      · go_enter Tryd.func94, Tryd.ntmps94
        go_wp2_with fail
        refine hfine.mono ?_
        rintro e w1 ⟨rfl, rfl⟩
        go_wp2_with fail
        go_quiet ((go_at_call 98; exact Calls.quiet_of_same (hget _)))
        go_wp2_with fail
        refine (refFail_calls (h.drewN nq) 4).mono ?_
        rintro e w2 ⟨rfl, r2, t2⟩
        go_wp2_with fail
        go_ret
        unfold RefNumPost
        rw [HG.out, numR_gt hmn]
        exact ⟨rfl, r2, ((Touch.refl g w).drewN nq).trans t2⟩
      · go_enter Tryd.func94, Tryd.ntmps94
        go_wp2_with fail
        refine hfine.mono ?_
        rintro e w1 ⟨rfl, rfl⟩
        go_wp2_with fail
        go_quiet ((go_at_call 98; exact Calls.quiet_of_same (hget _)))
        go_wp2_with fail
        go_ret
        unfold RefNumPost
        rw [HG.out, numR_ok hmn]
        exact ⟨rfl, (h.drewN nq).moved k hk1 _ (by rw [Int.natCast_add]), ((Touch.refl g w).drewN nq).set 1 _⟩
    | fin =>
      rw [hg] at hget
      simp only [rr] at hget
      have HG := Lib.hid (num_get (most := most) HB.out hg)
      clear hg
      go_enter Tryd.func94, Tryd.ntmps94
      go_wp2_with fail
      refine hfine.mono ?_
      rintro e w1 ⟨rfl, rfl⟩
      go_wp2_with fail
      go_quiet ((go_at_call 98; exact Calls.quiet_of_same (hget _)))
      go_wp2_with fail
      refine (refFail_calls (h.drewN nq) 0).mono ?_
      rintro e w2 ⟨rfl, r2, t2⟩
      go_wp2_with fail
      go_ret
      unfold RefNumPost
      rw [HG.out]
      exact ⟨rfl, r2, ((Touch.refl g w).drewN nq).trans t2⟩
    | shape =>
      rw [hg] at hget
      simp only [rr] at hget
      have HG := Lib.hid (num_get (most := most) HB.out hg)
      clear hg
      go_enter Tryd.func94, Tryd.ntmps94
      go_wp2_with fail
      refine hfine.mono ?_
      rintro e w1 ⟨rfl, rfl⟩
      go_wp2_with fail
      go_quiet ((go_at_call 98; exact Calls.quiet_of_same (hget _)))
      go_wp2_with fail
      refine (refFail_calls (h.drewN nq) 2).mono ?_
      rintro e w2 ⟨rfl, r2, t2⟩
      go_wp2_with fail
      go_ret
      unfold RefNumPost
      rw [HG.out]
      exact ⟨rfl, r2, ((Touch.refl g w).drewN nq).trans t2⟩
  · go_enter Tryd.func94, Tryd.ntmps94
    go_wp2_with fail
    refine (refFine_no h hb).mono ?_
    rintro e w1 ⟨rfl, rfl⟩
    have HB := Lib.hid hb
    clear hb
    go_wp2_with fail
    go_ret
    unfold RefNumPost
    rw [num_stays HB.out]
    exact ⟨rfl, h, Touch.refl _ _⟩
end Go.Proofs.YtlfbdcgojbfcaaaDoor
