/- slices.Clone and slices.Equal on pairs and objects; mani.Same, mani.Clone. -/
import Derived.Test.YtegiingcnhafbaaGreatDoorManVal
import Derived.Test.YtegiingcnhafbaaGreatDoorEpoNew
namespace Go.Proofs.YtegiingcnhafbaaGreatDoor
open Go Go.RowKit Man

instance : DecidableEq ObjD := fun a b =>
  if h : a.name = b.name ∧ a.len = b.len ∧ a.sum = b.sum then isTrue (by cases a; cases b; obtain ⟨h0, h1, h2⟩ := h; simp only at h0 h1 h2; subst h0 h1 h2; rfl)
  else isFalse (fun e => h (by subst e; exact ⟨rfl, rfl, rfl⟩))

theorem info_obj : (Tryz.prog.info? 44).map (fun i => (i.zero, i.size, i.bytes)) = some (some (.agg #[.string ByteArray.empty, .int .i64 0, .int .u32 0]), 3, 32) := by kernel_rfl

set_option maxRecDepth 100000 in
set_option maxHeartbeats 1000000 in
theorem equalObjs_calls (va vb : Value) (l1 l2 : List ObjD) (w : World) (h1 : Rd w 3 va l1.length (l1.flatMap obV)) (h2 : Rd w 3 vb l2.length (l2.flatMap obV)) :
    Calls Tryz.prog 40 #[va, vb] w (fun e w' => e = .returned (.bool (decide (l1 = l2))) ∧ ∃ nq, w' = w.drewN nq) := by
  obtain ⟨a1, c1, rfl⟩ := h1.slice
  obtain ⟨a2, c2, rfl⟩ := h2.slice
  have m1 := h1.len_le
  have m2 := h2.len_le
  by_cases hl : l1.length = l2.length
  · have hl' : ((l1.length : Int) != (l2.length : Int)) = false := by rw [hl]; simp
    have HL := Lib.hid hl
    clear hl
    go_enter Tryz.func40, Tryz.ntmps40
    go_wp2_with fail
    go_loopw [13] (fun iv wr => ∃ k : Nat, k ≤ l1.length ∧ iv = .int .i64 k ∧ l1.take k = l2.take k ∧ ∃ nq, wr = w.drewN nq) (fun iv _ => l1.length - (intOf iv).toNat)
    case atStart => exact ⟨0, Nat.zero_le _, rfl, rfl, 0, rfl⟩
    case round =>
      obtain ⟨k, hk, rfl, hs, nq, rfl⟩ := hrel
      have HS := Lib.hid hs
      clear hs
      by_cases hlt : k < l1.length
      · have hlt2 : k < l2.length := by have := HL.out; omega
        obtain ⟨b1, o1, rfl, hx1⟩ := objs_at h1 k hlt
        obtain ⟨b2, o2, rfl, hx2⟩ := objs_at h2 k hlt2
        obtain ⟨p0, p1, p2⟩ := hx1 k hlt
        obtain ⟨q0, q1, q2⟩ := hx2 k hlt2
        have HX := Lib.hid (show l1[k] ≠ l2[k] → decide (l1 = l2) = false from fun h => decide_eq_false (fun e => h (by subst e; rfl)))
        have HY := Lib.hid (show l1[k] = l2[k] → l1.take (k + 1) = l2.take (k + 1) from fun h => take_next hlt hlt2 HS.out h)
        obtain ⟨x, hx⟩ : ∃ x, x = l1[k] := ⟨_, rfl⟩
        obtain ⟨y, hy⟩ : ∃ y, y = l2[k] := ⟨_, rfl⟩
        rw [← hx, ← hy] at HX HY
        rw [← hx] at p0 p1 p2
        rw [← hy] at q0 q1 q2
        clear hx hy hx1 hx2 h1 h2
        by_cases e0 : x.name = y.name
        · have t0 : (x.name.toList == y.name.toList) = true := by rw [name_beq]; exact decide_eq_true e0
          have E0 := Lib.hid e0
          clear e0
          by_cases e1 : x.len = y.len
          · have t1 : (x.len == y.len) = true := by rw [beq_iff_eq]; simp only [e1]
            have E1 := Lib.hid e1
            clear e1
            by_cases e2 : x.sum = y.sum
            · have t2 : ((x.sum : Int) == (y.sum : Int)) = true := by rw [beq_iff_eq]; simp only [e2]
              have E2 := Lib.hid e2
              clear e2
              go_wp2_with fail
              go_quiet (fail)
              go_wp2_with fail
              exact ⟨⟨k + 1, by omega, by go_num, HY.out (by cases x; cases y; have h0 := E0.out; have h1 := E1.out; have h2 := E2.out; simp only at h0 h1 h2; subst h0 h1 h2; rfl), _, rfl⟩, by simp [intOf]; omega⟩
            · have t2 : ((x.sum : Int) == (y.sum : Int)) = false := by rw [beq_eq_false_iff_ne]; exact fun h => e2 (by exact_mod_cast h)
              have E2 := Lib.hid e2
              clear e2
              go_wp2_with fail
              go_quiet (fail)
              go_wp2_with fail
              go_ret
              exact ⟨by rw [HX.out (fun h => E2.out (by rw [h]))]; rfl, _, World.drewN_drewN _ _ _⟩
          · have t1 : (x.len == y.len) = false := by rw [beq_eq_false_iff_ne]; exact fun h => e1 (h)
            have E1 := Lib.hid e1
            clear e1
            go_wp2_with fail
            go_quiet (fail)
            go_wp2_with fail
            go_ret
            exact ⟨by rw [HX.out (fun h => E1.out (by rw [h]))]; rfl, _, World.drewN_drewN _ _ _⟩
        · have t0 : (x.name.toList == y.name.toList) = false := by rw [name_beq]; exact decide_eq_false e0
          have E0 := Lib.hid e0
          clear e0
          go_wp2_with fail
          go_quiet (fail)
          go_wp2_with fail
          go_ret
          exact ⟨by rw [HX.out (fun h => E0.out (by rw [h]))]; rfl, _, World.drewN_drewN _ _ _⟩
      · go_wp2_with fail
        go_ret
        refine ⟨?_, _, rfl⟩
        have hs := HS.out
        rw [List.take_of_length_le (by omega), List.take_of_length_le (by have := HL.out; omega)] at hs
        rw [decide_eq_true hs]; rfl
  · have hl' : ((l1.length : Int) != (l2.length : Int)) = true := by rw [bne_iff_ne]; omega
    have HL := Lib.hid (show decide (l1 = l2) = false from decide_eq_false (fun e => hl (by rw [e])))
    clear hl
    go_enter Tryz.func40, Tryz.ntmps40
    go_wp2_with fail
    go_ret
    exact ⟨by rw [HL.out]; rfl, 0, rfl⟩

set_option maxRecDepth 100000 in
set_option maxHeartbeats 1000000 in
theorem equalPairs_calls (va vb : Value) (l1 l2 : List Epo.Pr) (w : World) (h1 : Rd w 2 va l1.length (l1.flatMap prV)) (h2 : Rd w 2 vb l2.length (l2.flatMap prV)) :
    Calls Tryz.prog 39 #[va, vb] w (fun e w' => e = .returned (.bool (decide (l1 = l2))) ∧ ∃ nq, w' = w.drewN nq) := by
  obtain ⟨a1, c1, rfl⟩ := h1.slice
  obtain ⟨a2, c2, rfl⟩ := h2.slice
  have m1 := h1.len_le
  have m2 := h2.len_le
  by_cases hl : l1.length = l2.length
  · have hl' : ((l1.length : Int) != (l2.length : Int)) = false := by rw [hl]; simp
    have HL := Lib.hid hl
    clear hl
    go_enter Tryz.func39, Tryz.ntmps39
    go_wp2_with fail
    go_loopw [13] (fun iv wr => ∃ k : Nat, k ≤ l1.length ∧ iv = .int .i64 k ∧ l1.take k = l2.take k ∧ ∃ nq, wr = w.drewN nq) (fun iv _ => l1.length - (intOf iv).toNat)
    case atStart => exact ⟨0, Nat.zero_le _, rfl, rfl, 0, rfl⟩
    case round =>
      obtain ⟨k, hk, rfl, hs, nq, rfl⟩ := hrel
      have HS := Lib.hid hs
      clear hs
      by_cases hlt : k < l1.length
      · have hlt2 : k < l2.length := by have := HL.out; omega
        obtain ⟨b1, o1, rfl, hx1⟩ := pairs_at h1 k hlt
        obtain ⟨b2, o2, rfl, hx2⟩ := pairs_at h2 k hlt2
        obtain ⟨p0, p1⟩ := hx1 k hlt
        obtain ⟨q0, q1⟩ := hx2 k hlt2
        have HX := Lib.hid (show l1[k] ≠ l2[k] → decide (l1 = l2) = false from fun h => decide_eq_false (fun e => h (by subst e; rfl)))
        have HY := Lib.hid (show l1[k] = l2[k] → l1.take (k + 1) = l2.take (k + 1) from fun h => take_next hlt hlt2 HS.out h)
        obtain ⟨x, hx⟩ : ∃ x, x = l1[k] := ⟨_, rfl⟩
        obtain ⟨y, hy⟩ : ∃ y, y = l2[k] := ⟨_, rfl⟩
        rw [← hx, ← hy] at HX HY
        rw [← hx] at p0 p1
        rw [← hy] at q0 q1
        clear hx hy hx1 hx2 h1 h2
        by_cases e0 : x.ep = y.ep
        · have t0 : (x.ep == y.ep) = true := by rw [beq_iff_eq]; simp only [e0]
          have E0 := Lib.hid e0
          clear e0
          by_cases e1 : x.st = y.st
          · have t1 : (x.st == y.st) = true := by rw [beq_iff_eq]; simp only [e1]
            have E1 := Lib.hid e1
            clear e1
            go_wp2_with fail
            go_quiet (fail)
            go_wp2_with fail
            exact ⟨⟨k + 1, by omega, by go_num, HY.out (by cases x; cases y; have h0 := E0.out; have h1 := E1.out; simp only at h0 h1; subst h0 h1; rfl), _, rfl⟩, by simp [intOf]; omega⟩
          · have t1 : (x.st == y.st) = false := by rw [beq_eq_false_iff_ne]; exact fun h => e1 (h)
            have E1 := Lib.hid e1
            clear e1
            go_wp2_with fail
            go_quiet (fail)
            go_wp2_with fail
            go_ret
            exact ⟨by rw [HX.out (fun h => E1.out (by rw [h]))]; rfl, _, World.drewN_drewN _ _ _⟩
        · have t0 : (x.ep == y.ep) = false := by rw [beq_eq_false_iff_ne]; exact fun h => e0 (h)
          have E0 := Lib.hid e0
          clear e0
          go_wp2_with fail
          go_quiet (fail)
          go_wp2_with fail
          go_ret
          exact ⟨by rw [HX.out (fun h => E0.out (by rw [h]))]; rfl, _, World.drewN_drewN _ _ _⟩
      · go_wp2_with fail
        go_ret
        refine ⟨?_, _, rfl⟩
        have hs := HS.out
        rw [List.take_of_length_le (by omega), List.take_of_length_le (by have := HL.out; omega)] at hs
        rw [decide_eq_true hs]; rfl
  · have hl' : ((l1.length : Int) != (l2.length : Int)) = true := by rw [bne_iff_ne]; omega
    have HL := Lib.hid (show decide (l1 = l2) = false from decide_eq_false (fun e => hl (by rw [e])))
    clear hl
    go_enter Tryz.func39, Tryz.ntmps39
    go_wp2_with fail
    go_ret
    exact ⟨by rw [HL.out]; rfl, 0, rfl⟩

instance : DecidableEq ManD := fun a b =>
  if h : a.id = b.id ∧ a.base = b.base ∧ a.fin = b.fin ∧ a.time = b.time ∧ a.eps = b.eps ∧ a.objs = b.objs then isTrue (by cases a; cases b; obtain ⟨h0, h1, h2, h3, h4, h5⟩ := h; simp only at h0 h1 h2 h3 h4 h5; subst h0 h1 h2 h3 h4 h5; rfl)
  else isFalse (fun e => h (by subst e; exact ⟨rfl, rfl, rfl, rfl, rfl, rfl⟩))

set_option maxRecDepth 100000 in
set_option maxHeartbeats 2000000 in
theorem maniSame_calls {w : World} {m n : ManD} {ve vo ue uo : Value} (h : ManRd w m ve vo) (h' : ManRd w n ue uo) :
    Calls Tryz.prog 11 #[manA m ve vo, manA n ue uo] w (fun e w' => e = .returned (.bool (decide (m = n))) ∧ Below w.heap.size w w') := by
  obtain ⟨re, ro⟩ := h
  obtain ⟨se, so⟩ := h'
  obtain ⟨ae, ce, rfl⟩ := re.slice
  obtain ⟨ao, co, rfl⟩ := ro.slice
  obtain ⟨ae', ce', rfl⟩ := se.slice
  obtain ⟨ao', co', rfl⟩ := so.slice
  have HT := Lib.hid (show m.id = n.id → m.base = n.base → m.fin = n.fin → m.time = n.time → m.eps = n.eps → decide (m = n) = decide (m.objs = n.objs) from fun h0 h1 h2 h3 h4 => by
    cases m; cases n; simp only at h0 h1 h2 h3 h4; subst h0 h1 h2 h3 h4; simp)
  have HF := Lib.hid (show ¬ (m.id = n.id ∧ m.base = n.base ∧ m.fin = n.fin ∧ m.time = n.time ∧ m.eps = n.eps) → decide (m = n) = false from fun h => decide_eq_false (fun e => h (by subst e; exact ⟨rfl, rfl, rfl, rfl, rfl⟩)))
  have b1 := below_alloc w (.cells #[.int .i64 m.id, .int .i64 m.base, .int .i64 m.fin, .int .i64 m.time, .slice ae m.eps.length ce, .slice ao m.objs.length co] 27)
  have row1 := heap_alloc_new w (.cells #[.int .i64 m.id, .int .i64 m.base, .int .i64 m.fin, .int .i64 m.time, .slice ae m.eps.length ce, .slice ao m.objs.length co] 27)
  obtain ⟨w1, hw1⟩ : ∃ w1, w1 = w.alloc (.cells #[.int .i64 m.id, .int .i64 m.base, .int .i64 m.fin, .int .i64 m.time, .slice ae m.eps.length ce, .slice ao m.objs.length co] 27) := ⟨_, rfl⟩
  rw [← hw1] at b1 row1
  have b2 := below_alloc w1 (.cells #[.int .i64 n.id, .int .i64 n.base, .int .i64 n.fin, .int .i64 n.time, .slice ae' n.eps.length ce', .slice ao' n.objs.length co'] 27)
  have row2 := heap_alloc_new w1 (.cells #[.int .i64 n.id, .int .i64 n.base, .int .i64 n.fin, .int .i64 n.time, .slice ae' n.eps.length ce', .slice ao' n.objs.length co'] 27)
  have row1' := heap_below b2 row1
  have B := nxt b1 b2
  unfold manA
  go_enter Tryz.func11, Tryz.ntmps11
  go_upto_region 1 with fail
  rw [← hw1]
  obtain ⟨w2, hw2⟩ : ∃ w2, w2 = w1.alloc (.cells #[.int .i64 n.id, .int .i64 n.base, .int .i64 n.fin, .int .i64 n.time, .slice ae' n.eps.length ce', .slice ao' n.objs.length co'] 27) := ⟨_, rfl⟩
  obtain ⟨g1, hg1⟩ : ∃ g1, g1 = w.heap.size := ⟨_, rfl⟩
  obtain ⟨g2, hg2⟩ : ∃ g2, g2 = w1.heap.size := ⟨_, rfl⟩
  have hsz : w1.heap.size = w.heap.size + 1 := by rw [hw1]; simp
  rw [← hsz]
  rw [← hw2] at b2 row2 row1' B ⊢
  rw [← hg1] at row1' ⊢
  rw [← hg2] at row2 ⊢
  have RE := re.below B
  have RO := ro.below B
  have SE := se.below B
  have SO := so.below B
  clear hw1 hw2 hg1 hg2 row1 b1 b2 re ro se so hsz
  have hp := equalPairs_calls _ _ _ _ w2 RE SE
  have p0 : w2.cell? ⟨g1, 0, none⟩ = some (.int .i64 m.id) := cell_of_row _ _ 0 _ _ _ row1'
  have p1 : w2.cell? ⟨g1, 1, none⟩ = some (.int .i64 m.base) := cell_of_row _ _ 1 _ _ _ row1'
  have p2 : w2.cell? ⟨g1, 2, none⟩ = some (.int .i64 m.fin) := cell_of_row _ _ 2 _ _ _ row1'
  have p3 : w2.cell? ⟨g1, 3, none⟩ = some (.int .i64 m.time) := cell_of_row _ _ 3 _ _ _ row1'
  have p4 : w2.cell? ⟨g1, 4, none⟩ = some (.slice ae m.eps.length ce) := cell_of_row _ _ 4 _ _ _ row1'
  have p5 : w2.cell? ⟨g1, 5, none⟩ = some (.slice ao m.objs.length co) := cell_of_row _ _ 5 _ _ _ row1'
  have q0 : w2.cell? ⟨g2, 0, none⟩ = some (.int .i64 n.id) := cell_of_row _ _ 0 _ _ _ row2
  have q1 : w2.cell? ⟨g2, 1, none⟩ = some (.int .i64 n.base) := cell_of_row _ _ 1 _ _ _ row2
  have q2 : w2.cell? ⟨g2, 2, none⟩ = some (.int .i64 n.fin) := cell_of_row _ _ 2 _ _ _ row2
  have q3 : w2.cell? ⟨g2, 3, none⟩ = some (.int .i64 n.time) := cell_of_row _ _ 3 _ _ _ row2
  have q4 : w2.cell? ⟨g2, 4, none⟩ = some (.slice ae' n.eps.length ce') := cell_of_row _ _ 4 _ _ _ row2
  have q5 : w2.cell? ⟨g2, 5, none⟩ = some (.slice ao' n.objs.length co') := cell_of_row _ _ 5 _ _ _ row2
  cases e0 : decide (m.id = n.id)
  · have t0 : (m.id == n.id) = false := beq_eq_false_iff_ne.2 (of_decide_eq_false e0)
    have E0 := Lib.hid e0
    clear e0 hp
    go_wp2_with fail
    go_ret
    exact ⟨by rw [HF.out (fun h => of_decide_eq_false E0.out h.1)]; rfl, B⟩
  have t0 : (m.id == n.id) = true := beq_iff_eq.2 (of_decide_eq_true e0)
  have E0 := Lib.hid e0
  clear e0
  cases e1 : decide (m.base = n.base)
  · have t1 : (m.base == n.base) = false := beq_eq_false_iff_ne.2 (of_decide_eq_false e1)
    have E1 := Lib.hid e1
    clear e1 hp
    go_wp2_with fail
    go_ret
    exact ⟨by rw [HF.out (fun h => of_decide_eq_false E1.out h.2.1)]; rfl, B⟩
  have t1 : (m.base == n.base) = true := beq_iff_eq.2 (of_decide_eq_true e1)
  have E1 := Lib.hid e1
  clear e1
  cases e2 : decide (m.fin = n.fin)
  · have t2 : (m.fin == n.fin) = false := beq_eq_false_iff_ne.2 (of_decide_eq_false e2)
    have E2 := Lib.hid e2
    clear e2 hp
    go_wp2_with fail
    go_ret
    exact ⟨by rw [HF.out (fun h => of_decide_eq_false E2.out h.2.2.1)]; rfl, B⟩
  have t2 : (m.fin == n.fin) = true := beq_iff_eq.2 (of_decide_eq_true e2)
  have E2 := Lib.hid e2
  clear e2
  cases e3 : decide (m.time = n.time)
  · have t3 : (m.time == n.time) = false := beq_eq_false_iff_ne.2 (of_decide_eq_false e3)
    have E3 := Lib.hid e3
    clear e3 hp
    go_wp2_with fail
    go_ret
    exact ⟨by rw [HF.out (fun h => of_decide_eq_false E3.out h.2.2.2.1)]; rfl, B⟩
  have t3 : (m.time == n.time) = true := beq_iff_eq.2 (of_decide_eq_true e3)
  have E3 := Lib.hid e3
  clear e3
  cases e4 : decide (m.eps = n.eps)
  · rw [e4] at hp
    have E4 := Lib.hid e4
    clear e4
    go_wp2_with fail
    with_reducible refine hp.mono ?_
    rintro e w3 ⟨rfl, nq, rfl⟩
    go_wp2_with fail
    go_ret
    exact ⟨by rw [HF.out (fun h => of_decide_eq_false E4.out h.2.2.2.2)]; rfl, below_drewN B _⟩
  · rw [e4] at hp
    have E4 := Lib.hid e4
    clear e4
    have ho := fun k => equalObjs_calls _ _ _ _ (w2.drewN k) (RO.below (below_drewN (Below.refl _ _) k)) (SO.below (below_drewN (Below.refl _ _) k))
    have p5' : ∀ k, (w2.drewN k).cell? ⟨g1, 5, none⟩ = some (.slice ao m.objs.length co) := fun k => p5
    have q5' : ∀ k, (w2.drewN k).cell? ⟨g2, 5, none⟩ = some (.slice ao' n.objs.length co') := fun k => q5
    have HE := Lib.hid (HT.out (of_decide_eq_true E0.out) (of_decide_eq_true E1.out) (of_decide_eq_true E2.out) (of_decide_eq_true E3.out) (of_decide_eq_true E4.out))
    go_wp2_with fail
    with_reducible refine hp.mono ?_
    rintro e w3 ⟨rfl, nq, rfl⟩
    clear hp
    go_wp2_with fail
    with_reducible refine (ho nq).mono ?_
    rintro e w3 ⟨rfl, nq', rfl⟩
    go_wp2_with fail
    go_ret
    exact ⟨by rw [HE.out]; first | rfl | simp, below_drewN B _⟩
end Go.Proofs.YtegiingcnhafbaaGreatDoor
