/- The document's SameObject, SameObjects, SameManifest. -/
import Derived.Test.YtegiingcnhafbaaGreatDoorManSame
import Derived.Test.YtegiingcnhafbaaGreatDoorSamePairs
import Derived.StillTailTactics
namespace Go.Proofs.YtegiingcnhafbaaGreatDoor
open Go Go.RowKit Man

set_option maxRecDepth 100000 in
set_option maxHeartbeats 400000 in
theorem sameObject_calls (a b : ObjD) (w : World) :
    Calls Tryz.prog 57 #[.agg #[.string a.name, .int .i64 a.len, .int .u32 (a.sum : Int)], .agg #[.string b.name, .int .i64 b.len, .int .u32 (b.sum : Int)]] w (fun e w' => e = .returned (.bool (decide (a = b))) ∧ Below w.heap.size w w') := by
  have HE := Lib.hid (show a.name = b.name → a.len = b.len → a.sum = b.sum → decide (a = b) = true from fun h0 h1 h2 => by
    cases a; cases b; simp only at h0 h1 h2; subst h0 h1 h2; simp)
  have HF := Lib.hid (show ¬ (a.name = b.name ∧ a.len = b.len ∧ a.sum = b.sum) → decide (a = b) = false from fun h => decide_eq_false (fun e => h (by subst e; exact ⟨rfl, rfl, rfl⟩)))
  have b1 := below_alloc w (.cells #[.string a.name, .int .i64 a.len, .int .u32 (a.sum : Int)] 44)
  have b2 := below_alloc (w.alloc (.cells #[.string a.name, .int .i64 a.len, .int .u32 (a.sum : Int)] 44)) (.cells #[.string b.name, .int .i64 b.len, .int .u32 (b.sum : Int)] 44)
  have hb := nxt b1 b2
  clear b1 b2
  by_cases e0 : a.name = b.name
  · have t0 : (a.name.toList == b.name.toList) = true := by rw [name_beq]; exact decide_eq_true e0
    have E0 := Lib.hid e0
    clear e0
    by_cases e1 : a.len = b.len
    · have t1 : (a.len == b.len) = true := by rw [beq_iff_eq]; exact e1
      have E1 := Lib.hid e1
      clear e1
      by_cases e2 : a.sum = b.sum
      · have t2 : ((a.sum : Int) == (b.sum : Int)) = true := by rw [beq_iff_eq]; simp only [e2]
        have E2 := Lib.hid e2
        clear e2
        go_enter Tryz.func57, Tryz.ntmps57
        go_wp2_with fail
        go_ret
        exact ⟨by rw [HE.out E0.out E1.out E2.out]; first | rfl | simp, hb⟩
      · have t2 : ((a.sum : Int) == (b.sum : Int)) = false := by rw [beq_eq_false_iff_ne]; exact fun h => e2 (by exact_mod_cast h)
        have E2 := Lib.hid e2
        clear e2
        go_enter Tryz.func57, Tryz.ntmps57
        go_wp2_with fail
        go_ret
        exact ⟨by rw [HF.out (fun h => E2.out h.2.2)]; first | rfl | simp, hb⟩
    · have t1 : (a.len == b.len) = false := by rw [beq_eq_false_iff_ne]; exact e1
      have E1 := Lib.hid e1
      clear e1
      go_enter Tryz.func57, Tryz.ntmps57
      go_wp2_with fail
      go_ret
      exact ⟨by rw [HF.out (fun h => E1.out h.2.1)]; first | rfl | simp, hb⟩
  · have t0 : (a.name.toList == b.name.toList) = false := by rw [name_beq]; exact decide_eq_false e0
    have E0 := Lib.hid e0
    clear e0
    go_enter Tryz.func57, Tryz.ntmps57
    go_wp2_with fail
    go_ret
    exact ⟨by rw [HF.out (fun h => E0.out h.1)]; first | rfl | simp, hb⟩

set_option maxRecDepth 100000 in
set_option maxHeartbeats 1000000 in
theorem sameObjects_calls (va vb : Value) (l1 l2 : List ObjD) (w : World) (h1 : Rd w 3 va l1.length (l1.flatMap obV)) (h2 : Rd w 3 vb l2.length (l2.flatMap obV)) :
    Calls Tryz.prog 27 #[va, vb] w (fun e w' => e = .returned (.bool (decide (l1 = l2))) ∧ Below w.heap.size w w') := by
  obtain ⟨a1, c1, rfl⟩ := h1.slice
  obtain ⟨a2, c2, rfl⟩ := h2.slice
  have m1 := h1.len_le
  have m2 := h2.len_le
  by_cases hl : l1.length = l2.length
  · have hl' : ((l1.length : Int) != (l2.length : Int)) = false := by rw [hl]; simp
    have HL := Lib.hid hl
    clear hl
    go_enter Tryz.func27, Tryz.ntmps27
    go_wp2_with fail
    go_loopw [5, 6] (fun iv _ wr => ∃ k : Nat, k ≤ l1.length ∧ iv = .int .i64 k ∧ l1.take k = l2.take k ∧ Below w.heap.size w wr) (fun iv _ _ => l1.length - (intOf iv).toNat)
    case atStart => exact ⟨0, Nat.zero_le _, rfl, rfl, Below.refl _ _⟩
    case round =>
      obtain ⟨k, hk, rfl, hs, hb⟩ := hrel
      have HS := Lib.hid hs
      clear hs
      by_cases hlt : k < l1.length
      · have hlt2 : k < l2.length := by have := HL.out; omega
        obtain ⟨b1, o1, rfl, hx1⟩ := objs_at (h1.below hb) k hlt
        obtain ⟨b2, o2, rfl, hx2⟩ := objs_at (h2.below hb) k hlt2
        obtain ⟨p0, p1, p2⟩ := hx1 k hlt
        obtain ⟨q0, q1, q2⟩ := hx2 k hlt2
        have htn := fun e => take_next hlt hlt2 HS.out e
        have hne : l1[k] ≠ l2[k] → decide (l1 = l2) = false := fun e => decide_eq_false (fun h => by subst h; exact e rfl)
        have hsc := sameObject_calls l1[k] l2[k] wr.drew
        obtain ⟨x, hx⟩ : ∃ x, x = l1[k] := ⟨_, rfl⟩
        obtain ⟨y, hy⟩ : ∃ y, y = l2[k] := ⟨_, rfl⟩
        rw [← hx, ← hy] at hsc htn hne
        rw [← hx] at p0 p1 p2
        rw [← hy] at q0 q1 q2
        have HTN := Lib.hid htn
        have HNE := Lib.hid hne
        clear hx1 hx2 hx hy htn hne
        go_wp2_with fail
        go_still_tail 8, (by kernel_rfl)
        change wpList _ _ _ _ _ wr.drew
        go_wp2_with fail
        refine hsc.mono ?_
        rintro e w3 ⟨rfl, b3⟩
        have B3 : Below w.heap.size w w3 := nxt (nxt hb ((Below.refl _ _).drew)) b3
        by_cases he : x = y
        · rw [decide_eq_true he]
          have HE := Lib.hid he
          clear he hsc
          go_wp2_with fail
          exact ⟨⟨k + 1, by omega, by go_num, HTN.out HE.out, B3⟩, by simp [intOf]; omega⟩
        · rw [decide_eq_false he]
          have HE := Lib.hid he
          clear he hsc
          go_wp2_with fail
          go_ret
          rw [HNE.out HE.out]
          exact ⟨rfl, B3⟩
      · have HS2 := Lib.hid (show decide (l1 = l2) = true by
          have hs := HS.out
          rw [List.take_of_length_le (by omega), List.take_of_length_le (by have := HL.out; omega)] at hs
          exact decide_eq_true hs)
        go_wp2_with fail
        go_ret
        rw [HS2.out]
        exact ⟨rfl, hb⟩
  · have hl' : ((l1.length : Int) != (l2.length : Int)) = true := by rw [bne_iff_ne]; omega
    have HS2 := Lib.hid (show decide (l1 = l2) = false from decide_eq_false (fun e => hl (by rw [e])))
    clear hl
    go_enter Tryz.func27, Tryz.ntmps27
    go_wp2_with fail
    go_ret
    rw [HS2.out]
    exact ⟨rfl, Below.refl _ _⟩

set_option maxRecDepth 100000 in
set_option maxHeartbeats 2000000 in
theorem sameMan_calls {w : World} {m n : ManD} {ve vo ue uo : Value} (h : ManRd w m ve vo) (h' : ManRd w n ue uo) :
    Calls Tryz.prog 8 #[manA m ve vo, manA n ue uo] w (fun e w' => e = .returned (.bool (decide (m = n))) ∧ Below w.heap.size w w') := by
  obtain ⟨re, ro⟩ := h
  obtain ⟨se, so⟩ := h'
  obtain ⟨ae, ce, rfl⟩ := re.slice
  obtain ⟨ao, co, rfl⟩ := ro.slice
  obtain ⟨ae', ce', rfl⟩ := se.slice
  obtain ⟨ao', co', rfl⟩ := so.slice
  have HT := Lib.hid (show m.id = n.id → m.base = n.base → m.fin = n.fin → m.time = n.time → m.eps = n.eps → m.objs = n.objs → decide (m = n) = true from fun h0 h1 h2 h3 h4 h5 => by
    cases m; cases n; simp only at h0 h1 h2 h3 h4 h5; subst h0 h1 h2 h3 h4 h5; simp)
  have HF := Lib.hid (show ¬ (m.id = n.id ∧ m.base = n.base ∧ m.fin = n.fin ∧ m.time = n.time ∧ m.eps = n.eps ∧ m.objs = n.objs) → decide (m = n) = false from fun h => decide_eq_false (fun e => h (by subst e; exact ⟨rfl, rfl, rfl, rfl, rfl, rfl⟩)))
  have b1 := below_alloc w (.cells #[.int .i64 m.id, .int .i64 m.base, .int .i64 m.fin, .int .i64 m.time, .slice ae m.eps.length ce, .slice ao m.objs.length co] 27)
  have row1 := heap_alloc_new w (.cells #[.int .i64 m.id, .int .i64 m.base, .int .i64 m.fin, .int .i64 m.time, .slice ae m.eps.length ce, .slice ao m.objs.length co] 27)
  obtain ⟨w1, hw1⟩ : ∃ w1, w1 = w.alloc (.cells #[.int .i64 m.id, .int .i64 m.base, .int .i64 m.fin, .int .i64 m.time, .slice ae m.eps.length ce, .slice ao m.objs.length co] 27) := ⟨_, rfl⟩
  rw [← hw1] at b1 row1
  have b2 := below_alloc w1 (.cells #[.int .i64 n.id, .int .i64 n.base, .int .i64 n.fin, .int .i64 n.time, .slice ae' n.eps.length ce', .slice ao' n.objs.length co'] 27)
  have row2 := heap_alloc_new w1 (.cells #[.int .i64 n.id, .int .i64 n.base, .int .i64 n.fin, .int .i64 n.time, .slice ae' n.eps.length ce', .slice ao' n.objs.length co'] 27)
  have row1' := heap_below b2 row1
  have B := nxt b1 b2
  unfold manA
  go_enter Tryz.func8, Tryz.ntmps8
  go_upto_region 1 with fail
  rw [← hw1]
  obtain ⟨w2, hw2⟩ : ∃ w2, w2 = w1.alloc (.cells #[.int .i64 n.id, .int .i64 n.base, .int .i64 n.fin, .int .i64 n.time, .slice ae' n.eps.length ce', .slice ao' n.objs.length co'] 27) := ⟨_, rfl⟩
  obtain ⟨g1, hg1⟩ : ∃ g1, g1 = w.heap.size := ⟨_, rfl⟩
  obtain ⟨g2, hg2⟩ : ∃ g2, g2 = w1.heap.size := ⟨_, rfl⟩
  have hsz : w1.heap.size = w.heap.size + 1 := by rw [hw1]; simp
  rw [← hsz]
  rw [← hw2] at b2 row2 row1' B ⊢
  rw [← hg1] at row1' ⊢
  rw [← hg2] at row2 ⊢
  have RE := re.below B
  have RO := ro.below B
  have SE := se.below B
  have SO := so.below B
  clear hw1 hw2 hg1 hg2 row1 b1 b2 re ro se so hsz
  have hp := samePairs_calls _ _ _ _ w2 RE SE
  have D : ∀ W, Below w2.heap.size w2 W → (W.cell? ⟨g1, 0, none⟩ = some (.int .i64 m.id) ∧ W.cell? ⟨g1, 1, none⟩ = some (.int .i64 m.base) ∧ W.cell? ⟨g1, 2, none⟩ = some (.int .i64 m.fin) ∧ W.cell? ⟨g1, 3, none⟩ = some (.int .i64 m.time) ∧ W.cell? ⟨g1, 4, none⟩ = some (.slice ae m.eps.length ce) ∧ W.cell? ⟨g1, 5, none⟩ = some (.slice ao m.objs.length co)) ∧
      (W.cell? ⟨g2, 0, none⟩ = some (.int .i64 n.id) ∧ W.cell? ⟨g2, 1, none⟩ = some (.int .i64 n.base) ∧ W.cell? ⟨g2, 2, none⟩ = some (.int .i64 n.fin) ∧ W.cell? ⟨g2, 3, none⟩ = some (.int .i64 n.time) ∧ W.cell? ⟨g2, 4, none⟩ = some (.slice ae' n.eps.length ce') ∧ W.cell? ⟨g2, 5, none⟩ = some (.slice ao' n.objs.length co')) := fun W hB => by
    have r1 := heap_below hB row1'
    have r2 := heap_below hB row2
    exact ⟨⟨cell_of_row _ _ 0 _ _ _ r1, cell_of_row _ _ 1 _ _ _ r1, cell_of_row _ _ 2 _ _ _ r1, cell_of_row _ _ 3 _ _ _ r1, cell_of_row _ _ 4 _ _ _ r1, cell_of_row _ _ 5 _ _ _ r1⟩, ⟨cell_of_row _ _ 0 _ _ _ r2, cell_of_row _ _ 1 _ _ _ r2, cell_of_row _ _ 2 _ _ _ r2, cell_of_row _ _ 3 _ _ _ r2, cell_of_row _ _ 4 _ _ _ r2, cell_of_row _ _ 5 _ _ _ r2⟩⟩
  obtain ⟨⟨-, -, -, -, p4, p5⟩, ⟨-, -, -, -, q4, q5⟩⟩ := D w2 (Below.refl _ _)
  clear row1' row2
  go_wp2_with fail
  with_reducible refine hp.mono ?_
  rintro e w3 ⟨rfl, b3⟩
  clear p4 p5 q4 q5 hp
  obtain ⟨⟨-, -, -, -, p4, p5⟩, ⟨-, -, -, -, q4, q5⟩⟩ := D w3 b3
  have ho := sameObjects_calls _ _ _ _ w3 (RO.below b3) (SO.below b3)
  obtain ⟨x4, hx4⟩ : ∃ x, x = decide (m.eps = n.eps) := ⟨_, rfl⟩
  obtain ⟨x5, hx5⟩ : ∃ x, x = decide (m.objs = n.objs) := ⟨_, rfl⟩
  rw [← hx5] at ho
  rw [← hx4]
  have X4 := Lib.hid hx4
  have X5 := Lib.hid hx5
  clear hx4 hx5
  go_wp2_with fail
  with_reducible refine ho.mono ?_
  rintro e w4 ⟨rfl, b4⟩
  clear p4 p5 q4 q5 ho
  obtain ⟨⟨p0, p1, p2, p3, -, -⟩, ⟨q0, q1, q2, q3, -, -⟩⟩ := D w4 (nxt b3 b4)
  have B4 := nxt B (nxt b3 b4)
  clear RE RO SE SO D b3 b4 B
  cases x4
  · go_wp2_with fail
    go_ret
    exact ⟨by rw [HF.out (fun h => of_decide_eq_false X4.out.symm h.2.2.2.2.1)]; rfl, B4⟩
  cases x5
  · go_wp2_with fail
    go_ret
    exact ⟨by rw [HF.out (fun h => of_decide_eq_false X5.out.symm h.2.2.2.2.2)]; rfl, B4⟩
  cases e0 : decide (m.id = n.id)
  · have t0 : (m.id == n.id) = false := beq_eq_false_iff_ne.2 (of_decide_eq_false e0)
    have E0 := Lib.hid e0
    clear e0
    go_wp2_with fail
    go_ret
    exact ⟨by rw [HF.out (fun h => of_decide_eq_false E0.out h.1)]; rfl, B4⟩
  have t0 : (m.id == n.id) = true := beq_iff_eq.2 (of_decide_eq_true e0)
  have E0 := Lib.hid e0
  clear e0
  cases e1 : decide (m.base = n.base)
  · have t1 : (m.base == n.base) = false := beq_eq_false_iff_ne.2 (of_decide_eq_false e1)
    have E1 := Lib.hid e1
    clear e1
    go_wp2_with fail
    go_ret
    exact ⟨by rw [HF.out (fun h => of_decide_eq_false E1.out h.2.1)]; rfl, B4⟩
  have t1 : (m.base == n.base) = true := beq_iff_eq.2 (of_decide_eq_true e1)
  have E1 := Lib.hid e1
  clear e1
  cases e2 : decide (m.fin = n.fin)
  · have t2 : (m.fin == n.fin) = false := beq_eq_false_iff_ne.2 (of_decide_eq_false e2)
    have E2 := Lib.hid e2
    clear e2
    go_wp2_with fail
    go_ret
    exact ⟨by rw [HF.out (fun h => of_decide_eq_false E2.out h.2.2.1)]; rfl, B4⟩
  have t2 : (m.fin == n.fin) = true := beq_iff_eq.2 (of_decide_eq_true e2)
  have E2 := Lib.hid e2
  clear e2
  cases e3 : decide (m.time = n.time)
  · have t3 : (m.time == n.time) = false := beq_eq_false_iff_ne.2 (of_decide_eq_false e3)
    have E3 := Lib.hid e3
    clear e3
    go_wp2_with fail
    go_ret
    exact ⟨by rw [HF.out (fun h => of_decide_eq_false E3.out h.2.2.2.1)]; rfl, B4⟩
  have t3 : (m.time == n.time) = true := beq_iff_eq.2 (of_decide_eq_true e3)
  have E3 := Lib.hid e3
  clear e3
  go_wp2_with fail
  go_ret
  exact ⟨by rw [HT.out (of_decide_eq_true E0.out) (of_decide_eq_true E1.out) (of_decide_eq_true E2.out) (of_decide_eq_true E3.out) (of_decide_eq_true X4.out.symm) (of_decide_eq_true X5.out.symm)]; rfl, B4⟩

end Go.Proofs.YtegiingcnhafbaaGreatDoor
