/- rec.body: what stands behind a batch's head. -/
import Derived.Test.YtlfbdcgojbfcaaaDoorRecValid
import Derived.Test.YtlfbdcgojbfcaaaDoorRecLittle
import Derived.Test.YtlfbdcgojbfcaaaDoorRecBackMath
import Derived.Test.YtlfbdcgojbfcaaaDoorVintInt
import Derived.Deep.DeepCutAuto
namespace Go.Proofs.YtlfbdcgojbfcaaaDoor
open Go Go.RowKit Rec Vint

theorem owns_rowIs {w : World} {base e sz n : Nat} {v : Value} {xs : List Value} (h : w.ownsRow base e sz v n xs) : ∀ k, v.ownBlock = some k → ∃ c f, w.heap[k]? = some (.cells c e f) := by
  intro k hk
  rcases h.2 with ⟨rfl, _⟩ | ⟨g, cap, cur, rfl, _, hg, _⟩
  · simp [Value.ownBlock] at hk
  · simp only [Value.ownBlock, Option.some.injEq] at hk
    subst hk
    exact ⟨_, _, hg⟩

theorem owns_ne {w : World} {base e sz n g : Nat} {v : Value} {xs : List Value} {c : Array Value} {t : TypeId} {f : Nat × Nat} (h : w.ownsRow base e sz v n xs) (hg : w.heap[g]? = some (.cells c t f)) (ht : e ≠ t) : v.ownBlock ≠ some g := by
  intro e1
  obtain ⟨c', f', h'⟩ := owns_rowIs h g e1
  exact row_ne hg h' ht rfl

def partN (r : RecD) : Nat → List UInt8
  | 0 => []
  | 1 => putL r.key.length ++ r.key
  | _ => putL r.key.length ++ (r.key ++ (putL r.val.length ++ r.val))

theorem recsL_drop (lst : Int) (l : List RecD) (i : Nat) (hi : i < l.length) : recsL lst (l.drop i) = recL lst l[i] ++ recsL l[i].time (l.drop (i + 1)) := by
  rw [List.drop_eq_getElem_cons hi]; rfl

set_option maxRecDepth 100000 in
set_option maxHeartbeats 4000000 in
theorem recBody_calls {w : World} {b : BatD} {v : Value} (hv : valid b = 0) (h : RecsRd w v b.recs) :
    Calls Tryd.prog 47 #[batA b v] w (NewRow 5 1 (bodyL b).length (bvs (bodyL b)) w) := by
  obtain ⟨i0, hi, hz0, hz1, hz2⟩ := info_parts info_u8
  obtain ⟨⟨hn1, hn2⟩, ⟨hb1, hb2, he1, he2⟩, hall⟩ := (valid_iff b).1 hv
  have hfst := first_bd hv
  have hblen := body_len hv
  obtain ⟨ba, ep, l⟩ := b
  simp only at h hn1 hn2 hb1 hb2 he1 he2 hall
  obtain ⟨q, rfl⟩ : ∃ q : Nat, ba = q := ⟨ba.toNat, by omega⟩
  obtain ⟨p, rfl⟩ : ∃ p : Nat, ep = p := ⟨ep.toNat, by omega⟩
  obtain ⟨fi, hfi⟩ : ∃ fi, fi = first ⟨q, p, l⟩ := ⟨_, rfl⟩
  rw [← hfi] at hfst
  have hbody : bodyL ⟨q, p, l⟩ = lit q 8 ++ (lit p 4 ++ (lit l.length 2 ++ (putL (fold fi) ++ recsL fi l))) := by
    rw [hfi]; unfold bodyL; simp only [Int.toNat_natCast]
  obtain ⟨BL, hBL⟩ : ∃ BL, BL = bodyL ⟨q, p, l⟩ := ⟨_, rfl⟩
  rw [← hBL] at hbody hblen ⊢
  have HBODY := Lib.hid hbody
  obtain ⟨a, c, rfl⟩ := h.slice
  have h0 : 0 < l.length := by omega
  have hf0 : l[0].time = fi := by
    rw [hfi]; unfold first
    cases l with
    | nil => simp at h0
    | cons r l => rfl
  have HALL := Lib.hid hall
  have b1 := below_alloc w (.cells #[.int .i64 (q : Int), .int .i64 (p : Int), .slice a l.length c] 34)
  have row1 := heap_alloc_new w (.cells #[.int .i64 (q : Int), .int .i64 (p : Int), .slice a l.length c] 34)
  obtain ⟨bb, o, rfl, hcs⟩ := (h.below b1).cells 0 h0
  obtain ⟨vk0, vv0, t0, _⟩ := hcs 0 h0
  rw [hf0] at t0
  have hww : w.heap.size < (w.alloc (.cells #[.int .i64 (q : Int), .int .i64 (p : Int), .slice (some ⟨bb, o, none⟩) l.length c] 34)).heap.size := by simp
  have w64 : ∀ n : Nat, n ≤ 1099511627776 → IntKind.u64.wrap (n : Int) = (n : Int) := fun n hn => by rw [IntKind.wrap_u64]; omega
  have uq := w64 q (by omega)
  have up := w64 p (by omega)
  have ul := w64 l.length (by omega)
  have W64 := Lib.hid w64
  clear w64
  unfold batA
  simp only
  clear hcs hf0 hfi hBL hbody hall hv
  go_enter Tryd.func47, Tryd.ntmps47
  generalize hw1 : w.alloc (.cells #[.int .i64 (q : Int), .int .i64 (p : Int), .slice (some ⟨bb, o, none⟩) l.length c] 34) = w1 at *
  go_upto_region 1 with fail
  clear hw1
  have row1' := fun W (hB : Below w1.heap.size w1 W) => heap_below hB row1
  have D : ∀ W, Below w1.heap.size w1 W → W.cell? ⟨w.heap.size, 0, none⟩ = some (.int .i64 (q : Int)) ∧ W.cell? ⟨w.heap.size, 1, none⟩ = some (.int .i64 (p : Int)) ∧ W.cell? ⟨w.heap.size, 2, none⟩ = some (.slice (some ⟨bb, o, none⟩) l.length c) ∧ W.cell? ⟨bb, o, none⟩ = some (.int .i64 fi) := fun W hB => by
    have r := row1' W hB
    refine ⟨cell_of_row _ _ 0 _ _ _ r, cell_of_row _ _ 1 _ _ _ r, cell_of_row _ _ 2 _ _ _ r, ?_⟩
    have t0' : w1.cell? ⟨bb, o, none⟩ = some (.int .i64 fi) := by simpa using t0
    rw [hB.cell (World.block_lt_of_cell? _ _ t0')]; exact t0'
  clear row1' row1 t0
  have hl1 := recLittle_calls (w0 := w1) q 8 (Below.refl _ _) (World.ownsRow_nil w1 w1.heap.size 5 1) (l := []) (by omega) (by omega)
  rw [show ((8 : Nat) : Int) = 8 from rfl] at hl1
  obtain ⟨d0, d1, d2, d3⟩ := D w1 (Below.refl _ _)
  go_wp2_with fail
  refine hl1.mono ?_
  rintro e w2 ⟨v2, rfl, o2, b2⟩
  rw [List.nil_append, Nat.zero_add] at o2
  obtain ⟨a2, c2, rfl⟩ := owns_slice o2
  have hl2 := recLittle_calls (w0 := w1) p 4 b2 o2 (by omega) (by omega)
  rw [show ((4 : Nat) : Int) = 4 from rfl] at hl2
  clear hl1 d0 d1 d2 d3 o2
  obtain ⟨d0, d1, d2, d3⟩ := D w2 b2
  go_wp2_with fail
  refine hl2.mono ?_
  rintro e w3 ⟨v3, rfl, o3, b3⟩
  obtain ⟨a3, c3, rfl⟩ := owns_slice o3
  have hl3 := recLittle_calls (w0 := w1) l.length 2 b3 o3 (by omega) (by omega)
  rw [show ((2 : Nat) : Int) = 2 from rfl] at hl3
  clear hl2 d0 d1 d2 d3 o3 b2
  obtain ⟨d0, d1, d2, d3⟩ := D w3 b3
  go_wp2_with fail
  refine hl3.mono ?_
  rintro e w4 ⟨v4, rfl, o4, b4⟩
  rw [show 8 + 4 + 2 = 14 from rfl] at o4
  obtain ⟨a4, c4, rfl⟩ := owns_slice o4
  clear hl3 d0 d1 d2 d3 b3
  have hp := putInt_calls _ 14 _ fi w4 (Rd.of_owns o4) (by omega) ⟨by omega, by omega⟩
  obtain ⟨d0, d1, d2, d3⟩ := D w4 b4
  go_wp2_with fail
  refine hp.mono ?_
  rintro e w5 ⟨v5, rfl, o5, b5⟩
  have B5 := nxt b4 b5
  obtain ⟨em0, hem⟩ : ∃ em, em = lit q 8 ++ lit p 4 ++ lit l.length 2 ++ putL (fold fi) := ⟨_, rfl⟩
  have hlen0 : 14 + (putL (fold fi)).length = em0.length := by rw [hem]; simp only [List.length_append, lit_length]
  have hE0 : em0 ++ recsL fi (l.drop 0) = BL := by rw [hem, HBODY.out, List.drop_zero]; simp
  rw [← hem, hlen0] at o5
  have HE0 := Lib.hid hE0
  have o5' := owns_base (base' := w1.heap.size) o5 b4.size
  obtain ⟨a5, c5, rfl⟩ := owns_slice o5
  clear hp d0 d1 d3 o5 o4 hem hlen0 hE0
  obtain ⟨_, _, d2', _⟩ := D w5 B5
  go_wp2_with fail
  go_loopw [3, 4, 35] (fun ov lv iv wr => ∃ (i : Nat) (lst : Int) (em : List UInt8), iv = .int .i64 i ∧ i ≤ l.length ∧ lv = .int .i64 lst ∧ (-1099511627776 ≤ lst ∧ lst ≤ 1099511627776) ∧ Hid (em ++ recsL lst (l.drop i) = BL) ∧ wr.ownsRow w1.heap.size 5 1 ov em.length (bvs em) ∧ Below w1.heap.size w1 wr) (fun _ _ iv _ => l.length - (intOf iv).toNat)
  case atStart => exact ⟨0, fi, em0, rfl, Nat.zero_le _, rfl, hfst, HE0, o5', B5⟩
  case round =>
    obtain ⟨i, lst, em, rfl, hi2, rfl, hlst, HE, ho, hb⟩ := hrel
    obtain ⟨ao, co, rfl⟩ := owns_slice ho
    have heml : em.length ≤ 40000 := by have := congrArg List.length HE.out; rw [List.length_append] at this; omega
    by_cases hlt : i < l.length
    · obtain ⟨b', o', e1, hcs⟩ := (h.below b1).cells i hlt
      simp only [Option.some.injEq, Addr.mk.injEq] at e1
      obtain ⟨rfl, rfl, _⟩ := e1
      obtain ⟨vk, vv, p0, p1, p2, rk, rv⟩ := hcs i hlt
      have hE2 := HE.out
      rw [recsL_drop lst l i hlt] at hE2
      have hro := List.all_eq_true.1 HALL.out l[i] (List.getElem_mem hlt)
      obtain ⟨r, hr⟩ : ∃ r, r = l[i] := ⟨_, rfl⟩
      rw [← hr] at p0 rk rv hE2 hro
      unfold recOk at hro
      rw [decide_eq_true_eq] at hro
      have HE2 := Lib.hid hE2
      have q0 : wr.cell? ⟨bb, o + i * 3, none⟩ = some (.int .i64 r.time) := by rw [hb.cell (World.block_lt_of_cell? _ _ p0)]; exact p0
      have q1 : wr.cell? ⟨bb, o + i * 3 + 1, none⟩ = some vk := by rw [hb.cell (World.block_lt_of_cell? _ _ p1)]; exact p1
      have q2 : wr.cell? ⟨bb, o + i * 3 + 2, none⟩ = some vv := by rw [hb.cell (World.block_lt_of_cell? _ _ p2)]; exact p2
      obtain ⟨ak, ck, rfl⟩ := rk.slice
      obtain ⟨av, cv, rfl⟩ := rv.slice
      clear hcs hr hE2 p0 p1 p2
      obtain ⟨t, ht⟩ : ∃ t, t = r.time := ⟨_, rfl⟩
      rw [← ht] at q0 hro
      have HT := Lib.hid ht
      have row6 := heap_alloc_new wr (.cells #[.int .i64 t, .slice ak r.key.length ck, .slice av r.val.length cv] 44)
      have b6 := below_alloc wr (.cells #[.int .i64 t, .slice ak r.key.length ck, .slice av r.val.length cv] 44)
      have B6 := nxt hb b6
      have o6 := owns_below ho b6
      have wt : IntKind.i64.wrap (t - lst) = t - lst := by rw [IntKind.wrap_i64]; omega
      clear ht ho
      go_upto_region 9 with fail
      generalize wr.alloc (.cells #[.int .i64 t, .slice ak r.key.length ck, .slice av r.val.length cv] 44) = w6 at *
      generalize wr.heap.size = g6 at *
      have e0 : w6.cell? ⟨g6, 0, none⟩ = some (.int .i64 t) := cell_of_row _ _ 0 _ _ _ row6
      have hp2 := putInt_calls (.slice none 0 0) 0 [] (t - lst) w6 (Rd.nil _ _) (by omega) ⟨by omega, by omega⟩
      unfold NewRow at hp2
      rw [Nat.zero_add, List.nil_append] at hp2
      have hl10 := putL_len10 (fold (t - lst)) (fold_lt _ (by omega) (by omega))
      go_wp2_with fail
      refine hp2.mono ?_
      rintro e w7 ⟨v7, rfl, o7, b7⟩
      obtain ⟨a7, c7, rfl⟩ := owns_slice o7
      have row7 := heap_below b7 row6
      have B7 := nxt B6 b7
      have hsz7 : w1.heap.size ≤ w7.heap.size := B7.size
      go_wp2_with (at_builtin; refine wpList_append_rdg rfl _ _ 42 rfl w1.heap.size 5 i0 (.int .u8 0) 1 1 Tryd.underlying42 hi hz0 hz1 hz2 rfl (by decide) _ em.length (bvs em) rfl (owns_below o6 b7) _ _ (bvs (putL (fold (t - lst)))) rfl (Rd.of_owns o7) (bvs_one _) ?c3 ?c4 ?c5 ?_)
      case c3 => unfold maxLen; omega
      case c4 => omega
      case c5 => exact hsz7
      intro v8 w8 o8 g8 Tr
      have B8 : Below w1.heap.size w1 w8 := Tr w1 B7 (Nat.le_refl _)
      have row8 : w8.heap[g6]? = some (.cells #[.int .i64 t, .slice ak r.key.length ck, .slice av r.val.length cv] 44 (0, 0)) := by
        rw [g8.block g6 (Array.getElem?_eq_some_iff.1 row7).1 (fun e => owns_ne (owns_below o6 b7) row7 (by decide) e.symm)]; exact row7
      obtain ⟨em1, hem1⟩ : ∃ em1, em1 = em ++ putL (fold (t - lst)) := ⟨_, rfl⟩
      rw [← bvs_append, ← hem1, show em.length + (putL (fold (t - lst))).length = em1.length by rw [hem1]; simp] at o8
      have hm1l : em1.length ≤ 40010 := by rw [hem1, List.length_append]; omega
      have HEM1 := Lib.hid hem1
      obtain ⟨a8, c8, rfl⟩ := owns_slice o8
      clear hp2 g8 Tr o7 o6 row7 e0 row6 hem1
      have f0 : w8.cell? ⟨g6, 0, none⟩ = some (.int .i64 t) := cell_of_row _ _ 0 _ _ _ row8
      have f1 : w8.cell? ⟨g6, 1, none⟩ = some (.slice ak r.key.length ck) := cell_of_row _ _ 1 _ _ _ row8
      have f2 : w8.cell? ⟨g6, 2, none⟩ = some (.slice av r.val.length cv) := cell_of_row _ _ 2 _ _ _ row8
      have row9 := heap_alloc_new w8 (.cells #[.slice ak r.key.length ck, .slice av r.val.length cv] 42)
      have b9 := below_alloc w8 (.cells #[.slice ak r.key.length ck, .slice av r.val.length cv] 42)
      have B9 := nxt B8 b9
      have o9 := owns_below o8 b9
      clear row8 B6 B7 hsz7
      go_wp2_with fail
      generalize w8.alloc (.cells #[.slice ak r.key.length ck, .slice av r.val.length cv] 42) = w9 at *
      generalize w8.heap.size = g9 at *
      have hpl : ∀ j, (partN r j).length ≤ 700 := by
        intro j
        have h1 := putL_len10 r.key.length (by omega)
        have h2 := putL_len10 r.val.length (by omega)
        rcases j with _ | _ | j <;> simp only [partN, List.length_append, List.length_nil] <;> omega
      clear f0 f1 f2
      go_loopw [3, 54] (fun ov iv wq => ∃ j : Nat, iv = .int .i64 j ∧ j ≤ 2 ∧ wq.ownsRow w1.heap.size 5 1 ov (em1 ++ partN r j).length (bvs (em1 ++ partN r j)) ∧ wq.heap[g9]? = some (.cells #[.slice ak r.key.length ck, .slice av r.val.length cv] 42 (0, 0)) ∧ Below w1.heap.size w1 wq) (fun _ iv _ => 2 - (intOf iv).toNat)
      case atStart => exact ⟨0, rfl, Nat.zero_le _, by simpa [partN] using o9, row9, B9⟩
      case round =>
        obtain ⟨j, rfl, hj, hoq, hrow, hbq⟩ := hrel
        obtain ⟨aq, cq, rfl⟩ := owns_slice hoq
        have hlq := hpl j
        obtain ⟨eq, heq⟩ : ∃ eq, eq = em1 ++ partN r j := ⟨_, rfl⟩
        have heql : eq.length ≤ 40710 := by rw [heq, List.length_append]; omega
        rw [← heq] at hoq ⊢
        by_cases hlt2 : j < 2
        · obtain ⟨ax, cx, x, hcx, hrx, hpx, hxl⟩ : ∃ ax cx x, wr.cell? ⟨g9, j, none⟩ = some (.slice ax x.length cx) ∧ Rd w1 1 (.slice ax x.length cx) x.length (bvs x) ∧ partN r (j + 1) = partN r j ++ putL x.length ++ x ∧ x.length ≤ 512 := by
            rcases (show j = 0 ∨ j = 1 by omega) with rfl | rfl
            · exact ⟨_, _, r.key, cell_of_row _ _ 0 _ _ _ hrow, rk, by simp [partN], by omega⟩
            · exact ⟨_, _, r.val, cell_of_row _ _ 1 _ _ _ hrow, rv, by simp [partN], by omega⟩
          have hq2 : em1 ++ partN r (j + 1) = eq ++ putL x.length ++ x := by rw [hpx, heq]; simp
          have HQ2 := Lib.hid hq2
          have hpc := put_calls (.slice none 0 0) 0 [] x.length wr (Rd.nil _ _) (by omega) (by unfold U64; omega)
          unfold NewRow at hpc
          rw [Nat.zero_add, List.nil_append] at hpc
          have hl10 := putL_len10 x.length (by omega)
          have wx := W64.out x.length (by omega)
          have hgl : g9 < wr.heap.size := (Array.getElem?_eq_some_iff.1 hrow).1
          clear heq hpx hq2
          go_wp2_with fail
          refine hpc.mono ?_
          rintro e wa ⟨va, rfl, oa, ba⟩
          obtain ⟨aa, ca, rfl⟩ := owns_slice oa
          have rowa := heap_below ba hrow
          have Ba := nxt hbq ba
          have hsza : w1.heap.size ≤ wa.heap.size := Ba.size
          clear hpc
          go_wp2_with (at_builtin; refine wpList_append_rdg rfl _ _ 42 rfl w1.heap.size 5 i0 (.int .u8 0) 1 1 Tryd.underlying42 hi hz0 hz1 hz2 rfl (by decide) _ eq.length (bvs eq) rfl (owns_below hoq ba) _ _ (bvs (putL x.length)) rfl (Rd.of_owns oa) (bvs_one _) ?c3 ?c4 ?c5 ?_)
          case c3 => unfold maxLen; omega
          case c4 => omega
          case c5 => exact hsza
          intro vb wb ob gb Tr
          have Bb : Below w1.heap.size w1 wb := Tr w1 Ba (Nat.le_refl _)
          have rowb : wb.heap[g9]? = some (.cells #[.slice ak r.key.length ck, .slice av r.val.length cv] 42 (0, 0)) := by
            rw [gb.block g9 (Array.getElem?_eq_some_iff.1 rowa).1 (fun e => owns_ne (owns_below hoq ba) rowa (by decide) e.symm)]; exact rowa
          have hszb : w1.heap.size ≤ wb.heap.size := Bb.size
          rw [← bvs_append, show eq.length + (putL x.length).length = (eq ++ putL x.length).length by simp] at ob
          obtain ⟨ab, cb, rfl⟩ := owns_slice ob
          have hel : (eq ++ putL x.length).length ≤ 40720 := by rw [List.length_append]; omega
          have hrb := hrx.below Bb
          clear gb Tr oa rowa hoq
          generalize eq ++ putL x.length = er at *
          go_wp2_with (at_builtin; refine wpList_append_rdg rfl _ _ 42 rfl w1.heap.size 5 i0 (.int .u8 0) 1 1 Tryd.underlying42 hi hz0 hz1 hz2 rfl (by decide) _ er.length (bvs er) rfl ob _ _ (bvs x) rfl hrb (bvs_one _) ?c3 ?c4 ?c5 ?_)
          case c3 => unfold maxLen; omega
          case c4 => omega
          case c5 => exact hszb
          intro vc wc oc gc Tr
          have Bc : Below w1.heap.size w1 wc := Tr w1 Bb (Nat.le_refl _)
          have rowc : wc.heap[g9]? = some (.cells #[.slice ak r.key.length ck, .slice av r.val.length cv] 42 (0, 0)) := by
            rw [gc.block g9 (Array.getElem?_eq_some_iff.1 rowb).1 (fun e => owns_ne ob rowb (by decide) e.symm)]; exact rowb
          clear gc Tr ob
          go_wp2_with fail
          refine ⟨⟨j + 1, by go_num, by omega, ?_, rowc, Bc⟩, by simp [intOf]; omega⟩
          rw [HQ2.out, List.length_append, bvs_append]
          exact oc
        · obtain rfl : j = 2 := by omega
          have hE3 : eq ++ recsL r.time (l.drop (i + 1)) = BL := by
            rw [heq, HEM1.out, ← HE2.out, HT.out]
            simp [partN, recL]
          have HE3 := Lib.hid hE3
          have htb : -1099511627776 ≤ r.time ∧ r.time ≤ 1099511627776 := by rw [← HT.out]; omega
          have htr := HT.out
          have HTB := Lib.hid htb
          clear hE3 heq htb
          go_wp2_with fail
          refine ⟨⟨i + 1, r.time, eq, by go_num, by omega, ?_, HTB.out, HE3, hoq, hbq⟩, by simp [intOf]; omega⟩
          rw [htr]
    · obtain rfl : i = l.length := by omega
      have hem : em = BL := by
        have := HE.out
        rw [List.drop_of_length_le (Nat.le_refl _)] at this
        simpa [recsL] using this
      go_wp2_with fail
      go_ret
      refine ⟨_, rfl, ?_, nxt b1 hb⟩
      rw [← hem]
      exact owns_base ho (Nat.le_of_lt hww)
end Go.Proofs.YtlfbdcgojbfcaaaDoor
