/- The document's ReadPairs: a lineage of bytes, or what is amiss. -/
import Derived.Test.YtjhebnjajnjhhaaDoorRefPairs
import Derived.Test.YtjhebnjajnjhhaaDoorRefOver
import Derived.Test.YtjhebnjajnjhhaaDoorEpoRead
import Derived.StillTailTactics
namespace Go.Proofs.YtjhebnjajnjhhaaDoor
open Go Go.RowKit Epo Vint

theorem RefR.grown {w w1 : World} {g : Nat} {vb : Value} {s : Rs} (h : RefR w g vb s) {row : Option Nat} (u : w.grownBy w1 row) {t : TypeId} (hr : ∀ k, row = some k → ∃ c f, w.heap[k]? = some (.cells c t f)) (t1 : 126 ≠ t) (ho : ∀ k, row = some k → OffV k vb) : RefR w1 g vb s := by
  cases row with
  | none => exact h.below ⟨u.os, u.tape, u.output, u.size, fun k hk => u.block k hk (by simp)⟩
  | some k =>
    obtain ⟨c, f, hc⟩ := hr k rfl
    exact h.touch (k := k) u hc t1 (ho k rfl)

def RefReadPost (b : List UInt8) (w : World) (e : Ending) (w' : World) : Prop :=
  ∃ v, e = .returned (.tuple #[v, fv (readPairs b).1.code (readPairs b).1.has (readPairs b).1.pos]) ∧ Rd w' 2 v (readPairs b).2.length ((readPairs b).2.flatMap prV) ∧ Below w.heap.size w w'

theorem over_bad {s : Rs} {i : Nat} (hi : i ≠ 0) : (over i s).bad = if s.bad ≠ .fine then s.bad else if 0 < s.left.length then .placed i s.pos else .fine := by
  unfold over
  by_cases h : s.bad = .fine
  · by_cases h2 : 0 < s.left.length
    · rw [if_pos ⟨h, h2⟩, if_neg (fun e => e h), if_pos h2]; simp [Rs.fail, hi]
    · rw [if_neg (fun e => h2 e.2), if_neg (fun e => e h), if_neg h2]; exact h
  · rw [if_neg (fun e : s.bad = .fine ∧ 0 < s.left.length => h e.1), if_pos h]

theorem valid_code (l : List Pr) (h : valid l ≠ 0) : ((101 + (valid l - 101) : Nat) : Int) = (valid l : Int) := by
  have : 101 ≤ valid l ∨ valid l = 0 := by
    unfold valid; split
    · omega
    split
    · omega
    split <;> omega
  omega

set_option maxRecDepth 100000 in
set_option maxHeartbeats 4000000 in
theorem refRead_calls {w : World} {v : Value} {bs : List UInt8} (h : Rd w 1 v bs.length (bvs bs)) (hl : bs.length ≤ 1099511627776) :
    Calls Tryd.prog 38 #[v] w (RefReadPost bs w) := by
  obtain ⟨i0, hi, hz0, hz1, hz2⟩ := info_parts info_pair
  obtain ⟨am, cm, rfl⟩ := h.slice
  have hoff : ∀ k, w.heap.size ≤ k → OffV k (.slice am bs.length cm) := fun k hk => OffV.of_rd h (by omega) hk
  have b0 := below_alloc w (.cells #[.int .i64 0, .bool false, .int .i64 0] 67)
  have b1 := bAlloc b0 (.cells #[.slice am bs.length cm, .int .i64 0, .int .i64 0, .bool false, .int .i64 0] 126)
  have row1 : ((w.alloc (.cells #[.int .i64 0, .bool false, .int .i64 0] 67)).alloc (.cells #[.slice am bs.length cm, .int .i64 0, .int .i64 0, .bool false, .int .i64 0] 126)).heap[w.heap.size]? = some (.cells #[.int .i64 0, .bool false, .int .i64 0] 67 (0, 0)) :=
    heap_below (below_alloc _ _) (heap_alloc_new w _)
  have rr1 : RefR ((w.alloc (.cells #[.int .i64 0, .bool false, .int .i64 0] 67)).alloc (.cells #[.slice am bs.length cm, .int .i64 0, .int .i64 0, .bool false, .int .i64 0] 126)) (w.heap.size + 1) (.slice am bs.length cm) (rs0 bs) := by
    refine ⟨⟨Nat.zero_le _, hl⟩, ?_, h.below b1, hoff _ (by omega)⟩
    have := heap_alloc_new (w.alloc (.cells #[.int .i64 0, .bool false, .int .i64 0] 67)) (.cells #[.slice am bs.length cm, .int .i64 0, .int .i64 0, .bool false, .int .i64 0] 126)
    rw [alloc_size] at this
    exact this
  have hnum := refNum_calls rr1 256
  have hw1s : ((w.alloc (.cells #[.int .i64 0, .bool false, .int .i64 0] 67)).alloc (.cells #[.slice am bs.length cm, .int .i64 0, .int .i64 0, .bool false, .int .i64 0] 126)).heap.size = w.heap.size + 2 := by simp
  unfold RefNumPost at hnum
  obtain ⟨n0, hn0⟩ : ∃ n, n = (num 256 (rs0 bs)).1 := ⟨_, rfl⟩
  obtain ⟨s0, hs0⟩ : ∃ s, s = (num 256 (rs0 bs)).2 := ⟨_, rfl⟩
  have hn1 : n0 ≤ 256 := by rw [hn0]; exact (num_val 256).1
  obtain ⟨Q, hQ⟩ : ∃ Q, Q = readLoop n0 s0 [] := ⟨_, rfl⟩
  have HP : Hid (readPairs bs = if Q.2.bad ≠ .fine then (Q.2.bad, []) else if 0 < Q.2.left.length then (.placed 3 Q.2.pos, []) else if valid Q.1 ≠ 0 then (.bare (valid Q.1 - 101), []) else (.fine, Q.1)) := Lib.hid (by
    rw [hQ, hn0, hs0]; rfl)
  rw [← hn0, ← hs0] at hnum
  have HQ := Lib.hid hQ
  clear hn0 hs0 hQ
  go_enter Tryd.func38, Tryd.ntmps38
  go_wp2_with fail
  refine hnum.mono ?_
  rintro e w2 ⟨rfl, r2, t2⟩
  have b2 : Below w.heap.size w w2 := t2.new b1 (by omega)
  have row2 := t2.heap row1 (by omega)
  have hs2 : w.heap.size + 2 ≤ w2.heap.size := by have := t2.size; rw [hw1s] at this; exact this
  clear hnum row1 rr1 hw1s
  go_wp2_with fail
  go_loopw [6, 7, 8] (fun lv iv _ wr => ∃ (i : Nat) (s : Rs) (l : List Pr), iv = .int .i64 i ∧ i ≤ n0 ∧ Hid (readLoop (n0 - i) s l = Q) ∧ l.length ≤ i ∧ RefR wr (w.heap.size + 1) (.slice am bs.length cm) s ∧ wr.ownsRow (w.heap.size + 2) 50 2 lv l.length (l.flatMap prV) ∧ wr.heap[w.heap.size]? = some (.cells #[.int .i64 0, .bool false, .int .i64 0] 67 (0, 0)) ∧ w.heap.size + 2 ≤ wr.heap.size ∧ Below w.heap.size w wr) (fun _ iv _ _ => n0 - (intOf iv).toNat)
  case atStart => exact ⟨0, s0, [], rfl, Nat.zero_le _, Lib.hid HQ.out.symm, Nat.le_refl _, r2, World.ownsRow_nil _ _ _ _, row2, hs2, b2⟩
  case round =>
    obtain ⟨i, s, l, rfl, hin, HR, hln, hr, ho, hrow, hsz, hb⟩ := hrel
    obtain ⟨al, cl, rfl⟩ := owns_slice ho
    by_cases hgo : i < n0 ∧ s.bad = .fine
    · obtain ⟨hlt, hfine⟩ := hgo
      have HR2 := HR.out
      rw [show n0 - i = (n0 - (i + 1)) + 1 by omega, readLoop_go l hfine] at HR2
      have HRR := Lib.hid HR2
      clear HR2 HR
      have hfc := refFine_yes hr hfine
      have hn1c := refNum_calls hr 1073741824
      unfold RefNumPost at hn1c
      have v1 := (num_val (s := s) 1073741824).1
      have v2 := (num_val (s := (num 1073741824 s).2) 1099511627776).1
      obtain ⟨x, hx⟩ : ∃ x, x = (num 1073741824 s).1 := ⟨_, rfl⟩
      obtain ⟨s1, hs1⟩ : ∃ x, x = (num 1073741824 s).2 := ⟨_, rfl⟩
      rw [← hx, ← hs1] at hn1c
      rw [← hx] at v1
      rw [← hs1] at v2
      have hro : readOne s = (⟨(x : Int), ((num 1099511627776 s1).1 : Nat)⟩, (num 1099511627776 s1).2) := by rw [hx, hs1]; rfl
      obtain ⟨y, hy⟩ : ∃ x, x = (num 1099511627776 s1).1 := ⟨_, rfl⟩
      obtain ⟨s3, hs3⟩ : ∃ x, x = (num 1099511627776 s1).2 := ⟨_, rfl⟩
      have hn2 := fun W (k : RefR W (w.heap.size + 1) (.slice am bs.length cm) s1) => refNum_calls k 1099511627776
      unfold RefNumPost at hn2
      rw [← hy, ← hs3] at hn2
      rw [← hy, ← hs3] at hro
      rw [← hy] at v2
      have HRO := Lib.hid hro
      clear hx hs1 hy hs3 hro hfine
      go_wp2_with fail
      refine hfc.mono ?_
      rintro e w3 ⟨rfl, rfl⟩
      clear hfc
      go_wp2_with fail
      refine hn1c.mono ?_
      rintro e w4 ⟨rfl, r4, t4⟩
      have b4 : Below w.heap.size w w4 := t4.new hb (by omega)
      have o4 := t4.owns_from ho (by omega)
      have row4 := t4.heap hrow (by omega)
      have s4 := Nat.le_trans hsz t4.size
      clear hn1c hr
      go_wp2_with fail
      refine (hn2 _ r4).mono ?_
      rintro e w5 ⟨rfl, r5, t5⟩
      have b5 : Below w.heap.size w w5 := t5.new b4 (by omega)
      have o5 := t5.owns_from o4 (by omega)
      have row5 := t5.heap row4 (by omega)
      have s5 := Nat.le_trans s4 t5.size
      clear hn2 r4
      go_wp2_with (at_builtin; refine wpList_append_own _ rfl _ _ 43 rfl (w.heap.size + 2) 50 i0 _ 2 16 Tryd.underlying43 hi hz0 hz1 hz2 rfl (by decide) _ _ _ rfl (o5.alloc _) ⟨w5.heap.size, 0, none⟩ 1 1 [.int .i64 x, .int .i64 y] rfl rfl ?c1 ?c2 ?c3 ?c4 ?c5 ?_)
      case c1 => exact cells_new w5 #[.int .i64 (x : Int), .int .i64 (y : Int)] 50
      case c2 => intro u hu; simp at hu; rcases hu with rfl | rfl <;> rfl
      case c3 => unfold maxLen; omega
      case c4 => omega
      case c5 => simp; omega
      intro v' w' hown' hgrow _
      have b6 := below_alloc w5 (.cells #[.int .i64 (x : Int), .int .i64 (y : Int)] 50)
      have hge : ∀ k, (Value.slice al l.length cl).ownBlock = some k → w.heap.size + 2 ≤ k := fun k hk => (o5.lt k hk).1
      have B6 : Below w.heap.size w w' := (b5.alloc b5.size _).grown hgrow (by have := b5.size; simp; omega) (fun k hk => by have := hge k hk; omega)
      have r6 := (r5.below b6).grown hgrow (owns_rowAt (o5.alloc _)) (by decide) (fun k hk => hoff k (by have := hge k hk; omega))
      have row6 : w'.heap[w.heap.size]? = some (.cells #[.int .i64 0, .bool false, .int .i64 0] 67 (0, 0)) := by
        rw [hgrow.block _ (Array.getElem?_eq_some_iff.1 (heap_below b6 row5)).1 (fun e => by have := hge _ e.symm; omega)]
        exact heap_below b6 row5
      have s6 : w.heap.size + 2 ≤ w'.heap.size := by have := hgrow.size; simp at this; omega
      have hgo := HRR.out
      rw [HRO.out] at hgo
      have HGO := Lib.hid hgo
      clear hgo hgrow hge
      go_wp2_with fail
      refine ⟨⟨i + 1, s3, l ++ [⟨(x : Int), (y : Int)⟩], by go_num, by omega, HGO, by rw [List.length_append, List.length_singleton]; omega, r6, ?_, row6, s6, B6⟩, by simp [intOf]; omega⟩
      rw [List.length_append, List.flatMap_append]
      exact hown'
    · have hq : Q = (l, s) := by
        rw [← HR.out]
        by_cases h0 : i < n0
        · exact readLoop_bad _ _ _ (fun e => hgo ⟨h0, e⟩)
        · rw [show n0 - i = 0 by omega]; rfl
      rw [hq] at HP
      simp only at HP
      clear hq HR
      have HGO := Lib.hid hgo
      clear hgo
      have hov := refOver_calls hr 3
      have hvc := fun W (k : Rd W 2 (.slice al l.length cl) l.length (l.flatMap prV)) => refValid_calls k
      have hob := over_bad (s := s) (show (3 : Nat) ≠ 0 by omega)
      obtain ⟨so, hso⟩ : ∃ so, so = over 3 s := ⟨_, rfl⟩
      rw [← hso] at hov hob
      have HOB := Lib.hid hob
      clear hso hob
      by_cases h0 : i < n0
      all_goals
        first
        | (have hne : s.bad ≠ .fine := fun e => HGO.out ⟨h0, e⟩
           have hfc := refFine_no hr hne
           go_wp2_with fail
           refine hfc.mono ?_
           rintro e w3 ⟨rfl, rfl⟩
           go_wp2_with fail)
        | go_wp2_with fail
      all_goals
        refine hov.mono ?_
        rintro e w4 ⟨rfl, r4, t4⟩
        have b4 : Below w.heap.size w w4 := t4.new hb (by omega)
        have o4 := t4.owns_from ho (by omega)
        have row4 := t4.heap hrow (by omega)
        clear hov
        by_cases hfb : so.bad = .fine
        · have hfc := refFine_yes r4 hfb
          have hP : readPairs bs = if valid l ≠ 0 then (.bare (valid l - 101), []) else (.fine, l) := by
            rw [HP.out]
            have h1 := HOB.out
            rw [hfb] at h1
            by_cases h2 : s.bad = .fine
            · rw [if_neg (fun e => e h2)] at h1 ⊢
              by_cases h3 : 0 < s.left.length
              · rw [if_pos h3] at h1; cases h1
              · rw [if_neg h3]
            · rw [if_pos h2] at h1; exact absurd h1.symm h2
          have HPP := Lib.hid hP
          clear hP hfb
          go_wp2_with fail
          refine hfc.mono ?_
          rintro e w5 ⟨rfl, rfl⟩
          clear hfc
          go_wp2_with fail
          refine (hvc _ (Rd.of_owns o4)).mono ?_
          rintro e w5 h5
          unfold ValidPost at h5
          obtain ⟨rfl, b5⟩ := h5
          have row5 := heap_below b5 row4
          have B5 := nxt b4 b5
          by_cases hv : valid l = 0
          · have hP := HPP.out
            rw [if_neg (fun e => e hv)] at hP
            have HP3 := Lib.hid hP
            rw [hv]
            have o5 := owns_below o4 b5
            clear hv hP
            go_wp2_with fail
            refine (fnone_calls _).mono ?_
            rintro e w6 ⟨rfl, b6⟩
            go_wp2_with (refine wpList_store_row_g rfl 67 _ _ rfl w.heap.size _ rfl rfl 67 _ (heap_below b6 row5) faultSize rfl (by simp [Value.oneCell']) ?_)
            intro w7 row7 g7 s7
            have B7 : Below w.heap.size w w7 := (nxt B5 b6).grown g7 (nxt B5 b6).size (fun k e => by cases e; exact Nat.le_refl _)
            have o7 := Touch.owns_from (g := w.heap.size) g7 (owns_below o5 b6) (by omega)
            have d0 : w7.cell? ⟨w.heap.size, 0, none⟩ = some (.int .i64 0) := cell_of_row w7 _ 0 _ _ _ row7
            have d1 : w7.cell? ⟨w.heap.size, 1, none⟩ = some (.bool false) := cell_of_row w7 _ 1 _ _ _ row7
            have d2 : w7.cell? ⟨w.heap.size, 2, none⟩ = some (.int .i64 0) := cell_of_row w7 _ 2 _ _ _ row7
            clear row7 g7 s7
            go_wp2_with fail
            refine bodyPost_ret (v := .tuple #[.slice al l.length cl, fv 0 false 0]) (by simp [results, go_sem, fv, d0, d1, d2]) rfl ?_
            unfold RefReadPost
            rw [HP3.out]
            exact ⟨_, rfl, Rd.of_owns o7, B7⟩
          · have hP := HPP.out
            rw [if_pos hv] at hP
            have HP3 := Lib.hid hP
            have hvc2 := valid_code l hv
            have HVC := Lib.hid hvc2
            have hne : (((valid l : Nat) : Int) != 0) = true := by rw [bne_iff_ne]; omega
            obtain ⟨q, hq⟩ : ∃ q : Nat, q = valid l := ⟨_, rfl⟩
            rw [← hq] at hne
            rw [← hq]
            have HQ2 := Lib.hid hq
            clear hv hP hvc2 hq
            go_wp2_with fail
            refine (bare_calls _ _).mono ?_
            rintro e w6 ⟨rfl, b6⟩
            go_wp2_with (refine wpList_store_row_g rfl 67 _ _ rfl w.heap.size _ rfl rfl 67 _ (heap_below b6 row5) faultSize rfl (by simp [Value.oneCell']) ?_)
            intro w7 row7 g7 s7
            have B7 : Below w.heap.size w w7 := (nxt B5 b6).grown g7 (nxt B5 b6).size (fun k e => by cases e; exact Nat.le_refl _)
            have d0 : w7.cell? ⟨w.heap.size, 0, none⟩ = some (.int .i64 (q : Int)) := cell_of_row w7 _ 0 _ _ _ row7
            have d1 : w7.cell? ⟨w.heap.size, 1, none⟩ = some (.bool false) := cell_of_row w7 _ 1 _ _ _ row7
            have d2 : w7.cell? ⟨w.heap.size, 2, none⟩ = some (.int .i64 0) := cell_of_row w7 _ 2 _ _ _ row7
            clear row7 g7 s7
            go_wp2_with fail
            refine bodyPost_ret (v := .tuple #[.slice none 0 0, fv (q : Int) false 0]) (by simp [results, go_sem, fv, d0, d1, d2]) rfl ?_
            unfold RefReadPost
            rw [HP3.out]
            refine ⟨_, ?_, Rd.nil _ _, B7⟩
            simp only [Er.code, Er.has, Er.pos]
            rw [HVC.out, ← HQ2.out]
        · have hfc := refFine_no r4 hfb
          have hP : readPairs bs = (so.bad, []) := by
            rw [HP.out]
            have h1 := HOB.out
            by_cases h2 : s.bad = .fine
            · rw [if_neg (fun e => e h2)] at h1 ⊢
              by_cases h3 : 0 < s.left.length
              · rw [if_pos h3] at h1 ⊢; rw [h1]
              · rw [if_neg h3] at h1; exact absurd h1 hfb
            · rw [if_pos h2] at h1 ⊢; rw [h1]
          have HPP := Lib.hid hP
          obtain ⟨ab4, cb4, _, hrow4, _, _, k0, k1, k2, f1⟩ := r4.parts
          have k3 : w4.cell? ⟨w.heap.size + 1, 3, none⟩ = some (.bool so.bad.has) := cell_of_row w4 _ 3 _ _ _ hrow4
          have k4 : w4.cell? ⟨w.heap.size + 1, 4, none⟩ = some (.int .i64 so.bad.pos) := cell_of_row w4 _ 4 _ _ _ hrow4
          clear hP hfb hrow4
          go_wp2_with fail
          refine hfc.mono ?_
          rintro e w5 ⟨rfl, rfl⟩
          clear hfc
          go_wp2_with fail
          go_still_tail 5, (by kernel_rfl)
          change wpList _ _ _ _ _ w4.drew
          have row5 : w4.drew.heap[w.heap.size]? = some (.cells #[.int .i64 0, .bool false, .int .i64 0] 67 (0, 0)) := row4
          have B5 : Below w.heap.size w w4.drew := b4.drew
          generalize w4.drew = w5 at *
          go_wp2_with (refine wpList_store_row_g rfl 67 _ _ rfl w.heap.size _ rfl rfl 67 _ row5 faultSize rfl (by simp [Value.oneCell']) ?_)
          intro w7 row7 g7 s7
          have B7 : Below w.heap.size w w7 := B5.grown g7 B5.size (fun k e => by cases e; exact Nat.le_refl _)
          have d0 : w7.cell? ⟨w.heap.size, 0, none⟩ = some (.int .i64 so.bad.code) := cell_of_row w7 _ 0 _ _ _ row7
          have d1 : w7.cell? ⟨w.heap.size, 1, none⟩ = some (.bool so.bad.has) := cell_of_row w7 _ 1 _ _ _ row7
          have d2 : w7.cell? ⟨w.heap.size, 2, none⟩ = some (.int .i64 so.bad.pos) := cell_of_row w7 _ 2 _ _ _ row7
          clear row7 g7 s7
          go_wp2_with fail
          refine bodyPost_ret (v := .tuple #[.slice none 0 0, fv so.bad.code so.bad.has so.bad.pos]) (by simp [results, go_sem, fv, d0, d1, d2]) rfl ?_
          unfold RefReadPost
          rw [HPP.out]
          exact ⟨_, rfl, Rd.nil _ _, B7⟩
end Go.Proofs.YtjhebnjajnjhhaaDoor
