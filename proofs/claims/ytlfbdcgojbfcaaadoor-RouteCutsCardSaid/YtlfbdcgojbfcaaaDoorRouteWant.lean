/- law25's want: what route.Cut is to be. -/
import Derived.Test.YtlfbdcgojbfcaaaDoorRouteCut
import Derived.Test.YtlfbdcgojbfcaaaDoorRefRecBatch
import Derived.Deep.CutBlock
import Derived.StillTailTactics
namespace Go.Proofs.YtlfbdcgojbfcaaaDoor
open Go Go.RowKit Rec

theorem fromB_base (b : BatD) (o : Int) : (fromB b o).base = max b.base o := by
  unfold fromB
  split
  · omega
  · simp only; omega

set_option maxRecDepth 100000 in
set_option maxHeartbeats 4000000 in
theorem want_calls {w : World} {v : Value} {L : List BatD} (h : BatsRd w v L) (hL : ∀ b ∈ L, valid b = 0) (hl : L.length ≤ 1000) (o most : Int) (hm : -9223372036854775808 ≤ most ∧ most ≤ 9223372036854775807) (hob : -1000000000000000 ≤ o ∧ o ≤ 1000000000000000) :
    Calls Tryd.prog 19 #[v, .int .i64 o, .int .i64 most] w (fun e w' => ∃ v', e = .returned v' ∧ BatsRd w' v' (cutL o most L) ∧ Below w.heap.size w w') := by
  obtain ⟨i0, hi, hz0, hz1, hz2⟩ := info_parts info_bat
  obtain ⟨a, c, rfl⟩ := h.slice
  obtain ⟨Q, hQ⟩ : ∃ Q, Q = cutL o most L := ⟨_, rfl⟩
  have HQ := Lib.hid hQ
  have HL := Lib.hid hL
  have HM := Lib.hid hm
  clear hQ hL hm
  go_enter Tryd.func19, Tryd.ntmps19
  go_wp2_with fail
  go_loopw [7, 8, 9] (fun ov sv iv wr => ∃ (i : Nat) (rs : List BatR) (sum : Int), iv = .int .i64 i ∧ i ≤ L.length ∧ sv = .int .i64 sum ∧ Hid (cutGo o most (L.drop i) (rs.map (·.d)) sum = Q) ∧ (0 ≤ sum ∧ sum ≤ 50000 * (rs.length : Int)) ∧ rs.length ≤ i ∧ wr.ownsRow w.heap.size 34 3 ov rs.length (rs.flatMap batV) ∧ (∀ x ∈ rs, ∀ W, Below w.heap.size w W → RecsRd W x.v x.d.recs) ∧ Below w.heap.size w wr) (fun _ _ iv _ => L.length - (intOf iv).toNat)
  case atStart => exact ⟨0, [], 0, rfl, Nat.zero_le _, rfl, Lib.hid HQ.out.symm, by omega, Nat.le_refl _, World.ownsRow_nil _ _ _ _, by simp, Below.refl _ _⟩
  case round =>
    obtain ⟨i, rs, sum, rfl, hil, rfl, HC, hsum, hri, own, par, hb⟩ := hrel
    obtain ⟨ao, co, rfl⟩ := owns_slice own
    by_cases hlt : i < L.length
    · obtain ⟨bb, bo, rfl, hcs⟩ := h.cells i hlt
      obtain ⟨v, p0', p1', p2', rr⟩ := hcs i hlt
      have p0 := heapcell' hb p0'
      have p1 := heapcell' hb p1'
      have p2 := heapcell' hb p2'
      have hv := HL.out L[i] (List.getElem_mem hlt)
      have HD := Lib.hid (List.drop_eq_getElem_cons hlt)
      obtain ⟨b, hb'⟩ : ∃ b, b = L[i] := ⟨_, rfl⟩
      rw [← hb'] at p0 p1 rr hv HD
      have hvi := (valid_iff b).1 hv
      obtain ⟨ar, cr, rfl⟩ := rr.slice
      have hcg : Hid (Q = if nextB b ≤ o ∨ (rs.length = 0 ∧ o < b.base) then cutGo o most (L.drop (i + 1)) (rs.map (·.d)) sum
          else if 0 < rs.length ∧ (most < sum ∨ most - sum < (sizeB (fromB b o) : Int)) then rs.map (·.d)
          else cutGo o most (L.drop (i + 1)) (rs.map (·.d) ++ [fromB b o]) (sum + (sizeB (fromB b o) : Int))) := Lib.hid (by
        rw [← HC.out, HD.out]
        conv => lhs; unfold cutGo
        rw [List.length_map])
      have hne : nextB b = b.base + (b.recs.length : Int) := rfl
      have b5 := below_alloc wr (.cells #[.int .i64 b.base, .int .i64 b.epoch, .slice ar b.recs.length cr] 34)
      have row5 := heap_alloc_new wr (.cells #[.int .i64 b.base, .int .i64 b.epoch, .slice ar b.recs.length cr] 34)
      have B5 := nxt hb b5
      have own5 := owns_below own b5
      obtain ⟨v1, v2, v3⟩ := hvi
      have hgo0 := owns_lt own
      have PAR := Lib.hid par
      clear hcs hb' own par b5 HC v3 hv p0' p1' p2'
      go_upto_region 7 with fail
      obtain ⟨w5, hw5⟩ : ∃ w5, w5 = wr.alloc (.cells #[.int .i64 b.base, .int .i64 b.epoch, .slice ar b.recs.length cr] 34) := ⟨_, rfl⟩
      obtain ⟨g, hg⟩ : ∃ g, g = wr.heap.size := ⟨_, rfl⟩
      rw [← hw5] at row5 B5 own5 ⊢
      rw [← hg] at row5 ⊢
      have hgw : w.heap.size ≤ g := by rw [hg]; exact hb.size
      have hgo : ∀ k, (Value.slice ao rs.length co).ownBlock = some k → k < g := by rw [hg]; exact hgo0
      clear hw5 hg hgo0 p0 p1 p2
      have d0 : w5.cell? ⟨g, 0, none⟩ = some (.int .i64 b.base) := cell_of_row _ _ 0 _ _ _ row5
      have d1 : w5.cell? ⟨g, 1, none⟩ = some (.int .i64 b.epoch) := cell_of_row _ _ 1 _ _ _ row5
      have d2 : w5.cell? ⟨g, 2, none⟩ = some (.slice ar b.recs.length cr) := cell_of_row _ _ 2 _ _ _ row5
      have hnx := refNext_calls (rr.below B5) (by omega) (by omega)
      unfold batA at hnx
      go_wp2_with fail
      with_reducible refine hnx.mono ?_
      rintro e w6 ⟨rfl, b6⟩
      have row6 := heap_below b6 row5
      have own6 := owns_below own5 b6
      have B6 := nxt B5 b6
      clear hnx d0 d1 d2 own5 row5 b6
      have d0 : w6.cell? ⟨g, 0, none⟩ = some (.int .i64 b.base) := cell_of_row _ _ 0 _ _ _ row6
      have d1 : w6.cell? ⟨g, 1, none⟩ = some (.int .i64 b.epoch) := cell_of_row _ _ 1 _ _ _ row6
      have d2 : w6.cell? ⟨g, 2, none⟩ = some (.slice ar b.recs.length cr) := cell_of_row _ _ 2 _ _ _ row6
      by_cases hA : b.base + (b.recs.length : Int) ≤ o ∨ (rs.length = 0 ∧ o < b.base)
      · have HC2 := Lib.hid (hcg.out.trans (if_pos hA))
        rcases hA with hA | ⟨hA1, hA2⟩
        · go_wp2_with fail
          exact ⟨⟨i + 1, rs, sum, by go_num, by omega, rfl, Lib.hid HC2.out.symm, hsum, by omega, own6, PAR.out, B6⟩, by simp [intOf]; omega⟩
        · have x1 : ((rs.length : Int) == 0) = true := by rw [beq_iff_eq]; omega
          have x0 : ¬ (b.base + (b.recs.length : Int) ≤ o) := by omega
          have HA1 := Lib.hid hA1
          clear hA1
          go_wp2_with fail
          exact ⟨⟨i + 1, rs, sum, by go_num, by omega, rfl, Lib.hid HC2.out.symm, hsum, by omega, own6, PAR.out, B6⟩, by simp [intOf]; omega⟩
      · have hx0 : ¬ (b.base + (b.recs.length : Int) ≤ o) := fun e => hA (.inl e)
        have HC2 := Lib.hid (hcg.out.trans (if_neg hA))
        have hFb := fromB_base b o
        have hFle : o ≤ b.base → fromB b o = b := fun hle => by unfold fromB; rw [if_pos hle]
        have hFlt : ∀ k : Nat, 0 < k → o - b.base = (k : Int) → fromB b o = ⟨o, b.epoch, b.recs.drop k⟩ := fun k h0 hk => by
          unfold fromB
          rw [if_neg (by omega), show (min (o - b.base) (b.recs.length : Int)).toNat = k by omega]
        obtain ⟨F, hF⟩ : ∃ F, F = fromB b o := ⟨_, rfl⟩
        rw [← hF] at HC2 hFb hFle
        have hFlt' : ∀ k : Nat, 0 < k → o - b.base = (k : Int) → F = ⟨o, b.epoch, b.recs.drop k⟩ := fun k h0 hk => by rw [hF]; exact hFlt k h0 hk
        have HLE := Lib.hid hFle
        have HLT := Lib.hid hFlt'
        have hFb2 : -2000000000000000 ≤ F.base ∧ F.base ≤ 2000000000000000 := by rw [hFb]; omega
        clear hF hFle hFlt hFlt' hcg hFb
        by_cases h0 : rs.length = 0
        · have x1 : ((rs.length : Int) == 0) = true := by rw [beq_iff_eq]; omega
          have x2 : ¬ o < b.base := fun e => hA (.inr ⟨h0, e⟩)
          have x3 : ¬ ((0 : Int) < (rs.length : Int)) := by omega
          have H0 := Lib.hid h0
          clear h0 hA
          go_upto_if 40 with fail
          go_cut [11] (fun _ wx => ∃ vF, wx.heap[g]? = some (.cells #[.int .i64 F.base, .int .i64 F.epoch, vF] 34 (0, 0)) ∧ (∀ W, Below w.heap.size w W → RecsRd W vF F.recs) ∧ wx.ownsRow w.heap.size 34 3 (.slice ao rs.length co) rs.length (rs.flatMap batV) ∧ Below w.heap.size w wx)
          case first =>
            by_cases hbo : b.base < o
            · obtain ⟨k, hk, hk0⟩ : ∃ k : Nat, o - b.base = (k : Int) ∧ 0 < k := ⟨(o - b.base).toNat, by omega, by omega⟩
              have hkl : k ≤ b.recs.length := by omega
              have HFE := Lib.hid (HLT.out k hk0 hk)
              have hw1 : IntKind.i64.wrap (o - b.base) = (k : Int) := by rw [IntKind.wrap_i64]; omega
              obtain ⟨a5, c5, rs', s5, hr1, hr2, r5⟩ := rr.drop k hkl
              have u5 : ∀ W, (Instr.sliceAt 32 (.slice ar b.recs.length cr) (some (.int .i64 (k : Int))) none none).run Tryd.prog W = .ok (.slice a5 (b.recs.length - k) c5) W := fun W => by
                have := run_cut_l (P := Tryd.prog) 32 sl_recs 3 sz_recs ar b.recs.length cr k .i64 hkl W
                rw [s5] at this
                exact this
              have z0 : w6.frozen? ⟨g, 0, none⟩ = false := frozen_of_row _ _ 0 _ _ row6
              have z1 : w6.frozen? ⟨g, 1, none⟩ = false := frozen_of_row _ _ 1 _ _ row6
              have z2 : w6.frozen? ⟨g, 2, none⟩ = false := frozen_of_row _ _ 2 _ _ row6
              have TT := ((Touch.setCell (g := g) w6 0 (.int .i64 o)).set 1 (.int .i64 b.epoch)).set 2 (.slice a5 (b.recs.length - k) c5)
              have rowz : (((w6.setCell ⟨g, 0, none⟩ (.int .i64 o)).setCell ⟨g, 1, none⟩ (.int .i64 b.epoch)).setCell ⟨g, 2, none⟩ (.slice a5 (b.recs.length - k) c5)).heap[g]? = some (.cells #[.int .i64 o, .int .i64 b.epoch, .slice a5 (b.recs.length - k) c5] 34 (0, 0)) :=
                heap_setCell_same _ _ 2 _ _ _ (heap_setCell_same _ _ 1 _ _ _ (heap_setCell_same _ _ 0 _ _ _ row6))
              have ownz := (Frame.of_touch (F := fun k => k = g) TT rfl).owns own6 (fun k hk e => by have := hgo k hk; omega)
              have belz := TT.new B6 hgw
              have HR1 := Lib.hid hr1
              have HR2 := Lib.hid hr2
              clear hk s5 hr1 hr2 TT
              go_wp2_with fail
              go_region
              all_goals
                generalize ((w6.setCell ⟨g, 0, none⟩ (.int .i64 o)).setCell ⟨g, 1, none⟩ (.int .i64 b.epoch)).setCell ⟨g, 2, none⟩ (.slice a5 (b.recs.length - k) c5) = wz at *
                go_wp2_with fail
                go_meet
                rw [HFE.out]
                refine ⟨.slice a5 (b.recs.length - k) c5, rowz, fun W hW => ⟨rs', HR1.out, by rw [HR2.out]; exact (r5 W hW).1, (r5 W hW).2⟩, ?_, belz.drew⟩
                exact owns_below ownz (show Below wz.heap.size wz wz.drew from (Below.refl _ _).drew)
            · have HFE := Lib.hid (HLE.out (by omega))
              go_wp2_with fail
              go_meet
              rw [HFE.out]
              exact ⟨_, row6, fun W hW => rr.below hW, own6, B6⟩
          obtain ⟨vF, row9, hrF, own9, B9⟩ := hcut
          have HRF := Lib.hid hrF
          have hsz := refSize_calls (b := F) (hrF _ B9) (by omega)
          obtain ⟨a8, c8, rfl⟩ := (hrF _ B9).slice
          unfold batA at hsz
          clear d0 d1 d2 row6 own6 B6 B5 hrF
          obtain ⟨w9, hw9⟩ : ∃ w9, w9 = wc := ⟨_, rfl⟩
          rw [← hw9] at row9 own9 B9 hsz ⊢
          clear hw9
          have q0 : w9.cell? ⟨g, 0, none⟩ = some (.int .i64 F.base) := cell_of_row _ _ 0 _ _ _ row9
          have q1 : w9.cell? ⟨g, 1, none⟩ = some (.int .i64 F.epoch) := cell_of_row _ _ 1 _ _ _ row9
          have q2 : w9.cell? ⟨g, 2, none⟩ = some (.slice a8 F.recs.length c8) := cell_of_row _ _ 2 _ _ _ row9
          obtain ⟨n, hn⟩ : ∃ n, n = sizeB F := ⟨_, rfl⟩
          rw [← hn] at hsz
          have HN := Lib.hid hn
          have hnb : n ≤ 50000 := by rw [hn]; exact sizeB_bd F
          clear hn
          go_wp2_with fail
          with_reducible refine hsz.mono ?_
          rintro e w10 ⟨rfl, b10⟩
          have row10 := heap_below b10 row9
          have own10 := owns_below own9 b10
          have B10 := nxt B9 b10
          clear q0 q1 q2 hsz own9 row9
          have q0 : w10.cell? ⟨g, 0, none⟩ = some (.int .i64 F.base) := cell_of_row _ _ 0 _ _ _ row10
          have q1 : w10.cell? ⟨g, 1, none⟩ = some (.int .i64 F.epoch) := cell_of_row _ _ 1 _ _ _ row10
          have q2 : w10.cell? ⟨g, 2, none⟩ = some (.slice a8 F.recs.length c8) := cell_of_row _ _ 2 _ _ _ row10
          have HC3 : Hid (Q = cutGo o most (L.drop (i + 1)) (rs.map (·.d) ++ [F]) (sum + (n : Int))) := Lib.hid (by have hc := HC2.out; rw [← HN.out, if_neg (by omega)] at hc; exact hc)
          have hwn : IntKind.i64.wrap (sum + (n : Int)) = sum + (n : Int) := by rw [IntKind.wrap_i64]; omega
          go_wp2_with (at_builtin; refine wpList_append_own _ rfl _ _ 25 rfl w.heap.size 34 i0 _ 3 40 Tryd.underlying25 hi hz0 hz1 hz2 rfl (by decide) _ _ _ rfl (own10.alloc _) ⟨w10.heap.size, 0, none⟩ 1 1 [.int .i64 F.base, .int .i64 F.epoch, .slice a8 F.recs.length c8] rfl rfl ?c1 ?c2 ?c3 ?c4 ?c5 ?_)
          case c1 => exact cells_new w10 #[.int .i64 F.base, .int .i64 F.epoch, .slice a8 F.recs.length c8] 34
          case c2 => intro u hu; simp at hu; rcases hu with rfl | rfl | rfl <;> rfl
          case c3 => unfold maxLen; omega
          case c4 => omega
          case c5 => have := B10.size; simp; omega
          intro v11 w11 o11 g11 _
          have bA := below_alloc w10 (.cells #[.int .i64 F.base, .int .i64 F.epoch, .slice a8 F.recs.length c8] 34)
          have hge : ∀ k', (Value.slice ao rs.length co).ownBlock = some k' → w.heap.size ≤ k' := owns_ge own10
          have B11 : Below w.heap.size w w11 := (nxt B10 bA).grown g11 (nxt B10 bA).size hge
          clear q0 q1 q2 g11 hge own10 bA
          go_wp2_with fail
          refine ⟨⟨i + 1, rs ++ [⟨F, .slice a8 F.recs.length c8⟩], sum + (n : Int), by go_num, by omega, rfl, Lib.hid ?_, by rw [List.length_append, List.length_singleton]; omega, by rw [List.length_append, List.length_singleton]; omega, ?_, ?_, B11⟩, by simp [intOf]; omega⟩
          · rw [List.map_append]; exact HC3.out.symm
          · rw [List.length_append, List.flatMap_append]; exact o11
          · intro x hx
            rcases List.mem_append.1 hx with h1 | h1
            · exact PAR.out x h1
            · rw [List.mem_singleton.1 h1]; exact HRF.out
        · have x1 : ((rs.length : Int) == 0) = false := by rw [beq_eq_false_iff_ne]; omega
          have x3 : (0 : Int) < (rs.length : Int) := by omega
          have H0 := Lib.hid h0
          clear h0 hA
          go_upto_if 40 with fail
          go_cut [11] (fun _ wx => ∃ vF, wx.heap[g]? = some (.cells #[.int .i64 F.base, .int .i64 F.epoch, vF] 34 (0, 0)) ∧ (∀ W, Below w.heap.size w W → RecsRd W vF F.recs) ∧ wx.ownsRow w.heap.size 34 3 (.slice ao rs.length co) rs.length (rs.flatMap batV) ∧ Below w.heap.size w wx)
          case first =>
            by_cases hbo : b.base < o
            · obtain ⟨k, hk, hk0⟩ : ∃ k : Nat, o - b.base = (k : Int) ∧ 0 < k := ⟨(o - b.base).toNat, by omega, by omega⟩
              have hkl : k ≤ b.recs.length := by omega
              have HFE := Lib.hid (HLT.out k hk0 hk)
              have hw1 : IntKind.i64.wrap (o - b.base) = (k : Int) := by rw [IntKind.wrap_i64]; omega
              obtain ⟨a5, c5, rs', s5, hr1, hr2, r5⟩ := rr.drop k hkl
              have u5 : ∀ W, (Instr.sliceAt 32 (.slice ar b.recs.length cr) (some (.int .i64 (k : Int))) none none).run Tryd.prog W = .ok (.slice a5 (b.recs.length - k) c5) W := fun W => by
                have := run_cut_l (P := Tryd.prog) 32 sl_recs 3 sz_recs ar b.recs.length cr k .i64 hkl W
                rw [s5] at this
                exact this
              have z0 : w6.frozen? ⟨g, 0, none⟩ = false := frozen_of_row _ _ 0 _ _ row6
              have z1 : w6.frozen? ⟨g, 1, none⟩ = false := frozen_of_row _ _ 1 _ _ row6
              have z2 : w6.frozen? ⟨g, 2, none⟩ = false := frozen_of_row _ _ 2 _ _ row6
              have TT := ((Touch.setCell (g := g) w6 0 (.int .i64 o)).set 1 (.int .i64 b.epoch)).set 2 (.slice a5 (b.recs.length - k) c5)
              have rowz : (((w6.setCell ⟨g, 0, none⟩ (.int .i64 o)).setCell ⟨g, 1, none⟩ (.int .i64 b.epoch)).setCell ⟨g, 2, none⟩ (.slice a5 (b.recs.length - k) c5)).heap[g]? = some (.cells #[.int .i64 o, .int .i64 b.epoch, .slice a5 (b.recs.length - k) c5] 34 (0, 0)) :=
                heap_setCell_same _ _ 2 _ _ _ (heap_setCell_same _ _ 1 _ _ _ (heap_setCell_same _ _ 0 _ _ _ row6))
              have ownz := (Frame.of_touch (F := fun k => k = g) TT rfl).owns own6 (fun k hk e => by have := hgo k hk; omega)
              have belz := TT.new B6 hgw
              have HR1 := Lib.hid hr1
              have HR2 := Lib.hid hr2
              clear hk s5 hr1 hr2 TT
              go_wp2_with fail
              go_region
              all_goals
                generalize ((w6.setCell ⟨g, 0, none⟩ (.int .i64 o)).setCell ⟨g, 1, none⟩ (.int .i64 b.epoch)).setCell ⟨g, 2, none⟩ (.slice a5 (b.recs.length - k) c5) = wz at *
                go_wp2_with fail
                go_meet
                rw [HFE.out]
                refine ⟨.slice a5 (b.recs.length - k) c5, rowz, fun W hW => ⟨rs', HR1.out, by rw [HR2.out]; exact (r5 W hW).1, (r5 W hW).2⟩, ?_, belz.drew⟩
                exact owns_below ownz (show Below wz.heap.size wz wz.drew from (Below.refl _ _).drew)
            · have HFE := Lib.hid (HLE.out (by omega))
              go_wp2_with fail
              go_meet
              rw [HFE.out]
              exact ⟨_, row6, fun W hW => rr.below hW, own6, B6⟩
          obtain ⟨vF, row9, hrF, own9, B9⟩ := hcut
          have HRF := Lib.hid hrF
          have hsz := refSize_calls (b := F) (hrF _ B9) (by omega)
          obtain ⟨a8, c8, rfl⟩ := (hrF _ B9).slice
          unfold batA at hsz
          clear d0 d1 d2 row6 own6 B6 B5 hrF
          obtain ⟨w9, hw9⟩ : ∃ w9, w9 = wc := ⟨_, rfl⟩
          rw [← hw9] at row9 own9 B9 hsz ⊢
          clear hw9
          have q0 : w9.cell? ⟨g, 0, none⟩ = some (.int .i64 F.base) := cell_of_row _ _ 0 _ _ _ row9
          have q1 : w9.cell? ⟨g, 1, none⟩ = some (.int .i64 F.epoch) := cell_of_row _ _ 1 _ _ _ row9
          have q2 : w9.cell? ⟨g, 2, none⟩ = some (.slice a8 F.recs.length c8) := cell_of_row _ _ 2 _ _ _ row9
          obtain ⟨n, hn⟩ : ∃ n, n = sizeB F := ⟨_, rfl⟩
          rw [← hn] at hsz
          have HN := Lib.hid hn
          have hnb : n ≤ 50000 := by rw [hn]; exact sizeB_bd F
          clear hn
          go_wp2_with fail
          with_reducible refine hsz.mono ?_
          rintro e w10 ⟨rfl, b10⟩
          have row10 := heap_below b10 row9
          have own10 := owns_below own9 b10
          have B10 := nxt B9 b10
          clear q0 q1 q2 hsz own9 row9
          have q0 : w10.cell? ⟨g, 0, none⟩ = some (.int .i64 F.base) := cell_of_row _ _ 0 _ _ _ row10
          have q1 : w10.cell? ⟨g, 1, none⟩ = some (.int .i64 F.epoch) := cell_of_row _ _ 1 _ _ _ row10
          have q2 : w10.cell? ⟨g, 2, none⟩ = some (.slice a8 F.recs.length c8) := cell_of_row _ _ 2 _ _ _ row10
          by_cases hD : most < sum ∨ most - sum < (n : Int)
          · have HC3 : Hid (Q = rs.map (·.d)) := Lib.hid (by have hc := HC2.out; rw [← HN.out, if_pos (by omega)] at hc; exact hc)
            by_cases hD1 : most < sum
            · clear hD
              go_wp2_with fail
              go_ret
              exact ⟨_, rfl, ⟨rs, by rw [← HQ.out, HC3.out], Rd.of_owns own10, fun x hx => PAR.out x hx _ B10⟩, B10⟩
            · have hM := HM.out
              have hws : IntKind.i64.wrap (most - sum) = most - sum := by rw [IntKind.wrap_i64]; omega
              have hD2 : most - sum < (n : Int) := by omega
              clear hD hM
              go_wp2_with fail
              go_ret
              exact ⟨_, rfl, ⟨rs, by rw [← HQ.out, HC3.out], Rd.of_owns own10, fun x hx => PAR.out x hx _ B10⟩, B10⟩
          · have hD1 : ¬ most < sum := fun e => hD (.inl e)
            have hD2 : ¬ most - sum < (n : Int) := fun e => hD (.inr e)
            have hM := HM.out
            have hws : IntKind.i64.wrap (most - sum) = most - sum := by rw [IntKind.wrap_i64]; omega
            clear hD hM
            have HC3 : Hid (Q = cutGo o most (L.drop (i + 1)) (rs.map (·.d) ++ [F]) (sum + (n : Int))) := Lib.hid (by have hc := HC2.out; rw [← HN.out, if_neg (by omega)] at hc; exact hc)
            have hwn : IntKind.i64.wrap (sum + (n : Int)) = sum + (n : Int) := by rw [IntKind.wrap_i64]; omega
            go_wp2_with (at_builtin; refine wpList_append_own _ rfl _ _ 25 rfl w.heap.size 34 i0 _ 3 40 Tryd.underlying25 hi hz0 hz1 hz2 rfl (by decide) _ _ _ rfl (own10.alloc _) ⟨w10.heap.size, 0, none⟩ 1 1 [.int .i64 F.base, .int .i64 F.epoch, .slice a8 F.recs.length c8] rfl rfl ?c1 ?c2 ?c3 ?c4 ?c5 ?_)
            case c1 => exact cells_new w10 #[.int .i64 F.base, .int .i64 F.epoch, .slice a8 F.recs.length c8] 34
            case c2 => intro u hu; simp at hu; rcases hu with rfl | rfl | rfl <;> rfl
            case c3 => unfold maxLen; omega
            case c4 => omega
            case c5 => have := B10.size; simp; omega
            intro v11 w11 o11 g11 _
            have bA := below_alloc w10 (.cells #[.int .i64 F.base, .int .i64 F.epoch, .slice a8 F.recs.length c8] 34)
            have hge : ∀ k', (Value.slice ao rs.length co).ownBlock = some k' → w.heap.size ≤ k' := owns_ge own10
            have B11 : Below w.heap.size w w11 := (nxt B10 bA).grown g11 (nxt B10 bA).size hge
            clear q0 q1 q2 g11 hge own10 bA
            go_wp2_with fail
            refine ⟨⟨i + 1, rs ++ [⟨F, .slice a8 F.recs.length c8⟩], sum + (n : Int), by go_num, by omega, rfl, Lib.hid ?_, by rw [List.length_append, List.length_singleton]; omega, by rw [List.length_append, List.length_singleton]; omega, ?_, ?_, B11⟩, by simp [intOf]; omega⟩
            · rw [List.map_append]; exact HC3.out.symm
            · rw [List.length_append, List.flatMap_append]; exact o11
            · intro x hx
              rcases List.mem_append.1 hx with h1 | h1
              · exact PAR.out x h1
              · rw [List.mem_singleton.1 h1]; exact HRF.out
    · obtain rfl : i = L.length := by omega
      have hq : Q = rs.map (·.d) := by
        rw [← HC.out, List.drop_of_length_le (Nat.le_refl _)]
        rfl
      have HQ3 := Lib.hid hq
      clear hq
      go_wp2_with fail
      go_ret
      exact ⟨_, rfl, ⟨rs, by rw [← HQ.out, HQ3.out], Rd.of_owns own, fun x hx => par x hx _ hb⟩, hb⟩
end Go.Proofs.YtlfbdcgojbfcaaaDoor
