/- cordwoodworld.Row: batches that follow one another. -/
import Derived.Test.YtlfbdcgojbfcaaaDoorRowBatMath
import Derived.Test.YtlfbdcgojbfcaaaDoorRecAll
import Derived.Test.YtlfbdcgojbfcaaaDoorNumber
import Derived.Deep.DeepCutAuto
namespace Go.Proofs.YtlfbdcgojbfcaaaDoor
open Go Go.RowKit Rec

theorem quo_nat (i e : Nat) : Int.tdiv (i : Int) (e : Int) = ((i / e : Nat) : Int) := (Int.ofNat_tdiv i e).symm
theorem made_one (v : Nat) : (madeCells #[Value.int .u8 0] v).toList = bvs (List.replicate v 0) := by
  rw [toList_madeCells_one]
  unfold bvs
  rw [List.map_replicate]
  rfl
def zvs (l : List Int) : List Value := l.map (fun (n : Int) => Value.int .i64 n)
theorem zvs_at (l : List Int) (k : Nat) (h : k < l.length) : (zvs l)[k]? = some (.int .i64 l[k]) := by simp [zvs, h]

set_option maxRecDepth 100000 in
set_option maxHeartbeats 4000000 in
theorem row_calls (zs : List Int) (vt : Value) (base : Int) (every : Nat) (w : World) (hb0 : 0 ≤ base ∧ base ≤ 10000000000) (hev : 0 < every ∧ every ≤ 1000) (hz : zs.length ≤ 100) (ht : Rd w 1 vt zs.length (zvs zs)) :
    Calls Tryd.prog 15 #[.int .i64 base, vt, .int .i64 (every : Int)] w (fun e w' => ∃ v, e = .returned v ∧ BatsOwn w' w.heap.size v (rowL base every zs zs.length) ∧ Below w.heap.size w w') := by
  obtain ⟨i0, hi, hz0, hz1, hz2⟩ := info_parts info_rec
  obtain ⟨i1, hj, hy0, hy1, hy2⟩ := info_parts info_bat
  obtain ⟨i2, hu, hx0, hx1, hx2⟩ := info_parts info_u8
  obtain ⟨a1, c1, rfl⟩ := ht.slice
  have hev1 : decide ((0 : Int) < (every : Int)) = true := decide_eq_true (by omega)
  have hev2 : ((every : Int) == 0) = false := by rw [beq_eq_false_iff_ne]; omega
  go_enter Tryd.func15, Tryd.ntmps15
  go_wp2_with fail
  go_loopw [7, 8, 9] (fun ov av iv wr => ∃ (i : Nat) (rs : List BatR), iv = .int .i64 i ∧ i ≤ zs.length ∧ av = .int .i64 (offs base zs i) ∧ Hid (rs.map (·.d) = rowL base every zs i) ∧ rs.length = i ∧ wr.ownsRow w.heap.size 34 3 ov i (rs.flatMap batV) ∧ (∀ x ∈ rs, RecsOwn wr w.heap.size x.v x.d.recs) ∧ Below w.heap.size w wr) (fun _ _ iv _ => zs.length - (intOf iv).toNat)
  case atStart => exact ⟨0, [], rfl, Nat.zero_le _, by rw [offs_zero], Lib.hid (by simp [rowL]), rfl, World.ownsRow_nil _ _ _ _, by simp, Below.refl _ _⟩
  case round =>
    obtain ⟨i, rs, rfl, hi2, rfl, HRS, hrl, own, par, hb⟩ := hrel
    obtain ⟨ao, co, rfl⟩ := owns_slice own
    by_cases hlt : i < zs.length
    · obtain ⟨zb, zo, rfl, hc1, hm1, hx⟩ := (ht.below hb).at (by omega)
      have f1 := hx i _ (zvs_at zs i hlt)
      have hof := offs_bd base zs i
      have HSU := Lib.hid (offs_succ base zs i hlt)
      have HSN := Lib.hid (rowL_snoc base every zs i)
      have HB := Lib.hid (show rowB base every zs i = rowBat (offs base zs i) every i zs[i] by unfold rowB; rw [zAt_at zs i hlt])
      obtain ⟨z, hz'⟩ : ∃ z, z = zs[i] := ⟨_, rfl⟩
      rw [← hz'] at f1 HSU HB
      have HZ := Lib.hid hz'
      obtain ⟨at_, hat⟩ : ∃ x, x = offs base zs i := ⟨_, rfl⟩
      rw [← hat] at hof HSU HB ⊢
      have hnb := nOf_bd z
      have hni := nOf_int z
      obtain ⟨n, hn⟩ : ∃ n, n = nOf z := ⟨_, rfl⟩
      rw [← hn] at hnb hni HSU
      have HN := Lib.hid hn
      have hq := quo_nat i every
      have hqb : i / every ≤ i := Nat.div_le_self _ _
      obtain ⟨q, hqq⟩ : ∃ q, q = i / every := ⟨_, rfl⟩
      rw [← hqq] at hq hqb
      have HQ := Lib.hid hqq
      clear hx hz' hat hn hqq
      have row2 := heap_alloc_new wr (.cells #[.int .i64 at_, .int .i64 1, .slice none 0 0] 34)
      have b2 := below_alloc wr (.cells #[.int .i64 at_, .int .i64 1, .slice none 0 0] 34)
      have hgs : (wr.alloc (.cells #[.int .i64 at_, .int .i64 1, .slice none 0 0] 34)).heap.size = wr.heap.size + 1 := alloc_size _ _
      clear f1
      go_upto_region 7 with fail
      generalize wr.alloc (.cells #[.int .i64 at_, .int .i64 1, .slice none 0 0] 34) = w2 at *
      obtain ⟨g, hg⟩ : ∃ g, g = wr.heap.size := ⟨_, rfl⟩
      have hgb := hb.size
      rw [← hg] at row2 b2 hgs hgb ⊢
      have HG := Lib.hid hg
      clear hg
      have k1 : w2.cell? ⟨g, 1, none⟩ = some (.int .i64 1) := cell_of_row _ _ 1 _ _ _ row2
      have z1 : w2.frozen? ⟨g, 1, none⟩ = false := frozen_of_row _ g 1 _ _ row2
      have row3 : (w2.setCell ⟨g, 1, none⟩ (.int .i64 (1 + (q : Int)))).heap[g]? = some (.cells #[.int .i64 at_, .int .i64 (1 + (q : Int)), .slice none 0 0] 34 (0, 0)) := heap_setCell_same w2 g 1 _ _ _ row2
      have T3 := Touch.setCell (g := g) w2 1 (.int .i64 (1 + (q : Int)))
      have hwq : IntKind.i64.wrap (1 + (q : Int)) = 1 + (q : Int) := by rw [IntKind.wrap_i64]; omega
      go_upto_region 9 with fail
      have b3 : Below g wr (w2.setCell ⟨g, 1, none⟩ (.int .i64 (1 + (q : Int)))) := T3.below b2 (Nat.le_refl _) (by omega)
      have hgs3 := T3.size
      generalize w2.setCell ⟨g, 1, none⟩ (.int .i64 (1 + (q : Int))) = w3 at *
      clear T3 k1 z1 row2 b2 hwq hq
      have B3 : Below w.heap.size w w3 := hb.trans (b3.mono hgb)
      obtain ⟨_, _, e0, hc1', hm1', hx'⟩ := (ht.below B3).at (by omega)
      simp only [Option.some.injEq, Addr.mk.injEq] at e0
      obtain ⟨rfl, rfl, _⟩ := e0
      have f1 := hx' i _ (zvs_at zs i hlt)
      rw [← HZ.out] at f1
      have hz5 : z % 5 = (n : Int) - 1 := by omega
      have hwn : IntKind.i64.wrap ((n : Int) - 1 + 1) = (n : Int) := by rw [IntKind.wrap_i64]; omega
      have hnum := number_calls z 5 w3 (by omega) (by omega)
      rw [hz5] at hnum
      clear hx' hc1' hm1' hni hz5
      go_wp2_with fail
      refine hnum.mono ?_
      rintro e w4 ⟨rfl, rfl⟩
      clear hnum f1
      go_wp2_with fail
      go_loopw [12] (fun kv wq => ∃ (k : Nat) (lv : Value), kv = .int .i64 k ∧ k ≤ n ∧ wq.heap[g]? = some (.cells #[.int .i64 at_, .int .i64 (1 + (q : Int)), lv] 34 (0, 0)) ∧ RecsOwn wq (g + 1) lv ((List.range k).map (rowRec i z)) ∧ Below g wr wq) (fun kv _ => n - (intOf kv).toNat)
      case atStart => exact ⟨0, _, rfl, Nat.zero_le _, row3, RecsOwn.nil _ _, b3⟩
      case round =>
        obtain ⟨k, lv, rfl, hk2, row, ⟨ts, HT, ownr, parr⟩, hbq⟩ := hrel
        obtain ⟨al, cl, rfl⟩ := owns_slice ownr
        have htl : ts.length = k := by have := congrArg List.length HT; simpa using this
        rw [htl] at ownr row
        have HT2 := Lib.hid HT
        have hqs := (Array.getElem?_eq_some_iff.1 row).1
        have Bq : Below w.heap.size w wr := hb.trans (hbq.mono hgb)
        by_cases hlk : k < n
        · obtain ⟨_, _, e0, hc1', hm1', hx'⟩ := (ht.below Bq).at (by omega)
          simp only [Option.some.injEq, Addr.mk.injEq] at e0
          obtain ⟨rfl, rfl, _⟩ := e0
          have f1 := hx' i _ (zvs_at zs i hlt)
          rw [← HZ.out] at f1
          have hvi := vOf_int z k
          have hvb := vOf_bd z k
          obtain ⟨u, hwz⟩ : ∃ u, IntKind.i64.wrap (z + (k : Int)) = u := ⟨_, rfl⟩
          rw [hwz] at hvi
          have hnum := number_calls u 9 wr (by omega) (by omega)
          rw [hvi] at hnum
          obtain ⟨v, hv⟩ : ∃ v, v = vOf z k := ⟨_, rfl⟩
          rw [← hv] at hnum hvb
          have HV := Lib.hid hv
          have hw1 : IntKind.i64.wrap (100 * (i : Int)) = 100 * (i : Int) := by rw [IntKind.wrap_i64]; omega
          have hw2 : IntKind.i64.wrap (100 * (i : Int) + (k : Int)) = 100 * (i : Int) + (k : Int) := by rw [IntKind.wrap_i64]; omega
          have hw3 : IntKind.i64.wrap (97 + (v : Int)) = 97 + (v : Int) := by rw [IntKind.wrap_i64]; omega
          have hw4 : IntKind.u8.wrap (97 + (v : Int)) = 97 + (v : Int) := by rw [IntKind.wrap_u8]; omega
          clear hx' hc1' hm1' hvi hv HT
          go_wp2_with fail
          with_reducible refine hnum.mono ?_
          rintro e w4 ⟨rfl, rfl⟩
          clear hnum f1
          go_wp2_with (at_make; refine wpList_make_full _ rfl _ _ 42 rfl (g + 1) 5 i2 (.int .u8 0) 1 Tryd.underlying42 hu hx0 hx1 _ _ _ _ v rfl rfl rfl rfl ?c1 ?c2 ?c3 ?_)
          case c1 => rw [hx2]; omega
          case c2 => unfold maxLen; omega
          case c3 => simp; omega
          intro w5 o5 g5
          rw [made_one] at o5
          have b4 := below_alloc wr (.cells #[.int .u8 (97 + (v : Int))] 5)
          have c5 : Below (wr.alloc (.cells #[.int .u8 (97 + (v : Int))] 5)).heap.size (wr.alloc (.cells #[.int .u8 (97 + (v : Int))] 5)) w5 := (Below.refl _ _).grown g5 (Nat.le_refl _) (by simp)
          have b5 : Below wr.heap.size wr w5 := nxt b4 c5
          have oK := World.ownsRow_lit wr #[.int .u8 (97 + (v : Int))] 1 (base := g + 1) (e := 5) (size := 1) (by omega) (by unfold maxLen; omega) rfl
          have oK5 := owns_below oK c5
          have hkb : (#[Value.int .u8 (97 + (v : Int))]).toList = bvs [UInt8.ofNat (97 + v)] := by
            have h : ((UInt8.ofNat (97 + v)).toNat : Int) = 97 + (v : Int) := by have := byte_small (97 + v) (by omega); omega
            simp only [bvs, bv, List.map_cons, List.map_nil, h]
          rw [hkb] at oK5
          obtain ⟨G, hG⟩ : ∃ G, G = wr.heap.size := ⟨_, rfl⟩
          rw [← hG] at oK5 o5
          simp only [← hG]
          clear hG
          have R : RecO w5 (g + 1) ⟨rowRec i z k, .slice (some ⟨G, 0, none⟩) 1 1, .slice (some ⟨G + 1, 0, none⟩) v v⟩ := by
            refine ⟨?_, ?_⟩
            · unfold rowRec; rw [← HV.out]; exact oK5
            · unfold rowRec; rw [← HV.out]; simp only [List.length_replicate]; exact o5
          have b6 := below_alloc w5 (.cells #[.int .i64 (100 * (i : Int) + (k : Int)), .slice (some ⟨G, 0, none⟩) 1 1, .slice (some ⟨G + 1, 0, none⟩) v v] 44)
          have row6 := heap_alloc_new w5 (.cells #[.int .i64 (100 * (i : Int) + (k : Int)), .slice (some ⟨G, 0, none⟩) 1 1, .slice (some ⟨G + 1, 0, none⟩) v v] 44)
          have B6 := nxt b5 b6
          have hb5 := b5.size
          clear oK oK5 o5 b4 c5 g5 hkb hw1 hw2 hw3 hw4 hwz
          go_upto_region 15 with fail
          generalize w5.alloc (.cells #[.int .i64 (100 * (i : Int) + (k : Int)), .slice (some ⟨G, 0, none⟩) 1 1, .slice (some ⟨G + 1, 0, none⟩) v v] 44) = w6 at *
          obtain ⟨g6, hg6⟩ : ∃ g6, g6 = w5.heap.size := ⟨_, rfl⟩
          rw [← hg6] at row6 ⊢
          clear hg6
          have d0 : w6.cell? ⟨g6, 0, none⟩ = some (.int .i64 (100 * (i : Int) + (k : Int))) := cell_of_row _ _ 0 _ _ _ row6
          have d1 : w6.cell? ⟨g6, 1, none⟩ = some (.slice (some ⟨G, 0, none⟩) 1 1) := cell_of_row _ _ 1 _ _ _ row6
          have d2 : w6.cell? ⟨g6, 2, none⟩ = some (.slice (some ⟨G + 1, 0, none⟩) v v) := cell_of_row _ _ 2 _ _ _ row6
          have rowb := heap_below B6 row
          have e2 : w6.cell? ⟨g, 2, none⟩ = some (.slice al k cl) := cell_of_row _ _ 2 _ _ _ rowb
          have or6 := owns_below ownr B6
          have pr6 := fun x hx => (parr x hx).below B6
          have R6 := R.below b6
          have h6s := B6.size
          clear ownr parr R
          go_wp2_with (at_builtin; refine wpList_append_own _ rfl _ _ 32 rfl (g + 1) 44 i0 _ 3 56 Tryd.underlying32 hi hz0 hz1 hz2 rfl (by decide) _ _ _ rfl (or6.alloc _) ⟨w6.heap.size, 0, none⟩ 1 1 [.int .i64 (100 * (i : Int) + (k : Int)), .slice (some ⟨G, 0, none⟩) 1 1, .slice (some ⟨G + 1, 0, none⟩) v v] rfl rfl ?c1 ?c2 ?c3 ?c4 ?c5 ?_)
          case c1 => exact cells_new w6 #[.int .i64 (100 * (i : Int) + (k : Int)), .slice (some ⟨G, 0, none⟩) 1 1, .slice (some ⟨G + 1, 0, none⟩) v v] 44
          case c2 => intro u hu; simp at hu; rcases hu with rfl | rfl | rfl <;> rfl
          case c3 => unfold maxLen; omega
          case c4 => omega
          case c5 => simp; omega
          intro v9 w9 o9 g9 _
          obtain ⟨a9, c9, rfl⟩ := owns_slice o9
          have bA := below_alloc w6 (.cells #[.int .i64 (100 * (i : Int) + (k : Int)), .slice (some ⟨G, 0, none⟩) 1 1, .slice (some ⟨G + 1, 0, none⟩) v v] 44)
          have hbA := heap_below bA rowb
          have hty := owns_rowIs (owns_below or6 bA)
          have hge : ∀ k', (Value.slice al k cl).ownBlock = some k' → g + 1 ≤ k' := owns_ge or6
          have row9 := (g9.block g (Array.getElem?_eq_some_iff.1 hbA).1 (fun e => by have := hge _ e.symm; omega)).trans hbA
          have p9 := fun x hx => ((pr6 x hx).below bA).grown g9 hty
          have R9 := (R6.below bA).grown g9 hty
          have B9 : Below g wr w9 := ((B6.mono (by omega)).trans (bA.mono (by omega))).grown g9 (by have := bA.size; omega) (fun k' hk' => by have := hge k' hk'; omega)
          have e9 : w9.cell? ⟨g, 2, none⟩ = some (.slice al k cl) := cell_of_row _ _ 2 _ _ _ row9
          have z9 : w9.frozen? ⟨g, 2, none⟩ = false := frozen_of_row _ g 2 _ _ row9
          have TT := Touch.setCell (g := g) w9 2 (.slice a9 (k + 1) c9)
          have rowz : (w9.setCell ⟨g, 2, none⟩ (.slice a9 (k + 1) c9)).heap[g]? = some (.cells #[.int .i64 at_, .int .i64 (1 + (q : Int)), .slice a9 (k + 1) c9] 34 (0, 0)) := heap_setCell_same w9 g 2 _ _ _ row9
          have oz := TT.owns_from o9 (by omega)
          have pz := fun x hx => (p9 x hx).touch TT (Nat.lt_succ_self g)
          have Rz := R9.touch TT (Nat.lt_succ_self g)
          have bz : Below g _ _ := TT.below (hbq.trans B9) (Nat.le_refl _) (by have := B9.size; omega)
          clear g9 hbA row9 TT o9 e2 d0 d1 d2 hty hge pr6 or6 p9 R9 B9 bA
          go_wp2_with fail
          refine ⟨⟨k + 1, _, by go_num, by omega, rowz, ⟨ts ++ [⟨rowRec i z k, .slice (some ⟨G, 0, none⟩) 1 1, .slice (some ⟨G + 1, 0, none⟩) v v⟩], ?_, ?_, ?_⟩, bz⟩, by simp [intOf]; omega⟩
          · rw [List.map_append, HT2.out, List.range_succ, List.map_append]; rfl
          · rw [List.length_append, htl, List.flatMap_append]; exact oz
          · intro x hx
            rcases List.mem_append.1 hx with h1 | h1
            · exact pz x h1
            · rw [List.mem_singleton.1 h1]; exact Rz
        · obtain rfl : k = n := by omega
          have hwat : IntKind.i64.wrap (at_ + (k : Int)) = at_ + (k : Int) := by rw [IntKind.wrap_i64]; omega
          have ow := owns_below own (HG.out ▸ hbq)
          have pw := fun x hx => (par x hx).below (HG.out ▸ hbq)
          have RB : RecsOwn wr w.heap.size (.slice al k cl) ((List.range k).map (rowRec i z)) := RecsOwn.base (base := g + 1) ⟨ts, HT2.out, by rw [htl]; exact ownr, parr⟩ (by omega)
          have d0 : wr.cell? ⟨g, 0, none⟩ = some (.int .i64 at_) := cell_of_row _ _ 0 _ _ _ row
          have d1 : wr.cell? ⟨g, 1, none⟩ = some (.int .i64 (1 + (q : Int))) := cell_of_row _ _ 1 _ _ _ row
          have d2 : wr.cell? ⟨g, 2, none⟩ = some (.slice al k cl) := cell_of_row _ _ 2 _ _ _ row
          clear own par ownr parr HT
          go_wp2_with (at_builtin; refine wpList_append_own _ rfl _ _ 25 rfl w.heap.size 34 i1 _ 3 40 Tryd.underlying25 hj hy0 hy1 hy2 rfl (by decide) _ _ _ rfl (ow.alloc _) ⟨wr.heap.size, 0, none⟩ 1 1 [.int .i64 at_, .int .i64 (1 + (q : Int)), .slice al k cl] rfl rfl ?c1 ?c2 ?c3 ?c4 ?c5 ?_)
          case c1 => exact cells_new wr #[.int .i64 at_, .int .i64 (1 + (q : Int)), .slice al k cl] 34
          case c2 => intro u hu; simp at hu; rcases hu with rfl | rfl | rfl <;> rfl
          case c3 => unfold maxLen; omega
          case c4 => omega
          case c5 => have := Bq.size; simp; omega
          intro v9 w9 o9 g9 _
          have bA := below_alloc wr (.cells #[.int .i64 at_, .int .i64 (1 + (q : Int)), .slice al k cl] 34)
          have hty := owns_rowIs (owns_below ow bA)
          have hge : ∀ k', (Value.slice ao i co).ownBlock = some k' → w.heap.size ≤ k' := owns_ge ow
          have B9 : Below w.heap.size w w9 := (nxt Bq bA).grown g9 (nxt Bq bA).size hge
          have p9 := fun x hx => ((pw x hx).below bA).grown g9 hty
          have R9 := (RB.below bA).grown g9 hty
          clear d0 d1 d2 g9 hty hge ow pw RB
          go_wp2_with fail
          refine ⟨⟨i + 1, rs ++ [⟨rowBat at_ every i z, .slice al k cl⟩], by go_num, by omega, congrArg (Value.int .i64) HSU.out.symm, Lib.hid ?_, by rw [List.length_append, hrl]; rfl, ?_, ?_, B9⟩, by simp [intOf]; omega⟩
          · rw [List.map_append, HRS.out, HSN.out, HB.out]; rfl
          · rw [List.flatMap_append]
            have e : batV ⟨rowBat at_ every i z, .slice al k cl⟩ = [.int .i64 at_, .int .i64 (1 + (q : Int)), .slice al k cl] := by
              unfold batV rowBat
              simp only [HQ.out]
              rfl
            simp only [List.flatMap_cons, List.flatMap_nil, List.append_nil, e]
            exact o9
          · intro x hx
            rcases List.mem_append.1 hx with h1 | h1
            · exact p9 x h1
            · rw [List.mem_singleton.1 h1]
              have e : (rowBat at_ every i z).recs = (List.range k).map (rowRec i z) := by unfold rowBat; rw [HN.out]
              rw [e]
              exact R9
    · obtain rfl : i = zs.length := by omega
      go_wp2_with fail
      go_ret
      exact ⟨_, rfl, ⟨rs, HRS.out, by rw [hrl]; exact own, par⟩, hb⟩
end Go.Proofs.YtlfbdcgojbfcaaaDoor
