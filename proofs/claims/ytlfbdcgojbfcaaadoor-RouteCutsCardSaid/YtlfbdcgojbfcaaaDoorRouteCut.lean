/- route.Cut: batches from an offset on, of so many bytes. -/
import Derived.Test.YtlfbdcgojbfcaaaDoorSegFrom
import Derived.Test.YtlfbdcgojbfcaaaDoorRecAll
import Derived.Test.YtlfbdcgojbfcaaaDoorRecTime
import Derived.Test.YtlfbdcgojbfcaaaDoorRecBytes
import Derived.Deep.DeepCutAuto
namespace Go.Proofs.YtlfbdcgojbfcaaaDoor.Rec

def nextB (b : BatD) : Int := b.base + b.recs.length
def cutGo (o most : Int) : List BatD → List BatD → Int → List BatD
  | [], out, _ => out
  | b :: l, out, sum => if nextB b ≤ o ∨ (out.length = 0 ∧ o < b.base) then cutGo o most l out sum
    else if 0 < out.length ∧ (most < sum ∨ most - sum < (sizeB (fromB b o) : Int)) then out
    else cutGo o most l (out ++ [fromB b o]) (sum + (sizeB (fromB b o) : Int))
def cutL (o most : Int) (l : List BatD) : List BatD := cutGo o most l [] 0

theorem fromB_mem (b : BatD) (o : Int) : ∀ r ∈ (fromB b o).recs, r ∈ b.recs := by
  unfold fromB
  split
  · intro r h; exact h
  · intro r h; exact List.mem_of_mem_drop h
theorem fromB_len (b : BatD) (o : Int) : (fromB b o).recs.length ≤ b.recs.length := by
  unfold fromB
  split
  · exact Nat.le_refl _
  · simp
theorem recOk_small {r : RecD} (h : recOk r = true) : r.key.length ≤ 1000000 ∧ r.val.length ≤ 1000000 := by
  unfold recOk at h
  rw [decide_eq_true_eq] at h
  omega
theorem sizeB_bd (b : BatD) : sizeB b ≤ 50000 := by
  unfold sizeB
  split
  · rename_i h
    have := body_len h
    rw [bytes_len]; omega
  · omega
end Go.Proofs.YtlfbdcgojbfcaaaDoor.Rec
namespace Go.Proofs.YtlfbdcgojbfcaaaDoor
open Go Go.RowKit Rec

theorem small_from {b : BatD} (hv : valid b = 0) (o : Int) : small (fromB b o) := by
  obtain ⟨h1, h2, h3⟩ := (valid_iff b).1 hv
  rw [List.all_eq_true] at h3
  exact ⟨by have := fromB_len b o; omega, fun r hr => recOk_small (h3 r (fromB_mem b o r hr))⟩

set_option maxRecDepth 100000 in
set_option maxHeartbeats 4000000 in
theorem cut_calls (S : List Nat) (A : Nat → Addr) {w : World} (hS : Sents S w A) (hE3 : 3 ∈ S) (hE4 : 4 ∈ S) {v : Value} {L : List BatD} (h : BatsRd w v L) (hL : ∀ b ∈ L, valid b = 0) (hl : L.length ≤ 1000) (o most : Int) (hm : -9223372036854775808 ≤ most ∧ most ≤ 9223372036854775807) :
    Calls Tryd.prog 17 #[v, .int .i64 o, .int .i64 most] w (fun e w' => ∃ v', e = .returned v' ∧ BatsOwn w' w.heap.size v' (cutL o most L) ∧ Below w.heap.size w w') := by
  obtain ⟨i0, hi, hz0, hz1, hz2⟩ := info_parts info_bat
  obtain ⟨a, c, rfl⟩ := h.slice
  obtain ⟨Q, hQ⟩ : ∃ Q, Q = cutL o most L := ⟨_, rfl⟩
  have HQ := Lib.hid hQ
  have HL := Lib.hid hL
  have HM := Lib.hid hm
  clear hQ hL hm
  go_enter Tryd.func17, Tryd.ntmps17
  go_wp2_with fail
  go_loopw [7, 8, 14] (fun ov sv iv wr => ∃ (i : Nat) (rs : List BatR) (sum : Int), iv = .int .i64 i ∧ i ≤ L.length ∧ sv = .int .i64 sum ∧ Hid (cutGo o most (L.drop i) (rs.map (·.d)) sum = Q) ∧ (0 ≤ sum ∧ sum ≤ 50000 * (rs.length : Int)) ∧ rs.length ≤ i ∧ wr.ownsRow w.heap.size 34 3 ov rs.length (rs.flatMap batV) ∧ (∀ x ∈ rs, RecsOwn wr w.heap.size x.v x.d.recs) ∧ Below w.heap.size w wr) (fun _ _ iv _ => L.length - (intOf iv).toNat)
  case atStart => exact ⟨0, [], 0, rfl, Nat.zero_le _, rfl, Lib.hid HQ.out.symm, by omega, Nat.le_refl _, World.ownsRow_nil _ _ _ _, by simp, Below.refl _ _⟩
  case round =>
    obtain ⟨i, rs, sum, rfl, hil, rfl, HC, hsum, hri, own, par, hb⟩ := hrel
    obtain ⟨ao, co, rfl⟩ := owns_slice own
    by_cases hlt : i < L.length
    · obtain ⟨bb, bo, rfl, hcs⟩ := (h.below hb).cells i hlt
      obtain ⟨v, p0, p1, p2, rr⟩ := hcs i hlt
      have hv := HL.out L[i] (List.getElem_mem hlt)
      have HD := Lib.hid (List.drop_eq_getElem_cons hlt)
      obtain ⟨b, hb'⟩ : ∃ b, b = L[i] := ⟨_, rfl⟩
      rw [← hb'] at p0 p1 rr hv HD
      have hvi := (valid_iff b).1 hv
      obtain ⟨ar, cr, rfl⟩ := rr.slice
      have hcg : Hid (Q = if nextB b ≤ o ∨ (rs.length = 0 ∧ o < b.base) then cutGo o most (L.drop (i + 1)) (rs.map (·.d)) sum
          else if 0 < rs.length ∧ (most < sum ∨ most - sum < (sizeB (fromB b o) : Int)) then rs.map (·.d)
          else cutGo o most (L.drop (i + 1)) (rs.map (·.d) ++ [fromB b o]) (sum + (sizeB (fromB b o) : Int))) := Lib.hid (by
        rw [← HC.out, HD.out]
        conv => lhs; unfold cutGo
        rw [List.length_map])
      have hne : nextB b = b.base + (b.recs.length : Int) := rfl
      have b5 := below_alloc wr (.cells #[.int .i64 b.base, .int .i64 b.epoch, .slice ar b.recs.length cr] 34)
      have row5 := heap_alloc_new wr (.cells #[.int .i64 b.base, .int .i64 b.epoch, .slice ar b.recs.length cr] 34)
      have B5 := nxt hb b5
      have own5 := owns_below own b5
      have par5 := fun x hx => (par x hx).below b5
      have rr5 := rr.below b5
      obtain ⟨v1, v2, v3⟩ := hvi
      have V3 := Lib.hid v3
      have hgo0 := owns_lt own
      clear hcs hb' own par rr b5 HC v3 hv
      go_upto_region 6 with fail
      obtain ⟨w5, hw5⟩ : ∃ w5, w5 = wr.alloc (.cells #[.int .i64 b.base, .int .i64 b.epoch, .slice ar b.recs.length cr] 34) := ⟨_, rfl⟩
      obtain ⟨g, hg⟩ : ∃ g, g = wr.heap.size := ⟨_, rfl⟩
      rw [← hw5] at row5 B5 own5 par5 rr5 ⊢
      rw [← hg] at row5 ⊢
      have hgw : w.heap.size ≤ g := by rw [hg]; exact hb.size
      have hgo : ∀ k, (Value.slice ao rs.length co).ownBlock = some k → k < g := by rw [hg]; exact hgo0
      clear hw5 hg hgo0
      have d0 : w5.cell? ⟨g, 0, none⟩ = some (.int .i64 b.base) := cell_of_row _ _ 0 _ _ _ row5
      have d1 : w5.cell? ⟨g, 1, none⟩ = some (.int .i64 b.epoch) := cell_of_row _ _ 1 _ _ _ row5
      have d2 : w5.cell? ⟨g, 2, none⟩ = some (.slice ar b.recs.length cr) := cell_of_row _ _ 2 _ _ _ row5
      have hnx := recNext_calls rr5 (by omega) (by omega)
      unfold batA at hnx
      go_wp2_with fail
      with_reducible refine hnx.mono ?_
      rintro e w6 ⟨rfl, b6⟩
      have row6 := heap_below b6 row5
      have own6 := owns_below own5 b6
      have par6 := fun x hx => (par5 x hx).below b6
      have rr6 := rr5.below b6
      have B6 := nxt B5 b6
      clear hnx d0 d1 d2 own5 par5 rr5 row5 b6
      have d0 : w6.cell? ⟨g, 0, none⟩ = some (.int .i64 b.base) := cell_of_row _ _ 0 _ _ _ row6
      have d1 : w6.cell? ⟨g, 1, none⟩ = some (.int .i64 b.epoch) := cell_of_row _ _ 1 _ _ _ row6
      have d2 : w6.cell? ⟨g, 2, none⟩ = some (.slice ar b.recs.length cr) := cell_of_row _ _ 2 _ _ _ row6
      by_cases hA : b.base + (b.recs.length : Int) ≤ o ∨ (rs.length = 0 ∧ o < b.base)
      · have HC2 := Lib.hid (hcg.out.trans (if_pos hA))
        rcases hA with hA | ⟨hA1, hA2⟩
        · go_wp2_with fail
          exact ⟨⟨i + 1, rs, sum, by go_num, by omega, rfl, Lib.hid HC2.out.symm, hsum, by omega, own6, par6, B6⟩, by simp [intOf]; omega⟩
        · have x1 : ((rs.length : Int) == 0) = true := by rw [beq_iff_eq]; omega
          have x0 : ¬ (b.base + (b.recs.length : Int) ≤ o) := by omega
          have HA1 := Lib.hid hA1
          clear hA1
          go_wp2_with fail
          exact ⟨⟨i + 1, rs, sum, by go_num, by omega, rfl, Lib.hid HC2.out.symm, hsum, by omega, own6, par6, B6⟩, by simp [intOf]; omega⟩
      · have hx0 : ¬ (b.base + (b.recs.length : Int) ≤ o) := fun e => hA (.inl e)
        have hfr := from_calls rr6 o (by omega) (by omega) (by omega)
        unfold batA at hfr
        have hsm : small (fromB b o) := by
          refine ⟨by have := fromB_len b o; omega, fun r hr => recOk_small ?_⟩
          have := V3.out
          rw [List.all_eq_true] at this
          exact this r (fromB_mem b o r hr)
        have HC2 := Lib.hid (hcg.out.trans (if_neg hA))
        obtain ⟨F, hF⟩ : ∃ F, F = fromB b o := ⟨_, rfl⟩
        rw [← hF] at hfr hsm HC2
        have HSM := Lib.hid hsm
        clear hF hsm hcg
        by_cases h0 : rs.length = 0
        · have x1 : ((rs.length : Int) == 0) = true := by rw [beq_iff_eq]; omega
          have x2 : ¬ o < b.base := fun e => hA (.inr ⟨h0, e⟩)
          have x3 : ¬ ((0 : Int) < (rs.length : Int)) := by omega
          have H0 := Lib.hid h0
          clear h0 hA
          go_wp2_with fail
          with_reducible refine hfr.mono ?_
          rintro e w7 ⟨v7, rfl, rr7, b7⟩
          obtain ⟨a7, c7, rfl⟩ := rr7.slice
          have hcl := recClone_calls rr7 HSM.out
          unfold batA at hcl
          clear d0 d1 d2 hfr
          go_wp2_with fail
          with_reducible refine hcl.mono ?_
          rintro e w8 ⟨v8, rfl, ro8, b8⟩
          have rd8 := ro8.rd
          obtain ⟨a8, c8, rfl⟩ := rd8.slice
          have b68 := nxt b7 b8
          have row8 := heap_below b68 row6
          have own8 := owns_below own6 b68
          have par8 := fun x hx => (par6 x hx).below b68
          have B8 := nxt B6 b68
          have hs78 : w.heap.size ≤ w7.heap.size := (nxt B6 b7).size
          clear hcl row6 own6 par6 rr6 b68
          go_wp2_with (refine wpList_store_row_g rfl 34 _ _ rfl g _ rfl rfl 34 _ row8 batSize' rfl (by simp [Value.oneCell']) ?_)
          intro w9 row9 g9 _
          have T9 : Touch g w8 w9 := g9
          have hrg : ∀ k, some g = some k → ∃ c f, w8.heap[k]? = some (.cells c 34 f) := fun k hk => by
            obtain rfl := Option.some.inj hk
            exact ⟨_, _, row8⟩
          have own9 := (Frame.of_touch (F := fun k => k = g) T9 rfl).owns own8 (fun k hk e => by have := hgo k hk; omega)
          have par9 := fun x hx => (par8 x hx).grown g9 hrg
          have ro9 := ro8.grown g9 hrg
          have B9 := T9.new B8 hgw
          have hsz := recSize_calls S A (hS.below B9) hE3 hE4 ro9.rd
          unfold batA at hsz
          have q0 : w9.cell? ⟨g, 0, none⟩ = some (.int .i64 F.base) := cell_of_row _ _ 0 _ _ _ row9
          have q1 : w9.cell? ⟨g, 1, none⟩ = some (.int .i64 F.epoch) := cell_of_row _ _ 1 _ _ _ row9
          have q2 : w9.cell? ⟨g, 2, none⟩ = some (.slice a8 F.recs.length c8) := cell_of_row _ _ 2 _ _ _ row9
          obtain ⟨n, hn⟩ : ∃ n, n = sizeB F := ⟨_, rfl⟩
          rw [← hn] at hsz
          have HN := Lib.hid hn
          have hnb : n ≤ 50000 := by rw [hn]; exact sizeB_bd F
          clear hn T9 g9 hrg row8 own8 par8 ro8 rd8
          go_wp2_with fail
          with_reducible refine hsz.mono ?_
          rintro e w10 ⟨rfl, b10⟩
          have row10 := heap_below b10 row9
          have own10 := owns_below own9 b10
          have par10 := fun x hx => (par9 x hx).below b10
          have ro10 := ro9.below b10
          have B10 := nxt B9 b10
          clear q0 q1 q2 hsz own9 par9 ro9 row9
          have q0 : w10.cell? ⟨g, 0, none⟩ = some (.int .i64 F.base) := cell_of_row _ _ 0 _ _ _ row10
          have q1 : w10.cell? ⟨g, 1, none⟩ = some (.int .i64 F.epoch) := cell_of_row _ _ 1 _ _ _ row10
          have q2 : w10.cell? ⟨g, 2, none⟩ = some (.slice a8 F.recs.length c8) := cell_of_row _ _ 2 _ _ _ row10
          have HC3 : Hid (Q = cutGo o most (L.drop (i + 1)) (rs.map (·.d) ++ [F]) (sum + (n : Int))) := Lib.hid (by have hc := HC2.out; rw [← HN.out, if_neg (by omega)] at hc; exact hc)
          have hwn : IntKind.i64.wrap (sum + (n : Int)) = sum + (n : Int) := by rw [IntKind.wrap_i64]; omega
          go_wp2_with (at_builtin; refine wpList_append_own _ rfl _ _ 25 rfl w.heap.size 34 i0 _ 3 40 Tryd.underlying25 hi hz0 hz1 hz2 rfl (by decide) _ _ _ rfl (own10.alloc _) ⟨w10.heap.size, 0, none⟩ 1 1 [.int .i64 F.base, .int .i64 F.epoch, .slice a8 F.recs.length c8] rfl rfl ?c1 ?c2 ?c3 ?c4 ?c5 ?_)
          case c1 => exact cells_new w10 #[.int .i64 F.base, .int .i64 F.epoch, .slice a8 F.recs.length c8] 34
          case c2 => intro u hu; simp at hu; rcases hu with rfl | rfl | rfl <;> rfl
          case c3 => unfold maxLen; omega
          case c4 => omega
          case c5 => have := B10.size; simp; omega
          intro v11 w11 o11 g11 _
          have bA := below_alloc w10 (.cells #[.int .i64 F.base, .int .i64 F.epoch, .slice a8 F.recs.length c8] 34)
          have hty := owns_rowIs (owns_below own10 bA)
          have hge : ∀ k', (Value.slice ao rs.length co).ownBlock = some k' → w.heap.size ≤ k' := owns_ge own10
          have B11 : Below w.heap.size w w11 := (nxt B10 bA).grown g11 (nxt B10 bA).size hge
          have p11 := fun x hx => ((par10 x hx).below bA).grown g11 hty
          have R11 := (ro10.below bA).grown g11 hty
          clear q0 q1 q2 g11 hty hge own10 par10 ro10 bA
          go_wp2_with fail
          refine ⟨⟨i + 1, rs ++ [⟨F, .slice a8 F.recs.length c8⟩], sum + (n : Int), by go_num, by omega, rfl, Lib.hid ?_, by rw [List.length_append, List.length_singleton]; omega, by rw [List.length_append, List.length_singleton]; omega, ?_, ?_, B11⟩, by simp [intOf]; omega⟩
          · rw [List.map_append]; exact HC3.out.symm
          · rw [List.length_append, List.flatMap_append]; exact o11
          · intro x hx
            rcases List.mem_append.1 hx with h1 | h1
            · exact p11 x h1
            · rw [List.mem_singleton.1 h1]; exact R11.base hs78
        · have x1 : ((rs.length : Int) == 0) = false := by rw [beq_eq_false_iff_ne]; omega
          have x3 : (0 : Int) < (rs.length : Int) := by omega
          have H0 := Lib.hid h0
          clear h0 hA
          go_wp2_with fail
          with_reducible refine hfr.mono ?_
          rintro e w7 ⟨v7, rfl, rr7, b7⟩
          obtain ⟨a7, c7, rfl⟩ := rr7.slice
          have hcl := recClone_calls rr7 HSM.out
          unfold batA at hcl
          clear d0 d1 d2 hfr
          go_wp2_with fail
          with_reducible refine hcl.mono ?_
          rintro e w8 ⟨v8, rfl, ro8, b8⟩
          have rd8 := ro8.rd
          obtain ⟨a8, c8, rfl⟩ := rd8.slice
          have b68 := nxt b7 b8
          have row8 := heap_below b68 row6
          have own8 := owns_below own6 b68
          have par8 := fun x hx => (par6 x hx).below b68
          have B8 := nxt B6 b68
          have hs78 : w.heap.size ≤ w7.heap.size := (nxt B6 b7).size
          clear hcl row6 own6 par6 rr6 b68
          go_wp2_with (refine wpList_store_row_g rfl 34 _ _ rfl g _ rfl rfl 34 _ row8 batSize' rfl (by simp [Value.oneCell']) ?_)
          intro w9 row9 g9 _
          have T9 : Touch g w8 w9 := g9
          have hrg : ∀ k, some g = some k → ∃ c f, w8.heap[k]? = some (.cells c 34 f) := fun k hk => by
            obtain rfl := Option.some.inj hk
            exact ⟨_, _, row8⟩
          have own9 := (Frame.of_touch (F := fun k => k = g) T9 rfl).owns own8 (fun k hk e => by have := hgo k hk; omega)
          have par9 := fun x hx => (par8 x hx).grown g9 hrg
          have ro9 := ro8.grown g9 hrg
          have B9 := T9.new B8 hgw
          have hsz := recSize_calls S A (hS.below B9) hE3 hE4 ro9.rd
          unfold batA at hsz
          have q0 : w9.cell? ⟨g, 0, none⟩ = some (.int .i64 F.base) := cell_of_row _ _ 0 _ _ _ row9
          have q1 : w9.cell? ⟨g, 1, none⟩ = some (.int .i64 F.epoch) := cell_of_row _ _ 1 _ _ _ row9
          have q2 : w9.cell? ⟨g, 2, none⟩ = some (.slice a8 F.recs.length c8) := cell_of_row _ _ 2 _ _ _ row9
          obtain ⟨n, hn⟩ : ∃ n, n = sizeB F := ⟨_, rfl⟩
          rw [← hn] at hsz
          have HN := Lib.hid hn
          have hnb : n ≤ 50000 := by rw [hn]; exact sizeB_bd F
          clear hn T9 g9 hrg row8 own8 par8 ro8 rd8
          go_wp2_with fail
          with_reducible refine hsz.mono ?_
          rintro e w10 ⟨rfl, b10⟩
          have row10 := heap_below b10 row9
          have own10 := owns_below own9 b10
          have par10 := fun x hx => (par9 x hx).below b10
          have ro10 := ro9.below b10
          have B10 := nxt B9 b10
          clear q0 q1 q2 hsz own9 par9 ro9 row9
          have q0 : w10.cell? ⟨g, 0, none⟩ = some (.int .i64 F.base) := cell_of_row _ _ 0 _ _ _ row10
          have q1 : w10.cell? ⟨g, 1, none⟩ = some (.int .i64 F.epoch) := cell_of_row _ _ 1 _ _ _ row10
          have q2 : w10.cell? ⟨g, 2, none⟩ = some (.slice a8 F.recs.length c8) := cell_of_row _ _ 2 _ _ _ row10
          by_cases hD : most < sum ∨ most - sum < (n : Int)
          · have HC3 : Hid (Q = rs.map (·.d)) := Lib.hid (by have hc := HC2.out; rw [← HN.out, if_pos (by omega)] at hc; exact hc)
            by_cases hD1 : most < sum
            · clear hD
              go_wp2_with fail
              go_ret
              exact ⟨_, rfl, ⟨rs, by rw [← HQ.out, HC3.out], own10, par10⟩, B10⟩
            · have hM := HM.out
              have hws : IntKind.i64.wrap (most - sum) = most - sum := by rw [IntKind.wrap_i64]; omega
              have hD2 : most - sum < (n : Int) := by omega
              clear hD hM
              go_wp2_with fail
              go_ret
              exact ⟨_, rfl, ⟨rs, by rw [← HQ.out, HC3.out], own10, par10⟩, B10⟩
          · have hD1 : ¬ most < sum := fun e => hD (.inl e)
            have hD2 : ¬ most - sum < (n : Int) := fun e => hD (.inr e)
            have hM := HM.out
            have hws : IntKind.i64.wrap (most - sum) = most - sum := by rw [IntKind.wrap_i64]; omega
            clear hD hM
            have HC3 : Hid (Q = cutGo o most (L.drop (i + 1)) (rs.map (·.d) ++ [F]) (sum + (n : Int))) := Lib.hid (by have hc := HC2.out; rw [← HN.out, if_neg (by omega)] at hc; exact hc)
            have hwn : IntKind.i64.wrap (sum + (n : Int)) = sum + (n : Int) := by rw [IntKind.wrap_i64]; omega
            go_wp2_with (at_builtin; refine wpList_append_own _ rfl _ _ 25 rfl w.heap.size 34 i0 _ 3 40 Tryd.underlying25 hi hz0 hz1 hz2 rfl (by decide) _ _ _ rfl (own10.alloc _) ⟨w10.heap.size, 0, none⟩ 1 1 [.int .i64 F.base, .int .i64 F.epoch, .slice a8 F.recs.length c8] rfl rfl ?c1 ?c2 ?c3 ?c4 ?c5 ?_)
            case c1 => exact cells_new w10 #[.int .i64 F.base, .int .i64 F.epoch, .slice a8 F.recs.length c8] 34
            case c2 => intro u hu; simp at hu; rcases hu with rfl | rfl | rfl <;> rfl
            case c3 => unfold maxLen; omega
            case c4 => omega
            case c5 => have := B10.size; simp; omega
            intro v11 w11 o11 g11 _
            have bA := below_alloc w10 (.cells #[.int .i64 F.base, .int .i64 F.epoch, .slice a8 F.recs.length c8] 34)
            have hty := owns_rowIs (owns_below own10 bA)
            have hge : ∀ k', (Value.slice ao rs.length co).ownBlock = some k' → w.heap.size ≤ k' := owns_ge own10
            have B11 : Below w.heap.size w w11 := (nxt B10 bA).grown g11 (nxt B10 bA).size hge
            have p11 := fun x hx => ((par10 x hx).below bA).grown g11 hty
            have R11 := (ro10.below bA).grown g11 hty
            clear q0 q1 q2 g11 hty hge own10 par10 ro10 bA
            go_wp2_with fail
            refine ⟨⟨i + 1, rs ++ [⟨F, .slice a8 F.recs.length c8⟩], sum + (n : Int), by go_num, by omega, rfl, Lib.hid ?_, by rw [List.length_append, List.length_singleton]; omega, by rw [List.length_append, List.length_singleton]; omega, ?_, ?_, B11⟩, by simp [intOf]; omega⟩
            · rw [List.map_append]; exact HC3.out.symm
            · rw [List.length_append, List.flatMap_append]; exact o11
            · intro x hx
              rcases List.mem_append.1 hx with h1 | h1
              · exact p11 x h1
              · rw [List.mem_singleton.1 h1]; exact R11.base hs78
    · obtain rfl : i = L.length := by omega
      have hq : Q = rs.map (·.d) := by
        rw [← HC.out, List.drop_of_length_le (Nat.le_refl _)]
        rfl
      have HQ3 := Lib.hid hq
      clear hq
      go_wp2_with fail
      go_ret
      exact ⟨_, rfl, ⟨rs, by rw [← HQ.out, HQ3.out], own, par⟩, hb⟩
end Go.Proofs.YtlfbdcgojbfcaaaDoor
