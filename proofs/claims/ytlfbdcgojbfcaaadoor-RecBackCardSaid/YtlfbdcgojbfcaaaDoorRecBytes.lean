/- rec.Bytes, rec.Size, rec.Next: a batch as bytes, or why it has none. -/
import Derived.Test.YtlfbdcgojbfcaaaDoorRecBody
import Derived.Test.YtlfbdcgojbfcaaaDoorCrcWalk
namespace Go.Proofs.YtlfbdcgojbfcaaaDoor
open Go Go.RowKit Rec Vint

def BytesB (A : Nat → Addr) (b : BatD) (w : World) (e : Ending) (w' : World) : Prop :=
  ((valid b = 0 ∧ ∃ v, e = .returned (.tuple #[v, .nilIface]) ∧ w'.ownsRow w.heap.size 5 1 v (bytesL b).length (bvs (bytesL b))) ∨
    valid b ≠ 0 ∧ e = .returned (.tuple #[.slice none 0 0, senV A (valid b - 101)])) ∧ Below w.heap.size w w'

set_option maxRecDepth 100000 in
set_option maxHeartbeats 2000000 in
theorem recBytes_calls (S : List Nat) (A : Nat → Addr) {w : World} (hS : Sents S w A) (h3 : 3 ∈ S) (h4 : 4 ∈ S) {b : BatD} {v : Value} (h : RecsRd w v b.recs) :
    Calls Tryd.prog 27 #[batA b v] w (BytesB A b w) := by
  obtain ⟨i0, hi, hz0, hz1, hz2⟩ := info_parts info_u8
  have hval := fun W (hB : Below w.heap.size w W) => recValid_calls S A (hS.below hB) h3 h4 (h.below hB)
  have hbody := fun (hv : valid b = 0) W (hB : Below w.heap.size w W) => recBody_calls hv (h.below hB)
  have hbl := fun (hv : valid b = 0) => body_len hv
  have hP : bytesL b = lit (bodyL b).length 4 ++ (lit (Crc.sum (bodyL b)).toNat 4 ++ bodyL b) := rfl
  have HP := Lib.hid hP
  obtain ⟨a, c, rfl⟩ := h.slice
  obtain ⟨BL, hBL⟩ : ∃ BL, BL = bodyL b := ⟨_, rfl⟩
  rw [← hBL] at hbl HP hbody
  obtain ⟨BY, hBY⟩ : ∃ BY, BY = bytesL b := ⟨_, rfl⟩
  rw [← hBY] at HP
  obtain ⟨vc, hvc⟩ : ∃ vc, vc = valid b := ⟨_, rfl⟩
  have HPOST : Hid (BytesB A b w = fun e w' => ((vc = 0 ∧ ∃ v, e = .returned (.tuple #[v, .nilIface]) ∧ w'.ownsRow w.heap.size 5 1 v BY.length (bvs BY)) ∨
    vc ≠ 0 ∧ e = .returned (.tuple #[.slice none 0 0, senV A (vc - 101)])) ∧ Below w.heap.size w w') := Lib.hid (by unfold BytesB; rw [← hvc, ← hBY])
  unfold ValidB at hval
  rw [← hvc] at hval hbody hbl
  clear hvc hBY hBL hP h
  obtain ⟨ba, ep, l⟩ := b
  unfold batA at hval hbody ⊢
  simp only at hval hbody ⊢
  have b1 := below_alloc w (.cells #[.int .i64 ba, .int .i64 ep, .slice a l.length c] 34)
  have row1 := heap_alloc_new w (.cells #[.int .i64 ba, .int .i64 ep, .slice a l.length c] 34)
  go_enter Tryd.func27, Tryd.ntmps27
  go_upto_region 1 with fail
  generalize w.alloc (.cells #[.int .i64 ba, .int .i64 ep, .slice a l.length c] 34) = w1 at *
  have hww : w.heap.size < w1.heap.size := (Array.getElem?_eq_some_iff.1 row1).1
  have D : ∀ W, Below w1.heap.size w1 W → W.cell? ⟨w.heap.size, 0, none⟩ = some (.int .i64 ba) ∧ W.cell? ⟨w.heap.size, 1, none⟩ = some (.int .i64 ep) ∧ W.cell? ⟨w.heap.size, 2, none⟩ = some (.slice a l.length c) := fun W hB => by
    have r := heap_below hB row1
    exact ⟨cell_of_row _ _ 0 _ _ _ r, cell_of_row _ _ 1 _ _ _ r, cell_of_row _ _ 2 _ _ _ r⟩
  clear row1
  obtain ⟨d0, d1, d2⟩ := D w1 (Below.refl _ _)
  go_wp2_with fail
  refine (hval _ b1).mono ?_
  rintro e w2 ⟨hve, b2⟩
  have B2 := nxt b1 b2
  clear hval d0 d1 d2
  by_cases hv0 : vc = 0
  · have he : e = .returned .nilIface := by
      rcases hve with ⟨_, h⟩ | ⟨h, _⟩
      · exact h
      · exact absurd hv0 h
    subst he
    have hbo := hbody hv0 w2 B2
    have hbl2 := hbl hv0
    have HV0 := Lib.hid hv0
    obtain ⟨d0, d1, d2⟩ := D w2 b2
    clear hve hbody hbl hv0
    go_wp2_with fail
    refine hbo.mono ?_
    rintro e w3 ⟨v3, rfl, o3, b3⟩
    obtain ⟨a3, c3, rfl⟩ := owns_slice o3
    have B3 := nxt B2 b3
    clear hbo d0 d1 d2
    have ul : IntKind.u64.wrap (BL.length : Int) = (BL.length : Int) := by rw [IntKind.wrap_u64]; omega
    have hl1 := recLittle_calls (w0 := w3) BL.length 4 (Below.refl _ _) (World.ownsRow_nil w3 w3.heap.size 5 1) (l := []) (by omega) (by omega)
    rw [show ((4 : Nat) : Int) = 4 from rfl, List.nil_append, Nat.zero_add] at hl1
    go_wp2_with fail
    refine hl1.mono ?_
    rintro e w4 ⟨v4, rfl, o4, b4⟩
    obtain ⟨a4, c4, rfl⟩ := owns_slice o4
    have B4 := nxt B3 b4
    have r4 := Rd.of_owns (owns_below o3 b4)
    have hof := of_one _ _ BL w4 r4
    obtain ⟨x, hx⟩ : ∃ x, x = (Crc.sum BL).toNat := ⟨_, rfl⟩
    have hxl : x < 4294967296 := by rw [hx]; have := sum_lt BL; omega
    rw [← hx] at hof HP
    have ux : IntKind.u64.wrap (x : Int) = (x : Int) := by rw [IntKind.wrap_u64]; omega
    clear hl1 hx
    go_wp2_with fail
    refine hof.mono ?_
    rintro e w5 ⟨rfl, b5⟩
    have B5 := nxt B4 b5
    have hl2 := recLittle_calls (w0 := w3) x 4 (nxt b4 b5) (owns_below o4 b5) (by omega) (by omega)
    rw [show ((4 : Nat) : Int) = 4 from rfl] at hl2
    clear hof
    go_wp2_with fail
    refine hl2.mono ?_
    rintro e w6 ⟨v6, rfl, o6, b6⟩
    rw [show 4 + 4 = 8 from rfl] at o6
    obtain ⟨a6, c6, rfl⟩ := owns_slice o6
    have B6 := nxt B3 b6
    have r6 := Rd.of_owns (owns_below o3 b6)
    have hsz := b6.size
    clear hl2 o4 r4
    go_wp2_with (at_builtin; refine wpList_append_rd rfl _ _ 42 rfl w3.heap.size 5 i0 (.int .u8 0) 1 1 Tryd.underlying42 hi hz0 hz1 hz2 rfl (by decide) _ 8 _ rfl o6 _ _ (bvs BL) rfl r6 (bvs_one _) ?c3 ?c4 ?c5 ?_)
    case c3 => unfold maxLen; omega
    case c4 => omega
    case c5 => exact hsz
    intro v7 w7 o7 Tr
    have B7 : Below w.heap.size w w7 := nxt B3 (Tr w3 b6 (Nat.le_refl _))
    clear Tr
    go_wp2_with fail
    go_ret2
    rw [HPOST.out]
    refine ⟨.inl ⟨HV0.out, v7, rfl, ?_⟩, B7⟩
    have hlen : BY.length = 8 + BL.length := by rw [HP.out]; simp only [List.length_append, lit_length]; omega
    have hbv : bvs BY = bvs (lit BL.length 4 ++ lit x 4) ++ bvs BL := by rw [HP.out, ← bvs_append]; simp
    rw [hlen, hbv]
    exact owns_base o7 B3.size
  · have he : e = .returned (senV A (vc - 101)) := by
      rcases hve with ⟨h, _⟩ | ⟨_, h⟩
      · exact absurd h hv0
      · exact h
    subst he
    have HV0 := Lib.hid hv0
    clear hve hbody hbl hv0
    unfold senV
    go_wp2_with fail
    go_ret2
    rw [HPOST.out]
    exact ⟨.inr ⟨HV0.out, rfl⟩, B2⟩

def sizeB (b : BatD) : Nat := if valid b = 0 then (bytesL b).length else 0

set_option maxRecDepth 100000 in
set_option maxHeartbeats 1000000 in
theorem recSize_calls (S : List Nat) (A : Nat → Addr) {w : World} (hS : Sents S w A) (h3 : 3 ∈ S) (h4 : 4 ∈ S) {b : BatD} {v : Value} (h : RecsRd w v b.recs) :
    Calls Tryd.prog 33 #[batA b v] w (fun e w' => e = .returned (.int .i64 (sizeB b : Nat)) ∧ Below w.heap.size w w') := by
  have hby := fun W (hB : Below w.heap.size w W) => recBytes_calls S A (hS.below hB) h3 h4 (h.below hB)
  unfold BytesB at hby
  have hsz : sizeB b = if valid b = 0 then (bytesL b).length else 0 := rfl
  have HSZ := Lib.hid hsz
  obtain ⟨a, c, rfl⟩ := h.slice
  obtain ⟨ba, ep, l⟩ := b
  unfold batA at hby ⊢
  simp only at hby ⊢
  have b1 := below_alloc w (.cells #[.int .i64 ba, .int .i64 ep, .slice a l.length c] 34)
  have row1 := heap_alloc_new w (.cells #[.int .i64 ba, .int .i64 ep, .slice a l.length c] 34)
  clear hsz
  go_enter Tryd.func33, Tryd.ntmps33
  go_upto_region 1 with fail
  generalize w.alloc (.cells #[.int .i64 ba, .int .i64 ep, .slice a l.length c] 34) = w1 at *
  have d0 : w1.cell? ⟨w.heap.size, 0, none⟩ = some (.int .i64 ba) := cell_of_row _ _ 0 _ _ _ row1
  have d1 : w1.cell? ⟨w.heap.size, 1, none⟩ = some (.int .i64 ep) := cell_of_row _ _ 1 _ _ _ row1
  have d2 : w1.cell? ⟨w.heap.size, 2, none⟩ = some (.slice a l.length c) := cell_of_row _ _ 2 _ _ _ row1
  go_wp2_with fail
  refine (hby _ b1).mono ?_
  rintro e w2 ⟨(⟨hv, v2, rfl, o2⟩ | ⟨hv, rfl⟩), b2⟩
  · have HS2 := Lib.hid (HSZ.out.trans (if_pos hv))
    obtain ⟨a2, c2, rfl⟩ := owns_slice o2
    clear hv hby
    go_wp2_with fail
    go_ret
    rw [HS2.out]
    exact ⟨rfl, nxt b1 b2⟩
  · have HS2 := Lib.hid (HSZ.out.trans (if_neg hv))
    clear hv hby
    unfold senV
    go_wp2_with fail
    go_ret
    rw [HS2.out]
    exact ⟨rfl, nxt b1 b2⟩
end Go.Proofs.YtlfbdcgojbfcaaaDoor
