/- RecSpoilt returns true at every input. -/
import Derived.Test.YtlfbdcgojbfcaaaDoorRecRows
namespace Go.Proofs.YtlfbdcgojbfcaaaDoor.Rec
theorem lens_mono (bs : List BatD) (i j : Nat) (h : i ≤ j) : lens (bs.take i) ≤ lens (bs.take j) := by
  induction j with
  | zero =>
    obtain rfl : i = 0 := by omega
    exact Nat.le_refl _
  | succ j ih =>
    by_cases h1 : i ≤ j
    · have h2 := ih h1
      by_cases h3 : j < bs.length
      · rw [lens_take_succ bs j h3]; omega
      · rw [List.take_of_length_le (l := bs) (i := j) (by omega)] at h2
        rw [List.take_of_length_le (l := bs) (i := j + 1) (by omega)]
        exact h2
    · obtain rfl : i = j + 1 := by omega
      exact Nat.le_refl _
end Go.Proofs.YtlfbdcgojbfcaaaDoor.Rec
namespace Go.Proofs.YtlfbdcgojbfcaaaDoor
open Go Go.RowKit Rec Vint

def fromL (L : List BatD) (i : Nat) : List Nat := (List.range i).map (fun j => lens (L.take j))
theorem fromL_len (L : List BatD) (i : Nat) : (fromL L i).length = i := by simp [fromL]
theorem fromL_at (L : List BatD) (i k : Nat) (h : k < (fromL L i).length) : (fromL L i)[k] = lens (L.take k) := by simp [fromL]
theorem fromL_snoc (L : List BatD) (i : Nat) : nvs (fromL L (i + 1)) = nvs (fromL L i) ++ [.int .i64 ((lens (L.take i) : Nat) : Int)] := by simp [fromL, nvs, List.range_succ]

set_option maxRecDepth 100000 in
set_option maxHeartbeats 4000000 in
theorem recSpoilt_walk (S : List Nat) (A : Nat → Addr) (zs : List Int) (vt : Value) (at' : Int) (by' : UInt8) (w : World) (hS : Sents S w A) (hall : All S) (hE0 : 0 ∈ S) (hE1 : 1 ∈ S) (hE2 : 2 ∈ S) (hE3 : 3 ∈ S) (hE4 : 4 ∈ S) (ht : Rd w 1 vt zs.length (zvs zs)) :
    Calls Tryd.prog 11 #[vt, .int .i64 at', .int .u8 (by'.toNat : Int)] w (fun e w' => e = .returned (.bool true) ∧ Below w.heap.size w w') := by
  obtain ⟨i0, hi, hz0, hz1, hz2⟩ := info_parts info_u8
  obtain ⟨i1, hj, hy0, hy1, hy2⟩ := info_parts info_int
  have hfst := recFirst_calls S A hS hE3 hE4
  have hrow := fun W (hW : Below w.heap.size w W) (hm : zs.length ≤ 100) => row_calls zs vt 0 2 W (by omega) (by omega) hm (ht.below hW)
  rw [show ((2 : Nat) : Int) = 2 from rfl] at hrow
  obtain ⟨a1, c1, rfl⟩ := ht.slice
  have m1 := ht.len_le
  by_cases t1 : 10 < zs.length ∨ zs.length = 0 ∨ by'.toNat = 0
  · go_enter Tryd.func11, Tryd.ntmps11
    go_wp2_with fail
    refine hfst.mono ?_
    rintro e w1 ⟨rfl, b1⟩
    generalize by'.toNat = q at *
    rcases t1 with t1 | t1 | t1
    all_goals
      go_wp2_with fail
      all_goals (
        go_ret
        exact ⟨rfl, b1⟩)
  have t2 : zs.length ≤ 10 := by omega
  have t3 : 0 < zs.length := by omega
  have hd : by' ≠ 0 := by rintro rfl; exact t1 (.inr (.inr rfl))
  have t2' : decide ((10 : Int) < (zs.length : Int)) = false := decide_eq_false (by omega)
  have t3' : ((zs.length : Int) == 0) = false := by rw [beq_eq_false_iff_ne]; omega
  have t4' : ((by'.toNat : Int) == 0) = false := by rw [beq_eq_false_iff_ne]; omega
  obtain ⟨L, hL⟩ : ∃ L, L = rowL 0 2 zs zs.length := ⟨_, rfl⟩
  have hLl : L.length = zs.length := by rw [hL, rowL_len]
  have hLv : ∀ b ∈ L, valid b = 0 := by rw [hL]; exact rowL_valid 0 2 zs _ (by omega) (by omega)
  rw [← hL] at hrow
  have hbd := lens_bd L hLv
  have HLV := Lib.hid hLv
  clear hL t1 hLv
  go_enter Tryd.func11, Tryd.ntmps11
  go_wp2_with fail
  refine hfst.mono ?_
  rintro e w1 ⟨rfl, b1⟩
  have hrow1 := hrow w1 b1 (by omega)
  clear hfst hrow
  go_wp2_with fail
  with_reducible refine hrow1.mono ?_
  rintro e w2 ⟨vl, rfl, rowA, b2⟩
  have B2 := nxt b1 b2
  have rowR := rowA.rd
  obtain ⟨al, cl, rfl⟩ := rowR.slice
  obtain ⟨m, hm⟩ : ∃ m, m = L.length := ⟨_, rfl⟩
  rw [← hm] at rowR hLl hbd
  have HM := Lib.hid hm
  rw [← hm]
  have hmz : m ≤ 10 := by omega
  have hm0 : 0 < m := by omega
  clear hrow1 rowA b1 b2 hm hLl t3
  go_wp2_with fail
  go_loopw [9, 10, 11] (fun bv ev iv wr => ∃ i : Nat, iv = .int .i64 i ∧ i ≤ m ∧ wr.ownsRow w2.heap.size 5 1 bv (lens (L.take i)) (bvs ((L.take i).flatMap bytesL)) ∧ wr.ownsRow w2.heap.size 3 1 ev i (nvs (fromL L i)) ∧ Below w2.heap.size w2 wr) (fun _ _ iv _ => m - (intOf iv).toNat)
  case atStart => exact ⟨0, rfl, Nat.zero_le _, World.ownsRow_nil _ _ _ _, World.ownsRow_nil _ _ _ _, Below.refl _ _⟩
  case round =>
    obtain ⟨i, rfl, hi2, ownb, owne, hb⟩ := hrel
    obtain ⟨ab, cb, rfl⟩ := owns_slice ownb
    obtain ⟨ae, ce, rfl⟩ := owns_slice owne
    by_cases hlt : i < m
    · have hlt' : i < L.length := by rw [← HM.out]; exact hlt
      obtain ⟨bb, bo, rfl, hcs⟩ := (rowR.below hb).cells i hlt'
      obtain ⟨v, p0, p1, p2, rr⟩ := hcs i hlt'
      have HLT := Lib.hid (lens_take_succ L i hlt')
      have HFT := Lib.hid (flat_take_succ L i hlt')
      have hv := HLV.out L[i] (List.getElem_mem hlt')
      have hbl := body_len hv
      have hbyl := bytes_len L[i]
      have hlb : lens (L.take i) ≤ 50000 * 12 := by
        have := lens_bd (L.take i) (fun b hb => HLV.out b (List.mem_of_mem_take hb))
        rw [List.length_take] at this
        omega
      obtain ⟨b, hb'⟩ : ∃ b, b = L[i] := ⟨_, rfl⟩
      rw [← hb'] at p0 p1 rr HLT HFT hv hbl hbyl
      have hby := fun W (hW : Below wr.heap.size wr W) => recBytes_calls S A (hS.below (nxt (nxt B2 hb) hW)) hE3 hE4 (rr.below hW)
      unfold BytesB at hby
      simp only [hv] at hby
      unfold batA at hby
      obtain ⟨ar, cr, rfl⟩ := rr.slice
      obtain ⟨BY, hBY⟩ : ∃ BY, BY = bytesL b := ⟨_, rfl⟩
      rw [← hBY] at hby hbyl HLT HFT
      have hByl : BY.length ≤ 50000 := by omega
      clear hcs hbyl hbl hb' hBY hv rr
      go_wp2_with fail
      with_reducible refine (hby _ (Below.refl _ _)).mono ?_
      rintro e w4 ⟨(⟨_, v4, rfl, o4⟩ | ⟨h, _⟩), b4⟩
      rotate_left
      · exact absurd rfl h
      obtain ⟨a4, c4, rfl⟩ := owns_slice o4
      clear hby p0 p1 p2
      have ob := owns_below ownb b4
      have oe := owns_below owne b4
      have B5 := nxt hb b4
      obtain ⟨NN, hNN⟩ : ∃ NN, NN = lens (L.take i) := ⟨_, rfl⟩
      have HNN := Lib.hid hNN
      rw [← hNN] at ob hlb HLT ⊢
      clear ownb owne hNN
      go_wp2_with (at_builtin; refine wpList_append_own _ rfl _ _ 22 rfl w2.heap.size 3 i1 _ 1 8 Tryd.underlying22 hj hy0 hy1 hy2 rfl (by decide) _ _ _ rfl (oe.alloc _) ⟨w4.heap.size, 0, none⟩ 1 1 [.int .i64 (NN : Int)] rfl rfl ?c1 ?c2 ?c3 ?c4 ?c5 ?_)
      case c1 => exact cells_new w4 #[.int .i64 (NN : Int)] 3
      case c2 => intro u hu; simp at hu; subst hu; rfl
      case c3 => unfold maxLen; omega
      case c4 => omega
      case c5 => have := B5.size; simp; omega
      intro v9 w9 o9 g9 _
      have bA := below_alloc w4 (.cells #[.int .i64 (NN : Int)] 3)
      have hge : ∀ k', (Value.slice ae i ce).ownBlock = some k' → w2.heap.size ≤ k' := owns_ge oe
      have B9 : Below w2.heap.size w2 w9 := (nxt B5 bA).grown g9 (nxt B5 bA).size hge
      have ob9 := owns_grown g9 (owns_below ob bA) (owns_rowIs (owns_below oe bA)) (by decide)
      have B9' := bA.grown g9 bA.size
      have rx9 : Rd w9 1 (.slice a4 BY.length c4) BY.length (bvs BY) := Rd.of_owns (owns_grown g9 (owns_below o4 bA) (owns_rowIs (owns_below oe bA)) (by decide))
      clear g9 hge bA oe ob o4
      go_wp2_with (at_builtin; (refine wpList_append_rdg rfl _ _ 42 rfl w2.heap.size 5 i0 (.int .u8 0) 1 1 Tryd.underlying42 hi hz0 hz1 hz2 rfl (by decide) _ _ _ rfl ob9 _ _ (bvs BY) rfl rx9 (bvs_one _) ?c3 ?c4 ?c5 ?_))
      case c3 => unfold maxLen; omega
      case c4 => omega
      case c5 => exact B9.size
      intro v6 w6 o6 g6 Tr
      have B6 := Tr w2 B9 (Nat.le_refl _)
      have oe6 := owns_grown g6 o9 (owns_rowIs ob9) (by decide)
      rw [← bvs_append, ← HFT.out, ← HLT.out] at o6
      clear Tr g6 ob9 o9 rx9
      go_wp2_with fail
      refine ⟨⟨i + 1, by go_num, by omega, o6, ?_, B6⟩, by simp [intOf]; omega⟩
      rw [fromL_snoc, ← HNN.out]; exact oe6
    · obtain rfl : i = m := by omega
      have htk : L.take i = L := by rw [HM.out]; exact List.take_length
      rw [htk] at ownb ⊢
      obtain ⟨N, hN⟩ : ∃ N, N = lens L := ⟨_, rfl⟩
      rw [← hN] at ownb hbd ⊢
      have hNl : (L.flatMap bytesL).length = N := by rw [hN]; rfl
      have hL0 : 0 < L.length := by rw [← HM.out]; exact hm0
      have hNpos : 0 < N := by
        have h1 : lens (L.take 1) = lens (L.take 0) + (bytesL L[0]).length := lens_take_succ L 0 hL0
        have h2 := lens_mono L 1 L.length hL0
        rw [List.take_length] at h2
        have h3 := bytes_len L[0]
        omega
      have hNX : N = lens (L.take i) := by rw [htk, hN]
      have hx0 := Int.emod_nonneg at' (show (N : Int) ≠ 0 by omega)
      have hx1 := Int.emod_lt_of_pos at' (show 0 < (N : Int) by omega)
      obtain ⟨x, hx, hxN⟩ : ∃ x : Nat, at' % (N : Int) = (x : Int) ∧ x < N := ⟨(at' % (N : Int)).toNat, by omega, by omega⟩
      clear hx0 hx1
      have hnum := number_calls at' (N : Int) wr (by omega) (by omega)
      rw [hx] at hnum
      have HN := Lib.hid hN
      have HNX := Lib.hid hNX
      obtain ⟨eb, eo, rfl, _, _, hx'⟩ := (Rd.of_owns owne).at (show 0 < i by omega)
      have hcell : ∀ q, q < i → wr.cell? ⟨eb, eo + q, none⟩ = some (.int .i64 ((lens (L.take q) : Nat) : Int)) := fun q hq => by
        have f1 := hx' q _ (nvs_at (fromL L i) q (by rw [fromL_len]; omega))
        rw [fromL_at] at f1
        exact f1
      have HC := Lib.hid hcell
      have HX := Lib.hid hx
      clear hx' hcell hx hNX hN htk
      go_wp2_with fail
      with_reducible refine hnum.mono ?_
      rintro e w4 ⟨rfl, rfl⟩
      clear hnum
      generalize wr = w5 at *
      go_wp2_with fail
      go_loopw [15] (fun jv wr => ∃ j : Nat, jv = .int .i64 j ∧ j < i ∧ lens (L.take j) ≤ x ∧ wr = w5) (fun jv _ => i - (intOf jv).toNat)
      case atStart => exact ⟨0, rfl, hm0, by simp [lens], rfl⟩
      case round =>
        obtain ⟨j, rfl, hj, hjx, rfl⟩ := hrel
        have hwj : IntKind.i64.wrap ((j : Int) + 1) = ((j + 1 : Nat) : Int) := by rw [IntKind.wrap_i64]; omega
        obtain ⟨q, hq⟩ : ∃ q, q = lens (L.take (j + 1)) := ⟨_, rfl⟩
        by_cases hgo : j + 1 < i ∧ q ≤ x
        · obtain ⟨h1, h2⟩ := hgo
          have f1 := HC.out (j + 1) h1
          rw [← hq] at f1
          have HQ := Lib.hid hq
          have hwi : decide ((q : Int) ≤ (x : Int)) = true := decide_eq_true (by omega)
          clear hq hjx
          go_wp2_with fail
          exact ⟨⟨j + 1, by go_num, by omega, by rw [← HQ.out]; exact h2, trivial⟩, by simp [intOf]; omega⟩
        · have hend : ¬ j + 1 < i ∨ (j + 1 < i ∧ ¬ q ≤ x ∧ wr.cell? ⟨eb, eo + (j + 1), none⟩ = some (.int .i64 (q : Int))) := by
            by_cases h1 : j + 1 < i
            · exact .inr ⟨h1, fun h2 => hgo ⟨h1, h2⟩, by rw [hq]; exact HC.out (j + 1) h1⟩
            · exact .inl h1
          have hxq : x < q := by
            rcases hend with h1 | ⟨_, h2, _⟩
            · have h3 : j + 1 = i := by omega
              rw [hq, h3, ← HNX.out]; exact hxN
            · omega
          have fj := HC.out j hj
          obtain ⟨q0, hq0⟩ : ∃ q0, q0 = lens (L.take j) := ⟨_, rfl⟩
          rw [← hq0] at fj hjx
          have HQ := Lib.hid hq
          have HQ0 := Lib.hid hq0
          have hw4 : IntKind.i64.wrap ((q0 : Int) + 4) = ((q0 + 4 : Nat) : Int) := by rw [IntKind.wrap_i64]; omega
          clear hgo hq hq0
          by_cases h4 : x < q0 + 4
          · rcases hend with e1 | ⟨e1, e2, e3⟩
            all_goals
              go_wp2_with fail
              go_ret
              exact ⟨rfl, nxt B2 hb⟩
          · obtain ⟨g, hg, hgB⟩ := owns_at ownb hNpos
            subst hg
            have hxl : x < (L.flatMap bytesL).length := by rw [hNl]; exact hxN
            have f1 := World.ownsRow.cellAt ownb x (by omega)
            rw [bvs_at _ x hxl] at f1
            have hfr := World.ownsRow.frozenAt ownb x
            have x1 := u8x (L.flatMap bytesL)[x] by'
            have hst := (World.ownsRow.stored ownb x (.int .u8 ((((L.flatMap bytesL)[x] ^^^ by').toNat : Nat) : Int))).1
            rw [bvs_set] at hst
            obtain ⟨cc, ff, hrow⟩ := owns_rowIs ownb g rfl
            have TT := Touch.setCell (g := g) wr x (.int .u8 ((((L.flatMap bytesL)[x] ^^^ by').toNat : Nat) : Int))
            have oe2 := TT.owns owne hrow (by decide)
            have B6 := TT.new hb hgB
            have hAB : allB ((L.flatMap bytesL).set x ((L.flatMap bytesL)[x] ^^^ by')).length ((L.flatMap bytesL).set x ((L.flatMap bytesL)[x] ^^^ by')) = (L.take j, lens (L.take j), 102) := by
              rw [allB_fuel _ _ (Nat.le_refl _) (N + L.length + 1) (by rw [List.length_set, hNl]; omega)]
              exact allB_spoilt L j x _ (by rw [← HM.out]; exact hj) HLV.out hd (by rw [← HQ0.out]; omega) (by rw [← HQ.out]; exact hxq) (by omega) _ (List.getElem?_eq_getElem hxl)
            obtain ⟨z, hz⟩ : ∃ z, z = (L.flatMap bytesL)[x] ^^^ by' := ⟨_, rfl⟩
            rw [← hz] at hAB hst TT oe2 B6 x1
            obtain ⟨y, hy⟩ : ∃ y, y = (L.flatMap bytesL)[x] := ⟨_, rfl⟩
            obtain ⟨Z, hZ⟩ : ∃ Z, Z = (L.flatMap bytesL).set x z := ⟨_, rfl⟩
            have hZl : Z.length = N := by rw [hZ, List.length_set, hNl]
            rw [← hZ] at hst hAB
            rw [← hy] at f1 x1
            rw [← HQ0.out] at hAB
            have fj2 : (wr.setCell ⟨g, x, none⟩ (.int .u8 ((z.toNat : Nat) : Int))).cell? ⟨eb, eo + j, none⟩ = some (.int .i64 (q0 : Int)) := by
              obtain ⟨_, _, e0, _, _, hx'⟩ := (Rd.of_owns oe2).at (show 0 < i by omega)
              simp only [Option.some.injEq, Addr.mk.injEq] at e0
              obtain ⟨rfl, rfl, _⟩ := e0
              have f1 := hx' j _ (nvs_at (fromL L i) j (by rw [fromL_len]; omega))
              rw [fromL_at, ← HQ0.out] at f1
              exact f1
            clear hy hz hZ hrow TT oe2 owne
            obtain ⟨W6, hW6⟩ : ∃ W6, W6 = wr.setCell ⟨g, x, none⟩ (.int .u8 ((z.toNat : Nat) : Int)) := ⟨_, rfl⟩
            rw [← hW6] at hst fj2 B6
            have BB6 := nxt B2 B6
            have rz : Rd W6 1 (.slice (some ⟨g, 0, none⟩) N cb) Z.length (bvs Z) := by rw [hZl]; exact Rd.of_owns hst
            have hall' := recAll_calls S A (hS.below BB6) hE0 hE1 hE2 hE3 hE4 rz (by omega)
            unfold AllPost senV at hall'
            rw [hAB] at hall'
            simp only [if_neg (show ¬ (102 : Nat) = 0 by decide)] at hall'
            obtain ⟨a25, c25, s25, hc25, r25⟩ := (show BatsRd w2 (.slice al L.length cl) L by rw [← HM.out]; exact rowR).take j (by rw [← HM.out]; omega)
            rw [← HM.out] at hc25
            have u25 : ∀ W, (Instr.sliceAt 25 (.slice al i cl) none (some (.int .i64 (j : Int))) none).run Tryd.prog W = .ok (.slice a25 j c25) W := fun W => by
              have := run_cut_h (P := Tryd.prog) 25 Tryd.underlying25 3 (by kernel_rfl) al i cl j .i64 (by omega) W
              rw [s25] at this
              exact this
            have hpl : (L.take j).length = j := by rw [List.length_take, Nat.min_eq_left (by rw [← HM.out]; omega)]
            have hee : ((q0 : Int) == (q0 : Int)) = true := by simp
            have HW6 := Lib.hid hW6
            have hfin : ∀ W (hW : Below W6.heap.size W6 W), Calls Tryd.prog 32 #[senV A 1, .int .i64 102] W (fun e w' => e = .returned (.bool true) ∧ Below W.heap.size W w') := fun W hW => by
              have := is_calls (hS.below (nxt BB6 hW)) hall _ (.bare 1) ⟨by omega, rfl⟩ 102
              rw [show decide ((Er.bare 1).code = 102 ∧ (Er.bare 1).has = false ∧ (Er.bare 1).pos = 0) = true by decide] at this
              exact this
            unfold senV at hfin
            clear s25 hst rz hAB hW6
            rcases hend with e1 | ⟨e1, e2, e3⟩
            all_goals
              go_wp2_with fail
              rw [← HW6.out]
              clear f1 hfr
              with_reducible refine hall'.mono ?_
              rintro e w7 ⟨vp, rfl, bo7, b7⟩
              have rp := bo7.rd
              obtain ⟨ap, cp, rfl⟩ := rp.slice
              have hsame := sameBatches_calls _ _ (L.take j) w7 rp (r25 _ (nxt B6 b7)) (by omega)
              have fj3 := heapcell b7 fj2
              rw [hpl] at hsame ⊢
              clear hall' bo7 rp r25 fj fj2
              go_wp2_with fail
              with_reducible refine hsame.mono ?_
              rintro e w8 ⟨rfl, b8⟩
              have fj4 := heapcell b8 fj3
              clear fj3 hsame
              go_wp2_with fail
              with_reducible refine (hfin _ (nxt b7 b8)).mono ?_
              rintro e w9 ⟨rfl, b9⟩
              go_wp2_with fail
              go_ret
              exact ⟨rfl, nxt BB6 (nxt b7 (nxt b8 b9))⟩
end Go.Proofs.YtlfbdcgojbfcaaaDoor
