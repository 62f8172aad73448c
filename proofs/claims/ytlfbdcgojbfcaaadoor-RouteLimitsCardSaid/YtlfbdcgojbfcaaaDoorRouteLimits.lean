/- RouteLimits returns true at every input. -/
import Derived.Test.YtlfbdcgojbfcaaaDoorRouteMath
import Derived.Test.YtlfbdcgojbfcaaaDoorRefRecBatch
import Derived.Test.YtlfbdcgojbfcaaaDoorRecRows
import Derived.Test.YtlfbdcgojbfcaaaDoorLong
namespace Go.Proofs.YtlfbdcgojbfcaaaDoor.Rec
theorem contig_base : ∀ (l : List BatD) (s : Int), contig s l → ∀ b ∈ l, s ≤ b.base ∧ b.base ≤ endOf s l := by
  intro l
  induction l with
  | nil => intro s _ b hb; simp at hb
  | cons x l ih =>
    intro s h b hb
    obtain ⟨h1, h2, h3, h4⟩ := h
    have hge := endOf_ge l _ h4
    have he : endOf s (x :: l) = endOf (nextB x) l := rfl
    rw [he]
    unfold nextB at *
    rcases List.mem_cons.1 hb with rfl | hb
    · omega
    · have := ih _ h4 b hb; omega
end Go.Proofs.YtlfbdcgojbfcaaaDoor.Rec
namespace Go.Proofs.YtlfbdcgojbfcaaaDoor
open Go Go.RowKit Rec

set_option maxRecDepth 100000 in
set_option maxHeartbeats 1000000 in
theorem routeFirst_calls (S : List Nat) (A : Nat → Addr) {w : World} (hS : Sents S w A) (hE3 : 3 ∈ S) (hE4 : 4 ∈ S) :
    Calls Tryd.prog 13 #[] w (fun e w' => e = .returned (.bool true) ∧ Below w.heap.size w w') := by
  have hc := cut_calls S A hS hE3 hE4 (BatsRd.nil w) (by simp) (by simp) 0 5 (by omega)
  go_enter Tryd.func13, Tryd.ntmps13
  go_wp2_with fail
  with_reducible refine hc.mono ?_
  rintro e w1 ⟨v1, rfl, o1, b1⟩
  obtain ⟨a1, c1, rfl⟩ := o1.rd.slice
  have h0 : cutL 0 5 ([] : List BatD) = [] := rfl
  rw [h0]
  go_wp2_with fail
  go_ret
  exact ⟨rfl, b1⟩

set_option maxRecDepth 100000 in
set_option maxHeartbeats 4000000 in
theorem routeLimits_walk (S : List Nat) (A : Nat → Addr) (zs : List Int) (vt : Value) (off a0 b0 : Int) (w : World) (hS : Sents S w A) (hE3 : 3 ∈ S) (hE4 : 4 ∈ S) (ht : Rd w 1 vt zs.length (zvs zs)) :
    Calls Tryd.prog 5 #[vt, .int .i64 off, .int .i64 a0, .int .i64 b0] w (fun e w' => e = .returned (.bool true) ∧ Below w.heap.size w w') := by
  have hfst := routeFirst_calls S A hS hE3 hE4
  have hrow := fun W (hW : Below w.heap.size w W) (hm : zs.length ≤ 100) => row_calls zs vt 0 3 W (by omega) (by omega) hm (ht.below hW)
  rw [show ((3 : Nat) : Int) = 3 from rfl] at hrow
  obtain ⟨a1, c1, rfl⟩ := ht.slice
  have m1 := ht.len_le
  by_cases t1 : 20 < zs.length ∨ zs.length = 0
  · go_enter Tryd.func5, Tryd.ntmps5
    go_wp2_with fail
    refine hfst.mono ?_
    rintro e w1 ⟨rfl, b1⟩
    rcases t1 with t1 | t1
    all_goals
      go_wp2_with fail
      all_goals (
        go_ret
        exact ⟨rfl, b1⟩)
  have t2 : zs.length ≤ 20 := by omega
  have t3 : 0 < zs.length := by omega
  have t2' : decide ((20 : Int) < (zs.length : Int)) = false := decide_eq_false (by omega)
  have t3' : ((zs.length : Int) == 0) = false := by rw [beq_eq_false_iff_ne]; omega
  obtain ⟨L, hL⟩ : ∃ L, L = rowL 0 3 zs zs.length := ⟨_, rfl⟩
  have hLl : L.length = zs.length := by rw [hL, rowL_len]
  have hLv : ∀ b ∈ L, valid b = 0 := by rw [hL]; exact rowL_valid 0 3 zs _ (by omega) (by omega)
  obtain ⟨hct, hen⟩ := contig_row 0 3 zs zs.length (Nat.le_refl _)
  rw [← hL] at hrow hct hen
  have hob := offs_bd 0 zs zs.length
  obtain ⟨E, hE⟩ : ∃ E, E = endOf 0 L := ⟨_, rfl⟩
  have hge := endOf_ge L 0 hct
  rw [← hE] at hen hge
  have hEb : 1 ≤ E ∧ E ≤ 100 := by omega
  have hL0 : 0 < L.length := by omega
  have hlast := last_end L 0 hL0
  rw [← hE] at hlast
  obtain ⟨o, ho, ho0, hoE⟩ : ∃ o : Int, off % E = o ∧ 0 ≤ o ∧ o < E := ⟨_, rfl, Int.emod_nonneg _ (by omega), Int.emod_lt_of_pos _ (by omega)⟩
  obtain ⟨am, ham, ham2⟩ : ∃ am : Nat, a0 % 600 = (am : Int) ∧ am < 600 := ⟨(a0 % 600).toNat, by omega, by omega⟩
  obtain ⟨bm, hbm, hbm2⟩ : ∃ bm : Nat, b0 % 600 = (bm : Int) ∧ bm < 600 := ⟨(b0 % 600).toNat, by omega, by omega⟩
  obtain ⟨q, post, hcut, hcq, heq, hpl, _⟩ := cut_at o L 0 hct ho0 (by rw [← hE]; exact hoE)
  rw [← hE] at heq
  have hX := hcut (am : Int)
  have hY := hcut ((am : Int) + (bm : Int))
  obtain ⟨X, hXe⟩ : ∃ X, X = q :: takeGo (am : Int) (sizeB q : Int) post := ⟨_, rfl⟩
  obtain ⟨Y, hYe⟩ : ∃ Y, Y = q :: takeGo ((am : Int) + (bm : Int)) (sizeB q : Int) post := ⟨_, rfl⟩
  rw [← hXe] at hX
  rw [← hYe] at hY
  obtain ⟨r, hr⟩ := takeGo_mono (am : Int) ((am : Int) + (bm : Int)) (by omega) post (sizeB q : Int)
  obtain ⟨r2, hr2⟩ := takeGo_pre (am : Int) post (sizeB q : Int)
  have hYX : Y = X ++ r := by rw [hYe, hXe, hr]; rfl
  have hXL : X.length ≤ 40 := by
    have := congrArg List.length hr2
    rw [List.length_append] at this
    rw [hXe, List.length_cons]
    omega
  have hXb : ∀ b ∈ X, 0 ≤ b.base ∧ b.base ≤ 100 := by
    intro b hb
    have h1 : b ∈ q :: post := by
      rw [hXe] at hb
      rcases List.mem_cons.1 hb with rfl | hb
      · exact List.mem_cons_self
      · rw [hr2]; exact List.mem_cons_of_mem _ (List.mem_append_left _ hb)
    have := contig_base _ _ hcq b h1
    omega
  have hX0 : 0 < X.length := by rw [hXe]; simp
  have hXq : X[0].base = o := by
    have : X[0] = q := by subst hXe; rfl
    rw [this]; exact hcq.1
  have hXs : X.length = 1 ∨ sumS X ≤ (am : Int) := by
    by_cases h0 : takeGo (am : Int) (sizeB q : Int) post = []
    · exact .inl (by rw [hXe, h0]; rfl)
    · exact .inr (by rw [hXe]; exact takeGo_sum (am : Int) post _ h0)
  have hYl : X.length ≤ Y.length := by rw [hYX, List.length_append]; omega
  have hYt : Y.take X.length = X := by rw [hYX]; exact List.take_left
  have HLV := Lib.hid hLv
  have HO := Lib.hid ho
  have HAM := Lib.hid ham
  have HBM := Lib.hid hbm
  have HX := Lib.hid hX
  have HY := Lib.hid hY
  have HXB := Lib.hid hXb
  have HXQ := Lib.hid hXq
  have HXS := Lib.hid hXs
  have HYT := Lib.hid hYt
  have HLAST := Lib.hid hlast
  clear t1 hL hLv hct hen hob hE hge ho ham hbm hcut hcq heq hpl hX hY hXe hYe hr hr2 hYX hXb hXq hXs hYt hlast
  go_enter Tryd.func5, Tryd.ntmps5
  go_wp2_with fail
  refine hfst.mono ?_
  rintro e w1 ⟨rfl, b1⟩
  have hrow1 := hrow w1 b1 (by omega)
  clear hfst hrow
  go_wp2_with fail
  with_reducible refine hrow1.mono ?_
  rintro e w2 ⟨vl, rfl, rowA, b2⟩
  have B2 := nxt b1 b2
  have rowR := rowA.rd
  obtain ⟨al, cl, rfl⟩ := rowR.slice
  obtain ⟨m, hm⟩ : ∃ m, m = L.length := ⟨_, rfl⟩
  rw [← hm]
  have hml : m ≤ 20 := by omega
  have hm0 : 0 < m := by omega
  have hwm : IntKind.i64.wrap ((m : Int) - 1) = ((m - 1 : Nat) : Int) := by rw [IntKind.wrap_i64]; omega
  have hmi : m - 1 < m := by omega
  obtain ⟨bb, bo, rfl, hcs⟩ := rowR.cells 0 hL0
  obtain ⟨vv, p0, p1, p2, rr⟩ := hcs (m - 1) (by omega)
  have hbl : nextB (L[m - 1]'(by omega)) = E := by
    have := HLAST.out
    subst hm
    exact this
  have hvl := (valid_iff _).1 (HLV.out (L[m - 1]'(by omega)) (List.getElem_mem _))
  obtain ⟨b, hb⟩ : ∃ b, b = L[m - 1]'(by omega) := ⟨_, rfl⟩
  rw [← hb] at p0 p1 rr hbl hvl
  have HM := Lib.hid hm
  have hnx := refNext_calls rr (by omega) (by omega)
  unfold nextB at hbl
  rw [hbl] at hnx
  unfold batA at hnx
  obtain ⟨av, cv, rfl⟩ := rr.slice
  clear hrow1 hb hvl hbl hm rr b1 hcs
  go_wp2_with fail
  with_reducible refine hnx.mono ?_
  rintro e w3 ⟨rfl, b3⟩
  have B3 := nxt B2 b3
  have hlo := long_calls off E w3 (by omega) (by omega)
  rw [HO.out] at hlo
  clear p0 p1 p2 hnx
  go_wp2_with fail
  with_reducible refine hlo.mono ?_
  rintro e w4 ⟨rfl, rfl⟩
  have hn1 := number_calls a0 600 w3 (by omega) (by omega)
  rw [HAM.out] at hn1
  clear hlo
  go_wp2_with fail
  with_reducible refine hn1.mono ?_
  rintro e w4 ⟨rfl, rfl⟩
  have hn2 := number_calls b0 600 w3 (by omega) (by omega)
  rw [HBM.out] at hn2
  have hwab : IntKind.i64.wrap ((am : Int) + (bm : Int)) = (am : Int) + (bm : Int) := by rw [IntKind.wrap_i64]; omega
  clear hn1
  go_wp2_with fail
  with_reducible refine hn2.mono ?_
  rintro e w4 ⟨rfl, rfl⟩
  have hc1 := cut_calls S A (hS.below B3) hE3 hE4 (rowR.below b3) HLV.out (by rw [← HM.out]; omega) o (am : Int) (by omega)
  rw [HX.out, ← HM.out] at hc1
  clear hn2
  go_wp2_with fail
  with_reducible refine hc1.mono ?_
  rintro e w4 ⟨vx, rfl, ox, b4⟩
  have B4 := nxt B3 b4
  have hc2 := cut_calls S A (hS.below B4) hE3 hE4 ((rowR.below b3).below b4) HLV.out (by rw [← HM.out]; omega) o ((am : Int) + (bm : Int)) (by omega)
  rw [HY.out, ← HM.out] at hc2
  have rx := ox.rd
  obtain ⟨ax, cx, rfl⟩ := rx.slice
  clear hc1 ox
  go_wp2_with fail
  with_reducible refine hc2.mono ?_
  rintro e w5 ⟨vy, rfl, oy, b5⟩
  have B5 := nxt B4 b5
  have ry := oy.rd
  obtain ⟨ay, cy, rfl⟩ := ry.slice
  have rx5 := rx.below b5
  obtain ⟨a25, c25, s25, hc25, r25⟩ := ry.take X.length hYl
  rw [HYT.out] at r25
  have u25 : ∀ W, (Instr.sliceAt 25 (.slice ay Y.length cy) none (some (.int .i64 (X.length : Int))) none).run Tryd.prog W = .ok (.slice a25 X.length c25) W := fun W => by
    have := run_cut_h (P := Tryd.prog) 25 Tryd.underlying25 3 (by kernel_rfl) ay Y.length cy X.length .i64 (by omega) W
    rw [s25] at this
    exact this
  have hsb := sameBatches_calls _ _ X w5 rx5 (r25 _ (Below.refl _ _)) (by omega)
  have x1 : ((X.length : Int) == 0) = false := by rw [beq_eq_false_iff_ne]; omega
  have x2 : decide (Y.length < X.length) = false := decide_eq_false (by omega)
  clear hc2 oy s25 ry rx r25
  go_wp2_with fail
  with_reducible refine hsb.mono ?_
  rintro e w6 ⟨rfl, b6⟩
  have B6 := nxt B5 b6
  have rx6 := rx5.below b6
  obtain ⟨xb, xo, rfl, hxs⟩ := rx6.cells 0 hX0
  obtain ⟨_, f0, _⟩ := hxs 0 hX0
  rw [HXQ.out] at f0
  have f0' : w6.cell? ⟨xb, xo, none⟩ = some (.int .i64 o) := by simpa using f0
  have x3 : (o != o) = false := by simp
  clear hsb f0 hxs rx5 b6
  go_wp2_with fail
  clear f0'
  go_loopw [14, 15] (fun sv iv wr => ∃ i : Nat, iv = .int .i64 i ∧ i ≤ X.length ∧ sv = .int .i64 (sumS (X.take i)) ∧ Below w6.heap.size w6 wr) (fun _ iv _ => X.length - (intOf iv).toNat)
  case atStart => exact ⟨0, rfl, Nat.zero_le _, rfl, Below.refl _ _⟩
  case round =>
    obtain ⟨i, rfl, hi, rfl, hb⟩ := hrel
    by_cases hlt : i < X.length
    · obtain ⟨_, _, e0, hxs⟩ := (rx6.below hb).cells 0 hX0
      simp only [Option.some.injEq, Addr.mk.injEq] at e0
      obtain ⟨rfl, rfl, _⟩ := e0
      obtain ⟨v, p0, p1, p2, rr⟩ := hxs i hlt
      have hbb := HXB.out X[i] (List.getElem_mem hlt)
      have HST := Lib.hid (sumS_take X i hlt)
      have hsb := sumS_bd (X.take i)
      rw [List.length_take] at hsb
      obtain ⟨b, hb'⟩ : ∃ b, b = X[i] := ⟨_, rfl⟩
      rw [← hb'] at p0 p1 rr hbb HST
      have hsz := refSize_calls rr (by omega)
      have hzb := sizeB_bd b
      obtain ⟨av, cv, rfl⟩ := rr.slice
      unfold batA at hsz
      obtain ⟨n, hn⟩ : ∃ n, n = sizeB b := ⟨_, rfl⟩
      obtain ⟨sm, hsm⟩ : ∃ sm, sm = sumS (X.take i) := ⟨_, rfl⟩
      rw [← hn] at hsz hzb HST
      rw [← hsm] at hsb HST ⊢
      have hws : IntKind.i64.wrap (sm + (n : Int)) = sm + (n : Int) := by rw [IntKind.wrap_i64]; omega
      clear hb' hn hsm rr hxs
      go_wp2_with fail
      with_reducible refine hsz.mono ?_
      rintro e w7 ⟨rfl, b7⟩
      clear hsz p0 p1 p2
      go_wp2_with fail
      exact ⟨⟨i + 1, by go_num, by omega, congrArg (Value.int .i64) HST.out.symm, nxt hb b7⟩, by simp [intOf]; omega⟩
    · obtain rfl : i = X.length := by omega
      rw [List.take_length]
      obtain ⟨sm, hsm⟩ : ∃ sm, sm = sumS X := ⟨_, rfl⟩
      have hxs := HXS.out
      rw [← hsm] at hxs ⊢
      by_cases h1 : X.length = 1
      · have y1 : ((X.length : Int) == 1) = true := by rw [beq_iff_eq]; omega
        clear h1 hxs hsm
        go_wp2_with fail
        go_ret
        exact ⟨rfl, nxt B6 hb⟩
      · have y1 : ((X.length : Int) == 1) = false := by rw [beq_eq_false_iff_ne]; omega
        have y2 : sm ≤ (am : Int) := by
          rcases hxs with h | h
          · exact absurd h h1
          · exact h
        clear h1 hxs hsm
        go_wp2_with fail
        go_ret
        exact ⟨rfl, nxt B6 hb⟩
end Go.Proofs.YtlfbdcgojbfcaaaDoor
