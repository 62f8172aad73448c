/- RoutePieces returns true at every input. -/
import Derived.Test.YtlfbdcgojbfcaaaDoorRouteMath
import Derived.Test.YtlfbdcgojbfcaaaDoorRefRecValid
import Derived.Test.YtlfbdcgojbfcaaaDoorWorldRow
import Derived.Test.YtlfbdcgojbfcaaaDoorRefSameBat
import Derived.Test.YtlfbdcgojbfcaaaDoorLong
namespace Go.Proofs.YtlfbdcgojbfcaaaDoor.Rec
theorem contig_all : ∀ (l : List BatD) (s : Int), contig s l → ∀ b ∈ l, s ≤ b.base ∧ b.base ≤ endOf s l ∧ b.recs.length ≤ 64 := by
  intro l
  induction l with
  | nil => intro s _ b hb; simp at hb
  | cons x l ih =>
    intro s h b hb
    obtain ⟨h1, h2, h3, h4⟩ := h
    have hge := endOf_ge l _ h4
    have he : endOf s (x :: l) = endOf (nextB x) l := rfl
    rw [he]
    unfold nextB at *
    rcases List.mem_cons.1 hb with rfl | hb
    · omega
    · have := ih _ h4 b hb; omega
theorem sumN_bd (l : List BatD) : 0 ≤ sumN l := by
  induction l with
  | nil => simp [sumN]
  | cons x l ih => unfold sumN; omega
theorem sumN_mono (l : List BatD) (i : Nat) : sumN (l.take i) ≤ sumN l := by
  induction l generalizing i with
  | nil => simp [sumN]
  | cons x l ih =>
    cases i with
    | zero => have := sumN_bd (x :: l); simpa [sumN] using this
    | succ i => rw [List.take_succ_cons]; unfold sumN; have := ih i; omega
end Go.Proofs.YtlfbdcgojbfcaaaDoor.Rec
namespace Go.Proofs.YtlfbdcgojbfcaaaDoor
open Go Go.RowKit Rec

set_option maxRecDepth 100000 in
set_option maxHeartbeats 1000000 in
theorem routeFirst2_calls (S : List Nat) (A : Nat → Addr) {w : World} (hS : Sents S w A) (hE3 : 3 ∈ S) (hE4 : 4 ∈ S) :
    Calls Tryd.prog 13 #[] w (fun e w' => e = .returned (.bool true) ∧ Below w.heap.size w w') := by
  have hc := cut_calls S A hS hE3 hE4 (BatsRd.nil w) (by simp) (by simp) 0 5 (by omega)
  go_enter Tryd.func13, Tryd.ntmps13
  go_wp2_with fail
  with_reducible refine hc.mono ?_
  rintro e w1 ⟨v1, rfl, o1, b1⟩
  obtain ⟨a1, c1, rfl⟩ := o1.rd.slice
  have h0 : cutL 0 5 ([] : List BatD) = [] := rfl
  rw [h0]
  go_wp2_with fail
  go_ret
  exact ⟨rfl, b1⟩

set_option maxRecDepth 100000 in
set_option maxHeartbeats 4000000 in
theorem routePieces_walk (S : List Nat) (A : Nat → Addr) (zs ms : List Int) (vt vm : Value) (frm : Int) (w : World) (hS : Sents S w A) (hE3 : 3 ∈ S) (hE4 : 4 ∈ S) (ht : Rd w 1 vt zs.length (zvs zs)) (hms : Rd w 1 vm ms.length (zvs ms)) (hmb : ∀ x ∈ ms, -9223372036854775808 ≤ x ∧ x ≤ 9223372036854775807) :
    Calls Tryd.prog 4 #[vt, .int .i64 frm, vm] w (fun e w' => e = .returned (.bool true) ∧ Below w.heap.size w w') := by
  have hfst := routeFirst2_calls S A hS hE3 hE4
  have hrow := fun W (hW : Below w.heap.size w W) (hm : zs.length ≤ 100) => row_calls zs vt 0 3 W (by omega) (by omega) hm (ht.below hW)
  rw [show ((3 : Nat) : Int) = 3 from rfl] at hrow
  obtain ⟨a1, c1, rfl⟩ := ht.slice
  obtain ⟨a2, c2, rfl⟩ := hms.slice
  have m1 := ht.len_le
  have m2 := hms.len_le
  by_cases t1 : 20 < zs.length ∨ zs.length = 0 ∨ 40 < ms.length
  · go_enter Tryd.func4, Tryd.ntmps4
    go_wp2_with fail
    refine hfst.mono ?_
    rintro e w1 ⟨rfl, b1⟩
    rcases t1 with t1 | t1 | t1
    all_goals
      go_wp2_with fail
      all_goals (
        go_ret
        exact ⟨rfl, b1⟩)
  have t2 : zs.length ≤ 20 := by omega
  have t3 : 0 < zs.length := by omega
  have t4 : ms.length ≤ 40 := by omega
  have t2' : decide ((20 : Int) < (zs.length : Int)) = false := decide_eq_false (by omega)
  have t3' : ((zs.length : Int) == 0) = false := by rw [beq_eq_false_iff_ne]; omega
  have t4' : decide ((40 : Int) < (ms.length : Int)) = false := decide_eq_false (by omega)
  obtain ⟨L, hL⟩ : ∃ L, L = rowL 0 3 zs zs.length := ⟨_, rfl⟩
  have hLl : L.length = zs.length := by rw [hL, rowL_len]
  have hLv : ∀ b ∈ L, valid b = 0 := by rw [hL]; exact rowL_valid 0 3 zs _ (by omega) (by omega)
  obtain ⟨hct, hen⟩ := contig_row 0 3 zs zs.length (Nat.le_refl _)
  rw [← hL] at hrow hct hen
  have hob := offs_bd 0 zs zs.length
  obtain ⟨E, hE⟩ : ∃ E, E = endOf 0 L := ⟨_, rfl⟩
  have hge := endOf_ge L 0 hct
  rw [← hE] at hen hge
  have hEb : 1 ≤ E ∧ E ≤ 100 := by omega
  have hL0 : 0 < L.length := by omega
  have hlast := last_end L 0 hL0
  rw [← hE] at hlast
  obtain ⟨o, ho, ho0, hoE⟩ : ∃ o : Int, frm % E = o ∧ 0 ≤ o ∧ o < E := ⟨_, rfl, Int.emod_nonneg _ (by omega), Int.emod_lt_of_pos _ (by omega)⟩
  have hpiece : ∀ p : Int, 0 ≤ p → p < E → ∀ m : Int, ∃ X : List BatD, cutL p m L = X ∧ 0 < X.length ∧ X.length ≤ 40 ∧ contig p X ∧ endOf p X ≤ E := by
    intro p hp0 hpE m
    obtain ⟨q, post, hcut, hcq, heq, hpl, _⟩ := cut_at p L 0 hct hp0 (by rw [← hE]; exact hpE)
    obtain ⟨r, hr⟩ := takeGo_pre m post (sizeB q : Int)
    have hr2 : q :: post = (q :: takeGo m (sizeB q : Int) post) ++ r := by rw [List.cons_append, ← hr]
    have hlen := congrArg List.length hr
    rw [List.length_append] at hlen
    rw [hr2, contig_app] at hcq
    rw [hr2, endOf_app, ← hE] at heq
    refine ⟨_, hcut m, by simp, by rw [List.length_cons]; omega, hcq.1, ?_⟩
    have := endOf_ge _ _ hcq.2
    omega
  have hend := cut_none E 100 L 0 hct (.inl (by rw [← hE]; exact Int.le_refl _))
  have hneg := cut_none (-1) 100 L 0 hct (.inr (by omega))
  have hwhole : cutL 0 1073741824 L = L := by
    obtain ⟨q, post, hcut, hcq, heq, hpl, hq⟩ := cut_at 0 L 0 hct (Int.le_refl _) (by rw [← hE]; omega)
    have := sizeB_bd q
    rw [hcut, takeGo_all 1073741824 post _ (by omega), ← hq rfl]
  have HLV := Lib.hid hLv
  have HO := Lib.hid ho
  have HP := Lib.hid hpiece
  have HEN := Lib.hid hend
  have HNG := Lib.hid hneg
  have HWH := Lib.hid hwhole
  have HLAST := Lib.hid hlast
  have HMB := Lib.hid hmb
  clear t1 hL hLv hct hen hob hE hge ho hpiece hend hneg hwhole hlast hmb
  go_enter Tryd.func4, Tryd.ntmps4
  go_wp2_with fail
  refine hfst.mono ?_
  rintro e w1 ⟨rfl, b1⟩
  have hrow1 := hrow w1 b1 (by omega)
  clear hfst hrow
  go_wp2_with fail
  with_reducible refine hrow1.mono ?_
  rintro e w2 ⟨vl, rfl, rowA, b2⟩
  have B2 := nxt b1 b2
  have rowR := rowA.rd
  obtain ⟨al, cl, rfl⟩ := rowR.slice
  obtain ⟨m, hm⟩ : ∃ m, m = L.length := ⟨_, rfl⟩
  rw [← hm]
  have hml : m ≤ 20 := by omega
  have hm0 : 0 < m := by omega
  have hwm : IntKind.i64.wrap ((m : Int) - 1) = ((m - 1 : Nat) : Int) := by rw [IntKind.wrap_i64]; omega
  have hmi : m - 1 < m := by omega
  obtain ⟨bb, bo, rfl, hcs⟩ := rowR.cells 0 hL0
  obtain ⟨vv, p0, p1, p2, rr⟩ := hcs (m - 1) (by omega)
  have hbl : nextB (L[m - 1]'(by omega)) = E := by
    have := HLAST.out
    subst hm
    exact this
  have hvl := (valid_iff _).1 (HLV.out (L[m - 1]'(by omega)) (List.getElem_mem _))
  obtain ⟨b, hb⟩ : ∃ b, b = L[m - 1]'(by omega) := ⟨_, rfl⟩
  rw [← hb] at p0 p1 rr hbl hvl
  have HM := Lib.hid hm
  have hnx := refNext_calls rr (by omega) (by omega)
  unfold nextB at hbl
  rw [hbl] at hnx
  unfold batA at hnx
  obtain ⟨av, cv, rfl⟩ := rr.slice
  clear hrow1 hb hvl hbl hm rr b1 hcs
  go_wp2_with fail
  with_reducible refine hnx.mono ?_
  rintro e w3 ⟨rfl, b3⟩
  have B3 := nxt B2 b3
  have hlo := long_calls frm E w3 (by omega) (by omega)
  rw [HO.out] at hlo
  clear p0 p1 p2 hnx
  go_wp2_with fail
  with_reducible refine hlo.mono ?_
  rintro e w4 ⟨rfl, rfl⟩
  have rowR3 := rowR.below b3
  clear hlo rowR rowA
  go_wp2_with fail
  go_loopw [10, 12, 13] (fun pv nv iv wr => ∃ (p : Int) (i : Nat), pv = .int .i64 p ∧ nv = .int .i64 (p - o) ∧ iv = .int .i64 i ∧ (o ≤ p ∧ p ≤ E ∧ (i : Int) ≤ p) ∧ Below w3.heap.size w3 wr) (fun pv _ _ _ => (E - intOf pv).toNat)
  case atStart => exact ⟨o, 0, rfl, by simp, rfl, by omega, Below.refl _ _⟩
  case round =>
    obtain ⟨p, i, rfl, rfl, rfl, hpp, hb⟩ := hrel
    by_cases hlt : p < E
    · go_upto_if 59 with fail
      go_cut [14] (fun mv wx => ∃ mm : Int, mv = .int .i64 mm ∧ (-9223372036854775808 ≤ mm ∧ mm ≤ 9223372036854775807) ∧ wx = wr)
      case first =>
        by_cases him : i < ms.length
        · obtain ⟨mb, mo, rfl, _, _, hx⟩ := (hms.below (nxt B3 hb)).at (by omega)
          have f1 := hx i _ (zvs_at ms i him)
          have hmm := HMB.out ms[i] (List.getElem_mem him)
          obtain ⟨mm, hmm'⟩ : ∃ mm, mm = ms[i] := ⟨_, rfl⟩
          rw [← hmm'] at f1 hmm
          clear hx hmm'
          go_wp2_with fail
          go_meet
          exact ⟨mm, rfl, hmm, rfl⟩
        · go_wp2_with fail
          go_meet
          exact ⟨0, rfl, by omega, rfl⟩
      obtain ⟨mm, rfl, hmm, rfl⟩ := hcut
      obtain ⟨X, hX, hX0, hXL, hXc, hXe⟩ := HP.out p (by omega) hlt mm
      have hc1 := cut_calls S A (hS.below (nxt B3 hb)) hE3 hE4 (rowR3.below hb) HLV.out (by rw [← HM.out]; omega) p mm hmm
      rw [hX, ← HM.out] at hc1
      have hXq : X[0].base = p := by
        cases X with
        | nil => simp at hX0
        | cons x xs => exact hXc.1
      have hXlast := last_end X p hX0
      have hXn := sumN_end X p hXc
      have hXg := endOf_ge X p hXc
      obtain ⟨pe, hpe⟩ : ∃ pe, pe = endOf p X := ⟨_, rfl⟩
      rw [← hpe] at hXlast hXn hXg hXe
      have hcb : ∀ b ∈ X, -1000 ≤ b.base ∧ b.base ≤ 1000 ∧ b.recs.length ≤ 64 := fun b hb' => by
        have := contig_all X p hXc b hb'
        omega
      have HCB := Lib.hid hcb
      have HXN := Lib.hid hXn
      have HXLAST := Lib.hid hXlast
      have HXQ := Lib.hid hXq
      have x1 : ((X.length : Int) == 0) = false := by rw [beq_eq_false_iff_ne]; omega
      clear hcb hXn hXlast hXq hX hpe hXc
      go_wp2_with fail
      with_reducible refine hc1.mono ?_
      rintro e w5 ⟨vx, rfl, ox, b5⟩
      have B5 := nxt hb b5
      have rx := ox.rd
      obtain ⟨ax, cx, rfl⟩ := rx.slice
      obtain ⟨xb, xo, rfl, hxs⟩ := rx.cells 0 hX0
      obtain ⟨_, f0, _⟩ := hxs 0 hX0
      rw [HXQ.out] at f0
      have f0' : w5.cell? ⟨xb, xo, none⟩ = some (.int .i64 p) := by simpa using f0
      have x3 : (p != p) = false := by simp
      clear hc1 ox f0 hxs
      go_wp2_with fail
      clear f0'
      go_loopw [12, 16] (fun nv kv wr => ∃ k : Nat, kv = .int .i64 k ∧ k ≤ X.length ∧ nv = .int .i64 (p - o + sumN (X.take k)) ∧ wr = w5) (fun _ kv _ => X.length - (intOf kv).toNat)
      case atStart => exact ⟨0, rfl, Nat.zero_le _, by simp [sumN], rfl⟩
      case round =>
        obtain ⟨k, rfl, hk, rfl, rfl⟩ := hrel
        by_cases hkl : k < X.length
        · obtain ⟨_, _, e0, hxs⟩ := rx.cells 0 hX0
          simp only [Option.some.injEq, Addr.mk.injEq] at e0
          obtain ⟨rfl, rfl, _⟩ := e0
          obtain ⟨v, p0, p1, p2, rr⟩ := hxs k hkl
          have HST := Lib.hid (sumN_take X k hkl)
          have hb1 := sumN_bd (X.take k)
          have hb2 := sumN_mono X (k + 1)
          rw [HST.out] at hb2
          have hxn := HXN.out
          obtain ⟨av, cv, rfl⟩ := rr.slice
          obtain ⟨n, hn⟩ : ∃ n, n = X[k].recs.length := ⟨_, rfl⟩
          obtain ⟨sm, hsm⟩ : ∃ sm, sm = sumN (X.take k) := ⟨_, rfl⟩
          obtain ⟨sx, hsx⟩ : ∃ sx, sx = sumN X := ⟨_, rfl⟩
          rw [← hn] at p2 HST hb2
          rw [← hsm] at hb1 hb2 HST ⊢
          rw [← hsx] at hb2 hxn
          have hws : IntKind.i64.wrap (p - o + sm + (n : Int)) = p - o + sm + (n : Int) := by rw [IntKind.wrap_i64]; omega
          clear hn hsm hsx rr hxs p0 p1 hxn hb2 hb1
          go_wp2_with fail
          exact ⟨⟨k + 1, by go_num, by omega, congrArg (Value.int .i64) (by rw [HST.out]; omega), trivial⟩, by simp [intOf]; omega⟩
        · obtain rfl : k = X.length := by omega
          rw [List.take_length, HXN.out, show p - o + (pe - p) = pe - o by omega]
          have hwx : IntKind.i64.wrap ((X.length : Int) - 1) = ((X.length - 1 : Nat) : Int) := by rw [IntKind.wrap_i64]; omega
          have hxi : X.length - 1 < X.length := by omega
          obtain ⟨_, _, e0, hxs⟩ := rx.cells 0 hX0
          simp only [Option.some.injEq, Addr.mk.injEq] at e0
          obtain ⟨rfl, rfl, _⟩ := e0
          obtain ⟨v, p0, p1, p2, rr⟩ := hxs (X.length - 1) hxi
          have hbl : X[X.length - 1].base + (X[X.length - 1].recs.length : Int) = pe := HXLAST.out
          have hbb := HCB.out X[X.length - 1] (List.getElem_mem _)
          obtain ⟨b, hb'⟩ : ∃ b, b = X[X.length - 1] := ⟨_, rfl⟩
          rw [← hb'] at p0 p1 rr hbl hbb
          have hnx := refNext_calls rr (by omega) (by omega)
          rw [hbl] at hnx
          unfold batA at hnx
          obtain ⟨av, cv, rfl⟩ := rr.slice
          clear hb' hbl rr hxs
          go_wp2_with fail
          with_reducible refine hnx.mono ?_
          rintro e w7 ⟨rfl, b7⟩
          clear hnx p0 p1 p2
          go_wp2_with fail
          exact ⟨⟨pe, i + 1, rfl, rfl, by go_num, by omega, nxt B5 b7⟩, by simp only [intOf]; omega⟩
    · obtain rfl : p = E := by omega
      have x1 : (p == p) = true := by simp
      have hwo : IntKind.i64.wrap (p - o) = p - o := by rw [IntKind.wrap_i64]; omega
      have x2 : ((p - o) == (p - o)) = true := by simp
      have hc1 := cut_calls S A (hS.below (nxt B3 hb)) hE3 hE4 (rowR3.below hb) HLV.out (by rw [← HM.out]; omega) p 100 (by omega)
      rw [HEN.out, ← HM.out] at hc1
      go_wp2_with fail
      with_reducible refine hc1.mono ?_
      rintro e w5 ⟨v5, rfl, o5, b5⟩
      have B5 := nxt hb b5
      obtain ⟨a5, c5, rfl⟩ := o5.rd.slice
      have hc2 := cut_calls S A (hS.below (nxt B3 B5)) hE3 hE4 (rowR3.below B5) HLV.out (by rw [← HM.out]; omega) (-1) 100 (by omega)
      rw [HNG.out, ← HM.out] at hc2
      clear hc1 o5 b5
      rw [show ([] : List BatD).length = 0 from rfl]
      go_wp2_with fail
      with_reducible refine hc2.mono ?_
      rintro e w6 ⟨v6, rfl, o6, b6⟩
      have B6 := nxt B5 b6
      obtain ⟨a6, c6, rfl⟩ := o6.rd.slice
      have hc3 := cut_calls S A (hS.below (nxt B3 B6)) hE3 hE4 (rowR3.below B6) HLV.out (by rw [← HM.out]; omega) 0 1073741824 (by omega)
      rw [HWH.out, ← HM.out] at hc3
      clear hc2 o6 b6
      rw [show ([] : List BatD).length = 0 from rfl]
      go_wp2_with fail
      with_reducible refine hc3.mono ?_
      rintro e w7 ⟨v7, rfl, o7, b7⟩
      have B7 := nxt B6 b7
      have hsb := sameBatches_calls _ _ L w7 o7.rd (rowR3.below B7) (by rw [← HM.out]; omega)
      obtain ⟨a7, c7, rfl⟩ := o7.rd.slice
      rw [← HM.out] at hsb
      clear hc3 b7
      rw [← HM.out]
      go_wp2_with fail
      with_reducible refine hsb.mono ?_
      rintro e w8 ⟨rfl, b8⟩
      go_wp2_with fail
      go_ret
      exact ⟨rfl, nxt B3 (nxt B7 b8)⟩
end Go.Proofs.YtlfbdcgojbfcaaaDoor
