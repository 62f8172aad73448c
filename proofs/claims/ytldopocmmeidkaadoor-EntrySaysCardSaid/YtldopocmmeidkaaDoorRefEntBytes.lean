/- The document's EntryBytes. -/
import Derived.Test.YtldopocmmeidkaaDoorEntBy
import Derived.Test.YtldopocmmeidkaaDoorRefValidMan
import Derived.Test.YtldopocmmeidkaaDoorRefManBy
import Derived.Test.YtldopocmmeidkaaDoorRefLittle
import Derived.Test.YtldopocmmeidkaaDoorManRM
namespace Go.Proofs.YtldopocmmeidkaaDoor
open Go Go.RowKit Man Vint Crc

/-- What is amiss with an entry. -/
def EErr (seq k : Int) (m : ManD) (er : Er) : Prop := (seq < 0 ∧ er = .bare 4) ∨ (0 ≤ seq ∧ ¬(1 ≤ k ∧ k ≤ 4) ∧ er = .bare 11) ∨ (0 ≤ seq ∧ 1 ≤ k ∧ k ≤ 4 ∧ MBad m er)
def RefEPost (seq k : Int) (m : ManD) (w : World) (e : Ending) (w' : World) : Prop :=
  ∃ v er, e = .returned (.tuple #[v, er.fault]) ∧ EErr seq k m er ∧ Below w.heap.size w w' ∧ (er ≠ .fine → v = .slice none 0 0) ∧ (er = .fine → Rd w' 1 v (entB seq k m).length (bvs (entB seq k m)))

theorem Er.code_zero {e : Er} : e.code = 0 ↔ e = .fine := by
  cases e <;> simp [Er.code] <;> omega

set_option maxRecDepth 100000 in
set_option maxHeartbeats 4000000 in
theorem refEntBytes_calls {w : World} {seq k : Int} {m : ManD} {ve vo : Value} (h : ManRd w m ve vo) (hs : Small m) (hk : Man.Ok m) :
    Calls Tryd.prog 26 #[.int .i64 seq, entA k m ve vo] w (RefEPost seq k m w) := by
  obtain ⟨i0, hi0, hz0, hz1, hz2⟩ := info_parts info_u8
  have hvm := fun W (hB : Below w.heap.size w W) => refValidMan_calls (h.below hB) hs
  have hmb := fun W (hB : Below w.heap.size w W) => refManBytes_calls (h.below hB) hs hk
  unfold manA at hvm hmb
  unfold entA
  obtain ⟨re, ro⟩ := h
  obtain ⟨ae, ce, rfl⟩ := re.slice
  obtain ⟨ao, co, rfl⟩ := ro.slice
  have hs1 := hs.1
  have hs2 := hs.2.1
  have HML := Lib.hid (fun hok : manOk m => mbody_len m hok hk)
  clear hs hk re ro
  have HEN := Lib.hid (show entB seq k m = lit (sealed (lit (u64 seq) 8 ++ (UInt8.ofNat k.toNat :: sealed (mbody m)))).length 4 ++ sealed (lit (u64 seq) 8 ++ (UInt8.ofNat k.toNat :: sealed (mbody m))) from rfl)
  have u1 := u64_wrap seq
  generalize u64 seq = x at *
  obtain ⟨MB, hMB⟩ : ∃ MB, MB = mbody m := ⟨_, rfl⟩
  rw [← hMB] at hmb HEN
  have HMB := Lib.hid hMB
  clear hMB
  have b1 := below_alloc w (.cells #[.int .i64 k, .int .i64 m.id, .int .i64 m.base, .int .i64 m.fin, .int .i64 m.time, .slice ae m.eps.length ce, .slice ao m.objs.length co] 27)
  have row1 := heap_alloc_new w (.cells #[.int .i64 k, .int .i64 m.id, .int .i64 m.base, .int .i64 m.fin, .int .i64 m.time, .slice ae m.eps.length ce, .slice ao m.objs.length co] 27)
  go_enter Tryd.func26, Tryd.ntmps26
  go_upto_region 1 with fail
  obtain ⟨w0, hw0⟩ : ∃ w0, w0 = w.alloc (.cells #[.int .i64 k, .int .i64 m.id, .int .i64 m.base, .int .i64 m.fin, .int .i64 m.time, .slice ae m.eps.length ce, .slice ao m.objs.length co] 27) := ⟨_, rfl⟩
  rw [← hw0] at b1 row1 ⊢
  have b2 := below_alloc w0 (.cells #[.int .i64 0, .bool false, .int .i64 0] 54)
  have rowf := heap_alloc_new w0 (.cells #[.int .i64 0, .bool false, .int .i64 0] 54)
  have row1 := heap_below b2 row1
  have B1 := nxt b1 b2
  have hszf : w0.heap.size = w.heap.size + 1 := by rw [hw0]; simp
  obtain ⟨w1, hw1⟩ : ∃ w1, w1 = w0.alloc (.cells #[.int .i64 0, .bool false, .int .i64 0] 54) := ⟨_, rfl⟩
  obtain ⟨g, hg⟩ : ∃ g, g = w.heap.size := ⟨_, rfl⟩
  obtain ⟨F, hF⟩ : ∃ F, F = w0.heap.size := ⟨_, rfl⟩
  have hFw : w.heap.size ≤ F := by omega
  rw [← hszf]
  rw [← hw1] at b2 rowf row1 B1 ⊢
  rw [← hg] at row1 ⊢
  rw [← hF] at rowf ⊢
  clear hw0 hw1 hg hF hszf b1 b2
  have D : ∀ W, Below w1.heap.size w1 W → W.cell? ⟨g, 0, none⟩ = some (.int .i64 k) ∧ W.cell? ⟨g, 1, none⟩ = some (.int .i64 m.id) ∧ W.cell? ⟨g, 2, none⟩ = some (.int .i64 m.base) ∧ W.cell? ⟨g, 3, none⟩ = some (.int .i64 m.fin) ∧ W.cell? ⟨g, 4, none⟩ = some (.int .i64 m.time) ∧ W.cell? ⟨g, 5, none⟩ = some (.slice ae m.eps.length ce) ∧ W.cell? ⟨g, 6, none⟩ = some (.slice ao m.objs.length co) := fun W hB => by
    have r := heap_below hB row1
    exact ⟨cell_of_row _ _ 0 _ _ _ r, cell_of_row _ _ 1 _ _ _ r, cell_of_row _ _ 2 _ _ _ r, cell_of_row _ _ 3 _ _ _ r, cell_of_row _ _ 4 _ _ _ r, cell_of_row _ _ 5 _ _ _ r, cell_of_row _ _ 6 _ _ _ r⟩
  obtain ⟨d0, d1, d2, d3, d4, d5, d6⟩ := D w1 (Below.refl _ _)
  by_cases e1 : seq < 0
  case pos =>
    clear d0 d1 d2 d3 d4 d5 d6
    go_wp2_with fail
    with_reducible refine (bare_calls 105 _).mono ?_
    rintro e wb ⟨rfl, bb⟩
    have Bb := nxt B1 bb
    have rowb := heap_below bb rowf
    unfold fv
    go_wp2_with (refine wpList_store_row_g rfl 54 _ _ rfl F _ rfl rfl 54 _ rowb faultSize rfl (by simp [Value.oneCell']) ?_)
    intro wz hT hg2 hs2
    have hb2 : Below w.heap.size w wz := Bb.grown hg2 Bb.size (fun k hk => by simp only [Option.some.injEq] at hk; omega)
    clear hg2 hs2
    have q0 : wz.cell? ⟨F, 0, none⟩ = some (.int .i64 105) := cell_of_row _ _ 0 _ _ _ hT
    have q1 : wz.cell? ⟨F, 1, none⟩ = some (.bool false) := cell_of_row _ _ 1 _ _ _ hT
    have q2 : wz.cell? ⟨F, 2, none⟩ = some (.int .i64 0) := cell_of_row _ _ 2 _ _ _ hT
    go_wp2_with fail
    refine bodyPost_ret (v := .tuple #[.slice none 0 0, fv 105 false 0]) (by simp [results, go_sem, q0, q1, q2, fv]) rfl ?_
    exact ⟨_, .bare 4, rfl, .inl ⟨e1, rfl⟩, hb2, fun _ => rfl, fun h => by cases h⟩
  have e1' : decide (seq < 0) = false := decide_eq_false e1
  have hs0 : 0 ≤ seq := by omega
  clear e1
  by_cases e2 : k < 1
  case pos =>
    go_wp2_with fail
    with_reducible refine (bare_calls 112 _).mono ?_
    rintro e wb ⟨rfl, bb⟩
    have Bb := nxt B1 bb
    have rowb := heap_below bb rowf
    unfold fv
    go_wp2_with (refine wpList_store_row_g rfl 54 _ _ rfl F _ rfl rfl 54 _ rowb faultSize rfl (by simp [Value.oneCell']) ?_)
    intro wz hT hg2 hs2
    have hb2 : Below w.heap.size w wz := Bb.grown hg2 Bb.size (fun k hk => by simp only [Option.some.injEq] at hk; omega)
    clear hg2 hs2
    have q0 : wz.cell? ⟨F, 0, none⟩ = some (.int .i64 112) := cell_of_row _ _ 0 _ _ _ hT
    have q1 : wz.cell? ⟨F, 1, none⟩ = some (.bool false) := cell_of_row _ _ 1 _ _ _ hT
    have q2 : wz.cell? ⟨F, 2, none⟩ = some (.int .i64 0) := cell_of_row _ _ 2 _ _ _ hT
    go_wp2_with fail
    refine bodyPost_ret (v := .tuple #[.slice none 0 0, fv 112 false 0]) (by simp [results, go_sem, q0, q1, q2, fv]) rfl ?_
    exact ⟨_, .bare 11, rfl, .inr (.inl ⟨hs0, by omega, rfl⟩), hb2, fun _ => rfl, fun h => by cases h⟩
  have e2' : decide (k < 1) = false := decide_eq_false e2
  by_cases e3 : 4 < k
  case pos =>
    go_wp2_with fail
    with_reducible refine (bare_calls 112 _).mono ?_
    rintro e wb ⟨rfl, bb⟩
    have Bb := nxt B1 bb
    have rowb := heap_below bb rowf
    unfold fv
    go_wp2_with (refine wpList_store_row_g rfl 54 _ _ rfl F _ rfl rfl 54 _ rowb faultSize rfl (by simp [Value.oneCell']) ?_)
    intro wz hT hg2 hs2
    have hb2 : Below w.heap.size w wz := Bb.grown hg2 Bb.size (fun k hk => by simp only [Option.some.injEq] at hk; omega)
    clear hg2 hs2
    have q0 : wz.cell? ⟨F, 0, none⟩ = some (.int .i64 112) := cell_of_row _ _ 0 _ _ _ hT
    have q1 : wz.cell? ⟨F, 1, none⟩ = some (.bool false) := cell_of_row _ _ 1 _ _ _ hT
    have q2 : wz.cell? ⟨F, 2, none⟩ = some (.int .i64 0) := cell_of_row _ _ 2 _ _ _ hT
    go_wp2_with fail
    refine bodyPost_ret (v := .tuple #[.slice none 0 0, fv 112 false 0]) (by simp [results, go_sem, q0, q1, q2, fv]) rfl ?_
    exact ⟨_, .bare 11, rfl, .inr (.inl ⟨hs0, by omega, rfl⟩), hb2, fun _ => rfl, fun h => by cases h⟩
  have e3' : decide (4 < k) = false := decide_eq_false e3
  have hv := hvm w1 B1
  have hk1 : 1 ≤ k := by omega
  have hk4 : k ≤ 4 := by omega
  clear e2 e3 hvm
  go_wp2_with fail
  with_reducible refine hv.mono ?_
  rintro e w2 ⟨er, rfl, hmbad, b2⟩
  have B2 := nxt B1 b2
  have rowf2 := heap_below b2 rowf
  have HMBAD := Lib.hid hmbad
  obtain ⟨cd, hcd⟩ : ∃ c, c = er.code := ⟨_, rfl⟩
  obtain ⟨ch, hch⟩ : ∃ c, c = er.has := ⟨_, rfl⟩
  obtain ⟨cp, hcp⟩ : ∃ c, c = er.pos := ⟨_, rfl⟩
  have hfv : er.fault = fv cd ch cp := by rw [hcd, hch, hcp]; exact er.fault_eq
  rw [hfv]
  have HFV := Lib.hid hfv
  have HCD := Lib.hid hcd
  unfold fv
  clear hv hmbad hcd hch hcp hfv d0 d1 d2 d3 d4 d5 d6
  have b3 := below_alloc w2 (.cells #[.int .i64 cd, .bool ch, .int .i64 cp] 54)
  have row3 := heap_alloc_new w2 (.cells #[.int .i64 cd, .bool ch, .int .i64 cp] 54)
  go_upto_region 6 with fail
  obtain ⟨w3, hw3⟩ : ∃ w3, w3 = w2.alloc (.cells #[.int .i64 cd, .bool ch, .int .i64 cp] 54) := ⟨_, rfl⟩
  obtain ⟨g3, hg3⟩ : ∃ g3, g3 = w2.heap.size := ⟨_, rfl⟩
  rw [← hw3] at b3 row3 ⊢
  rw [← hg3] at row3 ⊢
  clear hw3 hg3
  have B3 := nxt B2 b3
  have b13 := nxt b2 b3
  have rowf3 := heap_below b3 rowf2
  have c0 : w3.cell? ⟨g3, 0, none⟩ = some (.int .i64 cd) := cell_of_row _ _ 0 _ _ _ row3
  by_cases hc : cd = 0
  case neg =>
    have hc' : (cd != 0) = true := by rw [bne_iff_ne]; exact hc
    have HC := Lib.hid hc
    have c1 : w3.cell? ⟨g3, 1, none⟩ = some (.bool ch) := cell_of_row _ _ 1 _ _ _ row3
    have c2 : w3.cell? ⟨g3, 2, none⟩ = some (.int .i64 cp) := cell_of_row _ _ 2 _ _ _ row3
    have f0 : w3.cell? ⟨F, 0, none⟩ = some (.int .i64 0) := cell_of_row _ _ 0 _ _ _ rowf3
    have f1 : w3.cell? ⟨F, 1, none⟩ = some (.bool false) := cell_of_row _ _ 1 _ _ _ rowf3
    have f2 : w3.cell? ⟨F, 2, none⟩ = some (.int .i64 0) := cell_of_row _ _ 2 _ _ _ rowf3
    have z0 : w3.frozen? ⟨F, 0, none⟩ = false := frozen_of_row _ F 0 _ _ rowf3
    have z1 : w3.frozen? ⟨F, 1, none⟩ = false := frozen_of_row _ F 1 _ _ rowf3
    have z2 : w3.frozen? ⟨F, 2, none⟩ = false := frozen_of_row _ F 2 _ _ rowf3
    have rowz := heap_setCell_same _ F 2 _ _ (.int .i64 cp) (heap_setCell_same _ F 1 _ _ (.bool ch) (heap_setCell_same w3 F 0 _ _ (.int .i64 cd) rowf3))
    have belz := ((B3.setCell (p := ⟨F, 0, none⟩) hFw (.int .i64 cd)).setCell (p := ⟨F, 1, none⟩) hFw (.bool ch)).setCell (p := ⟨F, 2, none⟩) hFw (.int .i64 cp)
    clear hc D
    go_wp2_with fail
    go_region
    all_goals
      generalize ((w3.setCell ⟨F, 0, none⟩ (.int .i64 cd)).setCell ⟨F, 1, none⟩ (.bool ch)).setCell ⟨F, 2, none⟩ (.int .i64 cp) = wz at *
      have q0 : wz.cell? ⟨F, 0, none⟩ = some (.int .i64 cd) := cell_of_row _ _ 0 _ _ _ rowz
      have q1 : wz.cell? ⟨F, 1, none⟩ = some (.bool ch) := cell_of_row _ _ 1 _ _ _ rowz
      have q2 : wz.cell? ⟨F, 2, none⟩ = some (.int .i64 cp) := cell_of_row _ _ 2 _ _ _ rowz
      go_wp2_with fail
      refine bodyPost_ret (v := .tuple #[.slice none 0 0, fv cd ch cp]) (by simp [results, go_sem, q0, q1, q2, fv]) rfl ?_
      exact ⟨_, er, by rw [HFV.out], .inr (.inr ⟨hs0, hk1, hk4, HMBAD.out⟩), belz.drew, fun _ => rfl, fun h => absurd (by rw [HCD.out]; exact Er.code_zero.2 h) HC.out⟩
  have hef : er = .fine := Er.code_zero.1 (by rw [← HCD.out]; exact hc)
  subst hef
  have hok := HMBAD.out.fine_iff.1 rfl
  have HMF := Lib.hid HMBAD.out
  have hml : MB.length ≤ 10000 := by rw [HMB.out]; exact HML.out hok
  have hc' : (cd != 0) = false := by rw [hc]; rfl
  have HC := Lib.hid hc
  obtain ⟨kn, rfl⟩ : ∃ kn : Nat, k = (kn : Int) := ⟨k.toNat, by omega⟩
  have hkn4 : kn ≤ 4 := by omega
  have ku : IntKind.u8.wrap (kn : Int) = (kn : Int) := by rw [IntKind.wrap_u8]; omega
  have D0 := (D w3 b13).1
  have D0' := (D w3.drew (nxt b13 (Below.refl _ _).drew)).1
  have D0a := fun O => (D (w3.drew.alloc O) (nxt b13 (bAlloc (Below.refl _ _).drew O))).1
  have hl8 : ∀ W, Calls Tryd.prog 71 #[.int .u64 (x : Int), .int .i64 8] W (fun e w' => ∃ v', e = .returned v' ∧ w'.ownsRow W.heap.size 5 1 v' 8 (bvs (lit x 8)) ∧ Below W.heap.size W w') := fun W => refLittle_calls x 8 W (by omega)
  clear hc hok HML HMBAD HFV HCD
  go_upto_region 8 with fail
  clear c0
  go_cut [7] (fun z wx => wx.ownsRow w3.heap.size 5 1 z 9 (bvs (lit x 8) ++ [.int .u8 (kn : Int)]) ∧ Below w3.heap.size w3 wx)
  case first =>
    go_region_law (first
      | (refine step_append_where rfl (.tmp 29) (.tmp 33) 30 rfl 5 i0 _ 1 1 Tryd.underlying30 hi0 hz0 hz1 hz2 rfl (by decide) _ 8 (bvs (lit x 8)) rfl (oz.alloc _) ⟨w4.heap.size, 0, none⟩ 1 1 [.int .u8 (kn : Int)] rfl (by rfl) (cells_new w4 #[.int .u8 (kn : Int)] 5) (by simp [Value.oneCell']) (by unfold maxLen; omega) (by omega) ?_; intro v9 w9 o9 g9 wh9)
      | (refine step_append_where rfl (.tmp 29) (.tmp 33) 30 rfl 5 i0 _ 1 1 Tryd.underlying30 hi0 hz0 hz1 hz2 rfl (by decide) _ 8 (bvs (lit x 8)) rfl oz ⟨w3.heap.size, 0, none⟩ 1 1 [.int .u8 (kn : Int)] rfl (by rfl) (fun j u hu => (b4.cell (World.block_lt_of_cell? _ _ (cells_new w3.drew #[.int .u8 (kn : Int)] 5 j u hu))).trans (cells_new w3.drew #[.int .u8 (kn : Int)] 5 j u hu)) (by simp [Value.oneCell']) (by unfold maxLen; omega) (by omega) ?_; intro v9 w9 o9 g9 wh9)
      | (go_simp; go_at_call 71; (with_reducible refine (hl8 _).mono ?_); (rintro e w4 ⟨v4, rfl, o4, b4⟩); (obtain ⟨a4, c4, rfl⟩ := owns_slice o4); have bX : Below w3.heap.size w3 w4 := nxt (by (repeat (first | exact Below.refl _ _ | refine bAlloc ?_ _ | refine Below.drew ?_))) b4; have e0 := (D w4 (nxt b13 bX)).1; have oz := owns_zero o4))
    all_goals
      have hge4 : ∀ k, (Value.slice a4 8 c4).ownBlock = some k → w3.heap.size ≤ k := fun k hk => by
        have h1 := owns_ge o4 k hk
        first | exact h1 | (refine Nat.le_trans ?_ h1; exact (bAlloc (Below.refl w3.heap.size w3) _).size)
      have b9 : Below w3.heap.size w3 w9 := by
        first
          | exact (bAlloc bX _).grown g9 (bAlloc bX _).size (fun k hk => hge4 k hk)
          | exact bX.grown g9 bX.size (fun k hk => hge4 k hk)
      have hk9 : ∀ k, v9.ownBlock = some k → w3.heap.size ≤ k := fun k hk => by
        rcases wh9 k hk with h | h
        · exact hge4 k h
        · first
            | exact Nat.le_trans bX.size h
            | exact Nat.le_trans (bAlloc bX _).size h
      have o9u := owns_up4 o9 hk9
      clear hge4 wh9 g9 o9 hk9
      go_wp2_with fail
      go_meet
      exact ⟨o9u, b9⟩
  obtain ⟨o5, b5⟩ := hcut
  obtain ⟨E, hE⟩ : ∃ E, E = lit x 8 ++ (UInt8.ofNat kn :: sealed MB) := ⟨_, rfl⟩
  have hEl : E.length = 9 + (sealed MB).length := by rw [hE, List.length_append, List.length_cons, lit_length]; omega
  have hEb : bvs E = (bvs (lit x 8) ++ [.int .u8 (kn : Int)]) ++ bvs (sealed MB) := by
    rw [hE, bvs_append]
    have hku : bv (UInt8.ofNat kn) = .int .u8 (kn : Int) := by
      unfold bv
      rw [show (UInt8.ofNat kn).toNat = kn by rw [UInt8.toNat_ofNat']; omega]
    simp only [bvs, List.map_cons, List.append_assoc, hku, List.cons_append, List.nil_append]
  have hsl : (sealed MB).length ≤ 10010 := by
    have : (sealed MB).length = MB.length + 4 := by simp [sealed, le4]
    omega
  have HE := Lib.hid hE
  obtain ⟨n3, hn3⟩ : ∃ n3, n3 = (sealed MB).length := ⟨_, rfl⟩
  have HN3 := Lib.hid hn3
  rw [← hn3] at hEl hsl
  have HEL := Lib.hid hEl
  have HEB := Lib.hid hEb
  have b15 := nxt b13 b5
  have hm5 := hmb wc (nxt B3 b5)
  obtain ⟨d0, d1, d2, d3, d4, d5, d6⟩ := D wc b15
  clear hE hEl hEb D0 D0' D0a hl8 hmb
  obtain ⟨a5, c5, rfl⟩ := owns_slice o5
  rw [← hn3] at hm5
  clear hn3
  go_wp2_with fail
  with_reducible refine hm5.mono ?_
  rintro e w6 ⟨v6, rfl, o6, b6⟩
  have r6 := Rd.of_owns o6
  obtain ⟨a6, c6, rfl⟩ := owns_slice o6
  have o56 := owns_below o5 b6
  have hb6 : w3.heap.size ≤ w6.heap.size := (nxt b5 b6).size
  have b56 := nxt b5 b6
  clear hm5 d0 d1 d2 d3 d4 d5 d6 o5 o6
  go_wp2_with (at_builtin; refine wpList_append_rd rfl _ _ 30 rfl w3.heap.size 5 i0 (.int .u8 0) 1 1 Tryd.underlying30 hi0 hz0 hz1 hz2 rfl (by decide) _ 9 _ rfl o56 _ _ (bvs (sealed MB)) rfl r6 (bvs_one _) ?c3 ?c4 ?c5 ?_)
  case c3 => unfold maxLen; omega
  case c4 => omega
  case c5 => exact hb6
  intro v7 w7 o7 Tr
  have b7 : Below w3.heap.size w3 w7 := Tr w3 b56 (Nat.le_refl _)
  clear Tr
  have o7' : w7.ownsRow w3.heap.size 5 1 v7 E.length (bvs E) := by rw [HEL.out, HEB.out]; exact o7
  have hEn : E.length ≤ 10020 := by rw [HEL.out]; omega
  obtain ⟨SE, hSE⟩ : ∃ SE, SE = sealed E := ⟨_, rfl⟩
  have hp := refSeal_calls v7 E w7 (Rd.of_owns o7') (by omega)
  have hSl : SE.length ≤ 10030 := by
    have : SE.length = E.length + 4 := by rw [hSE]; simp [sealed, le4]
    omega
  rw [← hSE] at hp
  have HSE := Lib.hid hSE
  obtain ⟨a7, c7, rfl⟩ := owns_slice o7
  clear hSE o7 HEL HEB r6 o56 b56 b6 hb6
  go_wp2_with fail
  with_reducible refine hp.mono ?_
  rintro e w8 ⟨v8, rfl, o8, b8⟩
  have B8 := nxt b7 b8
  have hl4 : Calls Tryd.prog 71 #[.int .u64 (SE.length : Int), .int .i64 4] w8 (fun e w' => ∃ v', e = .returned v' ∧ w'.ownsRow w8.heap.size 5 1 v' 4 (bvs (lit SE.length 4)) ∧ Below w8.heap.size w8 w') := refLittle_calls SE.length 4 w8 (by omega)
  obtain ⟨a8, c8, rfl⟩ := owns_slice o8
  clear hp
  obtain ⟨n8, hn8⟩ : ∃ n8, n8 = SE.length := ⟨_, rfl⟩
  rw [← hn8] at hSl hl4 o8 ⊢
  have HN8 := Lib.hid hn8
  have ul : IntKind.u64.wrap (n8 : Int) = (n8 : Int) := by rw [IntKind.wrap_u64]; omega
  clear hn8
  go_wp2_with fail
  with_reducible refine hl4.mono ?_
  rintro e w9 ⟨v9, rfl, o9, b9⟩
  have r8 := Rd.of_owns (owns_below o8 b9)
  have hb9 := b9.size
  obtain ⟨a9, c9, rfl⟩ := owns_slice o9
  clear hl4 o8
  go_wp2_with (at_builtin; refine wpList_append_rd rfl _ _ 30 rfl w8.heap.size 5 i0 (.int .u8 0) 1 1 Tryd.underlying30 hi0 hz0 hz1 hz2 rfl (by decide) _ 4 _ rfl o9 _ _ (bvs SE) rfl r8 (bvs_one _) ?c3 ?c4 ?c5 ?_)
  case c3 => unfold maxLen; omega
  case c4 => omega
  case c5 => exact hb9
  intro v10 w10 o10 Tr
  have b10 : Below w8.heap.size w8 w10 := Tr w8 b9 (Nat.le_refl _)
  clear Tr
  have b310 := nxt B8 b10
  have B10 := nxt B3 b310
  have rowf10 := heap_below b310 rowf3
  obtain ⟨a10, c10, rfl⟩ := owns_slice o10
  have hn := fnone_calls w10
  go_wp2_with fail
  with_reducible refine hn.mono ?_
  rintro e w11 ⟨rfl, b11⟩
  have B11 := nxt B10 b11
  have rowb := heap_below b11 rowf10
  have o11 := owns_below o10 b11
  have hFl : F < w3.heap.size := (Array.getElem?_eq_some_iff.1 rowf3).1
  unfold fv
  clear hn o10 rowf10
  go_wp2_with (refine wpList_store_row_g rfl 54 _ _ rfl F _ rfl rfl 54 _ rowb faultSize rfl (by simp [Value.oneCell']) ?_)
  intro wz hT hg2 hs2
  have hb2 : Below w.heap.size w wz := B11.grown hg2 B11.size (fun k hk => by simp only [Option.some.injEq] at hk; omega)
  have tz : Touch F w11 wz := Touch.of_grown hg2 (fun k hk => by simp only [Option.some.injEq] at hk; omega)
  have oz := tz.owns_from o11 (Nat.lt_of_lt_of_le hFl B8.size)
  clear hg2 hs2 tz o11
  have q0 : wz.cell? ⟨F, 0, none⟩ = some (.int .i64 0) := cell_of_row _ _ 0 _ _ _ hT
  have q1 : wz.cell? ⟨F, 1, none⟩ = some (.bool false) := cell_of_row _ _ 1 _ _ _ hT
  have q2 : wz.cell? ⟨F, 2, none⟩ = some (.int .i64 0) := cell_of_row _ _ 2 _ _ _ hT
  have HRZ := Lib.hid (Rd.of_owns oz)
  clear oz
  go_wp2_with fail
  refine bodyPost_ret (v := .tuple #[.slice a10 (4 + n8) c10, fv 0 false 0]) (by simp [results, go_sem, q0, q1, q2, fv]) rfl ?_
  refine ⟨_, .fine, rfl, .inr (.inr ⟨hs0, hk1, hk4, HMF.out⟩), hb2, fun h => absurd rfl h, fun _ => ?_⟩
  rw [HEN.out, Int.toNat_natCast, ← HE.out, ← HSE.out, List.length_append, lit_length, bvs_append, ← HN8.out]
  exact HRZ.out
end Go.Proofs.YtldopocmmeidkaaDoor
