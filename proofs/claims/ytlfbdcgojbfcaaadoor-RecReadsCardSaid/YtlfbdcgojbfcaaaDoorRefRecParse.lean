/- The document's Parse: the batch of what stands behind its head. -/
import Derived.Test.YtlfbdcgojbfcaaaDoorRecRead
import Derived.Test.YtlfbdcgojbfcaaaDoorRefReader2
import Derived.Test.YtlfbdcgojbfcaaaDoorRefReaderInt
import Derived.Test.YtlfbdcgojbfcaaaDoorRefRecValid
import Derived.Deep.CutBlock
namespace Go.Proofs.YtlfbdcgojbfcaaaDoor.Rec
open Vint
theorem readRec_ok {s : Rs} (h : s.ok) (a b t : Int) : (readRec a b t s).2.ok ∧ (readRec a b t s).2.l = s.l := by
  unfold readRec
  have h1 := int_ok h a b
  have h2 := bytes_ok h1.1 64
  have h3 := bytes_ok h2.1 512
  exact ⟨h3.1, h3.2.trans (h2.2.trans h1.2)⟩
end Go.Proofs.YtlfbdcgojbfcaaaDoor.Rec
namespace Go.Proofs.YtlfbdcgojbfcaaaDoor
open Go Go.RowKit Rec Vint

/-- While it reads: the reader, the batch, the records, the result's cell. -/
structure PRd (w0 : World) (f gr g5 : Nat) (ba ep : Int) (vb lv : Value) (s : Rs) (rs : List RecR) (w : World) : Prop where
  rdr : RefR w gr vb s
  bat : w.heap[g5]? = some (.cells #[.int .i64 ba, .int .i64 ep, lv] 34 (0, 0))
  row : w.ownsRow (g5 + 1) 44 3 lv rs.length (rs.flatMap recV)
  parts : ∀ x ∈ rs, RecO w (g5 + 1) x
  res : w.heap[f]? = some (.cells #[.int .i64 0, .int .i64 0, .slice none 0 0] 34 (0, 0))
  bel : Below w0.heap.size w0 w
  o0 : w0.heap.size ≤ f
  o1 : f < gr
  o2 : gr < g5
  ov : ∀ k, w0.heap.size ≤ k → OffV k vb

theorem PRd.below {w0 w w1 : World} {f gr g5 : Nat} {ba ep : Int} {vb lv : Value} {s : Rs} {rs : List RecR} (h : PRd w0 f gr g5 ba ep vb lv s rs w) (b : Below w.heap.size w w1) : PRd w0 f gr g5 ba ep vb lv s rs w1 :=
  ⟨h.rdr.below b, heap_below b h.bat, owns_below h.row b, fun x hx => (h.parts x hx).below b, heap_below b h.res, nxt h.bel b, h.o0, h.o1, h.o2, h.ov⟩
theorem PRd.read {w0 w w1 : World} {f gr g5 : Nat} {ba ep : Int} {vb lv : Value} {s s1 : Rs} {rs : List RecR} (h : PRd w0 f gr g5 ba ep vb lv s rs w) (t : Touch gr w w1) (r : RefR w1 gr vb s1) : PRd w0 f gr g5 ba ep vb lv s1 rs w1 :=
  ⟨r, t.heap h.bat (by have := h.o2; omega), t.owns_from h.row (by have := h.o2; omega), fun x hx => (h.parts x hx).touch t (by have := h.o2; omega), t.heap h.res (by have := h.o1; omega), t.new h.bel (by have := h.o0; have := h.o1; omega), h.o0, h.o1, h.o2, h.ov⟩

theorem RefR.rises {w w1 : World} {g : Nat} {vb : Value} {s : Rs} (h : RefR w g vb s) {row : Option Nat} (u : w.grownBy w1 row) (hr : ∀ k, row = some k → ∃ c f, w.heap[k]? = some (.cells c 44 f)) (ho : ∀ k, row = some k → OffV k vb) : RefR w1 g vb s := by
  cases row with
  | none => exact h.below ⟨u.os, u.tape, u.output, u.size, fun k hk => u.block k hk (by simp)⟩
  | some k =>
    obtain ⟨c, f, hc⟩ := hr k rfl
    exact h.touch (k := k) u hc (by decide) (ho k rfl)

/-- A record more. -/
theorem PRd.more {w0 wb w9 : World} {f gr g5 : Nat} {ba ep : Int} {vb lv v9 : Value} {s : Rs} {rs : List RecR} (h : PRd w0 f gr g5 ba ep vb lv s rs wb) (xr : RecR) (hx : RecO wb (g5 + 1) xr) (O : Obj) (hg : (wb.alloc O).grownBy w9 lv.ownBlock)
    (ho : w9.ownsRow 0 44 3 v9 (rs.length + 1) (rs.flatMap recV ++ recV xr)) (hw : ∀ k, v9.ownBlock = some k → lv.ownBlock = some k ∨ (wb.alloc O).heap.size ≤ k) : PRd w0 f gr g5 ba ep vb v9 s (rs ++ [xr]) (w9.setCell ⟨g5, 2, none⟩ v9) := by
  have h1 := h.below (below_alloc wb O)
  have hx1 := hx.below (below_alloc wb O)
  have hge : ∀ k, lv.ownBlock = some k → g5 + 1 ≤ k := owns_ge h1.row
  have hty := owns_rowIs h1.row
  have a0 := h.o0
  have a1 := h.o1
  have a2 := h.o2
  have hlt := (Array.getElem?_eq_some_iff.1 h1.bat).1
  have bat9 := (hg.block g5 hlt (fun e => by have := hge _ e.symm; omega)).trans h1.bat
  have res9 := (hg.block f (Array.getElem?_eq_some_iff.1 h1.res).1 (fun e => by have := hge _ e.symm; omega)).trans h1.res
  have t := Touch.setCell (g := g5) w9 2 v9
  have hup : ∀ k, v9.ownBlock = some k → g5 + 1 ≤ k := fun k hk => by
    rcases hw k hk with h2 | h2
    · exact hge k h2
    · omega
  have r9 := h1.rdr.rises hg hty (fun k hk => h.ov k (by have := hge k hk; omega))
  refine ⟨r9.touch t bat9 (by decide) (h.ov g5 (by omega)), heap_setCell_same w9 g5 2 _ _ _ bat9, ?_, ?_, t.heap res9 (by omega), t.new (h1.bel.grown hg h1.bel.size (fun k hk => by have := hge k hk; omega)) (by omega), a0, a1, a2, h.ov⟩
  · rw [List.length_append, List.length_singleton, List.flatMap_append, List.flatMap_cons, List.flatMap_nil, List.append_nil]
    exact t.owns_from (owns_up ho hup) (by omega)
  · intro x hxm
    rcases List.mem_append.1 hxm with h3 | h3
    · exact ((h1.parts x h3).grown hg hty).touch t (by omega)
    · rw [List.mem_singleton.1 h3]
      exact (hx1.grown hg hty).touch t (by omega)

theorem batSize2 : (Tryd.prog.info? 34).map (·.size) = some 3 := by kernel_rfl
def ParsePost (l : List UInt8) (w : World) (e : Ending) (w' : World) : Prop :=
  ∃ v, e = .returned (batA (parseD l) v) ∧ RecsOwn w' w.heap.size v (parseD l).recs ∧ Below w.heap.size w w'

set_option maxRecDepth 100000 in
set_option maxHeartbeats 4000000 in
theorem refParse_calls {w : World} {v : Value} {bs : List UInt8} (h : Rd w 1 v bs.length (bvs bs)) (hl : bs.length ≤ 1099511627776) :
    Calls Tryd.prog 60 #[v] w (ParsePost bs w) := by
  obtain ⟨i0, hi, hz0, hz1, hz2⟩ := info_parts info_rec
  have hoff : ∀ k, w.heap.size ≤ k → OffV k v := fun k hk => OffV.of_rd h (by decide) hk
  obtain ⟨am, cm, rfl⟩ := h.slice
  have b0 := below_alloc w (.cells #[.int .i64 0, .int .i64 0, .slice none 0 0] 34)
  have row0 := heap_alloc_new w (.cells #[.int .i64 0, .int .i64 0, .slice none 0 0] 34)
  have sz0 := alloc_size w (.cells #[.int .i64 0, .int .i64 0, .slice none 0 0] 34)
  have hok0 : (rs0 bs).ok := by unfold Rs.ok rs0; simp
  have k8 := fixed_ok hok0 8
  obtain ⟨x8, hx8⟩ : ∃ x, x = (fixed 8 (rs0 bs)).1 := ⟨_, rfl⟩
  obtain ⟨s8, hs8⟩ : ∃ x, x = (fixed 8 (rs0 bs)).2 := ⟨_, rfl⟩
  rw [← hs8] at k8
  have k4 := fixed_ok k8.1 4
  obtain ⟨x4, hx4⟩ : ∃ x, x = (fixed 4 s8).1 := ⟨_, rfl⟩
  obtain ⟨s4, hs4⟩ : ∃ x, x = (fixed 4 s8).2 := ⟨_, rfl⟩
  rw [← hs4] at k4
  have k2 := fixed_ok k4.1 2
  obtain ⟨n0, hn0⟩ : ∃ x, x = (fixed 2 s4).1 := ⟨_, rfl⟩
  obtain ⟨s2, hs2⟩ : ∃ x, x = (fixed 2 s4).2 := ⟨_, rfl⟩
  rw [← hs2] at k2
  have kt := int_ok k2.1 (-4611686018427387904) 4611686018427387904
  obtain ⟨t0, ht0⟩ : ∃ x, x = (int (-4611686018427387904) 4611686018427387904 s2).1 := ⟨_, rfl⟩
  obtain ⟨s0, hs0⟩ : ∃ x, x = (int (-4611686018427387904) 4611686018427387904 s2).2 := ⟨_, rfl⟩
  rw [← hs0] at kt
  have kl : s0.l = bs := kt.2.trans (k2.2.trans (k4.2.trans (k8.2.trans rfl)))
  have kok := kt.1
  obtain ⟨Q, hQ⟩ : ∃ Q, Q = readRecs (-1125899906842624) 1125899906842624 (min n0 65) t0 s0 [] := ⟨_, rfl⟩
  have HP : Hid (parseD bs = if Q.2.bad ≠ .fine ∨ 0 < Q.2.left.length ∨ Q.1.length ≠ n0 then Rec.b0 else ⟨i64 x8, (x4 : Int), Q.1⟩) := Lib.hid (by
    unfold parseD
    rw [hQ, ht0, hs0, hn0, hs2, hx4, hs4, hx8, hs8])
  have hb8 : x8 < 18446744073709551616 := by rw [hx8]; exact fixed_val 8 (rs0 bs)
  have hb4 : x4 < 4294967296 := by rw [hx4]; exact fixed_val 4 s8
  have hb2 : n0 < 65536 := by rw [hn0]; exact fixed_val 2 s4
  have hbt : -4611686018427387904 ≤ t0 ∧ t0 ≤ 4611686018427387904 := by rw [ht0]; exact int_val' _ _ (by omega) (by omega)
  have f8 := fun W g (k : RefR W g (.slice am bs.length cm) (rs0 bs)) => refRFixed_calls k 8
  have f4 := fun W g (k : RefR W g (.slice am bs.length cm) s8) => refRFixed_calls k 4
  have f2 := fun W g (k : RefR W g (.slice am bs.length cm) s4) => refRFixed_calls k 2
  have ft := fun W g (k : RefR W g (.slice am bs.length cm) s2) => refInt_calls k (-4611686018427387904) 4611686018427387904
  unfold RefFixedPost at f8 f4 f2
  unfold RefIntPost at ft
  rw [← hx8, ← hs8] at f8
  rw [← hx4, ← hs4] at f4
  rw [← hn0, ← hs2] at f2
  rw [← ht0, ← hs0] at ft
  have HQ := Lib.hid hQ
  have KL := Lib.hid kl
  have u8' := i64_wrap x8 hb8
  have u4 : IntKind.i64.wrap (x4 : Int) = (x4 : Int) := by rw [IntKind.wrap_i64]; omega
  have u2 : IntKind.i64.wrap (n0 : Int) = (n0 : Int) := by rw [IntKind.wrap_i64]; omega
  clear hx8 hs8 hx4 hs4 hn0 hs2 ht0 hs0 hQ k8 k4 k2 kt hok0 kl
  go_enter Tryd.func60, Tryd.ntmps60
  go_upto_region 1 with fail
  have h0 := h.below b0
  generalize w.alloc (.cells #[.int .i64 0, .int .i64 0, .slice none 0 0] 34) = w0 at *
  obtain ⟨f, hf⟩ : ∃ f, f = w.heap.size := ⟨_, rfl⟩
  rw [← hf] at row0 sz0 ⊢
  have hfw : w.heap.size ≤ f := by omega
  clear hf
  have b1 := below_alloc w0 (.cells #[.slice am bs.length cm, .int .i64 0, .int .i64 0, .bool false, .int .i64 0] 115)
  have r1 : RefR (w0.alloc (.cells #[.slice am bs.length cm, .int .i64 0, .int .i64 0, .bool false, .int .i64 0] 115)) w0.heap.size (.slice am bs.length cm) (rs0 bs) :=
    ⟨⟨Nat.zero_le _, hl⟩, heap_alloc_new w0 _, h0.below b1, hoff _ (by omega)⟩
  have row1 := heap_below b1 row0
  have B1 := nxt b0 b1
  rw [sz0] at r1
  go_upto_region 2 with fail
  generalize w0.alloc (.cells #[.slice am bs.length cm, .int .i64 0, .int .i64 0, .bool false, .int .i64 0] 115) = w1 at *
  have f8' := f8 w1 _ r1
  obtain ⟨gr, hgr⟩ : ∃ gr, gr = f + 1 := ⟨_, rfl⟩
  rw [← hgr] at f8' r1 ⊢
  have hfr : f < gr := by omega
  clear hgr f8 b1 h0 b0 sz0 row0
  go_wp2_with fail
  with_reducible refine f8'.mono ?_
  rintro e w2 ⟨rfl, r2, t2⟩
  have B2 := t2.new B1 (by omega)
  have row2 := t2.heap row1 (by omega)
  have f4' := f4 w2 gr r2
  clear f8' f4 row1 B1 t2 r1
  go_wp2_with fail
  with_reducible refine f4'.mono ?_
  rintro e w3 ⟨rfl, r3, t3⟩
  have B3 := t3.new B2 (by omega)
  have row3 := t3.heap row2 (by omega)
  have b3 := below_alloc w3 (.cells #[.int .i64 (i64 x8), .int .i64 (x4 : Int), .slice none 0 0] 34)
  have hgr3 : gr < w3.heap.size := (Array.getElem?_eq_some_iff.1 r3.2.1).1
  have I4 : PRd w f gr w3.heap.size (i64 x8) (x4 : Int) (.slice am bs.length cm) (.slice none 0 0) s4 [] (w3.alloc (.cells #[.int .i64 (i64 x8), .int .i64 (x4 : Int), .slice none 0 0] 34)) :=
    ⟨r3.below b3, heap_alloc_new w3 _, World.ownsRow_nil _ _ _ _, by simp, heap_below b3 row3, nxt B3 b3, hfw, hfr, hgr3, hoff⟩
  clear f4' row2 B2 t3 r2
  go_upto_region 3 with fail
  obtain ⟨w4, hw4⟩ : ∃ w4, w4 = w3.alloc (.cells #[.int .i64 (i64 x8), .int .i64 (x4 : Int), .slice none 0 0] 34) := ⟨_, rfl⟩
  obtain ⟨g5, hg5⟩ : ∃ g5, g5 = w3.heap.size := ⟨_, rfl⟩
  rw [← hw4, ← hg5] at I4
  rw [← hw4, ← hg5]
  clear hw4 hg5 r3 row3 B3 b3 hgr3
  have f2' := f2 w4 gr I4.rdr
  go_wp2_with fail
  with_reducible refine f2'.mono ?_
  rintro e w5 ⟨rfl, r5, t5⟩
  have I5 := I4.read t5 r5
  clear f2' f2 I4 r5 t5
  have ft' := ft w5 gr I5.rdr
  go_wp2_with fail
  with_reducible refine ft'.mono ?_
  rintro e w6 ⟨rfl, r6, t6⟩
  have I6 := I5.read t6 r6
  clear ft' ft I5 r6 t6
  have hg5w : w.heap.size ≤ g5 + 1 := by have := I6.o1; have := I6.o2; have := I6.o0; omega
  go_wp2_with fail
  go_loopw [6, 7] (fun tv iv wr => ∃ (t : Int) (s : Rs) (rs : List RecR) (lv : Value), iv = .int .i64 (rs.length : Int) ∧ tv = .int .i64 t ∧ rs.length ≤ min n0 65 ∧ (-4611686018427387904 - 1125899906842624 * (rs.length : Int) ≤ t ∧ t ≤ 4611686018427387904 + 1125899906842624 * (rs.length : Int)) ∧ Hid (readRecs (-1125899906842624) 1125899906842624 (min n0 65 - rs.length) t s (rs.map (·.d)) = Q) ∧ (s.ok ∧ Hid (s.l = bs)) ∧ PRd w f gr g5 (i64 x8) (x4 : Int) (.slice am bs.length cm) lv s rs wr) (fun _ iv _ => 65 - (intOf iv).toNat)
  case atStart => exact ⟨t0, s0, [], _, rfl, rfl, Nat.zero_le _, by simp; omega, Lib.hid HQ.out.symm, ⟨kok, KL⟩, I6⟩
  case round =>
    obtain ⟨t, s, rs, lv, rfl, rfl, hln, ⟨ht1, ht2⟩, HR, ⟨hok, HSL⟩, I⟩ := hrel
    obtain ⟨al, cl, rfl⟩ := owns_slice I.row
    by_cases hgo : rs.length < min n0 65 ∧ s.bad = .fine
    · obtain ⟨hpos, hfine⟩ := hgo
      have hfi := refFine_yes I.rdr hfine
      obtain ⟨m, hm⟩ : ∃ m, min n0 65 - rs.length = m + 1 := ⟨min n0 65 - rs.length - 1, by omega⟩
      have HR2 := HR.out
      rw [hm, readRecs_go _ _ t _ hfine] at HR2
      have hok2 := readRec_ok hok (-1125899906842624) 1125899906842624 t
      have hro : readRec (-1125899906842624) 1125899906842624 t s = readRec (-1125899906842624) 1125899906842624 t s := rfl
      conv at hro => rhs; unfold readRec
      have hyb := int_val' (s := s) (-1125899906842624) 1125899906842624 (by omega) (by omega)
      have c1 := fun W (k : RefR W gr (.slice am bs.length cm) s) => refInt_calls k (-1125899906842624) 1125899906842624
      unfold RefIntPost at c1
      obtain ⟨y, hy⟩ : ∃ x, x = (int (-1125899906842624) 1125899906842624 s).1 := ⟨_, rfl⟩
      obtain ⟨s1, hs1⟩ : ∃ x, x = (int (-1125899906842624) 1125899906842624 s).2 := ⟨_, rfl⟩
      rw [← hy, ← hs1] at c1 hro
      rw [← hy] at hyb
      have c2 := fun W (k : RefR W gr (.slice am bs.length cm) s1) => refRBytes_calls k 64 (by omega)
      unfold RefBytesPost at c2
      obtain ⟨ky, hky⟩ : ∃ x, x = (Vint.bytes 64 s1).1 := ⟨_, rfl⟩
      obtain ⟨s2', hs2⟩ : ∃ x, x = (Vint.bytes 64 s1).2 := ⟨_, rfl⟩
      rw [← hky, ← hs2] at c2 hro
      have c3 := fun W (k : RefR W gr (.slice am bs.length cm) s2') => refRBytes_calls k 512 (by omega)
      unfold RefBytesPost at c3
      obtain ⟨vl, hvl⟩ : ∃ x, x = (Vint.bytes 512 s2').1 := ⟨_, rfl⟩
      obtain ⟨s3, hs3⟩ : ∃ x, x = (Vint.bytes 512 s2').2 := ⟨_, rfl⟩
      rw [← hvl, ← hs3] at c3 hro
      rw [hro] at HR2 hok2
      simp only at HR2 hok2
      have HRR := Lib.hid HR2
      have HOK2 := Lib.hid hok2
      have HMM := Lib.hid hm
      have hn1 : rs.length < n0 := by omega
      have hn2 : rs.length ≤ 64 := by omega
      clear HR2 HR hro hy hs1 hky hs2 hvl hs3 hfine hok2 hm
      go_wp2_with fail
      with_reducible refine hfi.mono ?_
      rintro e w7 ⟨rfl, rfl⟩
      clear hfi
      have x1 : IntKind.i64.wrap (t + y) = t + y := by rw [IntKind.wrap_i64]; omega
      have c1' := c1 _ I.rdr
      clear c1
      go_wp2_with fail
      with_reducible refine c1'.mono ?_
      rintro e w8 ⟨rfl, r8, t8⟩
      have J := I.read t8 r8
      clear c1' I r8 t8
      have hTb : -4611686018427387904 - 1125899906842624 * ((rs.length : Int) + 1) ≤ t + y ∧ t + y ≤ 4611686018427387904 + 1125899906842624 * ((rs.length : Int) + 1) := by omega
      have c2' := c2 w8.drew (J.rdr.below (Below.refl _ _).drew)
      clear c2
      have d0 : w8.cell? ⟨g5, 2, none⟩ = some (.slice al rs.length cl) := cell_of_row _ _ 2 _ _ _ J.bat
      go_upto_region 9 with fail
      clear x1 ht1 ht2 hyb
      generalize t + y = T at *
      go_region_law (first
        | (refine step_append_where rfl (.tmp 42) (.tmp 49) 32 rfl 44 i0 _ 3 56 Tryd.underlying32 hi hz0 hz1 hz2 rfl (by decide) _ rs.length (rs.flatMap recV) rfl (ob.alloc _) ⟨wb.heap.size, 0, none⟩ 1 1 [.int .i64 T, .slice ak ky.length ck, .slice av vl.length cv] rfl (by rfl) (cells_new wb #[.int .i64 T, .slice ak ky.length ck, .slice av vl.length cv] 44) (by simp [Value.oneCell']) (by unfold maxLen; omega) (by omega) ?_; intro v9 w9 o9 g9 wh9; (obtain ⟨a9, c9, rfl⟩ := owns_slice o9); have hbA := heap_below (below_alloc wb (.cells #[.int .i64 T, .slice ak ky.length ck, .slice av vl.length cv] 44)) Jb.bat; have bat9 : w9.heap[g5]? = some (.cells #[.int .i64 (i64 x8), .int .i64 (x4 : Int), .slice al rs.length cl] 34 (0, 0)) := (g9.block g5 (Array.getElem?_eq_some_iff.1 hbA).1 (fun e => owns_ne (owns_below ob (below_alloc wb (.cells #[.int .i64 T, .slice ak ky.length ck, .slice av vl.length cv] 44))) hbA (by decide) e.symm)).trans hbA; have e9 : w9.cell? ⟨g5, 2, none⟩ = some (.slice al rs.length cl) := cell_of_row _ _ 2 _ _ _ bat9; have z9 : w9.frozen? ⟨g5, 2, none⟩ = false := frozen_of_row _ g5 2 _ _ bat9)
        | (go_simp; go_at_call 84; first
            | ((with_reducible refine c2'.mono ?_); (rintro e wa ⟨va, rfl, oa, ra, ta⟩); have Ja := (J.below (Below.refl _ _).drew).read ta ra; (obtain ⟨ak, ck, rfl⟩ := owns_slice oa); have c3'' := c3 wa Ja.rdr; have da : wa.cell? ⟨g5, 2, none⟩ = some (.slice al rs.length cl) := cell_of_row _ _ 2 _ _ _ Ja.bat)
            | ((with_reducible refine c3''.mono ?_); (rintro e wb ⟨vb, rfl, obv, rb, tb⟩); have Jb := Ja.read tb rb; (obtain ⟨av, cv, rfl⟩ := owns_slice obv); have db : wb.cell? ⟨g5, 2, none⟩ = some (.slice al rs.length cl) := cell_of_row _ _ 2 _ _ _ Jb.bat; have ob := owns_zero Jb.row; have dc : (wb.alloc (.cells #[.int .i64 T, .slice ak ky.length ck, .slice av vl.length cv] 44)).cell? ⟨g5, 2, none⟩ = some (.slice al rs.length cl) := cell_of_row _ _ 2 _ _ _ (heap_below (below_alloc wb _) Jb.bat))))
      all_goals
        have hoa := (tb.owns_from (owns_base (base' := g5 + 1) oa (by have := (Array.getElem?_eq_some_iff.1 J.bat).1; exact this)) (by have := J.o2; omega))
        have hob := owns_base (base' := g5 + 1) obv (by have := (Array.getElem?_eq_some_iff.1 Ja.bat).1; exact this)
        have JJ := Jb.more ⟨⟨T, ky, vl⟩, .slice ak ky.length ck, .slice av vl.length cv⟩ ⟨hoa, hob⟩ _ g9 o9 wh9
        clear hoa hob g9 o9 wh9 oa obv ob
        go_wp2_with fail
        refine ⟨⟨T, s3, rs ++ [⟨⟨T, ky, vl⟩, .slice ak ky.length ck, .slice av vl.length cv⟩], _, by rw [List.length_append, List.length_singleton]; go_num, rfl, by rw [List.length_append, List.length_singleton]; omega, by rw [List.length_append, List.length_singleton]; push_cast; omega, Lib.hid ?_, ⟨HOK2.out.1, Lib.hid (HOK2.out.2.trans HSL.out)⟩, JJ⟩, by simp [intOf]; omega⟩
        rw [List.length_append, List.length_singleton, List.map_append, show min n0 65 - (rs.length + 1) = m by have := HMM.out; omega]
        exact HRR.out
    · have hq : Q = (rs.map (·.d), s) := by
        rw [← HR.out]
        by_cases h0 : rs.length < min n0 65
        · exact readRecs_bad _ _ _ _ _ _ (fun e => hgo ⟨h0, e⟩)
        · rw [show min n0 65 - rs.length = 0 by omega]
          rfl
      have hP := HP.out
      rw [hq] at hP
      simp only [List.length_map] at hP
      have hle : s.left.length = bs.length - s.pos := by unfold Rs.left; rw [List.length_drop, HSL.out]
      have hps : s.pos ≤ bs.length := by rw [← HSL.out]; exact hok
      rw [hle] at hP
      have HPW := Lib.hid hP
      have HGO := Lib.hid hgo
      have hI := I
      clear hq hP hgo HR HQ ht1 ht2 hle
      obtain ⟨ab, cb, e0, hrow, hrdd, hoff', k0, k1, k2, f1⟩ := I.rdr.parts
      clear e0 hrow hrdd hoff' k0 k2 f1
      have d2 : wr.cell? ⟨g5, 2, none⟩ = some (.slice al rs.length cl) := cell_of_row _ _ 2 _ _ _ I.bat
      go_upto_region 6 with fail
      go_cut [34] (fun b wx => b = .bool false ∧ wx = wr)
      case first =>
        by_cases h0 : rs.length < n0
        · by_cases h1 : rs.length ≤ 64
          · have hne : s.bad ≠ .fine := fun e => HGO.out ⟨by omega, e⟩
            have hfn := refFine_no I.rdr hne
            go_wp2_with fail
            with_reducible refine hfn.mono ?_
            rintro e w7 ⟨rfl, rfl⟩
            go_wp2_with fail
            go_meet
            exact ⟨rfl, rfl⟩
          · go_wp2_with fail
            go_meet
            exact ⟨rfl, rfl⟩
        · go_wp2_with fail
          go_meet
          exact ⟨rfl, rfl⟩
      obtain ⟨rfl, hwc⟩ := hcut
      rw [hwc]
      clear hwc
      by_cases hf : s.bad = .fine
      rotate_left
      · have HPP : Hid (parseD bs = Rec.b0) := Lib.hid (by rw [HPW.out, if_pos (.inl hf)])
        have hfn := refFine_no I.rdr hf
        clear hf d2 k1
        go_wp2_with fail
        with_reducible refine hfn.mono ?_
        rintro e w7 ⟨rfl, rfl⟩
        go_wp2_with (refine wpList_store_row_g rfl 34 _ _ rfl f _ rfl rfl 34 _ I.res batSize2 rfl (by simp [Value.oneCell']) ?_)
        intro w9 row9 g9 _
        have bz := Touch.new (g := f) g9 I.bel I.o0
        clear g9
        go_wp2_with fail
        refine ret_row rfl f rfl row9 Tryd.underlying34 rfl (by kernel_rfl) rfl ?_
        unfold ParsePost
        rw [HPP.out]
        exact ⟨.slice none 0 0, rfl, RecsOwn.nil _ _, bz⟩
      have hfn := refFine_yes I.rdr hf
      by_cases hp : s.pos < bs.length
      · have HPP : Hid (parseD bs = Rec.b0) := Lib.hid (by rw [HPW.out, if_pos (.inr (.inl (by omega)))])
        clear hf d2
        go_wp2_with fail
        with_reducible refine hfn.mono ?_
        rintro e w7 ⟨rfl, rfl⟩
        go_wp2_with (refine wpList_store_row_g rfl 34 _ _ rfl f _ rfl rfl 34 _ I.res batSize2 rfl (by simp [Value.oneCell']) ?_)
        intro w9 row9 g9 _
        have bz := Touch.new (g := f) g9 I.bel I.o0
        clear g9
        go_wp2_with fail
        refine ret_row rfl f rfl row9 Tryd.underlying34 rfl (by kernel_rfl) rfl ?_
        unfold ParsePost
        rw [HPP.out]
        exact ⟨.slice none 0 0, rfl, RecsOwn.nil _ _, bz⟩
      by_cases hn : rs.length = n0
      rotate_left
      · have HPP : Hid (parseD bs = Rec.b0) := Lib.hid (by rw [HPW.out, if_pos (.inr (.inr hn))])
        have hn2 : ((rs.length : Int) != (n0 : Int)) = true := by rw [bne_iff_ne]; omega
        clear hf hn
        go_wp2_with fail
        with_reducible refine hfn.mono ?_
        rintro e w7 ⟨rfl, rfl⟩
        go_wp2_with (refine wpList_store_row_g rfl 34 _ _ rfl f _ rfl rfl 34 _ I.res batSize2 rfl (by simp [Value.oneCell']) ?_)
        intro w9 row9 g9 _
        have bz := Touch.new (g := f) g9 I.bel I.o0
        clear g9
        go_wp2_with fail
        refine ret_row rfl f rfl row9 Tryd.underlying34 rfl (by kernel_rfl) rfl ?_
        unfold ParsePost
        rw [HPP.out]
        exact ⟨.slice none 0 0, rfl, RecsOwn.nil _ _, bz⟩
      have HPP : Hid (parseD bs = ⟨i64 x8, (x4 : Int), rs.map (·.d)⟩) := Lib.hid (by
        rw [HPW.out, if_neg]
        rintro (h | h | h)
        · exact h hf
        · omega
        · exact h hn)
      have hn2 : ((rs.length : Int) != (n0 : Int)) = false := by rw [bne_eq_false_iff_eq]; omega
      have e0 : wr.cell? ⟨g5, 0, none⟩ = some (.int .i64 (i64 x8)) := cell_of_row _ _ 0 _ _ _ I.bat
      have e1 : wr.cell? ⟨g5, 1, none⟩ = some (.int .i64 (x4 : Int)) := cell_of_row _ _ 1 _ _ _ I.bat
      clear hf hn
      go_wp2_with fail
      with_reducible refine hfn.mono ?_
      rintro e w7 ⟨rfl, rfl⟩
      go_wp2_with (refine wpList_store_row_g rfl 34 _ _ rfl f _ rfl rfl 34 _ I.res batSize2 rfl (by simp [Value.oneCell']) ?_)
      intro w9 row9 g9 _
      have bz := Touch.new (g := f) g9 I.bel I.o0
      have hfg : f < g5 + 1 := by have := I.o1; have := I.o2; omega
      have T9 : Touch f wr w9 := g9
      have oz := T9.owns_from I.row hfg
      have pz := fun x hx => (I.parts x hx).touch T9 hfg
      clear g9 T9 e0 e1 d2 k1
      go_wp2_with fail
      refine ret_row rfl f rfl row9 Tryd.underlying34 rfl (by kernel_rfl) rfl ?_
      unfold ParsePost
      rw [HPP.out]
      refine ⟨.slice al rs.length cl, rfl, RecsOwn.base (base := g5 + 1) ⟨rs, rfl, oz, pz⟩ hg5w, bz⟩
end Go.Proofs.YtlfbdcgojbfcaaaDoor
