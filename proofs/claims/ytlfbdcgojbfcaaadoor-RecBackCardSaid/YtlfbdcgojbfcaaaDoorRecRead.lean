/- rec.read: the batch of what stands behind its head. -/
import Derived.Test.YtlfbdcgojbfcaaaDoorRecValid
import Derived.Test.YtlfbdcgojbfcaaaDoorReaderFixed
import Derived.Test.YtlfbdcgojbfcaaaDoorReaderInt
import Derived.Test.YtlfbdcgojbfcaaaDoorReaderBytes
import Derived.Test.YtlfbdcgojbfcaaaDoorReaderMore
import Derived.Test.YtlfbdcgojbfcaaaDoorRecBody
import Derived.Deep.DeepCutAuto
import Derived.Deep.RegionLaw
import Derived.StillTailTactics
namespace Go.Proofs.YtlfbdcgojbfcaaaDoor
open Go Go.RowKit Rec Vint

theorem info_rec : (Tryd.prog.info? 44).map (fun i => (i.zero, i.size, i.bytes)) = some (some (.agg #[.int .i64 0, .slice none 0 0, .slice none 0 0]), 3, 56) := by kernel_rfl

theorem fixed_val (k : Nat) (s : Rs) : (fixed k s).1 < 256 ^ k := by
  unfold fixed
  split
  · exact Nat.pow_pos (by omega)
  · split
    · exact Nat.pow_pos (by omega)
    · simp only
      have h1 := little_lt (s.left.take (k : Int).toNat)
      rw [Int.toNat_natCast, List.length_take] at h1
      exact Nat.lt_of_lt_of_le h1 (Nat.pow_le_pow_right (by omega) (Nat.min_le_left _ _))
theorem i64_wrap (n : Nat) (h : n < 18446744073709551616) : IntKind.i64.wrap (n : Int) = i64 n := by
  rw [IntKind.wrap_i64]
  unfold i64
  split <;> omega
theorem int_val' {s : Rs} (a b : Int) (ha : a ≤ 0) (hb : 0 ≤ b) : a ≤ (int a b s).1 ∧ (int a b s).1 ≤ b := by
  unfold int
  split
  · exact ⟨ha, hb⟩
  · split
    · split
      · exact ⟨ha, hb⟩
      · simp only; omega
    · exact ⟨ha, hb⟩
    · exact ⟨ha, hb⟩

theorem owns_up {w : World} {e sz n base : Nat} {v : Value} {xs : List Value} (h : w.ownsRow 0 e sz v n xs) (hb : ∀ k, v.ownBlock = some k → base ≤ k) : w.ownsRow base e sz v n xs := by
  refine ⟨h.1, ?_⟩
  rcases h.2 with h1 | ⟨g, cap, cur, rfl, _, h2⟩
  · exact .inl h1
  · exact .inr ⟨g, cap, cur, rfl, hb g rfl, h2⟩

/-- Keys and values lie in rows from a block on. -/
def RecO (w : World) (base : Nat) (x : RecR) : Prop := w.ownsRow base 5 1 x.vk x.d.key.length (bvs x.d.key) ∧ w.ownsRow base 5 1 x.vv x.d.val.length (bvs x.d.val)
theorem RecO.lies {w : World} {base : Nat} {x : RecR} (h : RecO w base x) : x.lies w := ⟨Rd.of_owns h.1, Rd.of_owns h.2⟩
theorem RecO.below {w w1 : World} {base : Nat} {x : RecR} (h : RecO w base x) (b : Below w.heap.size w w1) : RecO w1 base x := ⟨owns_below h.1 b, owns_below h.2 b⟩
theorem RecO.touch {w w1 : World} {base g : Nat} {x : RecR} (h : RecO w base x) (t : Touch g w w1) (hg : g < base) : RecO w1 base x := ⟨t.owns_from h.1 hg, t.owns_from h.2 hg⟩
theorem RecO.grown {w w1 : World} {base : Nat} {x : RecR} (h : RecO w base x) {row : Option Nat} (u : w.grownBy w1 row) (hr : ∀ k, row = some k → ∃ c f, w.heap[k]? = some (.cells c 44 f)) : RecO w1 base x :=
  ⟨owns_grown u h.1 hr (by decide), owns_grown u h.2 hr (by decide)⟩

/-- Records that lie in rows from a block on. -/
def RecsOwn (w : World) (base : Nat) (v : Value) (l : List RecD) : Prop := ∃ rs : List RecR, rs.map (·.d) = l ∧ w.ownsRow base 44 3 v rs.length (rs.flatMap recV) ∧ ∀ x ∈ rs, RecO w base x
theorem RecsOwn.rd {w : World} {base : Nat} {v : Value} {l : List RecD} (h : RecsOwn w base v l) : RecsRd w v l := by
  obtain ⟨rs, h1, h2, h3⟩ := h
  exact ⟨rs, h1, Rd.of_owns h2, fun x hx => (h3 x hx).lies⟩
theorem RecsOwn.below {w w1 : World} {base : Nat} {v : Value} {l : List RecD} (h : RecsOwn w base v l) (b : Below w.heap.size w w1) : RecsOwn w1 base v l := by
  obtain ⟨rs, h1, h2, h3⟩ := h
  exact ⟨rs, h1, owns_below h2 b, fun x hx => (h3 x hx).below b⟩
theorem RecsOwn.touch {w w1 : World} {base g : Nat} {v : Value} {l : List RecD} (h : RecsOwn w base v l) (t : Touch g w w1) (hg : g < base) : RecsOwn w1 base v l := by
  obtain ⟨rs, h1, h2, h3⟩ := h
  exact ⟨rs, h1, t.owns_from h2 hg, fun x hx => (h3 x hx).touch t hg⟩
theorem RecsOwn.base {w : World} {base b' : Nat} {v : Value} {l : List RecD} (h : RecsOwn w base v l) (hb : b' ≤ base) : RecsOwn w b' v l := by
  obtain ⟨rs, h1, h2, h3⟩ := h
  exact ⟨rs, h1, owns_base h2 hb, fun x hx => ⟨owns_base (h3 x hx).1 hb, owns_base (h3 x hx).2 hb⟩⟩
theorem RecsOwn.nil (w : World) (base : Nat) : RecsOwn w base (.slice none 0 0) [] := ⟨[], rfl, World.ownsRow_nil _ _ _ _, by simp⟩

def RecReadPost (l : List UInt8) (w : World) (e : Ending) (w' : World) : Prop :=
  ∃ v, e = .returned (.tuple #[batA (readP l).1 v, .bool (decide ((readP l).2.bad = .fine ∧ (readP l).2.left.length = 0))]) ∧ RecsOwn w' w.heap.size v (readP l).1.recs ∧ Below w.heap.size w w'

/-- While it reads: the reader, the batch, the records, the result's cell. -/
structure RRd (w0 : World) (A : Nat → Addr) (f gr g5 : Nat) (ba ep : Int) (lv : Value) (s : Rs) (rs : List RecR) (w : World) : Prop where
  rdr : Rdr A w gr s
  bat : w.heap[g5]? = some (.cells #[.int .i64 ba, .int .i64 ep, lv] 34 (0, 0))
  row : w.ownsRow (g5 + 1) 44 3 lv rs.length (rs.flatMap recV)
  parts : ∀ x ∈ rs, RecO w (g5 + 1) x
  res : w.heap[f]? = some (.cells #[.int .i64 0, .int .i64 0, .slice none 0 0] 34 (0, 0))
  bel : Below w0.heap.size w0 w
  o0 : w0.heap.size ≤ f
  o1 : f < gr
  o2 : gr < g5

theorem RRd.below {w0 w w1 : World} {A : Nat → Addr} {f gr g5 : Nat} {ba ep : Int} {lv : Value} {s : Rs} {rs : List RecR} (h : RRd w0 A f gr g5 ba ep lv s rs w) (b : Below w.heap.size w w1) : RRd w0 A f gr g5 ba ep lv s rs w1 :=
  ⟨h.rdr.below b, heap_below b h.bat, owns_below h.row b, fun x hx => (h.parts x hx).below b, heap_below b h.res, nxt h.bel b, h.o0, h.o1, h.o2⟩
theorem RRd.read {w0 w w1 : World} {A : Nat → Addr} {f gr g5 : Nat} {ba ep : Int} {lv : Value} {s s1 : Rs} {rs : List RecR} (h : RRd w0 A f gr g5 ba ep lv s rs w) (t : Touch gr w w1) (r : Rdr A w1 gr s1) : RRd w0 A f gr g5 ba ep lv s1 rs w1 :=
  ⟨r, t.heap h.bat (by have := h.o2; omega), t.owns_from h.row (by have := h.o2; omega), fun x hx => (h.parts x hx).touch t (by have := h.o2; omega), t.heap h.res (by have := h.o1; omega), t.new h.bel (by have := h.o0; have := h.o1; omega), h.o0, h.o1, h.o2⟩

theorem Rdr.rises {A : Nat → Addr} {w w1 : World} {g : Nat} {s : Rs} (h : Rdr A w g s) {row : Option Nat} (u : w.grownBy w1 row) (hr : ∀ k, row = some k → ∃ c f, w.heap[k]? = some (.cells c 44 f)) : Rdr A w1 g s := by
  cases row with
  | none => exact h.below ⟨u.os, u.tape, u.output, u.size, fun k hk => u.block k hk (by simp)⟩
  | some k =>
    obtain ⟨c, f, hc⟩ := hr k rfl
    exact h.touch (k := k) u hc (by decide) (by decide) (by decide)

/-- A record more. -/
theorem RRd.more {w0 wb w9 : World} {A : Nat → Addr} {f gr g5 : Nat} {ba ep : Int} {lv v9 : Value} {s : Rs} {rs : List RecR} (h : RRd w0 A f gr g5 ba ep lv s rs wb) (xr : RecR) (hx : RecO wb (g5 + 1) xr) (O : Obj) (hg : (wb.alloc O).grownBy w9 lv.ownBlock)
    (ho : w9.ownsRow 0 44 3 v9 (rs.length + 1) (rs.flatMap recV ++ recV xr)) (hw : ∀ k, v9.ownBlock = some k → lv.ownBlock = some k ∨ (wb.alloc O).heap.size ≤ k) : RRd w0 A f gr g5 ba ep v9 s (rs ++ [xr]) (w9.setCell ⟨g5, 2, none⟩ v9) := by
  have h1 := h.below (below_alloc wb O)
  have hx1 := hx.below (below_alloc wb O)
  have hge : ∀ k, lv.ownBlock = some k → g5 + 1 ≤ k := owns_ge h1.row
  have hty := owns_rowIs h1.row
  have a0 := h.o0
  have a1 := h.o1
  have a2 := h.o2
  have hlt := (Array.getElem?_eq_some_iff.1 h1.bat).1
  have bat9 := (hg.block g5 hlt (fun e => by have := hge _ e.symm; omega)).trans h1.bat
  have res9 := (hg.block f (Array.getElem?_eq_some_iff.1 h1.res).1 (fun e => by have := hge _ e.symm; omega)).trans h1.res
  have t := Touch.setCell (g := g5) w9 2 v9
  have hup : ∀ k, v9.ownBlock = some k → g5 + 1 ≤ k := fun k hk => by
    rcases hw k hk with h2 | h2
    · exact hge k h2
    · omega
  have r9 := h1.rdr.rises hg hty
  refine ⟨r9.touch t bat9 (by decide) (by decide) (by decide), heap_setCell_same w9 g5 2 _ _ _ bat9, ?_, ?_, t.heap res9 (by omega), t.new (h1.bel.grown hg h1.bel.size (fun k hk => by have := hge k hk; omega)) (by omega), a0, a1, a2⟩
  · rw [List.length_append, List.length_singleton, List.flatMap_append, List.flatMap_cons, List.flatMap_nil, List.append_nil]
    exact t.owns_from (owns_up ho hup) (by omega)
  · intro x hxm
    rcases List.mem_append.1 hxm with h3 | h3
    · exact ((h1.parts x h3).grown hg hty).touch t (by omega)
    · rw [List.mem_singleton.1 h3]
      exact (hx1.grown hg hty).touch t (by omega)

set_option maxRecDepth 100000 in
set_option maxHeartbeats 4000000 in
theorem recRead_calls (S : List Nat) (A : Nat → Addr) {w : World} (hS : Sents S w A) (hE0 : 0 ∈ S) (hE2 : 2 ∈ S) (hE4 : 4 ∈ S) {v : Value} {bs : List UInt8} (h : Rd w 1 v bs.length (bvs bs)) (hl : bs.length ≤ 1099511627776) :
    Calls Tryd.prog 53 #[v] w (RecReadPost bs w) := by
  obtain ⟨i0, hi, hz0, hz1, hz2⟩ := info_parts info_rec
  obtain ⟨am, cm, rfl⟩ := h.slice
  have b0 := below_alloc w (.cells #[.int .i64 0, .int .i64 0, .slice none 0 0] 34)
  have row0 := heap_alloc_new w (.cells #[.int .i64 0, .int .i64 0, .slice none 0 0] 34)
  have hnr := newReader_calls A _ bs _ (h.below b0) hl
  have hw0s : (w.alloc (.cells #[.int .i64 0, .int .i64 0, .slice none 0 0] 34)).heap.size = w.heap.size + 1 := by simp
  have HW0 := Lib.hid hw0s
  obtain ⟨x8, hx8⟩ : ∃ x, x = (fixed 8 (rs0 bs)).1 := ⟨_, rfl⟩
  obtain ⟨s8, hs8⟩ : ∃ x, x = (fixed 8 (rs0 bs)).2 := ⟨_, rfl⟩
  obtain ⟨x4, hx4⟩ : ∃ x, x = (fixed 4 s8).1 := ⟨_, rfl⟩
  obtain ⟨s4, hs4⟩ : ∃ x, x = (fixed 4 s8).2 := ⟨_, rfl⟩
  obtain ⟨n0, hn0⟩ : ∃ x, x = (fixed 2 s4).1 := ⟨_, rfl⟩
  obtain ⟨s2, hs2⟩ : ∃ x, x = (fixed 2 s4).2 := ⟨_, rfl⟩
  obtain ⟨t0, ht0⟩ : ∃ x, x = (int (-1099511627776) 1099511627776 s2).1 := ⟨_, rfl⟩
  obtain ⟨s0, hs0⟩ : ∃ x, x = (int (-1099511627776) 1099511627776 s2).2 := ⟨_, rfl⟩
  obtain ⟨Q, hQ⟩ : ∃ Q, Q = readRecs (-2199023255552) 2199023255552 n0 t0 s0 [] := ⟨_, rfl⟩
  have HP : Hid (readP bs = (⟨i64 x8, (x4 : Int), Q.1⟩, Q.2)) := Lib.hid (by
    unfold readP
    rw [hQ, ht0, hs0, hn0, hs2, hx4, hs4, hx8, hs8])
  have hb8 : x8 < 18446744073709551616 := by rw [hx8]; exact fixed_val 8 (rs0 bs)
  have hb4 : x4 < 4294967296 := by rw [hx4]; exact fixed_val 4 s8
  have hb2 : n0 < 65536 := by rw [hn0]; exact fixed_val 2 s4
  have hbt : -1099511627776 ≤ t0 ∧ t0 ≤ 1099511627776 := by rw [ht0]; exact int_val' _ _ (by omega) (by omega)
  have f8 := fun W (hW : Sents S W A) g (haw : Away S A g) (k : Rdr A W g (rs0 bs)) => fixed_calls' hW hE0 haw k 8
  have f4 := fun W (hW : Sents S W A) g (haw : Away S A g) (k : Rdr A W g s8) => fixed_calls' hW hE0 haw k 4
  have f2 := fun W (hW : Sents S W A) g (haw : Away S A g) (k : Rdr A W g s4) => fixed_calls' hW hE0 haw k 2
  have ft := fun W (hW : Sents S W A) g (haw : Away S A g) (k : Rdr A W g s2) => int_calls' hW hE0 hE2 hE4 haw k (-1099511627776) 1099511627776
  unfold FixedPost at f8 f4 f2
  rw [← hx8, ← hs8] at f8
  rw [← hx4, ← hs4] at f4
  rw [← hn0, ← hs2] at f2
  rw [← ht0, ← hs0] at ft
  have HQ := Lib.hid hQ
  have u8' := i64_wrap x8 hb8
  have u4 : IntKind.i64.wrap (x4 : Int) = (x4 : Int) := by rw [IntKind.wrap_i64]; omega
  have u2 : IntKind.i64.wrap (n0 : Int) = (n0 : Int) := by rw [IntKind.wrap_i64]; omega
  clear hx8 hs8 hx4 hs4 hn0 hs2 ht0 hs0 hQ hw0s
  go_enter Tryd.func53, Tryd.ntmps53
  go_upto_region 1 with fail
  generalize w.alloc (.cells #[.int .i64 0, .int .i64 0, .slice none 0 0] 34) = w0 at *
  go_wp2_with fail
  refine hnr.mono ?_
  rintro e w1 ⟨gr, rfl, hgr, r1, b1⟩
  have hfr : w.heap.size < gr := by have := HW0.out; omega
  have B1 := nxt b0 b1
  have row1 := heap_below b1 row0
  have haw : Away S A gr := Away.of_new hS (by omega)
  have f8' := f8 w1 (hS.below B1) gr haw r1
  clear hnr f8 b1 row0 b0 HW0 h
  go_wp2_with fail
  refine f8'.mono ?_
  rintro e w2 ⟨rfl, r2, t2⟩
  have B2 := t2.new B1 (by omega)
  have row2 := t2.heap row1 (by omega)
  have s2' := t2.size
  have f4' := f4 w2 (hS.below B2) gr haw r2
  clear f8' f4 row1
  go_wp2_with fail
  refine f4'.mono ?_
  rintro e w3 ⟨rfl, r3, t3⟩
  have B3 := t3.new B2 (by omega)
  have row3 := t3.heap row2 (by omega)
  have s3' := t3.size
  have b3 := below_alloc w3 (.cells #[.int .i64 (i64 x8), .int .i64 (x4 : Int), .slice none 0 0] 34)
  have hgr3 : gr < w3.heap.size := by obtain ⟨_, vb, ve, h1, _⟩ := r3; exact (Array.getElem?_eq_some_iff.1 h1).1
  have I4 : RRd w A w.heap.size gr w3.heap.size (i64 x8) (x4 : Int) (.slice none 0 0) s4 [] (w3.alloc (.cells #[.int .i64 (i64 x8), .int .i64 (x4 : Int), .slice none 0 0] 34)) :=
    ⟨r3.below b3, heap_alloc_new w3 _, World.ownsRow_nil _ _ _ _, by simp, heap_below b3 row3, nxt B3 b3, Nat.le_refl _, hfr, hgr3⟩
  clear f4' row2 B1 B2 t2 t3 r1 r2
  go_upto_region 3 with fail
  generalize w3.alloc (.cells #[.int .i64 (i64 x8), .int .i64 (x4 : Int), .slice none 0 0] 34) = w4 at *
  generalize w3.heap.size = g5 at *
  clear r3 row3 B3 b3 s3' s2'
  have f2' := f2 w4 (hS.below I4.bel) gr haw I4.rdr
  go_wp2_with fail
  refine f2'.mono ?_
  rintro e w5 ⟨rfl, r5, t5⟩
  have I5 := I4.read t5 r5
  clear f2' f2 I4 r5 t5
  have ft' := ft w5 (hS.below I5.bel) gr haw I5.rdr
  go_wp2_with fail
  refine ft'.mono ?_
  rintro e w6 ⟨rfl, r6, t6⟩
  have I6 := I5.read t6 r6
  clear ft' ft I5 r6 t6
  have hg5w : w.heap.size ≤ g5 + 1 := by have := I6.o1; have := I6.o2; omega
  go_wp2_with fail
  go_loopw [6, 7] (fun nv tv wr => ∃ (n : Nat) (t : Int) (s : Rs) (rs : List RecR) (lv : Value), nv = .int .i64 n ∧ tv = .int .i64 t ∧ rs.length + n ≤ 65535 ∧ (-2199023255552 * ((rs.length : Int) + 1) ≤ t ∧ t ≤ 2199023255552 * ((rs.length : Int) + 1)) ∧ Hid (readRecs (-2199023255552) 2199023255552 n t s (rs.map (·.d)) = Q) ∧ RRd w A w.heap.size gr g5 (i64 x8) x4 lv s rs wr) (fun nv _ _ => (intOf nv).toNat)
  case atStart => exact ⟨n0, t0, s0, [], _, rfl, rfl, by simp; omega, by simp; omega, Lib.hid HQ.out.symm, I6⟩
  case round =>
    obtain ⟨n, t, s, rs, lv, rfl, rfl, hln, ⟨ht1, ht2⟩, HR, I⟩ := hrel
    obtain ⟨al, cl, rfl⟩ := owns_slice I.row
    have herr := readerErr_calls I.rdr
    by_cases hgo : 0 < n ∧ s.bad = .fine
    · obtain ⟨hpos, hfine⟩ := hgo
      obtain ⟨m, rfl⟩ : ∃ m, n = m + 1 := ⟨n - 1, by omega⟩
      have HR2 := HR.out
      rw [readRecs_go _ _ t _ hfine] at HR2
      rw [hfine] at herr
      have hro : readRec (-2199023255552) 2199023255552 t s = readRec (-2199023255552) 2199023255552 t s := rfl
      conv at hro => rhs; unfold readRec
      have hyb := int_val' (s := s) (-2199023255552) 2199023255552 (by omega) (by omega)
      have c1 := fun W (hW : Sents S W A) (k : Rdr A W gr s) => int_calls' hW hE0 hE2 hE4 haw k (-2199023255552) 2199023255552
      obtain ⟨y, hy⟩ : ∃ x, x = (int (-2199023255552) 2199023255552 s).1 := ⟨_, rfl⟩
      obtain ⟨s1, hs1⟩ : ∃ x, x = (int (-2199023255552) 2199023255552 s).2 := ⟨_, rfl⟩
      rw [← hy, ← hs1] at c1 hro
      rw [← hy] at hyb
      have c2 := fun W (hW : Sents S W A) (k : Rdr A W gr s1) => bytes_calls' hW hE0 hE2 hE4 haw k 64 (by omega)
      unfold BytesPost at c2
      obtain ⟨ky, hky⟩ : ∃ x, x = (Vint.bytes 64 s1).1 := ⟨_, rfl⟩
      obtain ⟨s2, hs2⟩ : ∃ x, x = (Vint.bytes 64 s1).2 := ⟨_, rfl⟩
      rw [← hky, ← hs2] at c2 hro
      have c3 := fun W (hW : Sents S W A) (k : Rdr A W gr s2) => bytes_calls' hW hE0 hE2 hE4 haw k 512 (by omega)
      unfold BytesPost at c3
      obtain ⟨vl, hvl⟩ : ∃ x, x = (Vint.bytes 512 s2).1 := ⟨_, rfl⟩
      obtain ⟨s3, hs3⟩ : ∃ x, x = (Vint.bytes 512 s2).2 := ⟨_, rfl⟩
      rw [← hvl, ← hs3] at c3 hro
      rw [hro] at HR2
      simp only at HR2
      have HRR := Lib.hid HR2
      clear HR2 HR hro hy hs1 hky hs2 hvl hs3 hfine
      go_wp2_with fail
      refine herr.mono ?_
      rintro e w7 ⟨v7, rfl, hv7, rfl⟩
      have hv8 : v7 = .nilIface := hv7
      subst hv8
      clear hv7 herr
      have x1 : IntKind.i64.wrap (t + y) = t + y := by rw [IntKind.wrap_i64]; omega
      have c1' := c1 _ (hS.below I.bel) I.rdr
      clear c1
      go_wp2_with fail
      refine c1'.mono ?_
      rintro e w8 ⟨rfl, r8, t8⟩
      have J := I.read t8 r8
      clear c1' I r8 t8
      have hTb : -2199023255552 * ((rs.length : Int) + 2) ≤ t + y ∧ t + y ≤ 2199023255552 * ((rs.length : Int) + 2) := by omega
      have c2' := c2 w8.drew (hS.below J.bel.drew) (J.rdr.below (Below.refl _ _).drew)
      clear c2
      have d0 : w8.cell? ⟨g5, 2, none⟩ = some (.slice al rs.length cl) := cell_of_row _ _ 2 _ _ _ J.bat
      go_upto_region 8 with fail
      clear x1 ht1 ht2 hyb
      generalize t + y = T at *
      go_region_law (first
        | (refine step_append_where rfl (.tmp 36) (.tmp 43) 32 rfl 44 i0 _ 3 56 Tryd.underlying32 hi hz0 hz1 hz2 rfl (by decide) _ rs.length (rs.flatMap recV) rfl (ob.alloc _) ⟨wb.heap.size, 0, none⟩ 1 1 [.int .i64 T, .slice ak ky.length ck, .slice av vl.length cv] rfl (by rfl) (cells_new wb.drew #[.int .i64 T, .slice ak ky.length ck, .slice av vl.length cv] 44) (by simp [Value.oneCell']) (by unfold maxLen; omega) (by omega) ?_; intro v9 w9 o9 g9 wh9; (obtain ⟨a9, c9, rfl⟩ := owns_slice o9); have hbA := heap_below (below_alloc wb (.cells #[.int .i64 T, .slice ak ky.length ck, .slice av vl.length cv] 44)) Jb.bat; have bat9 : w9.heap[g5]? = some (.cells #[.int .i64 (i64 x8), .int .i64 (x4 : Int), .slice al rs.length cl] 34 (0, 0)) := (g9.block g5 (Array.getElem?_eq_some_iff.1 hbA).1 (fun e => owns_ne (owns_below ob (below_alloc wb (.cells #[.int .i64 T, .slice ak ky.length ck, .slice av vl.length cv] 44))) hbA (by decide) e.symm)).trans hbA; have e9 : w9.cell? ⟨g5, 2, none⟩ = some (.slice al rs.length cl) := cell_of_row _ _ 2 _ _ _ bat9; have z9 : w9.frozen? ⟨g5, 2, none⟩ = false := frozen_of_row _ g5 2 _ _ bat9)
        | (go_simp; go_at_call 77; first
            | ((with_reducible refine c2'.mono ?_); (rintro e wa ⟨va, rfl, oa, ra, ta⟩); have Ja := (J.below (Below.refl _ _).drew).read ta ra; (obtain ⟨ak, ck, rfl⟩ := owns_slice oa); have c3' := c3 wa.drew (hS.below Ja.bel.drew) (Ja.rdr.below (Below.refl _ _).drew); have c3'' := c3 wa (hS.below Ja.bel) Ja.rdr; have da : wa.cell? ⟨g5, 2, none⟩ = some (.slice al rs.length cl) := cell_of_row _ _ 2 _ _ _ Ja.bat)
            | ((with_reducible refine c3''.mono ?_); (rintro e wb ⟨vb, rfl, obv, rb, tb⟩); have Jb := Ja.read tb rb; (obtain ⟨av, cv, rfl⟩ := owns_slice obv); have db : wb.cell? ⟨g5, 2, none⟩ = some (.slice al rs.length cl) := cell_of_row _ _ 2 _ _ _ Jb.bat; have ob := owns_zero Jb.row; have dc : (wb.alloc (.cells #[.int .i64 T, .slice ak ky.length ck, .slice av vl.length cv] 44)).cell? ⟨g5, 2, none⟩ = some (.slice al rs.length cl) := cell_of_row _ _ 2 _ _ _ (heap_below (below_alloc wb _) Jb.bat))))
      all_goals
        have hoa := (tb.owns_from (owns_base (base' := g5 + 1) oa (by have := (Array.getElem?_eq_some_iff.1 J.bat).1; exact this)) (by have := J.o2; omega))
        have hob := owns_base (base' := g5 + 1) obv (by have := (Array.getElem?_eq_some_iff.1 Ja.bat).1; exact this)
        have JJ := Jb.more ⟨⟨T, ky, vl⟩, .slice ak ky.length ck, .slice av vl.length cv⟩ ⟨hoa, hob⟩ _ g9 o9 wh9
        clear hoa hob g9 o9 wh9 oa obv ob
        go_wp2_with fail
        refine ⟨⟨m, T, s3, rs ++ [⟨⟨T, ky, vl⟩, .slice ak ky.length ck, .slice av vl.length cv⟩], _, by go_num, rfl, by rw [List.length_append, List.length_singleton]; omega, by rw [List.length_append, List.length_singleton]; push_cast; omega, Lib.hid (by rw [List.map_append]; exact HRR.out), JJ⟩, by simp [intOf]⟩
    · have hq : Q = (rs.map (·.d), s) := by
        rw [← HR.out]
        by_cases h0 : 0 < n
        · exact readRecs_bad _ _ _ _ _ _ (fun e => hgo ⟨h0, e⟩)
        · obtain rfl : n = 0 := by omega
          rfl
      have hP := HP.out
      rw [hq] at hP
      have HPP := Lib.hid hP
      have HGO := Lib.hid hgo
      clear hq hP hgo HR HQ ht1 ht2
      have hleft := fun W (hW : Rdr A W gr s) => left_calls hW
      have herr2 := readerErr_calls (I.rdr.below (Below.refl _ _).drew)
      go_upto_region 5 with fail
      go_cut [28] (fun b wx => b = .bool false ∧ wx = wr)
      case first =>
        by_cases h0 : 0 < n
        · have hne : s.bad ≠ .fine := fun e => HGO.out ⟨h0, e⟩
          go_wp2_with fail
          refine herr.mono ?_
          rintro e w7 ⟨v7, rfl, hv7, rfl⟩
          obtain ⟨T7, u7, rfl⟩ := hv7.not_nil hne
          go_wp2_with fail
          go_meet
          exact ⟨rfl, rfl⟩
        · go_wp2_with fail
          go_meet
          exact ⟨rfl, rfl⟩
      obtain ⟨rfl, hwc⟩ := hcut
      rw [hwc]
      clear hwc herr
      have ID := I.below (Below.refl _ _).drew
      have KK : ∀ W, Below wr.drew.heap.size wr.drew W → (fun W => W.cell? ⟨g5, 0, none⟩ = some (.int .i64 (i64 x8)) ∧ W.cell? ⟨g5, 1, none⟩ = some (.int .i64 (x4 : Int)) ∧ W.cell? ⟨g5, 2, none⟩ = some (.slice al rs.length cl)) W := fun W hW => by
        have r := heap_below hW ID.bat
        exact ⟨cell_of_row _ _ 0 _ _ _ r, cell_of_row _ _ 1 _ _ _ r, cell_of_row _ _ 2 _ _ _ r⟩
      go_wp2_with fail
      refine wp_region_ord (S := (fun W => W.cell? ⟨g5, 0, none⟩ = some (.int .i64 (i64 x8)) ∧ W.cell? ⟨g5, 1, none⟩ = some (.int .i64 (x4 : Int)) ∧ W.cell? ⟨g5, 2, none⟩ = some (.slice al rs.length cl))) [(0, true), (1, true), (2, false), (3, true), (4, true), (5, true), (6, false), (7, true), (8, true), (9, false), (10, true)] (by kernel_rfl) (by kernel_rfl) rfl (by kernel_rfl) (fun _ _ _ _ _ h => h) (KK _ (Below.refl _ _)) ?_
      simp only [List.map_cons, List.map_nil, List.getElem?_toArray, List.getElem?_cons_succ, List.getElem?_cons_zero]
      iterate 2 (refine ord_take (v := ?_) (by kernel_rfl) (fun w hSw => ?_) ?_; rotate_left; (focus ((obtain ⟨s0, s1, s2⟩ := hSw); (try dsimp only at s0 s1 s2); go_simp; (first | done | with_reducible rfl))); simp only [Act.put, List.setIfInBounds_toArray, List.set_cons_zero, List.set_cons_succ])
      refine ord_do (by kernel_rfl) (fun K hK => ?_)
      go_simp
      go_at_call 76
      refine herr2.mono ?_
      rintro e w7 ⟨v7, rfl, hv7, hw7⟩
      show K _ _
      refine hK.out _ _ (by rw [hw7]; exact KK _ (Below.refl _ _)) ?_
      clear hK herr2
      try simp only [Act.put, List.setIfInBounds_toArray, List.set_cons_zero, List.set_cons_succ]
      have I7 : RRd w A w.heap.size gr g5 (i64 x8) (x4 : Int) (.slice al rs.length cl) s rs w7 := by rw [hw7]; exact ID
      clear hw7 KK ID I
      by_cases hfb : s.bad = .fine
      · rw [hfb] at hv7
        have hv8 : v7 = .nilIface := hv7
        subst hv8
        have HFB := Lib.hid hfb
        clear hv7 hfb
        have hlc := hleft w7 I7.rdr
        clear hleft
        iterate 3 (refine ord_take (v := ?_) (by kernel_rfl) (fun w hSw => ?_) ?_; rotate_left; (focus ((obtain ⟨s0, s1, s2⟩ := hSw); (try dsimp only at s0 s1 s2); go_simp; (first | done | with_reducible rfl))); simp only [Act.put, List.setIfInBounds_toArray, List.set_cons_zero, List.set_cons_succ])
        refine ord_do (by kernel_rfl) (fun K hK => ?_)
        go_simp
        go_at_call 73
        refine hlc.mono ?_
        rintro e wl ⟨rfl, ql, hwl⟩
        have Il : RRd w A w.heap.size gr g5 (i64 x8) (x4 : Int) (.slice al rs.length cl) s rs wl := by rw [hwl]; exact I7.below (below_drewN (Below.refl _ _) ql)
        show K _ _
        refine hK.out _ _ ⟨cell_of_row _ _ 0 _ _ _ Il.bat, cell_of_row _ _ 1 _ _ _ Il.bat, cell_of_row _ _ 2 _ _ _ Il.bat⟩ ?_
        clear hK hlc hwl
        try simp only [Act.put, List.setIfInBounds_toArray, List.set_cons_zero, List.set_cons_succ]
        obtain ⟨D, hD⟩ : ∃ D, D = ((s.left.length : Int) == 0) := ⟨_, rfl⟩
        have HD := Lib.hid hD
        clear hD
        iterate 2 (refine ord_take (v := ?_) (by kernel_rfl) (fun w hSw => ?_) ?_; rotate_left; (focus ((obtain ⟨s0, s1, s2⟩ := hSw); (try dsimp only at s0 s1 s2); go_simp; (first | done | with_reducible rfl))); simp only [Act.put, List.setIfInBounds_toArray, List.set_cons_zero, List.set_cons_succ])
        have f0 : wl.cell? ⟨w.heap.size, 0, none⟩ = some (.int .i64 0) := cell_of_row _ _ 0 _ _ _ Il.res
        have f1 : wl.cell? ⟨w.heap.size, 1, none⟩ = some (.int .i64 0) := cell_of_row _ _ 1 _ _ _ Il.res
        have f2 : wl.cell? ⟨w.heap.size, 2, none⟩ = some (.slice none 0 0) := cell_of_row _ _ 2 _ _ _ Il.res
        have z0 : wl.frozen? ⟨w.heap.size, 0, none⟩ = false := frozen_of_row _ w.heap.size 0 _ _ Il.res
        have z1 : wl.frozen? ⟨w.heap.size, 1, none⟩ = false := frozen_of_row _ w.heap.size 1 _ _ Il.res
        have z2 : wl.frozen? ⟨w.heap.size, 2, none⟩ = false := frozen_of_row _ w.heap.size 2 _ _ Il.res
        have TT := ((Touch.setCell (g := w.heap.size) wl 0 (.int .i64 (i64 x8))).set 1 (.int .i64 (x4 : Int))).set 2 (.slice al rs.length cl)
        have rowz : (((wl.setCell ⟨w.heap.size, 0, none⟩ (.int .i64 (i64 x8))).setCell ⟨w.heap.size, 1, none⟩ (.int .i64 (x4 : Int))).setCell ⟨w.heap.size, 2, none⟩ (.slice al rs.length cl)).heap[w.heap.size]? = some (.cells #[.int .i64 (i64 x8), .int .i64 (x4 : Int), .slice al rs.length cl] 34 (0, 0)) := heap_setCell_same _ w.heap.size 2 _ _ _ (heap_setCell_same _ w.heap.size 1 _ _ _ (heap_setCell_same wl w.heap.size 0 _ _ _ Il.res))
        have batz := TT.heap Il.bat (by have := Il.o1; have := Il.o2; omega)
        have ownz := TT.owns_from Il.row (by have := Il.o1; have := Il.o2; omega)
        have parz := fun x hx => (Il.parts x hx).touch TT (by have := Il.o1; have := Il.o2; omega)
        have belz := TT.new Il.bel (Nat.le_refl _)
        refine ord_do (by kernel_rfl) (fun K hK => ?_)
        go_simp
        show K _ _
        refine hK.out _ _ ⟨cell_of_row _ _ 0 _ _ _ batz, cell_of_row _ _ 1 _ _ _ batz, cell_of_row _ _ 2 _ _ _ batz⟩ ?_
        clear hK
        try simp only [Act.put, List.setIfInBounds_toArray, List.set_cons_zero, List.set_cons_succ]
        iterate 1 (refine ord_take (v := ?_) (by kernel_rfl) (fun w hSw => ?_) ?_; rotate_left; (focus ((obtain ⟨s0, s1, s2⟩ := hSw); (try dsimp only at s0 s1 s2); go_simp; (first | done | with_reducible rfl))); simp only [Act.put, List.setIfInBounds_toArray, List.set_cons_zero, List.set_cons_succ])
        refine ord_nil ?_
        generalize ((wl.setCell ⟨w.heap.size, 0, none⟩ (.int .i64 (i64 x8))).setCell ⟨w.heap.size, 1, none⟩ (.int .i64 (x4 : Int))).setCell ⟨w.heap.size, 2, none⟩ (.slice al rs.length cl) = wz at *
        have q0 : wz.cell? ⟨w.heap.size, 0, none⟩ = some (.int .i64 (i64 x8)) := cell_of_row _ _ 0 _ _ _ rowz
        have q1 : wz.cell? ⟨w.heap.size, 1, none⟩ = some (.int .i64 (x4 : Int)) := cell_of_row _ _ 1 _ _ _ rowz
        have q2 : wz.cell? ⟨w.heap.size, 2, none⟩ = some (.slice al rs.length cl) := cell_of_row _ _ 2 _ _ _ rowz
        clear f0 f1 f2 z0 z1 z2 TT rowz batz
        go_wp2_with fail
        refine bodyPost_ret (v := .tuple #[.agg #[.int .i64 (i64 x8), .int .i64 (x4 : Int), .slice al rs.length cl], .bool ((s.left.length : Int) == 0)]) (by simp [results, go_sem, q0, q1, q2]) rfl ?_
        unfold RecReadPost
        rw [HPP.out]
        refine ⟨.slice al rs.length cl, ?_, RecsOwn.base (base := g5 + 1) ⟨rs, rfl, ownz, parz⟩ hg5w, belz⟩
        unfold batA
        simp only
        rw [show decide (s.bad = .fine ∧ s.left.length = 0) = ((s.left.length : Int) == 0) from by rw [Bool.eq_iff_iff, decide_eq_true_iff, beq_iff_eq]; exact ⟨fun h => by omega, fun h => ⟨HFB.out, by omega⟩⟩]
      · obtain ⟨T7, u7, rfl⟩ := hv7.not_nil hfb
        have HFB := Lib.hid hfb
        clear hfb hv7 hleft
        iterate 2 (refine ord_take (v := ?_) (by kernel_rfl) (fun w hSw => ?_) ?_; rotate_left; (focus ((obtain ⟨s0, s1, s2⟩ := hSw); (try dsimp only at s0 s1 s2); go_simp; (first | done | with_reducible rfl))); simp only [Act.put, List.setIfInBounds_toArray, List.set_cons_zero, List.set_cons_succ])
        iterate 1 (refine ord_skip (by kernel_rfl) ?_; simp only [Act.put, List.setIfInBounds_toArray, List.set_cons_zero, List.set_cons_succ])
        (refine ord_pass (by kernel_rfl) ⟨cell_of_row _ _ 0 _ _ _ I7.bat, cell_of_row _ _ 1 _ _ _ I7.bat, cell_of_row _ _ 2 _ _ _ I7.bat⟩ ?_; simp only [Act.put, List.setIfInBounds_toArray, List.set_cons_zero, List.set_cons_succ])
        iterate 1 (refine ord_skip (by kernel_rfl) ?_; simp only [Act.put, List.setIfInBounds_toArray, List.set_cons_zero, List.set_cons_succ])
        iterate 1 (refine ord_take (v := ?_) (by kernel_rfl) (fun w hSw => ?_) ?_; rotate_left; (focus ((obtain ⟨s0, s1, s2⟩ := hSw); (try dsimp only at s0 s1 s2); go_simp; (first | done | with_reducible rfl))); simp only [Act.put, List.setIfInBounds_toArray, List.set_cons_zero, List.set_cons_succ])
        have f0 : w7.cell? ⟨w.heap.size, 0, none⟩ = some (.int .i64 0) := cell_of_row _ _ 0 _ _ _ I7.res
        have f1 : w7.cell? ⟨w.heap.size, 1, none⟩ = some (.int .i64 0) := cell_of_row _ _ 1 _ _ _ I7.res
        have f2 : w7.cell? ⟨w.heap.size, 2, none⟩ = some (.slice none 0 0) := cell_of_row _ _ 2 _ _ _ I7.res
        have z0 : w7.frozen? ⟨w.heap.size, 0, none⟩ = false := frozen_of_row _ w.heap.size 0 _ _ I7.res
        have z1 : w7.frozen? ⟨w.heap.size, 1, none⟩ = false := frozen_of_row _ w.heap.size 1 _ _ I7.res
        have z2 : w7.frozen? ⟨w.heap.size, 2, none⟩ = false := frozen_of_row _ w.heap.size 2 _ _ I7.res
        have TT := ((Touch.setCell (g := w.heap.size) w7 0 (.int .i64 (i64 x8))).set 1 (.int .i64 (x4 : Int))).set 2 (.slice al rs.length cl)
        have rowz : (((w7.setCell ⟨w.heap.size, 0, none⟩ (.int .i64 (i64 x8))).setCell ⟨w.heap.size, 1, none⟩ (.int .i64 (x4 : Int))).setCell ⟨w.heap.size, 2, none⟩ (.slice al rs.length cl)).heap[w.heap.size]? = some (.cells #[.int .i64 (i64 x8), .int .i64 (x4 : Int), .slice al rs.length cl] 34 (0, 0)) := heap_setCell_same _ w.heap.size 2 _ _ _ (heap_setCell_same _ w.heap.size 1 _ _ _ (heap_setCell_same w7 w.heap.size 0 _ _ _ I7.res))
        have batz := TT.heap I7.bat (by have := I7.o1; have := I7.o2; omega)
        have ownz := TT.owns_from I7.row (by have := I7.o1; have := I7.o2; omega)
        have parz := fun x hx => (I7.parts x hx).touch TT (by have := I7.o1; have := I7.o2; omega)
        have belz := TT.new I7.bel (Nat.le_refl _)
        refine ord_do (by kernel_rfl) (fun K hK => ?_)
        go_simp
        show K _ _
        refine hK.out _ _ ⟨cell_of_row _ _ 0 _ _ _ batz, cell_of_row _ _ 1 _ _ _ batz, cell_of_row _ _ 2 _ _ _ batz⟩ ?_
        clear hK
        try simp only [Act.put, List.setIfInBounds_toArray, List.set_cons_zero, List.set_cons_succ]
        iterate 1 (refine ord_take (v := ?_) (by kernel_rfl) (fun w hSw => ?_) ?_; rotate_left; (focus ((obtain ⟨s0, s1, s2⟩ := hSw); (try dsimp only at s0 s1 s2); go_simp; (first | done | with_reducible rfl))); simp only [Act.put, List.setIfInBounds_toArray, List.set_cons_zero, List.set_cons_succ])
        refine ord_nil ?_
        generalize ((w7.setCell ⟨w.heap.size, 0, none⟩ (.int .i64 (i64 x8))).setCell ⟨w.heap.size, 1, none⟩ (.int .i64 (x4 : Int))).setCell ⟨w.heap.size, 2, none⟩ (.slice al rs.length cl) = wz at *
        have q0 : wz.cell? ⟨w.heap.size, 0, none⟩ = some (.int .i64 (i64 x8)) := cell_of_row _ _ 0 _ _ _ rowz
        have q1 : wz.cell? ⟨w.heap.size, 1, none⟩ = some (.int .i64 (x4 : Int)) := cell_of_row _ _ 1 _ _ _ rowz
        have q2 : wz.cell? ⟨w.heap.size, 2, none⟩ = some (.slice al rs.length cl) := cell_of_row _ _ 2 _ _ _ rowz
        clear f0 f1 f2 z0 z1 z2 TT rowz batz
        go_wp2_with fail
        refine bodyPost_ret (v := .tuple #[.agg #[.int .i64 (i64 x8), .int .i64 (x4 : Int), .slice al rs.length cl], .bool false]) (by simp [results, go_sem, q0, q1, q2]) rfl ?_
        unfold RecReadPost
        rw [HPP.out]
        refine ⟨.slice al rs.length cl, ?_, RecsOwn.base (base := g5 + 1) ⟨rs, rfl, ownz, parz⟩ hg5w, belz⟩
        unfold batA
        simp only
        rw [decide_eq_false (fun h => HFB.out h.1)]
end Go.Proofs.YtlfbdcgojbfcaaaDoor
