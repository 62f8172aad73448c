/- mani.Read: the manifest of bytes, or an error. -/
import Derived.Test.YtegiingcnhafbaaGreatDoorManRM
import Derived.Test.YtegiingcnhafbaaGreatDoorReaderAt
import Derived.Test.YtegiingcnhafbaaGreatDoorReaderAll
import Derived.Test.YtegiingcnhafbaaGreatDoorCrcOpen
import Derived.Test.YtegiingcnhafbaaGreatDoorStr
import Derived.Deep.DeepCutAuto
import Derived.Deep.RegionLaw
import Derived.Deep.RegionHeld3
import Derived.StillTailTactics
namespace Go.Proofs.YtegiingcnhafbaaGreatDoor
open Go Go.RowKit Man Vint Crc

theorem info_pair' : (Tryz.prog.info? 52).map (fun i => (i.zero, i.size, i.bytes)) = some (some (.agg #[.int .i64 0, .int .i64 0]), 2, 16) := by kernel_rfl
theorem info_obj' : (Tryz.prog.info? 44).map (fun i => (i.zero, i.size, i.bytes)) = some (some (.agg #[.string ByteArray.empty, .int .i64 0, .int .u32 0]), 3, 32) := by kernel_rfl
theorem owns_rowIs3 {w : World} {base e sz n : Nat} {v : Value} {xs : List Value} (h : w.ownsRow base e sz v n xs) : ∀ k, v.ownBlock = some k → ∃ c f, w.heap[k]? = some (.cells c e f) := by
  intro k hk
  rcases h.2 with ⟨rfl, _⟩ | ⟨g, cap, cur, rfl, _, hg, _⟩
  · simp [Value.ownBlock] at hk
  · simp only [Value.ownBlock, Option.some.injEq] at hk
    subst hk
    exact ⟨_, _, hg⟩
theorem owns_ne3 {w : World} {base e sz n g : Nat} {v : Value} {xs : List Value} {c : Array Value} {t : TypeId} {f : Nat × Nat} (h : w.ownsRow base e sz v n xs) (hg : w.heap[g]? = some (.cells c t f)) (ht : e ≠ t) : v.ownBlock ≠ some g := by
  intro e1
  obtain ⟨c', f', h'⟩ := owns_rowIs3 h g e1
  exact row_ne hg h' ht rfl
theorem owns_up3 {w : World} {e sz n base : Nat} {v : Value} {xs : List Value} (h : w.ownsRow 0 e sz v n xs) (hb : ∀ k, v.ownBlock = some k → base ≤ k) : w.ownsRow base e sz v n xs := by
  refine ⟨h.1, ?_⟩
  rcases h.2 with h1 | ⟨g, cap, cur, rfl, _, h2⟩
  · exact .inl h1
  · exact .inr ⟨g, cap, cur, rfl, hb g rfl, h2⟩
theorem Rdr.gr3 {A : Nat → Addr} {w w1 : World} {g : Nat} {s : Rs} (h : Rdr A w g s) {row : Option Nat} (u : w.grownBy w1 row) {t : TypeId} (hr : ∀ k, row = some k → ∃ c f, w.heap[k]? = some (.cells c t f)) (t1 : 95 ≠ t) (t2 : 5 ≠ t) (t3 : 75 ≠ t) : Rdr A w1 g s := by
  cases row with
  | none => exact h.below ⟨u.os, u.tape, u.output, u.size, fun k hk => u.block k hk (by simp)⟩
  | some k =>
    obtain ⟨c, f, hc⟩ := hr k rfl
    exact h.touch (k := k) u hc t1 t2 t3
theorem int_val2 {s : Rs} (a b : Int) (ha : a ≤ 0) (hb : 0 ≤ b) : a ≤ (int a b s).1 ∧ (int a b s).1 ≤ b := by
  unfold int
  split
  · exact ⟨ha, hb⟩
  · split
    · split
      · exact ⟨ha, hb⟩
      · simp only; omega
    · exact ⟨ha, hb⟩
    · exact ⟨ha, hb⟩

def manZ : Value := .agg #[.int .i64 0, .int .i64 0, .int .i64 0, .int .i64 0, .slice none 0 0, .slice none 0 0]
def ManReadPost (A : Nat → Addr) (bs : List UInt8) (w : World) (e : Ending) (w' : World) : Prop := Below w.heap.size w w' ∧
  ((∃ b m ve vo, openL bs = .ok b ∧ readM b = some m ∧ manOk m ∧ e = .returned (.tuple #[manA m ve vo, .nilIface]) ∧ w'.ownsRow w.heap.size 52 2 ve m.eps.length (m.eps.flatMap prV) ∧ w'.ownsRow w.heap.size 44 3 vo m.objs.length (m.objs.flatMap obV)) ∨
   ∃ T u, e = .returned (.tuple #[manZ, .iface T u]) ∧ (openL bs = .sum → Value.iface T u = senV A 1) ∧ ∀ b m, openL bs = .ok b → readM b = some m → ¬ manOk m)

/-- While it reads: the reader, the manifest, its pairs and objects, the result's cell. -/
structure MRd (w0 : World) (A : Nat → Addr) (f gr g7 : Nat) (id ba fi ti : Int) (ev ov : Value) (s : Rs) (ps : List Epo.Pr) (os : List ObjD) (w : World) : Prop where
  rdr : Rdr A w gr s
  man : w.heap[g7]? = some (.cells #[.int .i64 id, .int .i64 ba, .int .i64 fi, .int .i64 ti, ev, ov] 27 (0, 0))
  row : w.ownsRow (g7 + 1) 52 2 ev ps.length (ps.flatMap prV)
  obs : w.ownsRow (g7 + 1) 44 3 ov os.length (os.flatMap obV)
  res : w.heap[f]? = some (.cells #[.int .i64 0, .int .i64 0, .int .i64 0, .int .i64 0, .slice none 0 0, .slice none 0 0] 27 (0, 0))
  bel : Below w0.heap.size w0 w
  o0 : w0.heap.size ≤ f
  o1 : f < gr
  o2 : gr < g7

section
variable {w0 w w1 : World} {A : Nat → Addr} {f gr g7 : Nat} {id ba fi ti : Int} {ev ov : Value} {s s1 : Rs} {ps : List Epo.Pr} {os : List ObjD}
theorem MRd.below (h : MRd w0 A f gr g7 id ba fi ti ev ov s ps os w) (b : Below w.heap.size w w1) : MRd w0 A f gr g7 id ba fi ti ev ov s ps os w1 :=
  ⟨h.rdr.below b, heap_below b h.man, owns_below h.row b, owns_below h.obs b, heap_below b h.res, nxt h.bel b, h.o0, h.o1, h.o2⟩
theorem MRd.read (h : MRd w0 A f gr g7 id ba fi ti ev ov s ps os w) (t : Touch gr w w1) (r : Rdr A w1 gr s1) : MRd w0 A f gr g7 id ba fi ti ev ov s1 ps os w1 :=
  ⟨r, t.heap h.man (by have := h.o2; omega), t.owns_from h.row (by have := h.o2; omega), t.owns_from h.obs (by have := h.o2; omega), t.heap h.res (by have := h.o1; omega), t.new h.bel (by have := h.o0; have := h.o1; omega), h.o0, h.o1, h.o2⟩
/-- A pair more. -/
theorem MRd.moreP {w9 : World} {v9 : Value} (h : MRd w0 A f gr g7 id ba fi ti ev ov s ps os w) (x : Epo.Pr) (O : Obj) (hg : (w.alloc O).grownBy w9 ev.ownBlock)
    (ho : w9.ownsRow 0 52 2 v9 (ps.length + 1) (ps.flatMap prV ++ prV x)) (hw : ∀ k, v9.ownBlock = some k → ev.ownBlock = some k ∨ (w.alloc O).heap.size ≤ k) : MRd w0 A f gr g7 id ba fi ti v9 ov s (ps ++ [x]) os (w9.setCell ⟨g7, 4, none⟩ v9) := by
  have h1 := h.below (below_alloc w O)
  have hge : ∀ k, ev.ownBlock = some k → g7 + 1 ≤ k := owns_ge h1.row
  have hty := owns_rowIs3 h1.row
  have a0 := h.o0
  have a1 := h.o1
  have a2 := h.o2
  have hlt := (Array.getElem?_eq_some_iff.1 h1.man).1
  have man9 := (hg.block g7 hlt (fun e => by have := hge _ e.symm; omega)).trans h1.man
  have res9 := (hg.block f (Array.getElem?_eq_some_iff.1 h1.res).1 (fun e => by have := hge _ e.symm; omega)).trans h1.res
  have t := Touch.setCell (g := g7) w9 4 v9
  have hup : ∀ k, v9.ownBlock = some k → g7 + 1 ≤ k := fun k hk => by
    rcases hw k hk with h2 | h2
    · exact hge k h2
    · omega
  have r9 := h1.rdr.gr3 hg hty (by decide) (by decide) (by decide)
  refine ⟨r9.touch t man9 (by decide) (by decide) (by decide), heap_setCell_same w9 g7 4 _ _ _ man9, ?_, t.owns_from (owns_grown hg h1.obs hty (by decide)) (by omega), t.heap res9 (by omega), t.new (h1.bel.grown hg h1.bel.size (fun k hk => by have := hge k hk; omega)) (by omega), a0, a1, a2⟩
  rw [List.length_append, List.length_singleton, List.flatMap_append, List.flatMap_cons, List.flatMap_nil, List.append_nil]
  exact t.owns_from (owns_up3 ho hup) (by omega)
/-- An object more. -/
theorem MRd.moreO {w9 : World} {v9 : Value} (h : MRd w0 A f gr g7 id ba fi ti ev ov s ps os w) (x : ObjD) (O : Obj) (hg : (w.alloc O).grownBy w9 ov.ownBlock)
    (ho : w9.ownsRow 0 44 3 v9 (os.length + 1) (os.flatMap obV ++ obV x)) (hw : ∀ k, v9.ownBlock = some k → ov.ownBlock = some k ∨ (w.alloc O).heap.size ≤ k) : MRd w0 A f gr g7 id ba fi ti ev v9 s ps (os ++ [x]) (w9.setCell ⟨g7, 5, none⟩ v9) := by
  have h1 := h.below (below_alloc w O)
  have hge : ∀ k, ov.ownBlock = some k → g7 + 1 ≤ k := owns_ge h1.obs
  have hty := owns_rowIs3 h1.obs
  have a0 := h.o0
  have a1 := h.o1
  have a2 := h.o2
  have hlt := (Array.getElem?_eq_some_iff.1 h1.man).1
  have man9 := (hg.block g7 hlt (fun e => by have := hge _ e.symm; omega)).trans h1.man
  have res9 := (hg.block f (Array.getElem?_eq_some_iff.1 h1.res).1 (fun e => by have := hge _ e.symm; omega)).trans h1.res
  have t := Touch.setCell (g := g7) w9 5 v9
  have hup : ∀ k, v9.ownBlock = some k → g7 + 1 ≤ k := fun k hk => by
    rcases hw k hk with h2 | h2
    · exact hge k h2
    · omega
  have r9 := h1.rdr.gr3 hg hty (by decide) (by decide) (by decide)
  refine ⟨r9.touch t man9 (by decide) (by decide) (by decide), heap_setCell_same w9 g7 5 _ _ _ man9, t.owns_from (owns_grown hg h1.row hty (by decide)) (by omega), ?_, t.heap res9 (by omega), t.new (h1.bel.grown hg h1.bel.size (fun k hk => by have := hge k hk; omega)) (by omega), a0, a1, a2⟩
  rw [List.length_append, List.length_singleton, List.flatMap_append, List.flatMap_cons, List.flatMap_nil, List.append_nil]
  exact t.owns_from (owns_up3 ho hup) (by omega)
end

theorem setM {W : World} {g : Nat} {a0 a1 a2 a3 a4 a5 : Value} (b0 b1 b2 b3 b4 b5 : Value) (row : W.heap[g]? = some (.cells #[a0, a1, a2, a3, a4, a5] 27 (0, 0))) :
    ((((((W.setCell ⟨g, 0, none⟩ b0).setCell ⟨g, 1, none⟩ b1).setCell ⟨g, 2, none⟩ b2).setCell ⟨g, 3, none⟩ b3).setCell ⟨g, 4, none⟩ b4).setCell ⟨g, 5, none⟩ b5).heap[g]? = some (.cells #[b0, b1, b2, b3, b4, b5] 27 (0, 0)) ∧
    Touch g W ((((((W.setCell ⟨g, 0, none⟩ b0).setCell ⟨g, 1, none⟩ b1).setCell ⟨g, 2, none⟩ b2).setCell ⟨g, 3, none⟩ b3).setCell ⟨g, 4, none⟩ b4).setCell ⟨g, 5, none⟩ b5) :=
  ⟨heap_setCell_same _ g 5 _ _ _ (heap_setCell_same _ g 4 _ _ _ (heap_setCell_same _ g 3 _ _ _ (heap_setCell_same _ g 2 _ _ _ (heap_setCell_same _ g 1 _ _ _ (heap_setCell_same W g 0 _ _ _ row))))),
   (((((Touch.setCell W 0 b0).set 1 b1).set 2 b2).set 3 b3).set 4 b4).set 5 b5⟩

set_option maxRecDepth 100000 in
set_option maxHeartbeats 4000000 in
theorem maniRead_calls (S : List Nat) (A : Nat → Addr) {w : World} (hS : Sents S w A) (hE0 : 0 ∈ S) (hE1 : 1 ∈ S) (hE2 : 2 ∈ S) (hE3 : 3 ∈ S) (hE4 : 4 ∈ S) (hE5 : 5 ∈ S) {v : Value} {bs : List UInt8} (h : Rd w 1 v bs.length (bvs bs)) (hl : bs.length ≤ 1099511627776) :
    Calls Tryz.prog 10 #[v] w (ManReadPost A bs w) := by
  obtain ⟨i0, hi, hz0, hz1, hz2⟩ := info_parts info_pair'
  obtain ⟨j0, hj, hy0, hy1, hy2⟩ := info_parts info_obj'
  obtain ⟨am, cm, rfl⟩ := h.slice
  have b0 := below_alloc w (.cells #[.int .i64 0, .int .i64 0, .int .i64 0, .int .i64 0, .slice none 0 0, .slice none 0 0] 27)
  have row0 := heap_alloc_new w (.cells #[.int .i64 0, .int .i64 0, .int .i64 0, .int .i64 0, .slice none 0 0, .slice none 0 0] 27)
  have hop := open_calls S A hE0 hE1 _ bs _ (hS.below b0) (h.below b0) hl
  have HW0 := Lib.hid (show (w.alloc (.cells #[.int .i64 0, .int .i64 0, .int .i64 0, .int .i64 0, .slice none 0 0, .slice none 0 0] 27)).heap.size = w.heap.size + 1 by simp)
  unfold OpenPost at hop
  go_enter Tryz.func10, Tryz.ntmps10
  go_upto_region 1 with fail
  generalize w.alloc (.cells #[.int .i64 0, .int .i64 0, .int .i64 0, .int .i64 0, .slice none 0 0, .slice none 0 0] 27) = w0 at *
  by_cases hok : ∃ b, openL bs = .ok b
  · obtain ⟨b, hob⟩ := hok
    have HOB := Lib.hid hob
    rw [hob] at hop
    simp only at hop
    have hbl : b.length ≤ bs.length := by
      have := hob
      unfold openL at this
      split at this
      · cases this
      · split at this
        · simp only [OR.ok.injEq] at this; rw [← this, List.length_take]; omega
        · cases this
    clear hob
    go_wp2_with fail
    refine hop.mono ?_
    rintro e w1 ⟨b1, vb, rfl, rb⟩
    have hs1 := b1.size
    have B1 := nxt b0 b1
    have row1 := heap_below b1 row0
    have hnr := newReader_calls A vb b w1 rb (by omega)
    clear hop row0 b0 b1
    obtain ⟨x1, hx1⟩ : ∃ x, x = (num 4611686018427387904 (rs0 b)).1 := ⟨_, rfl⟩
    obtain ⟨s1, hs1'⟩ : ∃ x, x = (num 4611686018427387904 (rs0 b)).2 := ⟨_, rfl⟩
    obtain ⟨x2, hx2⟩ : ∃ x, x = (num 4611686018427387904 s1).1 := ⟨_, rfl⟩
    obtain ⟨s2, hs2⟩ : ∃ x, x = (num 4611686018427387904 s1).2 := ⟨_, rfl⟩
    obtain ⟨x3, hx3⟩ : ∃ x, x = (num 4611686018427387904 s2).1 := ⟨_, rfl⟩
    obtain ⟨s3, hs3⟩ : ∃ x, x = (num 4611686018427387904 s2).2 := ⟨_, rfl⟩
    obtain ⟨t4, ht4⟩ : ∃ x, x = (int (-4611686018427387904) 4611686018427387904 s3).1 := ⟨_, rfl⟩
    obtain ⟨s4, hs4⟩ : ∃ x, x = (int (-4611686018427387904) 4611686018427387904 s3).2 := ⟨_, rfl⟩
    obtain ⟨n0, hn0⟩ : ∃ x, x = (num 256 s4).1 := ⟨_, rfl⟩
    obtain ⟨s5, hs5⟩ : ∃ x, x = (num 256 s4).2 := ⟨_, rfl⟩
    obtain ⟨Q, hQ⟩ : ∃ Q, Q = readPs n0 s5 [] := ⟨_, rfl⟩
    obtain ⟨k0, hk0⟩ : ∃ x, x = (num 8 Q.2).1 := ⟨_, rfl⟩
    obtain ⟨s6, hs6⟩ : ∃ x, x = (num 8 Q.2).2 := ⟨_, rfl⟩
    obtain ⟨R, hR⟩ : ∃ R, R = readOs k0 s6 [] := ⟨_, rfl⟩
    have HP : Hid (readM b = if R.2.bad = .fine ∧ R.2.left.length = 0 then some ⟨(x1 : Int), (x2 : Int), (x3 : Int), t4, Q.1, R.1⟩ else none) := Lib.hid (by
      unfold readM
      rw [hR, hk0, hs6, hQ, hn0, hs5, ht4, hs4, hx3, hs3, hx2, hs2, hx1, hs1'])
    have v1 : x1 ≤ 4611686018427387904 := by rw [hx1]; exact (num_val _).1
    have v2 : x2 ≤ 4611686018427387904 := by rw [hx2]; exact (num_val _).1
    have v3 : x3 ≤ 4611686018427387904 := by rw [hx3]; exact (num_val _).1
    have v4 : -4611686018427387904 ≤ t4 ∧ t4 ≤ 4611686018427387904 := by rw [ht4]; exact int_val2 _ _ (by omega) (by omega)
    have v5 : n0 ≤ 256 := by rw [hn0]; exact (num_val _).1
    have v6 : k0 ≤ 8 := by rw [hk0]; exact (num_val _).1
    have c1 := fun W (hW : Sents S W A) g (haw : Away S A g) (k : Rdr A W g (rs0 b)) => num_calls' hW hE0 hE2 hE4 haw k 4611686018427387904
    have c2 := fun W (hW : Sents S W A) g (haw : Away S A g) (k : Rdr A W g s1) => num_calls' hW hE0 hE2 hE4 haw k 4611686018427387904
    have c3 := fun W (hW : Sents S W A) g (haw : Away S A g) (k : Rdr A W g s2) => num_calls' hW hE0 hE2 hE4 haw k 4611686018427387904
    have c4 := fun W (hW : Sents S W A) g (haw : Away S A g) (k : Rdr A W g s3) => int_calls' hW hE0 hE2 hE4 haw k (-4611686018427387904) 4611686018427387904
    have c5 := fun W (hW : Sents S W A) g (haw : Away S A g) (k : Rdr A W g s4) => num_calls' hW hE0 hE2 hE4 haw k 256
    have c6 := fun W (hW : Sents S W A) g (haw : Away S A g) (k : Rdr A W g Q.2) => num_calls' hW hE0 hE2 hE4 haw k 8
    rw [← hx1, ← hs1'] at c1
    rw [← hx2, ← hs2] at c2
    rw [← hx3, ← hs3] at c3
    rw [← ht4, ← hs4] at c4
    rw [← hn0, ← hs5] at c5
    rw [← hk0, ← hs6] at c6
    have HQ := Lib.hid hQ
    have HR := Lib.hid hR
    have u1 : IntKind.i64.wrap (x1 : Int) = (x1 : Int) := by rw [IntKind.wrap_i64]; omega
    have u2 : IntKind.i64.wrap (x2 : Int) = (x2 : Int) := by rw [IntKind.wrap_i64]; omega
    have u3 : IntKind.i64.wrap (x3 : Int) = (x3 : Int) := by rw [IntKind.wrap_i64]; omega
    clear hx1 hs1' hx2 hs2 hx3 hs3 ht4 hs4 hn0 hs5 hk0 hs6 hQ hR
    go_wp2_with fail
    refine hnr.mono ?_
    rintro e w2 ⟨gr, rfl, hgr, r2, b2⟩
    have hfr : w.heap.size < gr := by have := HW0.out; omega
    have B2 := nxt B1 b2
    have row2 := heap_below b2 row1
    have haw : Away S A gr := Away.of_new hS (by omega)
    have c1' := c1 w2 (hS.below B2) gr haw r2
    clear hnr c1 b2 row1 HW0 h hgr hs1
    go_wp2_with fail
    refine c1'.mono ?_
    rintro e w3 ⟨rfl, r3, t3⟩
    have B3 := t3.new B2 (by omega)
    have row3 := t3.heap row2 (by omega)
    have c2' := c2 w3 (hS.below B3) gr haw r3
    clear c1' c2 row2 r2 t3 B2
    go_wp2_with fail
    refine c2'.mono ?_
    rintro e w4 ⟨rfl, r4, t4'⟩
    have B4 := t4'.new B3 (by omega)
    have row4 := t4'.heap row3 (by omega)
    have c3' := c3 w4 (hS.below B4) gr haw r4
    clear c2' c3 row3 r3 t4' B3
    go_wp2_with fail
    refine c3'.mono ?_
    rintro e w5 ⟨rfl, r5, t5⟩
    have B5 := t5.new B4 (by omega)
    have row5 := t5.heap row4 (by omega)
    have c4' := c4 w5 (hS.below B5) gr haw r5
    clear c3' c4 row4 r4 t5 B4
    go_wp2_with fail
    refine c4'.mono ?_
    rintro e w6 ⟨rfl, r6, t6⟩
    have B6 := t6.new B5 (by omega)
    have row6 := t6.heap row5 (by omega)
    clear c4' row5 r5 t6 B5 B1
    have b6 := below_alloc w6 (.cells #[.int .i64 (x1 : Int), .int .i64 (x2 : Int), .int .i64 (x3 : Int), .int .i64 t4, .slice none 0 0, .slice none 0 0] 27)
    have hgr6 : gr < w6.heap.size := by obtain ⟨_, vb, ve, h1, _⟩ := r6; exact (Array.getElem?_eq_some_iff.1 h1).1
    have I7 : MRd w A w.heap.size gr w6.heap.size (x1 : Int) (x2 : Int) (x3 : Int) t4 (.slice none 0 0) (.slice none 0 0) s4 [] [] (w6.alloc (.cells #[.int .i64 (x1 : Int), .int .i64 (x2 : Int), .int .i64 (x3 : Int), .int .i64 t4, .slice none 0 0, .slice none 0 0] 27)) :=
      ⟨r6.below b6, heap_alloc_new w6 _, World.ownsRow_nil _ _ _ _, World.ownsRow_nil _ _ _ _, heap_below b6 row6, nxt B6 b6, Nat.le_refl _, hfr, hgr6⟩
    clear r6 row6 B6 b6 hgr6 hfr
    go_upto_region 6 with fail
    generalize w6.alloc (.cells #[.int .i64 (x1 : Int), .int .i64 (x2 : Int), .int .i64 (x3 : Int), .int .i64 t4, .slice none 0 0, .slice none 0 0] 27) = w7 at *
    generalize w6.heap.size = g7 at *
    have c5' := c5 w7 (hS.below I7.bel) gr haw I7.rdr
    clear c5
    go_wp2_with fail
    refine c5'.mono ?_
    rintro e w8 ⟨rfl, r8, t8⟩
    have I8 := I7.read t8 r8
    clear c5' I7 r8 t8
    clear u1 u2 u3
    go_wp2_with fail
    go_loopw [8] (fun nv wr => ∃ (n : Nat) (s : Rs) (ps : List Epo.Pr) (ev : Value), nv = .int .u64 n ∧ ps.length + n ≤ 256 ∧ Hid (readPs n s ps = Q) ∧ MRd w A w.heap.size gr g7 x1 x2 x3 t4 ev (.slice none 0 0) s ps [] wr) (fun nv _ => (intOf nv).toNat)
    case atStart => exact ⟨n0, s5, [], _, rfl, by simpa using v5, Lib.hid HQ.out.symm, I8⟩
    case round =>
      obtain ⟨n, s, ps, ev, rfl, hln, HN, I⟩ := hrel
      obtain ⟨al, cl, rfl⟩ := owns_slice I.row
      have herr := readerErr_calls I.rdr
      by_cases hgo : 0 < n ∧ s.bad = .fine
      · obtain ⟨hpos, hfine⟩ := hgo
        obtain ⟨m, rfl⟩ : ∃ m, n = m + 1 := ⟨n - 1, by omega⟩
        have HR2 := HN.out
        rw [readPs_go ps hfine] at HR2
        rw [hfine] at herr
        have hro : readP s = readP s := rfl
        conv at hro => rhs; unfold readP
        have d1 := fun W (hW : Sents S W A) (k : Rdr A W gr s) => num_calls' hW hE0 hE2 hE4 haw k 4611686018427387904
        have y1 := (num_val (s := s) 4611686018427387904).1
        obtain ⟨x, hx⟩ : ∃ x, x = (num 4611686018427387904 s).1 := ⟨_, rfl⟩
        obtain ⟨sa, hsa⟩ : ∃ x, x = (num 4611686018427387904 s).2 := ⟨_, rfl⟩
        rw [← hx, ← hsa] at d1 hro
        rw [← hx] at y1
        have d2 := fun W (hW : Sents S W A) (k : Rdr A W gr sa) => num_calls' hW hE0 hE2 hE4 haw k 4611686018427387904
        have y2 := (num_val (s := sa) 4611686018427387904).1
        obtain ⟨y, hy⟩ : ∃ x, x = (num 4611686018427387904 sa).1 := ⟨_, rfl⟩
        obtain ⟨sb, hsb⟩ : ∃ x, x = (num 4611686018427387904 sa).2 := ⟨_, rfl⟩
        rw [← hy, ← hsb] at d2 hro
        rw [← hy] at y2
        rw [hro] at HR2
        simp only at HR2
        have HRR := Lib.hid HR2
        simp only [show ((4611686018427387904 : Nat) : Int) = 4611686018427387904 from rfl] at d1 d2
        have z1 : IntKind.i64.wrap (x : Int) = (x : Int) := by rw [IntKind.wrap_i64]; omega
        have z2 : IntKind.i64.wrap (y : Int) = (y : Int) := by rw [IntKind.wrap_i64]; omega
        clear HR2 HN hro hx hsa hy hsb hfine
        go_wp2_with fail
        refine herr.mono ?_
        rintro e w7' ⟨v7, rfl, hv7, rfl⟩
        have hv8 : v7 = .nilIface := hv7
        subst hv8
        clear hv7 herr
        have d0 : w7'.cell? ⟨g7, 4, none⟩ = some (.slice al ps.length cl) := cell_of_row _ _ 4 _ _ _ I.man
        have J0 := I.below (Below.refl _ _).drew
        have d1' := d1 w7'.drew (hS.below J0.bel) J0.rdr
        clear d1
        go_upto_region 9 with fail
        go_region_law (first
          | (refine step_append_where rfl (.tmp 46) (.tmp 54) 22 rfl 52 i0 _ 2 16 Tryz.underlying22 hi hz0 hz1 hz2 rfl (by decide) _ ps.length (ps.flatMap prV) rfl (ob.alloc _) ⟨wb.heap.size, 0, none⟩ 1 1 [.int .i64 (x : Int), .int .i64 (y : Int)] rfl (by rfl) (cells_new wb #[.int .i64 (x : Int), .int .i64 (y : Int)] 52) (by simp [Value.oneCell']) (by unfold maxLen; omega) (by omega) ?_; intro v9 w9 o9 g9 wh9; (obtain ⟨a9, c9, rfl⟩ := owns_slice o9); have hbA := heap_below (below_alloc wb (.cells #[.int .i64 (x : Int), .int .i64 (y : Int)] 52)) Jb.man; have man9 : w9.heap[g7]? = some (.cells #[.int .i64 (x1 : Int), .int .i64 (x2 : Int), .int .i64 (x3 : Int), .int .i64 t4, .slice al ps.length cl, .slice none 0 0] 27 (0, 0)) := (g9.block g7 (Array.getElem?_eq_some_iff.1 hbA).1 (fun e => owns_ne3 (owns_below ob (below_alloc wb (.cells #[.int .i64 (x : Int), .int .i64 (y : Int)] 52))) hbA (by decide) e.symm)).trans hbA; have e9 : w9.cell? ⟨g7, 4, none⟩ = some (.slice al ps.length cl) := cell_of_row _ _ 4 _ _ _ man9; have z9 : w9.frozen? ⟨g7, 4, none⟩ = false := frozen_of_row _ g7 4 _ _ man9)
          | (go_simp; go_at_call 33; first
              | ((with_reducible refine d1'.mono ?_); (rintro e wa ⟨rfl, ra, ta⟩); have Ja := J0.read ta ra; have d2' := d2 wa (hS.below Ja.bel) Ja.rdr; have da : wa.cell? ⟨g7, 4, none⟩ = some (.slice al ps.length cl) := cell_of_row _ _ 4 _ _ _ Ja.man)
              | ((with_reducible refine d2'.mono ?_); (rintro e wb ⟨rfl, rb, tb⟩); have Jb := Ja.read tb rb; have db : wb.cell? ⟨g7, 4, none⟩ = some (.slice al ps.length cl) := cell_of_row _ _ 4 _ _ _ Jb.man; have ob := owns_zero Jb.row; have dc : (wb.alloc (.cells #[.int .i64 (x : Int), .int .i64 (y : Int)] 52)).cell? ⟨g7, 4, none⟩ = some (.slice al ps.length cl) := cell_of_row _ _ 4 _ _ _ (heap_below (below_alloc wb _) Jb.man))))
        all_goals
          have JJ := Jb.moreP ⟨(x : Int), (y : Int)⟩ _ g9 o9 wh9
          clear g9 o9 wh9 ob
          go_wp2_with fail
          exact ⟨⟨m, sb, ps ++ [⟨(x : Int), (y : Int)⟩], _, by go_num, by rw [List.length_append, List.length_singleton]; omega, HRR, JJ⟩, by simp [intOf]⟩
      · have hq : Q = (ps, s) := by
          rw [← HN.out]
          by_cases h0 : 0 < n
          · exact readPs_bad _ _ _ (fun e => hgo ⟨h0, e⟩)
          · obtain rfl : n = 0 := by omega
            rfl
        have hP := HP.out
        have hr' := HR.out
        rw [hq] at c6 hP
        simp only at c6 hP
        have HPP := Lib.hid hP
        have HGO := Lib.hid hgo
        have HRR := Lib.hid hr'
        have hpl : ps.length ≤ 256 := by omega
        clear hq hP hgo HN HQ HR HP hr' hln
        go_upto_region 7 with fail
        go_cut [42] (fun b wx => b = .bool false ∧ wx = wr)
        case first =>
          by_cases h0 : 0 < n
          · have hne : s.bad ≠ .fine := fun e => HGO.out ⟨h0, e⟩
            go_wp2_with fail
            refine herr.mono ?_
            rintro e w7 ⟨v7, rfl, hv7, rfl⟩
            obtain ⟨T7, u7, rfl⟩ := hv7.not_nil hne
            go_wp2_with fail
            go_meet
            exact ⟨rfl, rfl⟩
          · go_wp2_with fail
            go_meet
            exact ⟨rfl, rfl⟩
        obtain ⟨rfl, hwc⟩ := hcut
        rw [hwc]
        clear hwc herr HGO
        have c6' := c6 wr (hS.below I.bel) gr haw I.rdr
        clear c6
        go_wp2_with fail
        refine c6'.mono ?_
        rintro e wk ⟨rfl, rk, tk⟩
        have K8 := I.read tk rk
        clear c6' I rk tk
        go_wp2_with fail
        go_loopw [9] (fun nv wr => ∃ (n : Nat) (s : Rs) (os : List ObjD) (ov : Value), nv = .int .u64 n ∧ os.length + n ≤ 8 ∧ Hid (readOs n s os = R) ∧ MRd w A w.heap.size gr g7 x1 x2 x3 t4 (.slice al ps.length cl) ov s ps os wr) (fun nv _ => (intOf nv).toNat)
        case atStart => exact ⟨k0, s6, [], _, rfl, by simpa using v6, Lib.hid HRR.out.symm, K8⟩
        case round =>
          obtain ⟨n, s, os, ov, rfl, hln, HN, I⟩ := hrel
          obtain ⟨ol, dl, rfl⟩ := owns_slice I.obs
          have herr := readerErr_calls I.rdr
          by_cases hgo : 0 < n ∧ s.bad = .fine
          · obtain ⟨hpos, hfine⟩ := hgo
            obtain ⟨m, rfl⟩ : ∃ m, n = m + 1 := ⟨n - 1, by omega⟩
            have HR2 := HN.out
            rw [readOs_go os hfine] at HR2
            rw [hfine] at herr
            have hro : readO s = readO s := rfl
            conv at hro => rhs; unfold readO
            have d1 := fun W (hW : Sents S W A) (k : Rdr A W gr s) => bytes_calls' hW hE0 hE2 hE4 haw k 64 (by omega)
            unfold BytesPost at d1
            obtain ⟨nm, hnm⟩ : ∃ x, x = (Vint.bytes 64 s).1 := ⟨_, rfl⟩
            obtain ⟨sa, hsa⟩ : ∃ x, x = (Vint.bytes 64 s).2 := ⟨_, rfl⟩
            rw [← hnm, ← hsa] at d1 hro
            have d2 := fun W (hW : Sents S W A) (k : Rdr A W gr sa) => num_calls' hW hE0 hE2 hE4 haw k 4611686018427387904
            have y2 := (num_val (s := sa) 4611686018427387904).1
            obtain ⟨y, hy⟩ : ∃ x, x = (num 4611686018427387904 sa).1 := ⟨_, rfl⟩
            obtain ⟨sb, hsb⟩ : ∃ x, x = (num 4611686018427387904 sa).2 := ⟨_, rfl⟩
            rw [← hy, ← hsb] at d2 hro
            rw [← hy] at y2
            have d3 := fun W (hW : Sents S W A) (k : Rdr A W gr sb) => num_calls' hW hE0 hE2 hE4 haw k 4294967295
            have y3 := (num_val (s := sb) 4294967295).1
            obtain ⟨z, hz⟩ : ∃ x, x = (num 4294967295 sb).1 := ⟨_, rfl⟩
            obtain ⟨sc, hsc⟩ : ∃ x, x = (num 4294967295 sb).2 := ⟨_, rfl⟩
            rw [← hz, ← hsc] at d3 hro
            rw [← hz] at y3
            rw [hro] at HR2
            simp only at HR2
            have HRR2 := Lib.hid HR2
            simp only [show ((4611686018427387904 : Nat) : Int) = 4611686018427387904 from rfl] at d2
            simp only [show ((4294967295 : Nat) : Int) = 4294967295 from rfl] at d3
            have e2 : IntKind.i64.wrap (y : Int) = (y : Int) := by rw [IntKind.wrap_i64]; omega
            have e3 : IntKind.u32.wrap (z : Int) = (z : Int) := by rw [IntKind.wrap_u32]; omega
            clear HR2 HN hro hnm hsa hy hsb hz hsc hfine
            go_wp2_with fail
            refine herr.mono ?_
            rintro e w7' ⟨v7, rfl, hv7, rfl⟩
            have hv8 : v7 = .nilIface := hv7
            subst hv8
            clear hv7 herr
            have d0 : w7'.cell? ⟨g7, 5, none⟩ = some (.slice ol os.length dl) := cell_of_row _ _ 5 _ _ _ I.man
            have J0 := I.below (Below.refl _ _).drew
            have d1' := d1 w7'.drew (hS.below J0.bel) J0.rdr
            clear d1
            go_upto_region 13 with fail
            go_region_law (first
              | (refine step_append_where rfl (.tmp 69) (.tmp 80) 25 rfl 44 j0 _ 3 32 Tryz.underlying25 hj hy0 hy1 hy2 rfl (by decide) _ os.length (os.flatMap obV) rfl (ob.alloc _) ⟨wc.heap.size, 0, none⟩ 1 1 [.string ⟨⟨nm⟩⟩, .int .i64 (y : Int), .int .u32 (z : Int)] rfl (by rfl) (cells_new wc #[.string ⟨⟨nm⟩⟩, .int .i64 (y : Int), .int .u32 (z : Int)] 44) (by simp [Value.oneCell']) (by unfold maxLen; omega) (by omega) ?_; intro v9 w9 o9 g9 wh9; (obtain ⟨a9, c9, rfl⟩ := owns_slice o9); have hbA := heap_below (below_alloc wc (.cells #[.string ⟨⟨nm⟩⟩, .int .i64 (y : Int), .int .u32 (z : Int)] 44)) Jc.man; have man9 : w9.heap[g7]? = some (.cells #[.int .i64 (x1 : Int), .int .i64 (x2 : Int), .int .i64 (x3 : Int), .int .i64 t4, .slice al ps.length cl, .slice ol os.length dl] 27 (0, 0)) := (g9.block g7 (Array.getElem?_eq_some_iff.1 hbA).1 (fun e => owns_ne3 (owns_below ob (below_alloc wc (.cells #[.string ⟨⟨nm⟩⟩, .int .i64 (y : Int), .int .u32 (z : Int)] 44))) hbA (by decide) e.symm)).trans hbA; have e9 : w9.cell? ⟨g7, 5, none⟩ = some (.slice ol os.length dl) := cell_of_row _ _ 5 _ _ _ man9; have z9 : w9.frozen? ⟨g7, 5, none⟩ = false := frozen_of_row _ g7 5 _ _ man9)
              | (go_simp; go_at_call 36; ((with_reducible refine d1'.mono ?_); (rintro e wa ⟨va, rfl, oa, ra, ta⟩); have Ja := J0.read ta ra; (obtain ⟨an, cn, rfl⟩ := owns_slice oa); have oa' := owns_base (base' := g7 + 1) oa (by have := (Array.getElem?_eq_some_iff.1 J0.man).1; exact this); have d2' := d2 wa (hS.below Ja.bel) Ja.rdr; have da : wa.cell? ⟨g7, 5, none⟩ = some (.slice ol os.length dl) := cell_of_row _ _ 5 _ _ _ Ja.man; have ka : (convert 23 9 (.slice an nm.length cn)).run Tryz.prog wa = .ok (.string ⟨⟨nm⟩⟩) wa := txt_rd _ nm wa (Rd.of_owns oa)))
              | (go_simp; go_at_call 33; first
                  | ((with_reducible refine d2'.mono ?_); (rintro e wb ⟨rfl, rb, tb⟩); have Jb := Ja.read tb rb; have ob' := tb.owns_from oa' (by have := J0.o2; omega); have d3' := d3 wb (hS.below Jb.bel) Jb.rdr; have db : wb.cell? ⟨g7, 5, none⟩ = some (.slice ol os.length dl) := cell_of_row _ _ 5 _ _ _ Jb.man; have kb : (convert 23 9 (.slice an nm.length cn)).run Tryz.prog wb = .ok (.string ⟨⟨nm⟩⟩) wb := txt_rd _ nm wb (Rd.of_owns ob'))
                  | ((with_reducible refine d3'.mono ?_); (rintro e wc ⟨rfl, rc, tc⟩); have Jc := Jb.read tc rc; have oc' := tc.owns_from ob' (by have := J0.o2; omega); have dc : wc.cell? ⟨g7, 5, none⟩ = some (.slice ol os.length dl) := cell_of_row _ _ 5 _ _ _ Jc.man; have kc : (convert 23 9 (.slice an nm.length cn)).run Tryz.prog wc = .ok (.string ⟨⟨nm⟩⟩) wc := txt_rd _ nm wc (Rd.of_owns oc'); have ob := owns_zero Jc.obs; have dd : (wc.alloc (.cells #[.string ⟨⟨nm⟩⟩, .int .i64 (y : Int), .int .u32 (z : Int)] 44)).cell? ⟨g7, 5, none⟩ = some (.slice ol os.length dl) := cell_of_row _ _ 5 _ _ _ (heap_below (below_alloc wc _) Jc.man))))
            all_goals
              have JJ := Jc.moreO ⟨⟨⟨nm⟩⟩, (y : Int), z⟩ _ g9 o9 wh9
              clear g9 o9 wh9 ob ka kb kc oa oa' ob' oc'
              go_wp2_with fail
              exact ⟨⟨m, sc, os ++ [⟨⟨⟨nm⟩⟩, (y : Int), z⟩], _, by go_num, by rw [List.length_append, List.length_singleton]; omega, HRR2, JJ⟩, by simp [intOf]⟩
          · have hq : R = (os, s) := by
              rw [← HN.out]
              by_cases h0 : 0 < n
              · exact readOs_bad _ _ _ (fun e => hgo ⟨h0, e⟩)
              · obtain rfl : n = 0 := by omega
                rfl
            have hP := HPP.out
            rw [hq] at hP
            simp only at hP
            have HPQ := Lib.hid hP
            have HGO := Lib.hid hgo
            have hol : os.length ≤ 8 := by omega
            clear hq hP hgo HN HPP HRR hln
            go_upto_region 11 with fail
            go_cut [65] (fun b wx => b = .bool false ∧ wx = wr)
            case first =>
              by_cases h0 : 0 < n
              · have hne : s.bad ≠ .fine := fun e => HGO.out ⟨h0, e⟩
                go_wp2_with fail
                refine herr.mono ?_
                rintro e w7 ⟨v7, rfl, hv7, rfl⟩
                obtain ⟨T7, u7, rfl⟩ := hv7.not_nil hne
                go_wp2_with fail
                go_meet
                exact ⟨rfl, rfl⟩
              · go_wp2_with fail
                go_meet
                exact ⟨rfl, rfl⟩
            obtain ⟨rfl, hwc⟩ := hcut
            rw [hwc]
            clear hwc HGO
            go_wp2_with fail
            refine herr.mono ?_
            rintro e w7 ⟨v7, rfl, hv7, rfl⟩
            by_cases hfb : s.bad = .fine
            · rw [hfb] at hv7
              have hv8 : v7 = .nilIface := hv7
              subst hv8
              have hlc := left_calls I.rdr
              clear hv7 herr
              by_cases hlf : 0 < s.left.length
              · have HNO := Lib.hid (show readM b = none by rw [HPQ.out, if_neg (fun h => by omega)])
                go_wp2_with fail
                refine hlc.mono ?_
                rintro e wl ⟨rfl, ql, rfl⟩
                have Il := I.below (below_drewN (Below.refl _ _) ql)
                clear hlc I
                generalize hwl : w7.drewN ql = wl at *
                have Id := Il
                have k2 : wl.cell? ⟨0, 0, none⟩ = some (.iface 149 (.pointer (some (A 2)))) := (hS.below Id.bel).cell 2 hE2
                have f0 : wl.cell? ⟨w.heap.size, 0, none⟩ = some (.int .i64 0) := cell_of_row _ _ 0 _ _ _ Id.res
                have f1 : wl.cell? ⟨w.heap.size, 1, none⟩ = some (.int .i64 0) := cell_of_row _ _ 1 _ _ _ Id.res
                have f2 : wl.cell? ⟨w.heap.size, 2, none⟩ = some (.int .i64 0) := cell_of_row _ _ 2 _ _ _ Id.res
                have f3 : wl.cell? ⟨w.heap.size, 3, none⟩ = some (.int .i64 0) := cell_of_row _ _ 3 _ _ _ Id.res
                have f4 : wl.cell? ⟨w.heap.size, 4, none⟩ = some (.slice none 0 0) := cell_of_row _ _ 4 _ _ _ Id.res
                have f5 : wl.cell? ⟨w.heap.size, 5, none⟩ = some (.slice none 0 0) := cell_of_row _ _ 5 _ _ _ Id.res
                have z0 : wl.frozen? ⟨w.heap.size, 0, none⟩ = false := frozen_of_row _ w.heap.size 0 _ _ Id.res
                have z1 : wl.frozen? ⟨w.heap.size, 1, none⟩ = false := frozen_of_row _ w.heap.size 1 _ _ Id.res
                have z2 : wl.frozen? ⟨w.heap.size, 2, none⟩ = false := frozen_of_row _ w.heap.size 2 _ _ Id.res
                have z3 : wl.frozen? ⟨w.heap.size, 3, none⟩ = false := frozen_of_row _ w.heap.size 3 _ _ Id.res
                have z4 : wl.frozen? ⟨w.heap.size, 4, none⟩ = false := frozen_of_row _ w.heap.size 4 _ _ Id.res
                have z5 : wl.frozen? ⟨w.heap.size, 5, none⟩ = false := frozen_of_row _ w.heap.size 5 _ _ Id.res
                have bb := below_alloc wl (.cells #[.int .i64 (s.pos : Int), .iface 149 (.pointer (some (A 2)))] 75)
                have Ib := Id.below bb
                have rowb := heap_alloc_new wl (.cells #[.int .i64 (s.pos : Int), .iface 149 (.pointer (some (A 2)))] 75)
                have f0b : (wl.alloc (.cells #[.int .i64 (s.pos : Int), .iface 149 (.pointer (some (A 2)))] 75)).cell? ⟨w.heap.size, 0, none⟩ = some (.int .i64 0) := cell_of_row _ _ 0 _ _ _ Ib.res
                have f1b : (wl.alloc (.cells #[.int .i64 (s.pos : Int), .iface 149 (.pointer (some (A 2)))] 75)).cell? ⟨w.heap.size, 1, none⟩ = some (.int .i64 0) := cell_of_row _ _ 1 _ _ _ Ib.res
                have f2b : (wl.alloc (.cells #[.int .i64 (s.pos : Int), .iface 149 (.pointer (some (A 2)))] 75)).cell? ⟨w.heap.size, 2, none⟩ = some (.int .i64 0) := cell_of_row _ _ 2 _ _ _ Ib.res
                have f3b : (wl.alloc (.cells #[.int .i64 (s.pos : Int), .iface 149 (.pointer (some (A 2)))] 75)).cell? ⟨w.heap.size, 3, none⟩ = some (.int .i64 0) := cell_of_row _ _ 3 _ _ _ Ib.res
                have f4b : (wl.alloc (.cells #[.int .i64 (s.pos : Int), .iface 149 (.pointer (some (A 2)))] 75)).cell? ⟨w.heap.size, 4, none⟩ = some (.slice none 0 0) := cell_of_row _ _ 4 _ _ _ Ib.res
                have f5b : (wl.alloc (.cells #[.int .i64 (s.pos : Int), .iface 149 (.pointer (some (A 2)))] 75)).cell? ⟨w.heap.size, 5, none⟩ = some (.slice none 0 0) := cell_of_row _ _ 5 _ _ _ Ib.res
                have z0b : (wl.alloc (.cells #[.int .i64 (s.pos : Int), .iface 149 (.pointer (some (A 2)))] 75)).frozen? ⟨w.heap.size, 0, none⟩ = false := frozen_of_row _ w.heap.size 0 _ _ Ib.res
                have z1b : (wl.alloc (.cells #[.int .i64 (s.pos : Int), .iface 149 (.pointer (some (A 2)))] 75)).frozen? ⟨w.heap.size, 1, none⟩ = false := frozen_of_row _ w.heap.size 1 _ _ Ib.res
                have z2b : (wl.alloc (.cells #[.int .i64 (s.pos : Int), .iface 149 (.pointer (some (A 2)))] 75)).frozen? ⟨w.heap.size, 2, none⟩ = false := frozen_of_row _ w.heap.size 2 _ _ Ib.res
                have z3b : (wl.alloc (.cells #[.int .i64 (s.pos : Int), .iface 149 (.pointer (some (A 2)))] 75)).frozen? ⟨w.heap.size, 3, none⟩ = false := frozen_of_row _ w.heap.size 3 _ _ Ib.res
                have z4b : (wl.alloc (.cells #[.int .i64 (s.pos : Int), .iface 149 (.pointer (some (A 2)))] 75)).frozen? ⟨w.heap.size, 4, none⟩ = false := frozen_of_row _ w.heap.size 4 _ _ Ib.res
                have z5b : (wl.alloc (.cells #[.int .i64 (s.pos : Int), .iface 149 (.pointer (some (A 2)))] 75)).frozen? ⟨w.heap.size, 5, none⟩ = false := frozen_of_row _ w.heap.size 5 _ _ Ib.res
                obtain ⟨rowz, TT⟩ := setM (.int .i64 0) (.int .i64 0) (.int .i64 0) (.int .i64 0) (.slice none 0 0) (.slice none 0 0) Id.res
                obtain ⟨rowzb, TTb⟩ := setM (.int .i64 0) (.int .i64 0) (.int .i64 0) (.int .i64 0) (.slice none 0 0) (.slice none 0 0) Ib.res
                have rS := Id.rdr.touch TT Id.res (by decide) (by decide) (by decide)
                have belz := TT.new Id.bel (Nat.le_refl _)
                have belzb := TTb.new Ib.bel (Nat.le_refl _)
                have k2S := (hS.below belz).cell 2 hE2
                have k1 : (wl.setCell ⟨w.heap.size, 0, none⟩ (.int .i64 0)).cell? ⟨0, 0, none⟩ = some (.iface 149 (.pointer (some (A 2)))) := (hS.below ((Touch.setCell (g := w.heap.size) wl 0 (.int .i64 0)).new Id.bel (Nat.le_refl _))).cell 2 hE2
                have hat := readerAt_calls (Id.rdr.below (Below.refl _ _).drew)
                have hatS := readerAt_calls (rS.below (Below.refl _ _).drew)
                go_wp2_with fail
                go_region_law (go_simp; go_at_call 38; first
                  | ((with_reducible refine hat.mono ?_); (rintro e w6 ⟨rfl, rfl⟩))
                  | ((with_reducible refine hatS.mono ?_); (rintro e w6 ⟨rfl, rfl⟩)))
                all_goals
                  first
                  | ((obtain ⟨wz, hwz⟩ : ∃ wz, wz = (((((((wl.alloc (.cells #[.int .i64 (s.pos : Int), .iface 149 (.pointer (some (A 2)))] 75)).setCell ⟨w.heap.size, 0, none⟩ (.int .i64 0)).setCell ⟨w.heap.size, 1, none⟩ (.int .i64 0)).setCell ⟨w.heap.size, 2, none⟩ (.int .i64 0)).setCell ⟨w.heap.size, 3, none⟩ (.int .i64 0)).setCell ⟨w.heap.size, 4, none⟩ (.slice none 0 0)).setCell ⟨w.heap.size, 5, none⟩ (.slice none 0 0)) := ⟨_, rfl⟩); rw [← hwz] at rowzb belzb ⊢; have rz := rowzb; have bz := belzb; clear hwz)
                  | ((obtain ⟨wz, hwz⟩ : ∃ wz, wz = ((((((wl.setCell ⟨w.heap.size, 0, none⟩ (.int .i64 0)).setCell ⟨w.heap.size, 1, none⟩ (.int .i64 0)).setCell ⟨w.heap.size, 2, none⟩ (.int .i64 0)).setCell ⟨w.heap.size, 3, none⟩ (.int .i64 0)).setCell ⟨w.heap.size, 4, none⟩ (.slice none 0 0)).setCell ⟨w.heap.size, 5, none⟩ (.slice none 0 0)).alloc (.cells #[.int .i64 (s.pos : Int), .iface 149 (.pointer (some (A 2)))] 75) := ⟨_, rfl⟩); have rz := heap_below (below_alloc ((((((wl.setCell ⟨w.heap.size, 0, none⟩ (.int .i64 0)).setCell ⟨w.heap.size, 1, none⟩ (.int .i64 0)).setCell ⟨w.heap.size, 2, none⟩ (.int .i64 0)).setCell ⟨w.heap.size, 3, none⟩ (.int .i64 0)).setCell ⟨w.heap.size, 4, none⟩ (.slice none 0 0)).setCell ⟨w.heap.size, 5, none⟩ (.slice none 0 0)) (.cells #[.int .i64 (s.pos : Int), .iface 149 (.pointer (some (A 2)))] 75)) rowz; have bz := nxt belz (below_alloc ((((((wl.setCell ⟨w.heap.size, 0, none⟩ (.int .i64 0)).setCell ⟨w.heap.size, 1, none⟩ (.int .i64 0)).setCell ⟨w.heap.size, 2, none⟩ (.int .i64 0)).setCell ⟨w.heap.size, 3, none⟩ (.int .i64 0)).setCell ⟨w.heap.size, 4, none⟩ (.slice none 0 0)).setCell ⟨w.heap.size, 5, none⟩ (.slice none 0 0)) (.cells #[.int .i64 (s.pos : Int), .iface 149 (.pointer (some (A 2)))] 75)); rw [← hwz] at rz bz ⊢; clear hwz)
                  clear f0 f1 f2 f3 f4 f5 z0 z1 z2 z3 z4 z5 f0b f1b f2b f3b f4b f5b z0b z1b z2b z3b z4b z5b rowz rowzb TT TTb rS belz belzb k2S k1 k2 hat hatS
                  have q0 : wz.cell? ⟨w.heap.size, 0, none⟩ = some (.int .i64 0) := cell_of_row _ _ 0 _ _ _ rz
                  have q1 : wz.cell? ⟨w.heap.size, 1, none⟩ = some (.int .i64 0) := cell_of_row _ _ 1 _ _ _ rz
                  have q2 : wz.cell? ⟨w.heap.size, 2, none⟩ = some (.int .i64 0) := cell_of_row _ _ 2 _ _ _ rz
                  have q3 : wz.cell? ⟨w.heap.size, 3, none⟩ = some (.int .i64 0) := cell_of_row _ _ 3 _ _ _ rz
                  have q4 : wz.cell? ⟨w.heap.size, 4, none⟩ = some (.slice none 0 0) := cell_of_row _ _ 4 _ _ _ rz
                  have q5 : wz.cell? ⟨w.heap.size, 5, none⟩ = some (.slice none 0 0) := cell_of_row _ _ 5 _ _ _ rz
                  go_wp2_with fail
                  refine bodyPost_ret (v := .tuple #[manZ, _]) (by simp [results, go_sem, q0, q1, q2, q3, q4, q5, manZ]; rfl) rfl ?_
                  exact ⟨bz.drew, .inr ⟨_, _, rfl, fun h => (by rw [HOB.out] at h; cases h), fun b' m' h1 h2 => by rw [HOB.out] at h1; cases h1; rw [HNO.out] at h2; cases h2⟩⟩
              · obtain ⟨M, hM⟩ : ∃ M : ManD, M = ⟨(x1 : Int), (x2 : Int), (x3 : Int), t4, ps, os⟩ := ⟨_, rfl⟩
                have hrm : readM b = some M := by rw [HPQ.out, if_pos ⟨hfb, by omega⟩, hM]
                have HRM := Lib.hid hrm
                have hpo := (readM_back b M hrm).2
                have hsm : Small M := ⟨by have := hpo.elen; omega, by have := hpo.olen; omega, fun o ho => by have := (hpo.objs o ho).1; omega⟩
                have z0 : decide ((0 : Int) < (s.left.length : Int)) = false := decide_eq_false (by omega)
                go_wp2_with fail
                refine hlc.mono ?_
                rintro e wl ⟨rfl, ql, rfl⟩
                have Il := I.below (below_drewN (Below.refl _ _) ql)
                clear hlc I
                generalize w7.drewN ql = wl at *
                have hv := maniValid_is S A (ve := .slice al ps.length cl) (vo := .slice ol os.length dl) (hS.below Il.bel) hE2 hE3 hE4 hE5 (m := M) (by rw [hM]; exact ⟨Rd.of_owns Il.row, Rd.of_owns Il.obs⟩) hsm
                have hMA : manA M (.slice al ps.length cl) (.slice ol os.length dl) = .agg #[.int .i64 (x1 : Int), .int .i64 (x2 : Int), .int .i64 (x3 : Int), .int .i64 t4, .slice al ps.length cl, .slice ol os.length dl] := by rw [hM]; rfl
                rw [hMA] at hv
                have HMA := Lib.hid hMA
                have HMM := Lib.hid hM
                have p0 : wl.cell? ⟨g7, 0, none⟩ = some (.int .i64 (x1 : Int)) := cell_of_row _ _ 0 _ _ _ Il.man
                have p1 : wl.cell? ⟨g7, 1, none⟩ = some (.int .i64 (x2 : Int)) := cell_of_row _ _ 1 _ _ _ Il.man
                have p2 : wl.cell? ⟨g7, 2, none⟩ = some (.int .i64 (x3 : Int)) := cell_of_row _ _ 2 _ _ _ Il.man
                have p3 : wl.cell? ⟨g7, 3, none⟩ = some (.int .i64 t4) := cell_of_row _ _ 3 _ _ _ Il.man
                have p4 : wl.cell? ⟨g7, 4, none⟩ = some (.slice al ps.length cl) := cell_of_row _ _ 4 _ _ _ Il.man
                have p5 : wl.cell? ⟨g7, 5, none⟩ = some (.slice ol os.length dl) := cell_of_row _ _ 5 _ _ _ Il.man
                clear hM hMA hrm hsm hpo hfb HPQ
                go_wp2_with fail
                with_reducible refine hv.mono ?_
                rintro e wv ⟨vv, er, rfl, hmb, her, bv⟩
                have Iv := Il.below bv
                clear hv p0 p1 p2 p3 p4 p5 Il
                by_cases hef : er = .fine
                · subst hef
                  have hvn : vv = .nilIface := her
                  subst hvn
                  have HMK := Lib.hid (hmb.fine_iff.1 rfl)
                  clear her hmb
                  have p0 : wv.cell? ⟨g7, 0, none⟩ = some (.int .i64 (x1 : Int)) := cell_of_row _ _ 0 _ _ _ Iv.man
                  have p1 : wv.cell? ⟨g7, 1, none⟩ = some (.int .i64 (x2 : Int)) := cell_of_row _ _ 1 _ _ _ Iv.man
                  have p2 : wv.cell? ⟨g7, 2, none⟩ = some (.int .i64 (x3 : Int)) := cell_of_row _ _ 2 _ _ _ Iv.man
                  have p3 : wv.cell? ⟨g7, 3, none⟩ = some (.int .i64 t4) := cell_of_row _ _ 3 _ _ _ Iv.man
                  have p4 : wv.cell? ⟨g7, 4, none⟩ = some (.slice al ps.length cl) := cell_of_row _ _ 4 _ _ _ Iv.man
                  have p5 : wv.cell? ⟨g7, 5, none⟩ = some (.slice ol os.length dl) := cell_of_row _ _ 5 _ _ _ Iv.man
                  have f0 : wv.cell? ⟨w.heap.size, 0, none⟩ = some (.int .i64 0) := cell_of_row _ _ 0 _ _ _ Iv.res
                  have f1 : wv.cell? ⟨w.heap.size, 1, none⟩ = some (.int .i64 0) := cell_of_row _ _ 1 _ _ _ Iv.res
                  have f2 : wv.cell? ⟨w.heap.size, 2, none⟩ = some (.int .i64 0) := cell_of_row _ _ 2 _ _ _ Iv.res
                  have f3 : wv.cell? ⟨w.heap.size, 3, none⟩ = some (.int .i64 0) := cell_of_row _ _ 3 _ _ _ Iv.res
                  have f4 : wv.cell? ⟨w.heap.size, 4, none⟩ = some (.slice none 0 0) := cell_of_row _ _ 4 _ _ _ Iv.res
                  have f5 : wv.cell? ⟨w.heap.size, 5, none⟩ = some (.slice none 0 0) := cell_of_row _ _ 5 _ _ _ Iv.res
                  have z0 : wv.frozen? ⟨w.heap.size, 0, none⟩ = false := frozen_of_row _ w.heap.size 0 _ _ Iv.res
                  have z1 : wv.frozen? ⟨w.heap.size, 1, none⟩ = false := frozen_of_row _ w.heap.size 1 _ _ Iv.res
                  have z2 : wv.frozen? ⟨w.heap.size, 2, none⟩ = false := frozen_of_row _ w.heap.size 2 _ _ Iv.res
                  have z3 : wv.frozen? ⟨w.heap.size, 3, none⟩ = false := frozen_of_row _ w.heap.size 3 _ _ Iv.res
                  have z4 : wv.frozen? ⟨w.heap.size, 4, none⟩ = false := frozen_of_row _ w.heap.size 4 _ _ Iv.res
                  have z5 : wv.frozen? ⟨w.heap.size, 5, none⟩ = false := frozen_of_row _ w.heap.size 5 _ _ Iv.res
                  obtain ⟨rowz, TT⟩ := setM (.int .i64 (x1 : Int)) (.int .i64 (x2 : Int)) (.int .i64 (x3 : Int)) (.int .i64 t4) (.slice al ps.length cl) (.slice ol os.length dl) Iv.res
                  have belz := TT.new Iv.bel (Nat.le_refl _)
                  have oez := owns_base (base' := w.heap.size) (TT.owns_from Iv.row (by have := Iv.o1; have := Iv.o2; omega)) (by have := Iv.o1; have := Iv.o2; omega)
                  have ooz := owns_base (base' := w.heap.size) (TT.owns_from Iv.obs (by have := Iv.o1; have := Iv.o2; omega)) (by have := Iv.o1; have := Iv.o2; omega)
                  clear TT
                  go_wp2_with fail
                  generalize (((((wv.setCell ⟨w.heap.size, 0, none⟩ (.int .i64 (x1 : Int))).setCell ⟨w.heap.size, 1, none⟩ (.int .i64 (x2 : Int))).setCell ⟨w.heap.size, 2, none⟩ (.int .i64 (x3 : Int))).setCell ⟨w.heap.size, 3, none⟩ (.int .i64 t4)).setCell ⟨w.heap.size, 4, none⟩ (.slice al ps.length cl)).setCell ⟨w.heap.size, 5, none⟩ (.slice ol os.length dl) = wz at *
                  have q0 : wz.cell? ⟨w.heap.size, 0, none⟩ = some (.int .i64 (x1 : Int)) := cell_of_row _ _ 0 _ _ _ rowz
                  have q1 : wz.cell? ⟨w.heap.size, 1, none⟩ = some (.int .i64 (x2 : Int)) := cell_of_row _ _ 1 _ _ _ rowz
                  have q2 : wz.cell? ⟨w.heap.size, 2, none⟩ = some (.int .i64 (x3 : Int)) := cell_of_row _ _ 2 _ _ _ rowz
                  have q3 : wz.cell? ⟨w.heap.size, 3, none⟩ = some (.int .i64 t4) := cell_of_row _ _ 3 _ _ _ rowz
                  have q4 : wz.cell? ⟨w.heap.size, 4, none⟩ = some (.slice al ps.length cl) := cell_of_row _ _ 4 _ _ _ rowz
                  have q5 : wz.cell? ⟨w.heap.size, 5, none⟩ = some (.slice ol os.length dl) := cell_of_row _ _ 5 _ _ _ rowz
                  refine bodyPost_ret (v := .tuple #[.agg #[.int .i64 (x1 : Int), .int .i64 (x2 : Int), .int .i64 (x3 : Int), .int .i64 t4, .slice al ps.length cl, .slice ol os.length dl], .nilIface]) (by simp [results, go_sem, q0, q1, q2, q3, q4, q5]) rfl ?_
                  exact ⟨belz, .inl ⟨b, M, _, _, HOB.out, HRM.out, HMK.out, by rw [HMA.out], by rw [HMM.out]; exact oez, by rw [HMM.out]; exact ooz⟩⟩
                · obtain ⟨T4, u4, rfl⟩ := her.not_nil hef
                  have HME := Lib.hid (fun h => hef (hmb.fine_iff.2 h))
                  clear her hmb hef
                  have f0 : wv.cell? ⟨w.heap.size, 0, none⟩ = some (.int .i64 0) := cell_of_row _ _ 0 _ _ _ Iv.res
                  have f1 : wv.cell? ⟨w.heap.size, 1, none⟩ = some (.int .i64 0) := cell_of_row _ _ 1 _ _ _ Iv.res
                  have f2 : wv.cell? ⟨w.heap.size, 2, none⟩ = some (.int .i64 0) := cell_of_row _ _ 2 _ _ _ Iv.res
                  have f3 : wv.cell? ⟨w.heap.size, 3, none⟩ = some (.int .i64 0) := cell_of_row _ _ 3 _ _ _ Iv.res
                  have f4 : wv.cell? ⟨w.heap.size, 4, none⟩ = some (.slice none 0 0) := cell_of_row _ _ 4 _ _ _ Iv.res
                  have f5 : wv.cell? ⟨w.heap.size, 5, none⟩ = some (.slice none 0 0) := cell_of_row _ _ 5 _ _ _ Iv.res
                  have z0 : wv.frozen? ⟨w.heap.size, 0, none⟩ = false := frozen_of_row _ w.heap.size 0 _ _ Iv.res
                  have z1 : wv.frozen? ⟨w.heap.size, 1, none⟩ = false := frozen_of_row _ w.heap.size 1 _ _ Iv.res
                  have z2 : wv.frozen? ⟨w.heap.size, 2, none⟩ = false := frozen_of_row _ w.heap.size 2 _ _ Iv.res
                  have z3 : wv.frozen? ⟨w.heap.size, 3, none⟩ = false := frozen_of_row _ w.heap.size 3 _ _ Iv.res
                  have z4 : wv.frozen? ⟨w.heap.size, 4, none⟩ = false := frozen_of_row _ w.heap.size 4 _ _ Iv.res
                  have z5 : wv.frozen? ⟨w.heap.size, 5, none⟩ = false := frozen_of_row _ w.heap.size 5 _ _ Iv.res
                  obtain ⟨rowz, TT⟩ := setM (.int .i64 0) (.int .i64 0) (.int .i64 0) (.int .i64 0) (.slice none 0 0) (.slice none 0 0) Iv.res
                  have belz := TT.new Iv.bel (Nat.le_refl _)
                  clear TT
                  go_wp2_with fail
                  generalize (((((wv.setCell ⟨w.heap.size, 0, none⟩ (.int .i64 0)).setCell ⟨w.heap.size, 1, none⟩ (.int .i64 0)).setCell ⟨w.heap.size, 2, none⟩ (.int .i64 0)).setCell ⟨w.heap.size, 3, none⟩ (.int .i64 0)).setCell ⟨w.heap.size, 4, none⟩ (.slice none 0 0)).setCell ⟨w.heap.size, 5, none⟩ (.slice none 0 0) = wz at *
                  have q0 : wz.cell? ⟨w.heap.size, 0, none⟩ = some (.int .i64 0) := cell_of_row _ _ 0 _ _ _ rowz
                  have q1 : wz.cell? ⟨w.heap.size, 1, none⟩ = some (.int .i64 0) := cell_of_row _ _ 1 _ _ _ rowz
                  have q2 : wz.cell? ⟨w.heap.size, 2, none⟩ = some (.int .i64 0) := cell_of_row _ _ 2 _ _ _ rowz
                  have q3 : wz.cell? ⟨w.heap.size, 3, none⟩ = some (.int .i64 0) := cell_of_row _ _ 3 _ _ _ rowz
                  have q4 : wz.cell? ⟨w.heap.size, 4, none⟩ = some (.slice none 0 0) := cell_of_row _ _ 4 _ _ _ rowz
                  have q5 : wz.cell? ⟨w.heap.size, 5, none⟩ = some (.slice none 0 0) := cell_of_row _ _ 5 _ _ _ rowz
                  refine bodyPost_ret (v := .tuple #[manZ, .iface T4 u4]) (by simp [results, go_sem, q0, q1, q2, q3, q4, q5, manZ]) rfl ?_
                  exact ⟨belz, .inr ⟨_, _, rfl, fun h => (by rw [HOB.out] at h; cases h), fun b' m' h1 h2 => by rw [HOB.out] at h1; cases h1; rw [HRM.out] at h2; cases h2; exact HME.out⟩⟩
            · obtain ⟨T4, u4, rfl⟩ := hv7.not_nil hfb
              have HNO := Lib.hid (show readM b = none by rw [HPQ.out, if_neg (fun h => hfb h.1)])
              have HFB := Lib.hid hfb
              clear hv7 hfb
              go_wp2_with fail
              refine herr.mono ?_
              rintro e w3 ⟨v5, rfl, hv5, rfl⟩
              obtain ⟨T5, u5, rfl⟩ := hv5.not_nil HFB.out
              clear herr hv5
              have f0 : w3.cell? ⟨w.heap.size, 0, none⟩ = some (.int .i64 0) := cell_of_row _ _ 0 _ _ _ I.res
              have f1 : w3.cell? ⟨w.heap.size, 1, none⟩ = some (.int .i64 0) := cell_of_row _ _ 1 _ _ _ I.res
              have f2 : w3.cell? ⟨w.heap.size, 2, none⟩ = some (.int .i64 0) := cell_of_row _ _ 2 _ _ _ I.res
              have f3 : w3.cell? ⟨w.heap.size, 3, none⟩ = some (.int .i64 0) := cell_of_row _ _ 3 _ _ _ I.res
              have f4 : w3.cell? ⟨w.heap.size, 4, none⟩ = some (.slice none 0 0) := cell_of_row _ _ 4 _ _ _ I.res
              have f5 : w3.cell? ⟨w.heap.size, 5, none⟩ = some (.slice none 0 0) := cell_of_row _ _ 5 _ _ _ I.res
              have z0 : w3.frozen? ⟨w.heap.size, 0, none⟩ = false := frozen_of_row _ w.heap.size 0 _ _ I.res
              have z1 : w3.frozen? ⟨w.heap.size, 1, none⟩ = false := frozen_of_row _ w.heap.size 1 _ _ I.res
              have z2 : w3.frozen? ⟨w.heap.size, 2, none⟩ = false := frozen_of_row _ w.heap.size 2 _ _ I.res
              have z3 : w3.frozen? ⟨w.heap.size, 3, none⟩ = false := frozen_of_row _ w.heap.size 3 _ _ I.res
              have z4 : w3.frozen? ⟨w.heap.size, 4, none⟩ = false := frozen_of_row _ w.heap.size 4 _ _ I.res
              have z5 : w3.frozen? ⟨w.heap.size, 5, none⟩ = false := frozen_of_row _ w.heap.size 5 _ _ I.res
              obtain ⟨rowz, TT⟩ := setM (.int .i64 0) (.int .i64 0) (.int .i64 0) (.int .i64 0) (.slice none 0 0) (.slice none 0 0) I.res
              have belz := TT.new I.bel (Nat.le_refl _)
              clear TT
              go_wp2_with fail
              generalize (((((w3.setCell ⟨w.heap.size, 0, none⟩ (.int .i64 0)).setCell ⟨w.heap.size, 1, none⟩ (.int .i64 0)).setCell ⟨w.heap.size, 2, none⟩ (.int .i64 0)).setCell ⟨w.heap.size, 3, none⟩ (.int .i64 0)).setCell ⟨w.heap.size, 4, none⟩ (.slice none 0 0)).setCell ⟨w.heap.size, 5, none⟩ (.slice none 0 0) = wz at *
              have q0 : wz.cell? ⟨w.heap.size, 0, none⟩ = some (.int .i64 0) := cell_of_row _ _ 0 _ _ _ rowz
              have q1 : wz.cell? ⟨w.heap.size, 1, none⟩ = some (.int .i64 0) := cell_of_row _ _ 1 _ _ _ rowz
              have q2 : wz.cell? ⟨w.heap.size, 2, none⟩ = some (.int .i64 0) := cell_of_row _ _ 2 _ _ _ rowz
              have q3 : wz.cell? ⟨w.heap.size, 3, none⟩ = some (.int .i64 0) := cell_of_row _ _ 3 _ _ _ rowz
              have q4 : wz.cell? ⟨w.heap.size, 4, none⟩ = some (.slice none 0 0) := cell_of_row _ _ 4 _ _ _ rowz
              have q5 : wz.cell? ⟨w.heap.size, 5, none⟩ = some (.slice none 0 0) := cell_of_row _ _ 5 _ _ _ rowz
              refine bodyPost_ret (v := .tuple #[manZ, .iface T5 u5]) (by simp [results, go_sem, q0, q1, q2, q3, q4, q5, manZ]) rfl ?_
              exact ⟨belz, .inr ⟨_, _, rfl, fun h => (by rw [HOB.out] at h; cases h), fun b' m' h1 h2 => by rw [HOB.out] at h1; cases h1; rw [HNO.out] at h2; cases h2⟩⟩
  · go_wp2_with fail
    refine hop.mono ?_
    rintro e w1 ⟨b1, hr⟩
    have B1 := nxt b0 b1
    have row1 := heap_below b1 row0
    have HNK := Lib.hid hok
    have hr' : ∃ T u, e = .returned (.tuple #[.slice none 0 0, .iface T u]) ∧ (openL bs = .sum → Value.iface T u = senV A 1) := by
      cases ho : openL bs with
      | fin => rw [ho] at hr; exact ⟨_, _, hr, fun h => by cases h⟩
      | sum => rw [ho] at hr; exact ⟨_, _, hr, fun _ => rfl⟩
      | ok b => exact absurd ⟨b, ho⟩ hok
    obtain ⟨T, u, rfl, hsu⟩ := hr'
    have HSU := Lib.hid hsu
    clear hr hok hsu hop
    have f0 : w1.cell? ⟨w.heap.size, 0, none⟩ = some (.int .i64 0) := cell_of_row _ _ 0 _ _ _ row1
    have f1 : w1.cell? ⟨w.heap.size, 1, none⟩ = some (.int .i64 0) := cell_of_row _ _ 1 _ _ _ row1
    have f2 : w1.cell? ⟨w.heap.size, 2, none⟩ = some (.int .i64 0) := cell_of_row _ _ 2 _ _ _ row1
    have f3 : w1.cell? ⟨w.heap.size, 3, none⟩ = some (.int .i64 0) := cell_of_row _ _ 3 _ _ _ row1
    have f4 : w1.cell? ⟨w.heap.size, 4, none⟩ = some (.slice none 0 0) := cell_of_row _ _ 4 _ _ _ row1
    have f5 : w1.cell? ⟨w.heap.size, 5, none⟩ = some (.slice none 0 0) := cell_of_row _ _ 5 _ _ _ row1
    have z0 : w1.frozen? ⟨w.heap.size, 0, none⟩ = false := frozen_of_row _ w.heap.size 0 _ _ row1
    have z1 : w1.frozen? ⟨w.heap.size, 1, none⟩ = false := frozen_of_row _ w.heap.size 1 _ _ row1
    have z2 : w1.frozen? ⟨w.heap.size, 2, none⟩ = false := frozen_of_row _ w.heap.size 2 _ _ row1
    have z3 : w1.frozen? ⟨w.heap.size, 3, none⟩ = false := frozen_of_row _ w.heap.size 3 _ _ row1
    have z4 : w1.frozen? ⟨w.heap.size, 4, none⟩ = false := frozen_of_row _ w.heap.size 4 _ _ row1
    have z5 : w1.frozen? ⟨w.heap.size, 5, none⟩ = false := frozen_of_row _ w.heap.size 5 _ _ row1
    obtain ⟨rowz, TT⟩ := setM (.int .i64 0) (.int .i64 0) (.int .i64 0) (.int .i64 0) (.slice none 0 0) (.slice none 0 0) row1
    have belz := TT.new B1 (Nat.le_refl _)
    clear TT
    go_wp2_with fail
    generalize (((((w1.setCell ⟨w.heap.size, 0, none⟩ (.int .i64 0)).setCell ⟨w.heap.size, 1, none⟩ (.int .i64 0)).setCell ⟨w.heap.size, 2, none⟩ (.int .i64 0)).setCell ⟨w.heap.size, 3, none⟩ (.int .i64 0)).setCell ⟨w.heap.size, 4, none⟩ (.slice none 0 0)).setCell ⟨w.heap.size, 5, none⟩ (.slice none 0 0) = wz at *
    have q0 : wz.cell? ⟨w.heap.size, 0, none⟩ = some (.int .i64 0) := cell_of_row _ _ 0 _ _ _ rowz
    have q1 : wz.cell? ⟨w.heap.size, 1, none⟩ = some (.int .i64 0) := cell_of_row _ _ 1 _ _ _ rowz
    have q2 : wz.cell? ⟨w.heap.size, 2, none⟩ = some (.int .i64 0) := cell_of_row _ _ 2 _ _ _ rowz
    have q3 : wz.cell? ⟨w.heap.size, 3, none⟩ = some (.int .i64 0) := cell_of_row _ _ 3 _ _ _ rowz
    have q4 : wz.cell? ⟨w.heap.size, 4, none⟩ = some (.slice none 0 0) := cell_of_row _ _ 4 _ _ _ rowz
    have q5 : wz.cell? ⟨w.heap.size, 5, none⟩ = some (.slice none 0 0) := cell_of_row _ _ 5 _ _ _ rowz
    refine bodyPost_ret (v := .tuple #[manZ, .iface T u]) (by simp [results, go_sem, q0, q1, q2, q3, q4, q5, manZ]) rfl ?_
    exact ⟨belz, .inr ⟨_, _, rfl, HSU.out, fun b m h => absurd ⟨b, h⟩ HNK.out⟩⟩
end Go.Proofs.YtegiingcnhafbaaGreatDoor
