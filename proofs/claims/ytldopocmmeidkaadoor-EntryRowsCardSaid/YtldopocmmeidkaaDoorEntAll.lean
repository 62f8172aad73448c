/- entry.All: the entries of bytes, as long as there are. -/
import Derived.Test.YtldopocmmeidkaaDoorEntRd
namespace Go.Proofs.YtldopocmmeidkaaDoor
open Go Go.RowKit Man Vint Crc

structure EntR where
  k : Int
  m : ManD
  ve : Value
  vo : Value
def EntR.d (x : EntR) : Int × ManD := (x.k, x.m)
def entV (x : EntR) : List Value := [.int .i64 x.k, .int .i64 x.m.id, .int .i64 x.m.base, .int .i64 x.m.fin, .int .i64 x.m.time, x.ve, x.vo]
def EntO (w : World) (base : Nat) (x : EntR) : Prop := w.ownsRow base 48 2 x.ve x.m.eps.length (x.m.eps.flatMap prV) ∧ w.ownsRow base 46 3 x.vo x.m.objs.length (x.m.objs.flatMap obV)
theorem EntO.below {w w1 : World} {base : Nat} {x : EntR} (h : EntO w base x) (b : Below w.heap.size w w1) : EntO w1 base x := ⟨owns_below h.1 b, owns_below h.2 b⟩
theorem EntO.rd {w : World} {base : Nat} {x : EntR} (h : EntO w base x) : ManRd w x.m x.ve x.vo := ⟨Rd.of_owns h.1, Rd.of_owns h.2⟩
theorem EntO.grown {w w1 : World} {base : Nat} {x : EntR} (h : EntO w base x) {row : Option Nat} (u : w.grownBy w1 row) {t : TypeId} (hr : ∀ k, row = some k → ∃ c f, w.heap[k]? = some (.cells c t f)) (t1 : 48 ≠ t) (t2 : 46 ≠ t) : EntO w1 base x :=
  ⟨owns_grown u h.1 hr t1, owns_grown u h.2 hr t2⟩

theorem info_ent : (Tryd.prog.info? 27).map (fun i => (i.zero, i.size, i.bytes)) = some (some (.agg #[.int .i64 0, .int .i64 0, .int .i64 0, .int .i64 0, .int .i64 0, .slice none 0 0, .slice none 0 0]), 7, 88) := by kernel_rfl
theorem info_i64 : (Tryd.prog.info? 2).map (fun i => (i.zero, i.size, i.bytes)) = some (some (.int .i64 0), 1, 8) := by kernel_rfl

/-- Entries that stand one behind the other, up to a place. -/
inductive AllR (bs : List UInt8) : List (Int × ManD) → Nat → Prop
  | nil : AllR bs [] 0
  | snoc {l : List (Int × ManD)} {p : Nat} {s k : Int} {m : ManD} {n : Nat} : AllR bs l p → EGood (bs.drop p) s k m n → AllR bs (l ++ [(k, m)]) (p + n)
def EntAllPost (bs : List UInt8) (w : World) (e : Ending) (w' : World) : Prop :=
  ∃ (rs : List EntR) (sv ov ev : Value) (p : Nat), e = .returned (.tuple #[sv, ov, .int .i64 (p : Int), ev]) ∧ AllR bs (rs.map (·.d)) p ∧ p ≤ bs.length ∧ w'.ownsRow w.heap.size 27 7 ov rs.length (rs.flatMap entV) ∧ (∀ x ∈ rs, EntO w' w.heap.size x) ∧ Below w.heap.size w w' ∧
    ((p = bs.length ∧ ev = .nilIface) ∨ (p < bs.length ∧ (∃ T u, ev = .iface T u) ∧ ∀ s k m n, ¬ EGood (bs.drop p) s k m n))

theorem EGood.len {bs : List UInt8} {s k : Int} {m : ManD} {n : Nat} (h : EGood bs s k m n) : 4 ≤ n ∧ n ≤ bs.length := by
  obtain ⟨h1, _, h2, h3, _⟩ := h
  omega

set_option maxRecDepth 100000 in
set_option maxHeartbeats 4000000 in
theorem entAll_calls (S : List Nat) (A : Nat → Addr) {w : World} {v : Value} {bs : List UInt8} (hS : Sents S w A) (hE0 : 0 ∈ S) (hE1 : 1 ∈ S) (hE2 : 2 ∈ S) (hE3 : 3 ∈ S) (hE4 : 4 ∈ S) (hE5 : 5 ∈ S) (hE11 : 11 ∈ S) (hR : Rd w 1 v bs.length (bvs bs)) (hl : bs.length ≤ 1000000000) :
    Calls Tryd.prog 32 #[v] w (EntAllPost bs w) := by
  obtain ⟨i0, hi, hz0, hz1, hz2⟩ := info_parts info_ent
  obtain ⟨j0, hj, hy0, hy1, hy2⟩ := info_parts info_i64
  obtain ⟨a, c, rfl⟩ := hR.slice
  have hcap := hR.cap
  go_enter Tryd.func32, Tryd.ntmps32
  go_wp2_with fail
  go_loopw [6, 7, 8] (fun sv ov pv wr => ∃ (p : Nat) (ss : List Int) (rs : List EntR), pv = .int .i64 p ∧ p ≤ bs.length ∧ ss.length ≤ p ∧ rs.length ≤ p ∧ AllR bs (rs.map (·.d)) p ∧ wr.ownsRow w.heap.size 2 1 sv ss.length (ss.map (fun n => .int .i64 n)) ∧ wr.ownsRow w.heap.size 27 7 ov rs.length (rs.flatMap entV) ∧ (∀ x ∈ rs, EntO wr w.heap.size x) ∧ Below w.heap.size w wr) (fun _ _ pv _ => bs.length - (intOf pv).toNat)
  case atStart => exact ⟨0, [], [], rfl, Nat.zero_le _, Nat.zero_le _, Nat.zero_le _, .nil, World.ownsRow_nil _ _ _ _, World.ownsRow_nil _ _ _ _, by simp, Below.refl _ _⟩
  case round =>
    obtain ⟨p, ss, rs, rfl, hp, hsl, hrl, hall, os, oo, hpar, hb⟩ := hrel
    have HALL := Lib.hid hall
    have HPAR := Lib.hid hpar
    obtain ⟨as', cs', rfl⟩ := owns_slice os
    obtain ⟨ao, co, rfl⟩ := owns_slice oo
    clear hall hpar
    by_cases hlt : p < bs.length
    · obtain ⟨L, hL⟩ : ∃ L, L = bs.length - p := ⟨_, rfl⟩
      obtain ⟨x1, y1, s1, p1⟩ := run_rest 30 sl_u8 1 sz_u8 a bs.length c p .i64 hp
      rw [← hL] at s1 p1
      have rA := p1 wr _ (hR.below hb)
      rw [Nat.mul_one, ← bvs_drop] at rA
      have hdl : (bs.drop p).length = L := by rw [List.length_drop, hL]
      have hrd := entRead_calls S A (hS.below hb) hE0 hE1 hE2 hE3 hE4 hE5 hE11 (v := .slice x1 L y1) (bs := bs.drop p) (by rw [hdl]; exact rA) (by rw [hdl]; omega)
      have HL := Lib.hid hL
      have HDL := Lib.hid hdl
      clear hL hdl rA p1
      go_wp2_with fail
      with_reducible refine hrd.mono ?_
      rintro e w5 ⟨b5, hc5⟩
      clear hrd s1
      have B5 := nxt hb b5
      rcases hc5 with ⟨sq, kd, m, ve, vo, n, hg, rfl, oe5, oo5⟩ | ⟨T, u, rfl, hno, -⟩
      · obtain ⟨hn4, hnl⟩ := hg.len
        rw [HDL.out] at hnl
        have hpn : p + n ≤ bs.length := by have := HL.out; omega
        have HG := Lib.hid (AllR.snoc HALL.out hg)
        obtain ⟨ae, ce, rfl⟩ := owns_slice oe5
        obtain ⟨af, cf, rfl⟩ := owns_slice oo5
        unfold entA
        have b6 := below_alloc w5 (.cells #[.int .i64 kd, .int .i64 m.id, .int .i64 m.base, .int .i64 m.fin, .int .i64 m.time, .slice ae m.eps.length ce, .slice af m.objs.length cf] 27)
        have row6 := heap_alloc_new w5 (.cells #[.int .i64 kd, .int .i64 m.id, .int .i64 m.base, .int .i64 m.fin, .int .i64 m.time, .slice ae m.eps.length ce, .slice af m.objs.length cf] 27)
        have wn : IntKind.i64.wrap ((p : Int) + (n : Int)) = (p : Int) + (n : Int) := by rw [IntKind.wrap_i64]; omega
        clear hg
        go_upto_region 8 with fail
        obtain ⟨w6, hw6⟩ : ∃ x, x = w5.alloc (.cells #[.int .i64 kd, .int .i64 m.id, .int .i64 m.base, .int .i64 m.fin, .int .i64 m.time, .slice ae m.eps.length ce, .slice af m.objs.length cf] 27) := ⟨_, rfl⟩
        obtain ⟨g6, hg6⟩ : ∃ g, g = w5.heap.size := ⟨_, rfl⟩
        rw [← hw6] at b6 row6 ⊢
        rw [← hg6] at row6 ⊢
        clear hw6 hg6
        have B6 := nxt B5 b6
        have os6 := owns_below (owns_below os b5) b6
        have oo6 := owns_below (owns_below oo b5) b6
        have P6 := Lib.hid (fun x hx => ((HPAR.out x hx).below b5).below b6)
        have Q6 := Lib.hid (EntO.below (x := ⟨kd, m, .slice ae m.eps.length ce, .slice af m.objs.length cf⟩) ⟨owns_base oe5 hb.size, owns_base oo5 hb.size⟩ b6)
        have RR6 := Lib.hid row6
        have D : ∀ W, Below w6.heap.size w6 W → W.cell? ⟨g6, 0, none⟩ = some (.int .i64 kd) ∧ W.cell? ⟨g6, 1, none⟩ = some (.int .i64 m.id) ∧ W.cell? ⟨g6, 2, none⟩ = some (.int .i64 m.base) ∧ W.cell? ⟨g6, 3, none⟩ = some (.int .i64 m.fin) ∧ W.cell? ⟨g6, 4, none⟩ = some (.int .i64 m.time) ∧ W.cell? ⟨g6, 5, none⟩ = some (.slice ae m.eps.length ce) ∧ W.cell? ⟨g6, 6, none⟩ = some (.slice af m.objs.length cf) := fun W hB => by
          have r := heap_below hB RR6.out
          exact ⟨cell_of_row _ _ 0 _ _ _ r, cell_of_row _ _ 1 _ _ _ r, cell_of_row _ _ 2 _ _ _ r, cell_of_row _ _ 3 _ _ _ r, cell_of_row _ _ 4 _ _ _ r, cell_of_row _ _ 5 _ _ _ r, cell_of_row _ _ 6 _ _ _ r⟩
        -- behind the first append
        have H9 : ∀ W1 w9, Below w6.heap.size w6 W1 → W1.grownBy w9 (Value.slice as' ss.length cs').ownBlock → (w9.cell? ⟨g6, 0, none⟩ = some (.int .i64 kd) ∧ w9.cell? ⟨g6, 1, none⟩ = some (.int .i64 m.id) ∧ w9.cell? ⟨g6, 2, none⟩ = some (.int .i64 m.base) ∧ w9.cell? ⟨g6, 3, none⟩ = some (.int .i64 m.fin) ∧ w9.cell? ⟨g6, 4, none⟩ = some (.int .i64 m.time) ∧ w9.cell? ⟨g6, 5, none⟩ = some (.slice ae m.eps.length ce) ∧ w9.cell? ⟨g6, 6, none⟩ = some (.slice af m.objs.length cf)) ∧
            w9.ownsRow w.heap.size 27 7 (.slice ao rs.length co) rs.length (rs.flatMap entV) ∧ (∀ x ∈ rs, EntO w9 w.heap.size x) ∧ EntO w9 w.heap.size ⟨kd, m, .slice ae m.eps.length ce, .slice af m.objs.length cf⟩ ∧ Below w.heap.size w w9 ∧ w6.heap.size ≤ W1.heap.size ∧ (∀ gE cE tE fE, W1.heap[gE]? = some (Obj.cells cE tE fE) → 2 ≠ tE → w9.heap[gE]? = some (Obj.cells cE tE fE)) := fun W1 w9 bW g9 => by
          have hty := owns_rowIs3 (owns_below os6 bW)
          have r1 := heap_below bW RR6.out
          have r := (g9.block g6 (Array.getElem?_eq_some_iff.1 r1).1 (fun e => owns_ne3 (owns_below os6 bW) r1 (by decide) e.symm)).trans r1
          exact ⟨⟨cell_of_row _ _ 0 _ _ _ r, cell_of_row _ _ 1 _ _ _ r, cell_of_row _ _ 2 _ _ _ r, cell_of_row _ _ 3 _ _ _ r, cell_of_row _ _ 4 _ _ _ r, cell_of_row _ _ 5 _ _ _ r, cell_of_row _ _ 6 _ _ _ r⟩,
            owns_grown g9 (owns_below oo6 bW) hty (by decide), fun x hx => ((P6.out x hx).below bW).grown g9 hty (by decide) (by decide), (Q6.out.below bW).grown g9 hty (by decide) (by decide),
            (nxt B6 bW).grown g9 (nxt B6 bW).size (fun k hk => owns_ge os6 k hk), bW.size, fun gE cE tE fE hE ht => (g9.block gE (Array.getElem?_eq_some_iff.1 hE).1 (fun e => owns_ne3 (owns_below os6 bW) hE ht e.symm)).trans hE⟩
        have hos : ∀ W, Below w6.heap.size w6 W → W.ownsRow 0 2 1 (.slice as' ss.length cs') ss.length (ss.map (fun n => .int .i64 n)) := fun W hB => owns_zero (owns_below os6 hB)
        have hz1' : (w6.alloc (.cells #[.int .i64 kd, .int .i64 m.id, .int .i64 m.base, .int .i64 m.fin, .int .i64 m.time, .slice ae m.eps.length ce, .slice af m.objs.length cf] 27)).heap.size = w6.heap.size + 1 := by simp
        have hz2' : (w6.alloc (.cells #[.int .i64 sq] 2)).heap.size = w6.heap.size + 1 := by simp
        have hcS2 : ∀ (j : Nat) u, ([.int .i64 sq] : List Value)[j]? = some u → ((w6.alloc (.cells #[.int .i64 kd, .int .i64 m.id, .int .i64 m.base, .int .i64 m.fin, .int .i64 m.time, .slice ae m.eps.length ce, .slice af m.objs.length cf] 27)).alloc (.cells #[.int .i64 sq] 2)).cell? ((⟨w6.heap.size + 1, 0, none⟩ : Addr).add j) = some u := by
          rw [← hz1']; exact cells_new _ _ _
        have rE1 : ((w6.alloc (.cells #[.int .i64 kd, .int .i64 m.id, .int .i64 m.base, .int .i64 m.fin, .int .i64 m.time, .slice ae m.eps.length ce, .slice af m.objs.length cf] 27)).alloc (.cells #[.int .i64 sq] 2)).heap[w6.heap.size]? = some (.cells #[.int .i64 kd, .int .i64 m.id, .int .i64 m.base, .int .i64 m.fin, .int .i64 m.time, .slice ae m.eps.length ce, .slice af m.objs.length cf] 27 (0, 0)) := heap_below (below_alloc _ _) (heap_alloc_new w6 _)
        have rE2 : ((w6.alloc (.cells #[.int .i64 sq] 2)).alloc (.cells #[.int .i64 kd, .int .i64 m.id, .int .i64 m.base, .int .i64 m.fin, .int .i64 m.time, .slice ae m.eps.length ce, .slice af m.objs.length cf] 27)).heap[w6.heap.size + 1]? = some (.cells #[.int .i64 kd, .int .i64 m.id, .int .i64 m.base, .int .i64 m.fin, .int .i64 m.time, .slice ae m.eps.length ce, .slice af m.objs.length cf] 27 (0, 0)) := by rw [← hz2']; exact heap_alloc_new _ _
        have newsE : ∀ (W : World) gE, W.heap[gE]? = some (.cells #[.int .i64 kd, .int .i64 m.id, .int .i64 m.base, .int .i64 m.fin, .int .i64 m.time, .slice ae m.eps.length ce, .slice af m.objs.length cf] 27 (0, 0)) → ∀ (j : Nat) u, ([.int .i64 kd, .int .i64 m.id, .int .i64 m.base, .int .i64 m.fin, .int .i64 m.time, .slice ae m.eps.length ce, .slice af m.objs.length cf] : List Value)[j]? = some u → W.cell? ((⟨gE, 0, none⟩ : Addr).add j) = some u := fun W gE h j u hu => by
          rw [add_none, cell_of_row W gE _ _ _ _ h]; simpa using hu
        have HS2 := Lib.hid hcS2
        have HE1 := Lib.hid rE1
        have HE2 := Lib.hid rE2
        have HNE := Lib.hid newsE
        clear hcS2 rE1 rE2 newsE hz1' hz2'
        obtain ⟨d0, d1, d2, d3, d4, d5, d6⟩ := D w6 (Below.refl _ _)
        obtain ⟨e0, e1, e2, e3, e4, e5, e6⟩ := D (w6.alloc (.cells #[.int .i64 sq] 2)) (below_alloc _ _)
        clear os oo b5 B5 oe5 oo5 b6
        go_region_law (first
          | (refine step_append_where rfl (.tmp 32) (.tmp 34) 69 rfl 2 j0 _ 1 8 Tryd.underlying69 hj hy0 hy1 hy2 rfl (by decide) _ ss.length (ss.map (fun n => .int .i64 n)) rfl (hos _ (by (repeat (first | exact Below.refl _ _ | refine bAlloc ?_ _ | refine Below.drew ?_)))) _ 1 1 [.int .i64 sq] rfl (by rfl)
              (by intro j u hu; first | exact cells_new w6 #[.int .i64 sq] 2 j u hu | exact HS2.out j u hu | exact ((below_alloc (w6.alloc (.cells #[.int .i64 sq] 2)) _).cell (World.block_lt_of_cell? _ _ (cells_new w6 #[.int .i64 sq] 2 j u hu))).trans (cells_new w6 #[.int .i64 sq] 2 j u hu)) (by simp [Value.oneCell']) (by unfold maxLen; omega) (by omega) ?_; intro v9 w9 o9 g9 wh9; (obtain ⟨a9, c9, rfl⟩ := owns_slice o9); (obtain ⟨⟨f0, f1, f2, f3, f4, f5, f6⟩, oo9, par9, q9, B9, sz9, K9⟩ := H9 _ _ (by (repeat (first | exact Below.refl _ _ | refine bAlloc ?_ _ | refine Below.drew ?_))) g9))
          | (refine step_append_where rfl (.tmp 36) (.tmp 38) 67 rfl 27 i0 _ 7 88 Tryd.underlying67 hi hz0 hz1 hz2 rfl (by decide) _ rs.length (rs.flatMap entV) rfl (by first | exact owns_zero oo9 | exact owns_zero (owns_below oo9 (below_alloc _ _))) _ 1 1 [.int .i64 kd, .int .i64 m.id, .int .i64 m.base, .int .i64 m.fin, .int .i64 m.time, .slice ae m.eps.length ce, .slice af m.objs.length cf] rfl (by rfl) (by intro j u hu; first | exact cells_new w9 #[.int .i64 kd, .int .i64 m.id, .int .i64 m.base, .int .i64 m.fin, .int .i64 m.time, .slice ae m.eps.length ce, .slice af m.objs.length cf] 27 j u hu | exact HNE.out w9 _ (K9 _ _ _ _ HE1.out (by decide)) j u hu | exact HNE.out w9 _ (K9 _ _ _ _ HE2.out (by decide)) j u hu) (by simp [Value.oneCell']) (by unfold maxLen; omega) (by omega) ?_; intro vA wA oA gA whA; (obtain ⟨aA, cA, rfl⟩ := owns_slice oA)))
        all_goals
          have os9 : w9.ownsRow w.heap.size 2 1 (.slice a9 (ss.length + 1) c9) (ss.length + 1) (ss.map (fun n => .int .i64 n) ++ [.int .i64 sq]) := owns_up3 o9 (fun k hk => by
            rcases wh9 k hk with h | h
            · exact owns_ge os6 k h
            · have := B6.size; omega)
          have htyO := fun W2 (bW : Below w9.heap.size w9 W2) => owns_rowIs3 (owns_below oo9 bW)
          have HF : ∀ W2, Below w9.heap.size w9 W2 → W2.grownBy wA (Value.slice ao rs.length co).ownBlock → (∀ k, (Value.slice aA (rs.length + 1) cA).ownBlock = some k → (Value.slice ao rs.length co).ownBlock = some k ∨ W2.heap.size ≤ k) →
              wA.ownsRow w.heap.size 2 1 (.slice a9 (ss.length + 1) c9) (ss.length + 1) (ss.map (fun n => .int .i64 n) ++ [.int .i64 sq]) ∧ wA.ownsRow w.heap.size 27 7 (.slice aA (rs.length + 1) cA) (rs.length + 1) (rs.flatMap entV ++ [.int .i64 kd, .int .i64 m.id, .int .i64 m.base, .int .i64 m.fin, .int .i64 m.time, .slice ae m.eps.length ce, .slice af m.objs.length cf]) ∧ (∀ x ∈ rs, EntO wA w.heap.size x) ∧ EntO wA w.heap.size ⟨kd, m, .slice ae m.eps.length ce, .slice af m.objs.length cf⟩ ∧ Below w.heap.size w wA := fun W2 bW g hw =>
            ⟨owns_grown g (owns_below os9 bW) (htyO W2 bW) (by decide), owns_up3 oA (fun k hk => by
              rcases hw k hk with h | h
              · exact owns_ge oo9 k h
              · have := bW.size; have := B9.size; omega), fun x hx => ((par9 x hx).below bW).grown g (htyO W2 bW) (by decide) (by decide), (q9.below bW).grown g (htyO W2 bW) (by decide) (by decide), (nxt B9 bW).grown g (nxt B9 bW).size (fun k hk => owns_ge oo9 k hk)⟩
          obtain ⟨z1, z2, z3, z4, z5⟩ := HF _ (by (repeat (first | exact Below.refl _ _ | refine bAlloc ?_ _ | refine Below.drew ?_))) gA whA
          have Z3 := Lib.hid z3
          clear d0 d1 d2 d3 d4 d5 d6 e0 e1 e2 e3 e4 e5 e6 f0 f1 f2 f3 f4 f5 f6 HF htyO os9 oo9 par9 q9 gA whA g9 wh9 o9 oA H9 hos z3
          go_wp2_with fail
          refine ⟨⟨p + n, ss ++ [sq], rs ++ [⟨kd, m, .slice ae m.eps.length ce, .slice af m.objs.length cf⟩], by go_num, hpn, by rw [List.length_append, List.length_singleton]; omega, by rw [List.length_append, List.length_singleton]; omega, by rw [List.map_append]; exact HG.out, ?_, ?_, ?_, z5⟩, by simp [intOf]; omega⟩
          · rw [List.length_append, List.map_append]; exact z1
          · rw [List.length_append, List.flatMap_append]; exact z2
          · intro x hx
            rcases List.mem_append.1 hx with h1 | h1
            · exact Z3.out x h1
            · rw [List.mem_singleton.1 h1]; exact z4
      · have HNO := Lib.hid hno
        clear hno
        have b6 := below_alloc w5 (.cells #[.int .i64 0, .int .i64 0, .int .i64 0, .int .i64 0, .int .i64 0, .slice none 0 0, .slice none 0 0] 27)
        have oo6 := owns_below (owns_below oo b5) b6
        have P6 := Lib.hid (fun x hx => ((HPAR.out x hx).below b5).below b6)
        have B6 := nxt B5 b6
        unfold zeroE
        clear os
        go_wp2_with fail
        refine bodyPost_ret (v := .tuple #[.slice as' ss.length cs', .slice ao rs.length co, .int .i64 (p : Int), .iface T u]) (by simp [results, go_sem]) rfl ?_
        exact ⟨rs, _, _, _, p, rfl, HALL.out, hp, oo6, P6.out, B6, .inr ⟨hlt, ⟨T, u, rfl⟩, HNO.out⟩⟩
    · go_wp2_with fail
      refine bodyPost_ret (v := .tuple #[.slice as' ss.length cs', .slice ao rs.length co, .int .i64 (p : Int), .nilIface]) (by simp [results, go_sem]) rfl ?_
      exact ⟨rs, _, _, _, p, rfl, HALL.out, hp, oo, HPAR.out, hb, .inl ⟨by omega, rfl⟩⟩
end Go.Proofs.YtldopocmmeidkaaDoor
