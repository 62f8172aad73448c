/- EntrySays: an entry's bytes, or why it has none, and which state may come to which, are what the chapter says. -/
import Derived.Test.YtldopocmmeidkaaDoorEntRd
import Derived.Test.YtldopocmmeidkaaDoorRefEntBytes
import Derived.Test.YtldopocmmeidkaaDoorRefSameEnt
import Derived.Test.YtldopocmmeidkaaDoorEntNext2
import Derived.Test.YtldopocmmeidkaaDoorRefBytes
import Derived.Test.YtldopocmmeidkaaDoorSameBytes
import Derived.Test.YtldopocmmeidkaaDoorNumber
namespace Go.Proofs.YtldopocmmeidkaaDoor
open Go Go.RowKit Man Vint Crc

theorem EErr.uniq {seq k : Int} {m : ManD} {e e' : Er} (h : EErr seq k m e) (h' : EErr seq k m e') : e = e' := by
  rcases h with ⟨a, rfl⟩ | ⟨a, b, rfl⟩ | ⟨a, b, c, d⟩
  · rcases h' with ⟨_, rfl⟩ | ⟨a', _⟩ | ⟨a', _⟩
    · rfl
    · omega
    · omega
  · rcases h' with ⟨a', _⟩ | ⟨_, _, rfl⟩ | ⟨_, b', c', _⟩
    · omega
    · rfl
    · exact absurd ⟨b', c'⟩ b
  · rcases h' with ⟨a', _⟩ | ⟨_, b', _⟩ | ⟨_, _, _, d'⟩
    · omega
    · exact absurd ⟨b, c⟩ b'
    · exact d.uniq d'
theorem EErr.fine {seq k : Int} {m : ManD} (h : EErr seq k m .fine) : 0 ≤ seq ∧ 1 ≤ k ∧ k ≤ 4 ∧ manOk m := by
  rcases h with ⟨_, h⟩ | ⟨_, _, h⟩ | ⟨a, b, c, d⟩
  · cases h
  · cases h
  · exact ⟨a, b, c, d.fine_iff.1 rfl⟩
/-- The bytes that there are. -/
def ebL (er : Er) (seq k : Int) (m : ManD) : List UInt8 := if er = .fine then entB seq k m else []
theorem EBytesIs.all {A : Nat → Addr} {seq k : Int} {m : ManD} {w w' : World} {e : Ending} (h : EBytesIs A seq k m w e w') :
    ∃ vb vf er, e = .returned (.tuple #[vb, vf]) ∧ EErr seq k m er ∧ ErRow A w' vf er ∧ Rd w' 1 vb (ebL er seq k m).length (bvs (ebL er seq k m)) ∧ Below w.heap.size w w' := by
  obtain ⟨h, hb⟩ := h
  have hn : ∀ er : Er, er ≠ .fine → Rd w' 1 (.slice none 0 0) (ebL er seq k m).length (bvs (ebL er seq k m)) := fun er h => by
    unfold ebL; rw [if_neg h]; exact Rd.nil _ _
  rcases h with ⟨h1, rfl⟩ | ⟨h1, h2, rfl⟩ | ⟨h1, h2, h3, ⟨h4, t, u, er, rfl, h5, h6⟩ | ⟨h4, v, rfl, h5, _⟩⟩
  · exact ⟨_, _, .bare 4, rfl, .inl ⟨h1, rfl⟩, ⟨by omega, rfl⟩, hn _ (by simp), hb⟩
  · exact ⟨_, _, .bare 11, rfl, .inr (.inl ⟨h1, h2, rfl⟩), ⟨by omega, rfl⟩, hn _ (by simp), hb⟩
  · have hne : er ≠ .fine := fun e => h4 (h5.fine_iff.1 e)
    exact ⟨_, _, er, rfl, .inr (.inr ⟨h1, h2, h3, h5⟩), h6, hn _ hne, hb⟩
  · exact ⟨v, _, .fine, rfl, .inr (.inr ⟨h1, h2, h3, .objs .fine h4.1 h4.2.1 h4.2.2.1 (.fine h4.2.2.2)⟩), rfl, Rd.of_owns h5, hb⟩

set_option maxRecDepth 100000 in
set_option maxHeartbeats 4000000 in
theorem entrySays_walk (S : List Nat) (A : Nat → Addr) (seq k l : Int) (m n : ManD) (ve vo ue uo vb : Value) (bh : List UInt8) (cut st kd : Int) (w : World) (hS : Sents S w A) (hall : All S) (h : ManRd w m ve vo) (hk : Man.Ok m) (h' : ManRd w n ue uo) (hbh : Rd w 1 vb bh.length (bvs bh)) (hsq : I64 seq) :
    Calls Tryd.prog 6 #[.int .i64 seq, entA k m ve vo, entA l n ue uo, vb, .int .i64 cut, .int .i64 st, .int .i64 kd] w (fun e w' => e = .returned (.bool true) ∧ Below w.heap.size w w') := by
  obtain ⟨i0, hi0, hz0, hz1, hz2⟩ := info_parts info_u8
  have hwm := fun W (hB : Below w.heap.size w W) => worldManifest_calls (h.below hB)
  have hwn := fun W (hB : Below w.heap.size w W) => worldManifest_calls (h'.below hB)
  have heb := fun W (hB : Below w.heap.size w W) hs => entBytes_is S A (seq := seq) (k := k) (hS.below hB) (hall 2 (by decide)) (hall 3 (by decide)) (hall 4 (by decide)) (hall 5 (by decide)) (hall 11 (by decide)) (h.below hB) hs hk
  have hrb := fun W (hB : Below w.heap.size w W) hs => refEntBytes_calls (seq := seq) (k := k) (h.below hB) hs hk
  have hes := fun W (hB : Below w.heap.size w W) => entSame_calls (k := k) (l := l) (h.below hB) (h'.below hB)
  have hrs := fun W (hB : Below w.heap.size w W) => refSameEnt_calls (k := k) (l := l) (h.below hB) (h'.below hB)
  unfold manA at hwm hwn
  unfold entA at heb hrb hes hrs ⊢
  have HM := Lib.hid h
  have HK := Lib.hid hk
  have HBH := Lib.hid hbh
  have HSQ := Lib.hid hsq
  have hbl := hbh.len_le
  obtain ⟨ae, ce, rfl⟩ := h.1.slice
  obtain ⟨ao, co, rfl⟩ := h.2.slice
  obtain ⟨be, de, rfl⟩ := h'.1.slice
  obtain ⟨bo, do', rfl⟩ := h'.2.slice
  obtain ⟨ab, cb, rfl⟩ := hbh.slice
  clear h hk h' hbh hsq
  have b1 := below_alloc w (.cells #[.int .i64 k, .int .i64 m.id, .int .i64 m.base, .int .i64 m.fin, .int .i64 m.time, .slice ae m.eps.length ce, .slice ao m.objs.length co] 27)
  have row1 := heap_alloc_new w (.cells #[.int .i64 k, .int .i64 m.id, .int .i64 m.base, .int .i64 m.fin, .int .i64 m.time, .slice ae m.eps.length ce, .slice ao m.objs.length co] 27)
  go_enter Tryd.func6, Tryd.ntmps6
  go_upto_region 1 with fail
  obtain ⟨w0, hw0⟩ : ∃ w0, w0 = w.alloc (.cells #[.int .i64 k, .int .i64 m.id, .int .i64 m.base, .int .i64 m.fin, .int .i64 m.time, .slice ae m.eps.length ce, .slice ao m.objs.length co] 27) := ⟨_, rfl⟩
  rw [← hw0] at b1 row1 ⊢
  have b2 := below_alloc w0 (.cells #[.int .i64 l, .int .i64 n.id, .int .i64 n.base, .int .i64 n.fin, .int .i64 n.time, .slice be n.eps.length de, .slice bo n.objs.length do'] 27)
  have row2 := heap_alloc_new w0 (.cells #[.int .i64 l, .int .i64 n.id, .int .i64 n.base, .int .i64 n.fin, .int .i64 n.time, .slice be n.eps.length de, .slice bo n.objs.length do'] 27)
  have row1 := heap_below b2 row1
  have B1 := nxt b1 b2
  have hsz : w0.heap.size = w.heap.size + 1 := by rw [hw0]; simp
  obtain ⟨w1, hw1⟩ : ∃ w1, w1 = w0.alloc (.cells #[.int .i64 l, .int .i64 n.id, .int .i64 n.base, .int .i64 n.fin, .int .i64 n.time, .slice be n.eps.length de, .slice bo n.objs.length do'] 27) := ⟨_, rfl⟩
  obtain ⟨g, hg⟩ : ∃ g, g = w.heap.size := ⟨_, rfl⟩
  obtain ⟨g2, hg2⟩ : ∃ g, g = w0.heap.size := ⟨_, rfl⟩
  rw [← hsz]
  rw [← hw1] at b2 row2 row1 B1 ⊢
  rw [← hg] at row1 ⊢
  rw [← hg2] at row2 ⊢
  clear hw0 hw1 hg hg2 hsz b1 b2
  have D : ∀ W, Below w1.heap.size w1 W → (W.cell? ⟨g, 0, none⟩ = some (.int .i64 k) ∧ W.cell? ⟨g, 1, none⟩ = some (.int .i64 m.id) ∧ W.cell? ⟨g, 2, none⟩ = some (.int .i64 m.base) ∧ W.cell? ⟨g, 3, none⟩ = some (.int .i64 m.fin) ∧ W.cell? ⟨g, 4, none⟩ = some (.int .i64 m.time) ∧ W.cell? ⟨g, 5, none⟩ = some (.slice ae m.eps.length ce) ∧ W.cell? ⟨g, 6, none⟩ = some (.slice ao m.objs.length co)) ∧ (W.cell? ⟨g2, 0, none⟩ = some (.int .i64 l) ∧ W.cell? ⟨g2, 1, none⟩ = some (.int .i64 n.id) ∧ W.cell? ⟨g2, 2, none⟩ = some (.int .i64 n.base) ∧ W.cell? ⟨g2, 3, none⟩ = some (.int .i64 n.fin) ∧ W.cell? ⟨g2, 4, none⟩ = some (.int .i64 n.time) ∧ W.cell? ⟨g2, 5, none⟩ = some (.slice be n.eps.length de) ∧ W.cell? ⟨g2, 6, none⟩ = some (.slice bo n.objs.length do')) := fun W hB => by
    have r := heap_below hB row1
    have s := heap_below hB row2
    exact ⟨⟨cell_of_row _ _ 0 _ _ _ r, cell_of_row _ _ 1 _ _ _ r, cell_of_row _ _ 2 _ _ _ r, cell_of_row _ _ 3 _ _ _ r, cell_of_row _ _ 4 _ _ _ r, cell_of_row _ _ 5 _ _ _ r, cell_of_row _ _ 6 _ _ _ r⟩, ⟨cell_of_row _ _ 0 _ _ _ s, cell_of_row _ _ 1 _ _ _ s, cell_of_row _ _ 2 _ _ _ s, cell_of_row _ _ 3 _ _ _ s, cell_of_row _ _ 4 _ _ _ s, cell_of_row _ _ 5 _ _ _ s, cell_of_row _ _ 6 _ _ _ s⟩⟩
  clear row1 row2
  have hf := entFirst_calls w1
  go_wp2_with fail
  with_reducible refine hf.mono ?_
  rintro e w2 ⟨rfl, nq, hw2⟩
  have b2 : Below w1.heap.size w1 w2 := by rw [hw2]; exact below_drewN (Below.refl _ _) nq
  clear hw2 hf
  obtain ⟨⟨d0, d1, d2, d3, d4, d5, d6⟩, ⟨e0, e1, e2, e3, e4, e5, e6⟩⟩ := D w2 b2
  have hwm2 := hwm w2 (nxt B1 b2)
  clear hwm
  go_wp2_with fail
  with_reducible refine hwm2.mono ?_
  rintro e w3 ⟨t, rfl, b3, hsm⟩
  have B3 := nxt b2 b3
  clear hwm2
  clear d0 e0 d1 e1 d2 e2 d3 e3 d4 e4 d5 e5 d6 e6
  cases t
  case false =>
    go_wp2_with fail
    go_ret
    exact ⟨rfl, nxt B1 B3⟩
  have hs := hsm rfl
  obtain ⟨⟨d0, d1, d2, d3, d4, d5, d6⟩, ⟨e0, e1, e2, e3, e4, e5, e6⟩⟩ := D w3 B3
  have hwn3 := hwn w3 (nxt B1 B3)
  clear hwn hsm
  go_wp2_with fail
  with_reducible refine hwn3.mono ?_
  rintro e w4 ⟨t, rfl, b4, -⟩
  have B4 := nxt B3 b4
  clear hwn3
  clear d0 e0 d1 e1 d2 e2 d3 e3 d4 e4 d5 e5 d6 e6
  cases t
  case false =>
    go_wp2_with fail
    go_ret
    exact ⟨rfl, nxt B1 B4⟩
  by_cases t1 : 100 < bh.length
  case pos =>
    go_wp2_with fail
    go_ret
    exact ⟨rfl, nxt B1 B4⟩
  have t1' : decide ((100 : Int) < (bh.length : Int)) = false := decide_eq_false (by omega)
  have hb100 : bh.length ≤ 100 := by omega
  obtain ⟨⟨d0, d1, d2, d3, d4, d5, d6⟩, ⟨e0, e1, e2, e3, e4, e5, e6⟩⟩ := D w4 B4
  have heb4 := heb w4 (nxt B1 B4) hs
  clear heb
  go_wp2_with fail
  with_reducible refine heb4.mono ?_
  rintro e w5 h5
  obtain ⟨vb, vf, er, rfl, her, hfr, hrd, b5⟩ := h5.all
  have B5 := nxt B4 b5
  have HER := Lib.hid her
  clear heb4 h5 her t1
  clear d0 e0 d1 e1 d2 e2 d3 e3 d4 e4 d5 e5 d6 e6
  obtain ⟨⟨d0, d1, d2, d3, d4, d5, d6⟩, ⟨e0, e1, e2, e3, e4, e5, e6⟩⟩ := D w5 B5
  have hrb5 := hrb w5 (nxt B1 B5) hs
  clear hrb
  obtain ⟨LB, hLB⟩ : ∃ L, L = ebL er seq k m := ⟨_, rfl⟩
  rw [← hLB] at hrd
  have HLB := Lib.hid hLB
  clear hLB
  obtain ⟨av, cv, rfl⟩ := hrd.slice
  go_wp2_with fail
  with_reducible refine hrb5.mono ?_
  rintro e w6 ⟨vx, er2, rfl, her2, b6, hx1, hx2⟩
  obtain rfl := HER.out.uniq her2
  have hrx : Rd w6 1 vx LB.length (bvs LB) := by
    rw [HLB.out]
    unfold ebL
    by_cases hf : er = .fine
    · rw [if_pos hf]; exact hx2 hf
    · rw [if_neg hf, hx1 hf]; exact Rd.nil _ _
  have B6 := nxt B5 b6
  clear hrb5 her2 hx1 hx2
  clear d0 e0 d1 e1 d2 e2 d3 e3 d4 e4 d5 e5 d6 e6
  obtain ⟨ax, cx, rfl⟩ := hrx.slice
  obtain ⟨cd, hcd⟩ : ∃ c, c = er.code := ⟨_, rfl⟩
  obtain ⟨ch, hch⟩ : ∃ c, c = er.has := ⟨_, rfl⟩
  obtain ⟨cp, hcp⟩ : ∃ c, c = er.pos := ⟨_, rfl⟩
  have hfv : er.fault = fv cd ch cp := by rw [hcd, hch, hcp]; exact er.fault_eq
  rw [hfv]
  have HSM := Lib.hid (show decide (er.code = cd ∧ er.has = ch ∧ er.pos = cp) = true by rw [hcd, hch, hcp]; simp)
  unfold fv
  clear hfv hcd hch hcp
  have bq := below_alloc w6 (.cells #[.int .i64 cd, .bool ch, .int .i64 cp] 54)
  have rowq := heap_alloc_new w6 (.cells #[.int .i64 cd, .bool ch, .int .i64 cp] 54)
  go_upto_region 8 with fail
  obtain ⟨w7, hw7⟩ : ∃ w7, w7 = w6.alloc (.cells #[.int .i64 cd, .bool ch, .int .i64 cp] 54) := ⟨_, rfl⟩
  obtain ⟨gf, hgf⟩ : ∃ g, g = w6.heap.size := ⟨_, rfl⟩
  rw [← hw7] at bq rowq ⊢
  rw [← hgf] at rowq ⊢
  clear hw7 hgf
  have B7 := nxt B6 bq
  have b57 := nxt b6 bq
  have hrd7 := hrd.below b57
  have hrx7 := hrx.below bq
  have hfr7 := (hfr.below b57)
  clear hrd hrx hfr b6 bq b57
  have KK : ∀ W, Below w7.drew.heap.size w7.drew W → (fun W => Below w7.drew.heap.size w7.drew W ∧ (W.cell? ⟨gf, 0, none⟩ = some (.int .i64 cd) ∧ W.cell? ⟨gf, 1, none⟩ = some (.bool ch) ∧ W.cell? ⟨gf, 2, none⟩ = some (.int .i64 cp)) ∧ ((W.cell? ⟨g, 0, none⟩ = some (.int .i64 k) ∧ W.cell? ⟨g, 1, none⟩ = some (.int .i64 m.id) ∧ W.cell? ⟨g, 2, none⟩ = some (.int .i64 m.base) ∧ W.cell? ⟨g, 3, none⟩ = some (.int .i64 m.fin) ∧ W.cell? ⟨g, 4, none⟩ = some (.int .i64 m.time) ∧ W.cell? ⟨g, 5, none⟩ = some (.slice ae m.eps.length ce) ∧ W.cell? ⟨g, 6, none⟩ = some (.slice ao m.objs.length co)) ∧ (W.cell? ⟨g2, 0, none⟩ = some (.int .i64 l) ∧ W.cell? ⟨g2, 1, none⟩ = some (.int .i64 n.id) ∧ W.cell? ⟨g2, 2, none⟩ = some (.int .i64 n.base) ∧ W.cell? ⟨g2, 3, none⟩ = some (.int .i64 n.fin) ∧ W.cell? ⟨g2, 4, none⟩ = some (.int .i64 n.time) ∧ W.cell? ⟨g2, 5, none⟩ = some (.slice be n.eps.length de) ∧ W.cell? ⟨g2, 6, none⟩ = some (.slice bo n.objs.length do')))) W := fun W hW => by
    have bW : Below w7.heap.size w7 W := nxt (Below.refl _ _).drew hW
    have r := heap_below bW rowq
    exact ⟨hW, ⟨cell_of_row _ _ 0 _ _ _ r, cell_of_row _ _ 1 _ _ _ r, cell_of_row _ _ 2 _ _ _ r⟩, D W (nxt B7 bW)⟩
  have BD := nxt B1 (nxt B7 (Below.refl w7.heap.size w7).drew)
  have hsame := same_calls (w := w7.drew) (hS.below BD) hall vf er (hfr7.at.below (Below.refl _ _).drew) cd cp ch
  rw [HSM.out] at hsame
  have hsb := fun W (hW : Below w7.drew.heap.size w7.drew W) => sameBytes_calls _ _ LB LB W ((hrd7.below (Below.refl _ _).drew).below hW) ((hrx7.below (Below.refl _ _).drew).below hW)
  simp only [show ∀ x : List UInt8, (x == x) = true from fun x => beq_self_eq_true x] at hsb
  have hn1 := fun W => entNext_is st kd W
  have hn2 := fun W => refNext_is st kd W
  obtain ⟨NB, hNB⟩ : ∃ x, x = nextB st kd := ⟨_, rfl⟩
  rw [← hNB] at hn1 hn2
  obtain ⟨SB, hSB⟩ : ∃ x, x = decide (k = l ∧ m = n) := ⟨_, rfl⟩
  rw [← hSB] at hes hrs
  have HSB := Lib.hid hSB
  clear hNB hSB
  refine wp_region_ord (S := (fun W => Below w7.drew.heap.size w7.drew W ∧ (W.cell? ⟨gf, 0, none⟩ = some (.int .i64 cd) ∧ W.cell? ⟨gf, 1, none⟩ = some (.bool ch) ∧ W.cell? ⟨gf, 2, none⟩ = some (.int .i64 cp)) ∧ ((W.cell? ⟨g, 0, none⟩ = some (.int .i64 k) ∧ W.cell? ⟨g, 1, none⟩ = some (.int .i64 m.id) ∧ W.cell? ⟨g, 2, none⟩ = some (.int .i64 m.base) ∧ W.cell? ⟨g, 3, none⟩ = some (.int .i64 m.fin) ∧ W.cell? ⟨g, 4, none⟩ = some (.int .i64 m.time) ∧ W.cell? ⟨g, 5, none⟩ = some (.slice ae m.eps.length ce) ∧ W.cell? ⟨g, 6, none⟩ = some (.slice ao m.objs.length co)) ∧ (W.cell? ⟨g2, 0, none⟩ = some (.int .i64 l) ∧ W.cell? ⟨g2, 1, none⟩ = some (.int .i64 n.id) ∧ W.cell? ⟨g2, 2, none⟩ = some (.int .i64 n.base) ∧ W.cell? ⟨g2, 3, none⟩ = some (.int .i64 n.fin) ∧ W.cell? ⟨g2, 4, none⟩ = some (.int .i64 n.time) ∧ W.cell? ⟨g2, 5, none⟩ = some (.slice be n.eps.length de) ∧ W.cell? ⟨g2, 6, none⟩ = some (.slice bo n.objs.length do'))))) [(0, true), (1, true), (2, false), (3, true), (4, true), (5, true), (6, true), (7, false), (8, true), (9, true), (10, true), (11, true), (12, true), (14, true), (15, true), (13, false), (16, false), (17, true), (18, true), (19, true), (20, true), (21, true), (23, true), (24, true), (22, false), (25, false), (26, true), (27, true)] (by kernel_rfl) (by kernel_rfl) rfl (by kernel_rfl) (fun _ _ _ _ _ h => h) (KK _ (Below.refl _ _)) ?_
  simp only [List.map_cons, List.map_nil, List.getElem?_toArray, List.getElem?_cons_succ, List.getElem?_cons_zero]
  iterate 2 (refine ord_take (v := ?_) (by kernel_rfl) (fun w hSw => ?_) ?_; rotate_left; (focus ((obtain ⟨hSb, ⟨p0, p1, p2⟩, ⟨⟨d0, d1, d2, d3, d4, d5, d6⟩, ⟨e0, e1, e2, e3, e4, e5, e6⟩⟩⟩ := hSw); go_simp; (first | done | with_reducible rfl))); simp only [Act.put, List.setIfInBounds_toArray, List.set_cons_zero, List.set_cons_succ])
  refine ord_do (by kernel_rfl) (fun K hK => ?_)
  go_simp
  go_at_call 27
  refine (hsame).mono ?_
  rintro e wa ⟨rfl, ba⟩
  show K _ _
  refine hK.out _ _ (KK _ ba) ?_
  clear hK
  try simp only [Act.put, List.setIfInBounds_toArray, List.set_cons_zero, List.set_cons_succ]
  iterate 4 (refine ord_take (v := ?_) (by kernel_rfl) (fun w hSw => ?_) ?_; rotate_left; (focus ((obtain ⟨hSb, ⟨p0, p1, p2⟩, ⟨⟨d0, d1, d2, d3, d4, d5, d6⟩, ⟨e0, e1, e2, e3, e4, e5, e6⟩⟩⟩ := hSw); go_simp; (first | done | with_reducible rfl))); simp only [Act.put, List.setIfInBounds_toArray, List.set_cons_zero, List.set_cons_succ])
  refine ord_do (by kernel_rfl) (fun K hK => ?_)
  go_simp
  go_at_call 15
  refine (hsb wa ba).mono ?_
  rintro e wb' ⟨rfl, nq2, hwb⟩
  obtain ⟨wb, hwb'⟩ : ∃ x, x = wb' := ⟨_, rfl⟩
  rw [← hwb'] at hwb ⊢
  have bb : Below w7.drew.heap.size w7.drew wb := by rw [hwb]; exact below_drewN ba _
  clear hwb hwb'
  show K _ _
  refine hK.out _ _ (KK _ bb) ?_
  clear hK
  try simp only [Act.put, List.setIfInBounds_toArray, List.set_cons_zero, List.set_cons_succ]
  iterate 7 (refine ord_take (v := ?_) (by kernel_rfl) (fun w hSw => ?_) ?_; rotate_left; (focus ((obtain ⟨hSb, ⟨p0, p1, p2⟩, ⟨⟨d0, d1, d2, d3, d4, d5, d6⟩, ⟨e0, e1, e2, e3, e4, e5, e6⟩⟩⟩ := hSw); go_simp; (first | done | with_reducible rfl))); simp only [Act.put, List.setIfInBounds_toArray, List.set_cons_zero, List.set_cons_succ])
  refine ord_do (by kernel_rfl) (fun K hK => ?_)
  go_simp
  go_at_call 28
  refine (hn1 wb).mono ?_
  rintro e wc ⟨rfl, bc'⟩
  have bc := nxt bb bc'
  show K _ _
  refine hK.out _ _ (KK _ bc) ?_
  clear hK
  try simp only [Act.put, List.setIfInBounds_toArray, List.set_cons_zero, List.set_cons_succ]
  refine ord_do (by kernel_rfl) (fun K hK => ?_)
  go_simp
  go_at_call 29
  refine (hn2 wc).mono ?_
  rintro e wd ⟨rfl, bd'⟩
  have bd := nxt bc bd'
  show K _ _
  refine hK.out _ _ (KK _ bd) ?_
  clear hK
  try simp only [Act.put, List.setIfInBounds_toArray, List.set_cons_zero, List.set_cons_succ]
  have hnn : (NB != NB) = false := by simp
  have hss : (SB != SB) = false := by simp
  iterate 7 (refine ord_take (v := ?_) (by kernel_rfl) (fun w hSw => ?_) ?_; rotate_left; (focus ((obtain ⟨hSb, ⟨p0, p1, p2⟩, ⟨⟨d0, d1, d2, d3, d4, d5, d6⟩, ⟨e0, e1, e2, e3, e4, e5, e6⟩⟩⟩ := hSw); go_simp; (first | done | with_reducible rfl))); simp only [Act.put, List.setIfInBounds_toArray, List.set_cons_zero, List.set_cons_succ])
  refine ord_do (by kernel_rfl) (fun K hK => ?_)
  go_simp
  go_at_call 30
  refine (hes wd (nxt BD bd)).mono ?_
  rintro e we ⟨rfl, be'⟩
  have be1 := nxt bd be'
  show K _ _
  refine hK.out _ _ (KK _ be1) ?_
  clear hK
  try simp only [Act.put, List.setIfInBounds_toArray, List.set_cons_zero, List.set_cons_succ]
  refine ord_do (by kernel_rfl) (fun K hK => ?_)
  go_simp
  go_at_call 31
  refine (hrs we (nxt BD be1)).mono ?_
  rintro e wf ⟨rfl, bf'⟩
  have bf := nxt be1 bf'
  show K _ _
  refine hK.out _ _ (KK _ bf) ?_
  clear hK
  try simp only [Act.put, List.setIfInBounds_toArray, List.set_cons_zero, List.set_cons_succ]
  iterate 2 (refine ord_take (v := ?_) (by kernel_rfl) (fun w hSw => ?_) ?_; rotate_left; (focus ((obtain ⟨hSb, ⟨p0, p1, p2⟩, ⟨⟨d0, d1, d2, d3, d4, d5, d6⟩, ⟨e0, e1, e2, e3, e4, e5, e6⟩⟩⟩ := hSw); go_simp; (first | done | with_reducible rfl))); simp only [Act.put, List.setIfInBounds_toArray, List.set_cons_zero, List.set_cons_succ])
  refine ord_nil ?_
  have b7f : Below w7.heap.size w7 wf := nxt (Below.refl _ _).drew bf
  have Bf := nxt B7 b7f
  have hfrf := hfr7.below b7f
  have hrdf := hrd7.below b7f
  clear hsame hsb hn1 hn2 hes hrs KK BD ba bb bc bc' bd bd' be1 be' bf bf' hrd7 hrx7 hfr7
  by_cases hef : er = .fine
  case neg =>
    obtain ⟨T, u, rfl⟩ := hfrf.not_nil hef
    go_wp2_with fail
    go_ret
    exact ⟨rfl, nxt B1 Bf⟩
  subst hef
  have hvf : vf = .nilIface := hfrf
  subst hvf
  obtain ⟨hs0, hk1, hk4, hmk⟩ := HER.out.fine
  have hLB : LB = entB seq k m := by rw [HLB.out]; rfl
  have hml := mbody_len m hmk HK.out
  have hLl : LB.length ≤ 10021 ∧ 21 ≤ LB.length := by rw [hLB, entB_len]; omega
  have HEG := Lib.hid (egood_put hmk HK.out hs0 HSQ.out hk1 hk4 bh)
  have HCUT := Lib.hid (fun j (hj : j < LB.length) => egood_cut (seq := seq) (k := k) hmk HK.out j (by rw [← hLB]; exact hj))
  have HLE := Lib.hid hLB
  obtain ⟨N, hN⟩ : ∃ N, N = LB.length := ⟨_, rfl⟩
  have hNb : N ≤ 10021 ∧ 21 ≤ N := by rw [hN]; exact hLl
  have hrdN : Rd wf 1 (.slice av N cv) LB.length (bvs LB) := by rw [hN]; exact hrdf
  have HN := Lib.hid hN
  have hcv := hrdf.cap
  rw [← hN] at hcv ⊢
  have hbhf := HBH.out.below (nxt B1 Bf)
  have hrbs := refBytes_calls _ LB wf hrdN (by rw [← HN.out]; omega)
  rw [← HN.out] at hrbs
  obtain ⟨hNb1, hNb2⟩ := hNb
  clear hLB hml hLl hN hfrf hrdf hs0 hk1 hk4 hmk HER HLB
  go_wp2_with fail
  with_reducible refine hrbs.mono ?_
  rintro e wg ⟨vg, rfl, og, bg⟩
  obtain ⟨ag, cg, rfl⟩ := owns_slice og
  have Bg := nxt Bf bg
  have hbhg := hbhf.below bg
  have hszg := bg.size
  clear hrbs
  go_wp2_with (at_builtin; refine wpList_append_rd rfl _ _ 30 rfl wf.heap.size 5 i0 (.int .u8 0) 1 1 Tryd.underlying30 hi0 hz0 hz1 hz2 rfl (by decide) _ N _ rfl og _ _ (bvs bh) rfl hbhg (bvs_one _) ?c3 ?c4 ?c5 ?_)
  case c3 => unfold maxLen; omega
  case c4 => omega
  case c5 => exact hszg
  intro vh wh oh Tr
  have bh' : Below wf.heap.size wf wh := Tr wf bg (Nat.le_refl _)
  have Bh := nxt Bf bh'
  clear Tr og
  have hrh : Rd wh 1 vh (LB ++ bh).length (bvs (LB ++ bh)) := by
    rw [List.length_append, bvs_append, ← HN.out]; exact Rd.of_owns oh
  obtain ⟨ah, chh, rfl⟩ := owns_slice oh
  have hER := entRead_calls S A (hS.below (nxt B1 Bh)) (hall 0 (by decide)) (hall 1 (by decide)) (hall 2 (by decide)) (hall 3 (by decide)) (hall 4 (by decide)) (hall 5 (by decide)) (hall 11 (by decide)) hrh (by rw [List.length_append, ← HN.out]; omega)
  clear oh hrh
  go_wp2_with fail
  with_reducible refine hER.mono ?_
  rintro e wi ⟨bi, hci⟩
  have Bi := nxt Bh bi
  clear hER
  rcases hci with ⟨s', k', m', ve', vo', n', hg', rfl, oe', oo'⟩ | ⟨T, u, -, hno, -⟩
  case inr => exact absurd (by rw [HLE.out]; exact HEG.out) (hno seq k m _)
  obtain ⟨rfl, rfl, rfl, hn'⟩ := EGood.uniq (by rw [HLE.out] at hg'; exact hg') HEG.out
  have hnN : n' = N := by rw [hn', HN.out, HLE.out]
  subst hnN
  obtain ⟨ae', ce', rfl⟩ := owns_slice oe'
  obtain ⟨ao', co', rfl⟩ := owns_slice oo'
  have HMY : Hid (ManRd wi m' (.slice ae' m'.eps.length ce') (.slice ao' m'.objs.length co')) := Lib.hid ⟨Rd.of_owns oe', Rd.of_owns oo'⟩
  unfold entA
  clear hg' oe' oo' hn' HEG
  have by1 := below_alloc wi (.cells #[.int .i64 k', .int .i64 m'.id, .int .i64 m'.base, .int .i64 m'.fin, .int .i64 m'.time, .slice ae' m'.eps.length ce', .slice ao' m'.objs.length co'] 27)
  have rowy := heap_alloc_new wi (.cells #[.int .i64 k', .int .i64 m'.id, .int .i64 m'.base, .int .i64 m'.fin, .int .i64 m'.time, .slice ae' m'.eps.length ce', .slice ao' m'.objs.length co'] 27)
  go_upto_region 13 with fail
  obtain ⟨wj, hwj⟩ : ∃ x, x = wi.alloc (.cells #[.int .i64 k', .int .i64 m'.id, .int .i64 m'.base, .int .i64 m'.fin, .int .i64 m'.time, .slice ae' m'.eps.length ce', .slice ao' m'.objs.length co'] 27) := ⟨_, rfl⟩
  obtain ⟨gy, hgy⟩ : ∃ g, g = wi.heap.size := ⟨_, rfl⟩
  rw [← hwj] at by1 rowy ⊢
  rw [← hgy] at rowy ⊢
  clear hwj hgy
  have Bj := nxt Bi by1
  have bfj : Below wf.heap.size wf wj := nxt bh' (nxt bi by1)
  have hnum := number_calls cut (n' : Int) wj (by omega) (by omega)
  go_wp2_with fail
  with_reducible refine hnum.mono ?_
  rintro e wj' ⟨rfl, rfl⟩
  obtain ⟨j, hj, hjl⟩ : ∃ j : Nat, cut % (n' : Int) = (j : Int) ∧ j < n' := by
    have e1 := Int.emod_nonneg cut (show (n' : Int) ≠ 0 by omega)
    have e2 := Int.emod_lt_of_pos cut (show (0 : Int) < (n' : Int) by omega)
    exact ⟨(cut % (n' : Int)).toNat, by omega, by omega⟩
  rw [hj]
  clear hj hnum
  obtain ⟨xj, yj, sj, pj⟩ := part_all av n' cv 1 0 j (by omega) (by omega)
  have uj : ∀ W, (Instr.sliceAt 30 (.slice av n' cv) none (some (.int .i64 (j : Int))) none).run Tryd.prog W = .ok (.slice xj j yj) W := fun W => by
    rw [run_cut_h 30 sl_u8 1 sz_u8 av n' cv j .i64 (by omega) W, sj]; rfl
  have hrdM : Rd wj 1 (.slice av n' cv) n' (bvs LB) := by
    have h1 := hrdN.below bfj
    rw [← HN.out] at h1
    exact h1
  have rj := pj wj _ hrdM
  rw [Nat.sub_zero, Nat.zero_mul, Nat.mul_one, List.drop_zero, ← bvs_take] at rj
  have htl : (LB.take j).length = j := by rw [List.length_take, ← HN.out]; omega
  have hER2 := entRead_calls S A (hS.below (nxt B1 Bj)) (hall 0 (by decide)) (hall 1 (by decide)) (hall 2 (by decide)) (hall 3 (by decide)) (hall 4 (by decide)) (hall 5 (by decide)) (hall 11 (by decide)) (v := .slice xj j yj) (bs := LB.take j) (by rw [htl]; exact rj) (by omega)
  have hcut := HCUT.out j (by rw [← HN.out]; exact hjl)
  rw [← HLE.out] at hcut
  have HC := Lib.hid hcut
  clear rj htl sj pj hcut
  go_wp2_with fail
  with_reducible refine hER2.mono ?_
  rintro e wk ⟨bk, hck⟩
  have Bk := nxt Bj bk
  clear hER2 uj
  rcases hck with ⟨s2, k2, m2, ve2, vo2, n2, hg2, -⟩ | ⟨T, u, rfl, -, hend⟩
  case inl => exact absurd hg2 (HC.out.1 s2 k2 m2 n2)
  have HEND := Lib.hid (hend HC.out.2)
  unfold zeroE
  clear hend
  go_upto_region 14 with fail
  have bm := bAlloc bk (.cells #[.int .i64 0, .int .i64 0, .int .i64 0, .int .i64 0, .int .i64 0, .slice none 0 0, .slice none 0 0] 27)
  generalize wk.alloc (.cells #[.int .i64 0, .int .i64 0, .int .i64 0, .int .i64 0, .int .i64 0, .slice none 0 0, .slice none 0 0] 27) = wm at *
  have Bm := nxt Bj bm
  have rowym := heap_below bm rowy
  have y0 : wm.cell? ⟨gy, 0, none⟩ = some (.int .i64 k') := cell_of_row _ _ 0 _ _ _ rowym
  have y1 : wm.cell? ⟨gy, 1, none⟩ = some (.int .i64 m'.id) := cell_of_row _ _ 1 _ _ _ rowym
  have y2 : wm.cell? ⟨gy, 2, none⟩ = some (.int .i64 m'.base) := cell_of_row _ _ 2 _ _ _ rowym
  have y3 : wm.cell? ⟨gy, 3, none⟩ = some (.int .i64 m'.fin) := cell_of_row _ _ 3 _ _ _ rowym
  have y4 : wm.cell? ⟨gy, 4, none⟩ = some (.int .i64 m'.time) := cell_of_row _ _ 4 _ _ _ rowym
  have y5 : wm.cell? ⟨gy, 5, none⟩ = some (.slice ae' m'.eps.length ce') := cell_of_row _ _ 5 _ _ _ rowym
  have y6 : wm.cell? ⟨gy, 6, none⟩ = some (.slice ao' m'.objs.length co') := cell_of_row _ _ 6 _ _ _ rowym
  obtain ⟨⟨d0, d1, d2, d3, d4, d5, d6⟩, -⟩ := D wm Bm
  have hse := refSameEnt_calls (k := k') (l := k') (HMY.out.below (nxt by1 bm)) (HM.out.below (nxt B1 Bm))
  rw [decide_eq_true (show k' = k' ∧ m' = m' from ⟨rfl, rfl⟩)] at hse
  unfold entA at hse
  go_wp2_with fail
  with_reducible refine hse.mono ?_
  rintro e wn ⟨rfl, bn⟩
  have Bn := nxt Bm bn
  have his := is_calls (hS.below (nxt B1 Bn)) hall (.iface T u) (.bare 0) (by rw [HEND.out]; exact ⟨by omega, rfl⟩) 101
  rw [show decide ((Er.bare 0).code = 101 ∧ (Er.bare 0).has = false ∧ (Er.bare 0).pos = 0) = true from by decide] at his
  clear hse
  go_wp2_with fail
  with_reducible refine his.mono ?_
  rintro e wo ⟨rfl, bo'⟩
  go_wp2_with fail
  go_ret
  exact ⟨rfl, nxt B1 (nxt Bn bo')⟩
end Go.Proofs.YtldopocmmeidkaaDoor
