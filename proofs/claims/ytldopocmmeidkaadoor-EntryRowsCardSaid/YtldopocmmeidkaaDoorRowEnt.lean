/- How an entry comes in: for the row. -/
import Derived.Test.YtldopocmmeidkaaDoorRowFlat
import Derived.Test.YtldopocmmeidkaaDoorRowPair
import Derived.Test.YtldopocmmeidkaaDoorMan
namespace Go.Proofs.YtldopocmmeidkaaDoor
open Go Go.ChangeShapes Go.WideShapes Go.ChangeAt Go.RowKit Go.Deep Man Vint

/-- A struct whose fields are of one cell each: each field's cell, opened. -/
theorem trod_cells {H : Type} {enc : TypeId × Value → H} {P : Program} {W : World} {base : Nat} {held : Bool} {E : TypeId} {fs : Array Field} {cs : List Value} {n : Nat} {x : DataW H × List MemPlace}
    (hE : P.underlying E = some (.struct fs)) (hone : oneCellFields P fs = true) (hC : P.cellsOf E = fs.size) (h : DataW.trod enc P W base (fun _ => true) held n E cs = some x) :
    cs.length = fs.size ∧ ∀ (j : Nat) (f : Field), fs[j]? = some f → ∃ c n' y, cs[j]? = some c ∧ DataW.trod enc P W base (fun _ => true) held n' f.type [c] = some y := by
  obtain ⟨ys, n', hn', hy, hlen, hyl, hf⟩ := DataW.trod_struct hE h
  refine ⟨by omega, fun j f hj => ?_⟩
  have hjl : j < fs.size := (Array.getElem?_eq_some_iff.1 hj).1
  obtain ⟨ho, hc1⟩ := hone_of hone j f hj
  have h1 := hf j f hj
  rw [ho, hc1] at h1
  have hys : ys[j]? = some (ys[j]'(by omega)) := List.getElem?_eq_getElem (by omega)
  rw [hys] at h1
  have hjc : j < cs.length := by omega
  rw [List.drop_eq_getElem_cons hjc] at h1
  simp only [List.take_succ_cons, List.take_zero] at h1
  exact ⟨cs[j], n', _, List.getElem?_eq_getElem hjc, h1⟩
theorem slice_cell {H : Type} {enc : TypeId × Value → H} {P : Program} {W : World} {base : Nat} {held : Bool} {T e : TypeId} {c : Value} {n : Nat} {y : DataW H × List MemPlace}
    (hT : P.underlying T = some (.slice e)) (h : DataW.trod enc P W base (fun _ => true) held n T [c] = some y) : ∃ a len cap, c = .slice a len cap ∧ DataW.Trod enc P W base (fun _ => true) held T (.slice a len cap) y.1 y.2 := by
  have hc : ∃ a len cap, c = .slice a len cap := by
    rcases open_slice hT h with ⟨hcs, _⟩ | ⟨x, l, cp, m, n, D, Pl, hcs, _⟩
    · simp only [List.cons.injEq, and_true] at hcs; exact ⟨_, _, _, hcs⟩
    · simp only [List.cons.injEq, and_true] at hcs; exact ⟨_, _, _, hcs⟩
  obtain ⟨a, len, cap, rfl⟩ := hc
  exact ⟨a, len, cap, rfl, n, by simpa [Value.cells] using h⟩
theorem int_cell {H : Type} {enc : TypeId × Value → H} {P : Program} {W : World} {base : Nat} {held : Bool} {T : TypeId} {k : IntKind} {c : Value} {n : Nat} {y : DataW H × List MemPlace}
    (hT : P.underlying T = some (.int k)) (h : DataW.trod enc P W base (fun _ => true) held n T [c] = some y) : ∃ q : Int, c = .int k q ∧ (Lit.int k q).wf = true := by
  obtain ⟨q, hq, _, hw⟩ := DataW.trod_int hT h
  simp only [List.cons.injEq, and_true] at hq
  exact ⟨q, hq, hw⟩
theorem str_cell {H : Type} {enc : TypeId × Value → H} {P : Program} {W : World} {base : Nat} {held : Bool} {T : TypeId} {c : Value} {n : Nat} {y : DataW H × List MemPlace}
    (hT : P.underlying T = some .string) (h : DataW.trod enc P W base (fun _ => true) held n T [c] = some y) : ∃ s : ByteArray, c = .string s ∧ s.size ≤ maxLen := by
  obtain ⟨s, hs, _, hw⟩ := DataW.trod_string hT h
  simp only [List.cons.injEq, and_true] at hs
  exact ⟨s, hs, hw⟩

set_option maxRecDepth 100000 in
theorem rd_objs {H : Type} {enc : TypeId × Value → H} {W : World} {base : Nat} {held : Bool} {a : Option Addr} {len cap : Nat} {d : DataW H} {p : List MemPlace}
    (h : DataW.Trod enc Tryd.prog W base (fun _ => true) held 23 (.slice a len cap) d p) : ∃ l : List ObjD, l.length = len ∧ Rd W 3 (.slice a len cap) l.length (l.flatMap obV) ∧ ∀ o ∈ l, I64 o.len ∧ o.sum < 4294967296 := by
  obtain ⟨cells, hr, he⟩ := rd_elems Tryd.underlying23 3 (by kernel_rfl) h
  obtain ⟨xs, h1, h2, h3⟩ := flat_of obV 3 (fun o => I64 o.len ∧ o.sum < 4294967296) len cells hr.1 (fun i hi => by
    obtain ⟨n, x, hx⟩ := he i hi
    obtain ⟨hl, hc⟩ := trod_cells Tryd.underlying46 (by kernel_rfl) (by kernel_rfl) hx
    generalize (cells.drop (i * 3)).take 3 = cs at *
    obtain ⟨c0, n0, y0, e0, t0⟩ := hc 0 _ rfl
    obtain ⟨c1, n1, y1, e1, t1⟩ := hc 1 _ rfl
    obtain ⟨c2, n2, y2, e2, t2⟩ := hc 2 _ rfl
    obtain ⟨s, rfl, _⟩ := str_cell (by kernel_rfl) t0
    obtain ⟨q, rfl, wq⟩ := int_cell (k := .i64) (by kernel_rfl) t1
    obtain ⟨u, rfl, wu⟩ := int_cell (k := .u32) (by kernel_rfl) t2
    have hu := bounds_u32 wu
    refine ⟨⟨s, q, u.toNat⟩, ⟨i64_of_wf wq, by simp only; omega⟩, ?_⟩
    match cs, hl, e0, e1, e2 with
    | [x0, x1, x2], _, e0, e1, e2 =>
      simp at e0 e1 e2
      subst e0; subst e1; subst e2
      unfold obV
      simp only
      rw [show ((u.toNat : Nat) : Int) = u by omega])
  subst h1
  exact ⟨xs, rfl, by rw [← h2]; exact hr, h3⟩

set_option maxRecDepth 100000 in
theorem rd_mani {H : Type} {enc : TypeId × Value → H} {W : World} {base : Nat} {held : Bool} {n : Nat} {cs : List Value} {x : DataW H × List MemPlace}
    (h : DataW.trod enc Tryd.prog W base (fun _ => true) held n 25 cs = some x) : ∃ (m : ManD) (ve vo : Value), cs = manV m ve vo ∧ ManRd W m ve vo ∧ Man.Ok m := by
  obtain ⟨hl, hc⟩ := trod_cells Tryd.underlying25 (by kernel_rfl) (by kernel_rfl) h
  obtain ⟨c0, n0, y0, e0, t0⟩ := hc 0 _ rfl
  obtain ⟨c1, n1, y1, e1, t1⟩ := hc 1 _ rfl
  obtain ⟨c2, n2, y2, e2, t2⟩ := hc 2 _ rfl
  obtain ⟨c3, n3, y3, e3, t3⟩ := hc 3 _ rfl
  obtain ⟨c4, n4, y4, e4, t4⟩ := hc 4 _ rfl
  obtain ⟨c5, n5, y5, e5, t5⟩ := hc 5 _ rfl
  obtain ⟨q0, rfl, w0⟩ := int_cell (k := .i64) (by kernel_rfl) t0
  obtain ⟨q1, rfl, w1⟩ := int_cell (k := .i64) (by kernel_rfl) t1
  obtain ⟨q2, rfl, w2⟩ := int_cell (k := .i64) (by kernel_rfl) t2
  obtain ⟨q3, rfl, w3⟩ := int_cell (k := .i64) (by kernel_rfl) t3
  obtain ⟨a4, l4, p4, rfl, u4⟩ := slice_cell Tryd.underlying22 t4
  obtain ⟨a5, l5, p5, rfl, u5⟩ := slice_cell Tryd.underlying23 t5
  obtain ⟨eps, rfl, re, be⟩ := rd_pairs u4
  obtain ⟨objs, rfl, ro, bo⟩ := rd_objs u5
  refine ⟨⟨q0, q1, q2, q3, eps, objs⟩, _, _, ?_, ⟨re, ro⟩, ⟨i64_of_wf w0, i64_of_wf w1, i64_of_wf w2, i64_of_wf w3, be, bo⟩⟩
  match cs, hl, e0, e1, e2, e3, e4, e5 with
  | [x0, x1, x2, x3, x4, x5], _, e0, e1, e2, e3, e4, e5 =>
    simp at e0 e1 e2 e3 e4 e5
    subst e0; subst e1; subst e2; subst e3; subst e4; subst e5
    rfl

set_option maxRecDepth 100000 in
theorem rd_entry {H : Type} {enc : TypeId × Value → H} {W : World} {base : Nat} {held : Bool} {r : Reach} {b0 : Nat} {v : Value} {d : DataW H} {p : List MemPlace}
    (hval : Value.okWide Tryd.prog W r b0 27 v) (h : DataW.Trod enc Tryd.prog W base (fun _ => true) held 27 v d p) :
    ∃ (b : Int × ManD) (vr : Value × Value), v = .agg #[.int .i64 b.1, .int .i64 b.2.id, .int .i64 b.2.base, .int .i64 b.2.fin, .int .i64 b.2.time, vr.1, vr.2] ∧ ManRd W b.2 vr.1 vr.2 ∧ Man.Ok b.2 ∧ I64 b.1 := by
  unfold Value.okWide at hval
  rw [Tryd.underlying27] at hval
  obtain ⟨cs, rfl, hsz, _⟩ := hval
  obtain ⟨n, hn⟩ := h
  obtain ⟨ys, n', hn', hy, hlen, hyl, hf⟩ := DataW.trod_struct Tryd.underlying27 hn
  have e7 : Tryd.prog.cellsOf 27 = 7 := by kernel_rfl
  have e6 : Tryd.prog.cellsOf 25 = 6 := by kernel_rfl
  have e1 : Tryd.prog.cellsOf 3 = 1 := by kernel_rfl
  have hyl2 : ys.length = 2 := hyl
  have h0 : DataW.trod enc Tryd.prog W base (fun _ => true) held n' 3 (List.take (Tryd.prog.cellsOf 3) (List.drop 0 cs.toList)) = ys[0]? := hf 0 _ rfl
  have h1 : DataW.trod enc Tryd.prog W base (fun _ => true) held n' 25 (List.take (Tryd.prog.cellsOf 25) (List.drop 1 cs.toList)) = ys[1]? := hf 1 _ rfl
  rw [e6] at h1
  rw [e1] at h0
  have hl : cs.toList.length = 7 := hlen.trans e7
  rw [List.getElem?_eq_getElem (by omega)] at h0 h1
  obtain ⟨m, ve, vo, hm, hr, hk⟩ := rd_mani h1
  obtain ⟨cl⟩ := cs
  match cl, hl, h0, hm with
  | [x0, x1, x2, x3, x4, x5, x6], _, h0, hm =>
    simp only [List.drop_zero, List.take_succ_cons, List.take_zero] at h0
    obtain ⟨q, rfl, wq⟩ := int_cell (k := .i64) (by kernel_rfl) h0
    unfold manV at hm
    simp only [List.drop_succ_cons, List.drop_zero, List.take_succ_cons, List.take_zero, List.cons.injEq, and_true] at hm
    obtain ⟨rfl, rfl, rfl, rfl, rfl, rfl⟩ := hm
    exact ⟨(q, m), (x5, x6), rfl, hr, hk, i64_of_wf wq⟩
end Go.Proofs.YtldopocmmeidkaaDoor
