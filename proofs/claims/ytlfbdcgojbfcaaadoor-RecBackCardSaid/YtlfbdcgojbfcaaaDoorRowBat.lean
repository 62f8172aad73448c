/- How a batch comes in: for the row. -/
import Derived.Test.YtlfbdcgojbfcaaaDoorRowFlat
import Derived.Test.YtlfbdcgojbfcaaaDoorRecValid
namespace Go.Proofs.YtlfbdcgojbfcaaaDoor
open Go Go.ChangeShapes Go.WideShapes Go.ChangeAt Go.RowKit Go.Deep Rec

/-- A struct whose fields are of one cell each: each field's cell, opened. -/
theorem trod_cells {H : Type} {enc : TypeId × Value → H} {P : Program} {W : World} {base : Nat} {held : Bool} {E : TypeId} {fs : Array Field} {cs : List Value} {n : Nat} {x : DataW H × List MemPlace}
    (hE : P.underlying E = some (.struct fs)) (hone : oneCellFields P fs = true) (hC : P.cellsOf E = fs.size) (h : DataW.trod enc P W base (fun _ => true) held n E cs = some x) :
    cs.length = fs.size ∧ ∀ (j : Nat) (f : Field), fs[j]? = some f → ∃ c n' y, cs[j]? = some c ∧ DataW.trod enc P W base (fun _ => true) held n' f.type [c] = some y := by
  obtain ⟨ys, n', hn', hy, hlen, hyl, hf⟩ := DataW.trod_struct hE h
  refine ⟨by omega, fun j f hj => ?_⟩
  have hjl : j < fs.size := (Array.getElem?_eq_some_iff.1 hj).1
  obtain ⟨ho, hc1⟩ := hone_of hone j f hj
  have h1 := hf j f hj
  rw [ho, hc1] at h1
  have hys : ys[j]? = some (ys[j]'(by omega)) := List.getElem?_eq_getElem (by omega)
  rw [hys] at h1
  have hjc : j < cs.length := by omega
  rw [List.drop_eq_getElem_cons hjc] at h1
  simp only [List.take_succ_cons, List.take_zero] at h1
  exact ⟨cs[j], n', _, List.getElem?_eq_getElem hjc, h1⟩
theorem slice_cell {H : Type} {enc : TypeId × Value → H} {P : Program} {W : World} {base : Nat} {held : Bool} {T e : TypeId} {c : Value} {n : Nat} {y : DataW H × List MemPlace}
    (hT : P.underlying T = some (.slice e)) (h : DataW.trod enc P W base (fun _ => true) held n T [c] = some y) : ∃ a len cap, c = .slice a len cap ∧ DataW.Trod enc P W base (fun _ => true) held T (.slice a len cap) y.1 y.2 := by
  have hc : ∃ a len cap, c = .slice a len cap := by
    rcases open_slice hT h with ⟨hcs, _⟩ | ⟨x, l, cp, m, n, D, Pl, hcs, _⟩
    · simp only [List.cons.injEq, and_true] at hcs; exact ⟨_, _, _, hcs⟩
    · simp only [List.cons.injEq, and_true] at hcs; exact ⟨_, _, _, hcs⟩
  obtain ⟨a, len, cap, rfl⟩ := hc
  exact ⟨a, len, cap, rfl, n, by simpa [Value.cells] using h⟩
theorem int_cell {H : Type} {enc : TypeId × Value → H} {P : Program} {W : World} {base : Nat} {held : Bool} {T : TypeId} {k : IntKind} {c : Value} {n : Nat} {y : DataW H × List MemPlace}
    (hT : P.underlying T = some (.int k)) (h : DataW.trod enc P W base (fun _ => true) held n T [c] = some y) : ∃ q : Int, c = .int k q ∧ (Lit.int k q).wf = true := by
  obtain ⟨q, hq, _, hw⟩ := DataW.trod_int hT h
  simp only [List.cons.injEq, and_true] at hq
  exact ⟨q, hq, hw⟩

set_option maxRecDepth 100000 in
theorem rd_recs {H : Type} {enc : TypeId × Value → H} {W : World} {base : Nat} {held : Bool} {a : Option Addr} {len cap : Nat} {d : DataW H} {p : List MemPlace}
    (h : DataW.Trod enc Tryd.prog W base (fun _ => true) held 32 (.slice a len cap) d p) : ∃ l : List RecD, l.length = len ∧ RecsRd W (.slice a len cap) l := by
  obtain ⟨cells, hr, he⟩ := rd_elems Tryd.underlying32 3 (by kernel_rfl) h
  obtain ⟨xs, h1, h2, h3⟩ := flat_of recV 3 (fun x => x.lies W) len cells hr.1 (fun i hi => by
    obtain ⟨n, x, hx⟩ := he i hi
    obtain ⟨hl, hc⟩ := trod_cells Tryd.underlying44 (by kernel_rfl) (by kernel_rfl) hx
    generalize (cells.drop (i * 3)).take 3 = cs at *
    obtain ⟨c0, n0, y0, e0, t0⟩ := hc 0 _ rfl
    obtain ⟨c1, n1, y1, e1, t1⟩ := hc 1 _ rfl
    obtain ⟨c2, n2, y2, e2, t2⟩ := hc 2 _ rfl
    obtain ⟨q, rfl, _⟩ := int_cell (k := .i64) (by kernel_rfl) t0
    obtain ⟨a1, l1, p1, rfl, u1⟩ := slice_cell Tryd.underlying42 t1
    obtain ⟨a2, l2, p2, rfl, u2⟩ := slice_cell Tryd.underlying42 t2
    obtain ⟨k, rfl, rk⟩ := rd_bytes Tryd.underlying42 Tryd.underlying5 (by kernel_rfl) u1
    obtain ⟨vl, rfl, rv⟩ := rd_bytes Tryd.underlying42 Tryd.underlying5 (by kernel_rfl) u2
    refine ⟨⟨⟨q, k, vl⟩, _, _⟩, ⟨rk, rv⟩, ?_⟩
    match cs, hl, e0, e1, e2 with
    | [x0, x1, x2], _, e0, e1, e2 =>
      simp at e0 e1 e2
      subst e0; subst e1; subst e2
      rfl)
  subst h1
  exact ⟨xs.map (·.d), by rw [List.length_map], xs, rfl, by rw [← h2]; exact hr, h3⟩

set_option maxRecDepth 100000 in
theorem rd_batch {H : Type} {enc : TypeId × Value → H} {W : World} {base : Nat} {held : Bool} {r : Reach} {b0 : Nat} {v : Value} {d : DataW H} {p : List MemPlace}
    (hval : Value.okWide Tryd.prog W r b0 34 v) (h : DataW.Trod enc Tryd.prog W base (fun _ => true) held 34 v d p) : ∃ (b : BatD) (vr : Value), v = batA b vr ∧ RecsRd W vr b.recs := by
  unfold Value.okWide at hval
  rw [Tryd.underlying34] at hval
  obtain ⟨cs, rfl, hsz, _⟩ := hval
  obtain ⟨n, hn⟩ := h
  obtain ⟨hl, hc⟩ := trod_cells Tryd.underlying34 (by kernel_rfl) (by kernel_rfl) hn
  simp only [Value.cells] at hl hc
  obtain ⟨c0, n0, y0, e0, t0⟩ := hc 0 _ rfl
  obtain ⟨c1, n1, y1, e1, t1⟩ := hc 1 _ rfl
  obtain ⟨c2, n2, y2, e2, t2⟩ := hc 2 _ rfl
  obtain ⟨q0, rfl, _⟩ := int_cell (k := .i64) (by kernel_rfl) t0
  obtain ⟨q1, rfl, _⟩ := int_cell (k := .i64) (by kernel_rfl) t1
  obtain ⟨a2, l2, p2, rfl, u2⟩ := slice_cell Tryd.underlying32 t2
  obtain ⟨l, rfl, rl⟩ := rd_recs u2
  refine ⟨⟨q0, q1, l⟩, .slice a2 l.length p2, ?_, rl⟩
  unfold batA
  congr 1
  obtain ⟨cl⟩ := cs
  match cl, hl, e0, e1, e2 with
  | [x0, x1, x2], _, e0, e1, e2 =>
    simp at e0 e1 e2
    subst e0; subst e1; subst e2
    rfl
end Go.Proofs.YtlfbdcgojbfcaaaDoor
