/- How a row of entries comes in: for the row. -/
import Derived.Test.YtldopocmmeidkaaDoorRowEnt
import Derived.Test.YtldopocmmeidkaaDoorEntAll
namespace Go.Proofs.YtldopocmmeidkaaDoor
open Go Go.ChangeShapes Go.WideShapes Go.ChangeAt Go.RowKit Go.Deep Man Vint

set_option maxRecDepth 100000 in
theorem rd_ents {H : Type} {enc : TypeId × Value → H} {W : World} {base : Nat} {held : Bool} {a : Option Addr} {len cap : Nat} {d : DataW H} {p : List MemPlace}
    (h : DataW.Trod enc Tryd.prog W base (fun _ => true) held 67 (.slice a len cap) d p) : ∃ l : List EntR, l.length = len ∧ Rd W 7 (.slice a len cap) l.length (l.flatMap entV) ∧ ∀ x ∈ l, ManRd W x.m x.ve x.vo ∧ Man.Ok x.m := by
  obtain ⟨cells, hr, he⟩ := rd_elems Tryd.underlying67 7 (by kernel_rfl) h
  obtain ⟨xs, h1, h2, h3⟩ := flat_of entV 7 (fun x : EntR => ManRd W x.m x.ve x.vo ∧ Man.Ok x.m) len cells hr.1 (fun i hi => by
    obtain ⟨n, x, hn⟩ := he i hi
    generalize (cells.drop (i * 7)).take 7 = cs at *
    obtain ⟨ys, n', hn', hy, hlen, hyl, hf⟩ := DataW.trod_struct Tryd.underlying27 hn
    have e7 : Tryd.prog.cellsOf 27 = 7 := by kernel_rfl
    have e6 : Tryd.prog.cellsOf 25 = 6 := by kernel_rfl
    have e1 : Tryd.prog.cellsOf 3 = 1 := by kernel_rfl
    have hyl2 : ys.length = 2 := hyl
    have h0 : DataW.trod enc Tryd.prog W base (fun _ => true) held n' 3 (List.take (Tryd.prog.cellsOf 3) (List.drop 0 cs)) = ys[0]? := hf 0 _ rfl
    have h1 : DataW.trod enc Tryd.prog W base (fun _ => true) held n' 25 (List.take (Tryd.prog.cellsOf 25) (List.drop 1 cs)) = ys[1]? := hf 1 _ rfl
    rw [e6] at h1
    rw [e1] at h0
    have hl : cs.length = 7 := hlen.trans e7
    rw [List.getElem?_eq_getElem (by omega)] at h0 h1
    obtain ⟨m, ve, vo, hm, hr, hk⟩ := rd_mani h1
    match cs, hl, h0, hm with
    | [x0, x1, x2, x3, x4, x5, x6], _, h0, hm =>
      simp only [List.drop_zero, List.take_succ_cons, List.take_zero] at h0
      obtain ⟨q, rfl, wq⟩ := int_cell (k := .i64) (by kernel_rfl) h0
      unfold manV at hm
      simp only [List.drop_succ_cons, List.drop_zero, List.take_succ_cons, List.take_zero, List.cons.injEq, and_true] at hm
      obtain ⟨rfl, rfl, rfl, rfl, rfl, rfl⟩ := hm
      exact ⟨⟨q, m, x5, x6⟩, ⟨hr, hk⟩, rfl⟩)
  subst h1
  exact ⟨xs, rfl, by rw [← h2]; exact hr, h3⟩
end Go.Proofs.YtldopocmmeidkaaDoor
