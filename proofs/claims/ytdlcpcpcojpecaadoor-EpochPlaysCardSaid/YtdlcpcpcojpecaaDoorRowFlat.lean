/- How a slice of structs that came in reads: for the rows. No function is named here. -/
import Derived.Test.YtdlcpcpcojpecaaDoorRowBase
import Derived.Test.YtdlcpcpcojpecaaDoorBase
import Derived.Deep.Slices
import Derived.Deep.Fields
namespace Go.Proofs.YtdlcpcpcojpecaaDoor
open Go Go.ChangeShapes Go.WideShapes Go.ChangeAt Go.RowKit Go.Deep

theorem rd_elems {H : Type} {enc : TypeId × Value → H} {P : Program} {W : World} {base : Nat} {held : Bool} {T E : TypeId} {a : Option Addr} {len cap : Nat} {d : DataW H} {p : List MemPlace}
    (hT : P.underlying T = some (.slice E)) (C : Nat) (hC : P.cellsOf E = C) (h : DataW.Trod enc P W base (fun _ => true) held T (.slice a len cap) d p) :
    ∃ cells : List Value, Rd W C (.slice a len cap) len cells ∧ ∀ i, i < len → ∃ n x, DataW.trod enc P W base (fun _ => true) held n E ((cells.drop (i * C)).take C) = some x := by
  obtain ⟨fuel, hf⟩ := h
  rcases open_slice hT hf with ⟨hcs, _⟩ | ⟨x, l, c, m, n, D, Pl, hcs, hb, hl, hm, hmm, _, hi⟩
  · simp [Value.cells] at hcs
    obtain ⟨rfl, rfl, rfl⟩ := hcs
    exact ⟨[], Rd.nil _ _, fun i hi => by omega⟩
  · simp [Value.cells] at hcs
    obtain ⟨rfl, rfl, rfl⟩ := hcs
    simp only [if_true] at hmm
    rw [hC] at hi
    have hch : ∀ i : Nat, ∃ cs : List Value, i < len → cs.length = C ∧ (∀ j, j < C → W.cell? (x.add (i * C + j)) = cs[j]?) ∧ DataW.trod enc P W base (fun _ => true) held n E cs = some (D i, Pl i) := by
      intro i
      by_cases h0 : i < len
      · obtain ⟨cs, h1, h2⟩ := hi i (by omega)
        obtain ⟨_, h3, h4⟩ := World.cells?_some h1
        exact ⟨cs, fun _ => ⟨h3, fun j hj => by rw [← h4 j hj, Go.Deep.add_add], h2⟩⟩
      · exact ⟨[], fun h => absurd h h0⟩
    obtain ⟨f, hf⟩ := Classical.axiomOfChoice hch
    have hlen : ∀ i ∈ List.range len, (f i).length = C := fun i hi => (hf i (List.mem_range.1 hi)).1
    refine ⟨(List.range len).flatMap f, ⟨by rw [flat_length f C _ hlen, List.length_range], .inr ⟨x, cap, rfl, hl, hm, fun j u hu => ?_⟩⟩, fun i hi => ?_⟩
    · have hj : j < len * C := by
        have h1 := (List.getElem?_eq_some_iff.1 hu).1
        rwa [flat_length f C _ hlen, List.length_range] at h1
      have hC0 : 0 < C := by
        rcases Nat.eq_zero_or_pos C with h0 | h0
        · rw [h0] at hj; omega
        · exact h0
      have hq : j / C < len := Nat.div_lt_of_lt_mul (by rw [Nat.mul_comm]; exact hj)
      have hr : j % C < C := Nat.mod_lt _ hC0
      have he : j = j / C * C + j % C := by rw [Nat.mul_comm]; exact (Nat.div_add_mod j C).symm
      have h2 := flat_at f C (List.range len) hlen (j / C) (by rw [List.length_range]; exact hq) (j % C) hr
      rw [← he, List.getElem_range, hu] at h2
      rw [he, (hf (j / C) hq).2.1 (j % C) hr, ← h2]
    · refine ⟨n, (D i, Pl i), ?_⟩
      rw [flat_take f C _ hlen i (by rw [List.length_range]; exact hi), List.getElem_range]
      exact (hf i hi).2.2

/-- A struct of whole numbers alone. -/
theorem trod_nums {H : Type} {enc : TypeId × Value → H} {P : Program} {W : World} {base : Nat} {held : Bool} {E : TypeId} {fs : Array Field} {cs : List Value} {n : Nat} {x : DataW H × List MemPlace}
    (hE : P.underlying E = some (.struct fs)) (hone : oneCellFields P fs = true) (hC : P.cellsOf E = fs.size) (ks : List IntKind)
    (hk : ∀ j f, fs[j]? = some f → P.underlying f.type = some (.int (ks.getD j .i64))) (h : DataW.trod enc P W base (fun _ => true) held n E cs = some x) :
    ∃ z : Nat → Int, cs = (List.range fs.size).map (fun j => Value.int (ks.getD j .i64) (z j)) ∧ ∀ j, j < fs.size → (Lit.int (ks.getD j .i64) (z j)).wf = true := by
  obtain ⟨ys, n', hn', hy, hlen, hyl, hf⟩ := DataW.trod_struct hE h
  have hch : ∀ j : Nat, ∃ q : Int, j < fs.size → cs[j]? = some (.int (ks.getD j .i64) q) ∧ (Lit.int (ks.getD j .i64) q).wf = true := by
    intro j
    by_cases hj : j < fs.size
    · have hfj : fs[j]? = some fs[j] := Array.getElem?_eq_getElem hj
      obtain ⟨ho, hc1⟩ := hone_of hone j fs[j] hfj
      have h1 := hf j fs[j] hfj
      rw [ho, hc1] at h1
      have hys : ys[j]? = some (ys[j]'(by omega)) := List.getElem?_eq_getElem (by omega)
      rw [hys] at h1
      have hjc : j < cs.length := by omega
      rw [List.drop_eq_getElem_cons hjc] at h1
      obtain ⟨q, hq, _, hw⟩ := DataW.trod_int (hk j fs[j] hfj) h1
      simp only [List.take_succ_cons, List.take_zero, List.cons.injEq, and_true] at hq
      exact ⟨q, fun _ => ⟨by rw [List.getElem?_eq_getElem hjc, hq], hw⟩⟩
    · exact ⟨0, fun h => absurd h hj⟩
  obtain ⟨z, hz⟩ := Classical.axiomOfChoice hch
  refine ⟨z, ?_, fun j hj => (hz j hj).2⟩
  apply List.ext_getElem?
  intro j
  by_cases hj : j < fs.size
  · rw [(hz j hj).1]; simp [hj]
  · rw [List.getElem?_eq_none (by omega), List.getElem?_eq_none (by simp; omega)]
end Go.Proofs.YtdlcpcpcojpecaaDoor
