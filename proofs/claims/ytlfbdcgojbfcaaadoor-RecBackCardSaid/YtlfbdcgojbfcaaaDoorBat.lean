/- Batches in memory: records' rows, each with its key's and its value's bytes. No Go function is named here. -/
import Derived.Test.YtlfbdcgojbfcaaaDoorBase
import Derived.Test.YtlfbdcgojbfcaaaDoorRecMath
namespace Go.Proofs.YtlfbdcgojbfcaaaDoor
open Go Go.RowKit Rec

/-- A record as it lies in a row: its data, where its key and its value lie. -/
structure RecR where
  d : RecD
  vk : Value
  vv : Value

def recV (x : RecR) : List Value := [.int .i64 x.d.time, x.vk, x.vv]
theorem recV_len (l : List RecR) : ∀ x ∈ l, (recV x).length = 3 := fun _ _ => rfl
def RecR.lies (w : World) (x : RecR) : Prop := Rd w 1 x.vk x.d.key.length (bvs x.d.key) ∧ Rd w 1 x.vv x.d.val.length (bvs x.d.val)
theorem RecR.lies.below {w w1 : World} {x : RecR} (h : x.lies w) (b : Below w.heap.size w w1) : x.lies w1 := ⟨h.1.below b, h.2.below b⟩

/-- Records lie where a slice leads. -/
def RecsRd (w : World) (v : Value) (l : List RecD) : Prop := ∃ rs : List RecR, rs.map (·.d) = l ∧ Rd w 3 v rs.length (rs.flatMap recV) ∧ ∀ x ∈ rs, x.lies w
theorem RecsRd.below {w w1 : World} {v : Value} {l : List RecD} (h : RecsRd w v l) (b : Below w.heap.size w w1) : RecsRd w1 v l := by
  obtain ⟨rs, h1, h2, h3⟩ := h
  exact ⟨rs, h1, h2.below b, fun x hx => (h3 x hx).below b⟩
theorem RecsRd.slice {w : World} {v : Value} {l : List RecD} (h : RecsRd w v l) : ∃ a c, v = .slice a l.length c := by
  obtain ⟨rs, rfl, h2, _⟩ := h
  obtain ⟨a, c, rfl⟩ := h2.slice
  exact ⟨a, c, by rw [List.length_map]⟩
theorem RecsRd.len_le {w : World} {v : Value} {l : List RecD} (h : RecsRd w v l) : l.length ≤ 9223372036854775807 := by
  obtain ⟨rs, rfl, h2, _⟩ := h
  have := h2.len_le
  rw [List.length_map]
  exact this
theorem RecsRd.nil (w : World) : RecsRd w (.slice none 0 0) [] := ⟨[], rfl, Rd.nil _ _, by simp⟩

/-- The cells of one record, and what its parts hold. -/
theorem RecsRd.cells {w : World} {a : Option Addr} {n c : Nat} {l : List RecD} (h : RecsRd w (.slice a n c) l) (i : Nat) (hi : i < l.length) :
    ∃ b o, a = some ⟨b, o, none⟩ ∧ ∀ j (hj : j < l.length), ∃ vk vv, w.cell? ⟨b, o + j * 3, none⟩ = some (.int .i64 l[j].time) ∧ w.cell? ⟨b, o + j * 3 + 1, none⟩ = some vk ∧ w.cell? ⟨b, o + j * 3 + 2, none⟩ = some vv ∧
      Rd w 1 vk l[j].key.length (bvs l[j].key) ∧ Rd w 1 vv l[j].val.length (bvs l[j].val) := by
  obtain ⟨rs, rfl, h2, h3⟩ := h
  rw [List.length_map] at hi
  obtain ⟨a', c', e⟩ := h2.slice
  cases e
  obtain ⟨b, o, rfl, _, _, hx⟩ := h2.at (by omega)
  refine ⟨b, o, rfl, fun j hj => ?_⟩
  rw [List.length_map] at hj
  have f := fun k hk => flat_at recV 3 rs (recV_len rs) j hj k hk
  have hl := h3 rs[j] (List.getElem_mem hj)
  refine ⟨rs[j].vk, rs[j].vv, ?_, ?_, ?_, ?_, ?_⟩
  · rw [List.getElem_map]; exact hx (j * 3 + 0) _ (f 0 (by omega))
  · exact hx (j * 3 + 1) _ (f 1 (by omega))
  · exact hx (j * 3 + 2) _ (f 2 (by omega))
  · rw [List.getElem_map]; exact hl.1
  · rw [List.getElem_map]; exact hl.2

/-- A batch as it lies in a row: its data, where its records lie. -/
structure BatR where
  d : BatD
  v : Value
def batV (x : BatR) : List Value := [.int .i64 x.d.base, .int .i64 x.d.epoch, x.v]
theorem batV_len (l : List BatR) : ∀ x ∈ l, (batV x).length = 3 := fun _ _ => rfl
def BatR.lies (w : World) (x : BatR) : Prop := RecsRd w x.v x.d.recs
theorem BatR.lies.below {w w1 : World} {x : BatR} (h : x.lies w) (b : Below w.heap.size w w1) : x.lies w1 := RecsRd.below h b

/-- Batches lie where a slice leads. -/
def BatsRd (w : World) (v : Value) (l : List BatD) : Prop := ∃ rs : List BatR, rs.map (·.d) = l ∧ Rd w 3 v rs.length (rs.flatMap batV) ∧ ∀ x ∈ rs, x.lies w
theorem BatsRd.below {w w1 : World} {v : Value} {l : List BatD} (h : BatsRd w v l) (b : Below w.heap.size w w1) : BatsRd w1 v l := by
  obtain ⟨rs, h1, h2, h3⟩ := h
  exact ⟨rs, h1, h2.below b, fun x hx => (h3 x hx).below b⟩
theorem BatsRd.slice {w : World} {v : Value} {l : List BatD} (h : BatsRd w v l) : ∃ a c, v = .slice a l.length c := by
  obtain ⟨rs, rfl, h2, _⟩ := h
  obtain ⟨a, c, rfl⟩ := h2.slice
  exact ⟨a, c, by rw [List.length_map]⟩
theorem BatsRd.nil (w : World) : BatsRd w (.slice none 0 0) [] := ⟨[], rfl, Rd.nil _ _, by simp⟩
theorem BatsRd.cells {w : World} {a : Option Addr} {n c : Nat} {l : List BatD} (h : BatsRd w (.slice a n c) l) (i : Nat) (hi : i < l.length) :
    ∃ b o, a = some ⟨b, o, none⟩ ∧ ∀ j (hj : j < l.length), ∃ v, w.cell? ⟨b, o + j * 3, none⟩ = some (.int .i64 l[j].base) ∧ w.cell? ⟨b, o + j * 3 + 1, none⟩ = some (.int .i64 l[j].epoch) ∧ w.cell? ⟨b, o + j * 3 + 2, none⟩ = some v ∧ RecsRd w v l[j].recs := by
  obtain ⟨rs, rfl, h2, h3⟩ := h
  rw [List.length_map] at hi
  obtain ⟨a', c', e⟩ := h2.slice
  cases e
  obtain ⟨b, o, rfl, _, _, hx⟩ := h2.at (by omega)
  refine ⟨b, o, rfl, fun j hj => ?_⟩
  rw [List.length_map] at hj
  have f := fun k hk => flat_at batV 3 rs (batV_len rs) j hj k hk
  have hl := h3 rs[j] (List.getElem_mem hj)
  refine ⟨rs[j].v, ?_, ?_, ?_, ?_⟩
  · rw [List.getElem_map]; exact hx (j * 3 + 0) _ (f 0 (by omega))
  · rw [List.getElem_map]; exact hx (j * 3 + 1) _ (f 1 (by omega))
  · exact hx (j * 3 + 2) _ (f 2 (by omega))
  · rw [List.getElem_map]; exact hl
end Go.Proofs.YtlfbdcgojbfcaaaDoor
