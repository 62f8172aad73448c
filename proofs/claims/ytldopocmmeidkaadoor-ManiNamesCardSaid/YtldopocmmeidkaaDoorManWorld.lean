/- cordwoodworld.Manifest: it answers, whatever it is; and what it answers of a small one. -/
import Derived.Test.YtldopocmmeidkaaDoorMan
import Derived.Deep.CutBlock
namespace Go.Proofs.YtldopocmmeidkaaDoor
open Go Go.RowKit Man

/-- What a manifest has that is small. -/
def Small (m : ManD) : Prop := m.eps.length ≤ 300 ∧ m.objs.length ≤ 12 ∧ ∀ o ∈ m.objs, o.name.size ≤ 100
def SmallB (m : ManD) (w : World) (e : Ending) (w' : World) : Prop := ∃ t : Bool, e = .returned (.bool t) ∧ Below w.heap.size w w' ∧ (t = true → Small m)
def manA (m : ManD) (ve vo : Value) : Value := .agg #[.int .i64 m.id, .int .i64 m.base, .int .i64 m.fin, .int .i64 m.time, ve, vo]

set_option maxRecDepth 100000 in
set_option maxHeartbeats 2000000 in
theorem worldManifest_calls {w : World} {m : ManD} {ve vo : Value} (h : ManRd w m ve vo) :
    Calls Tryd.prog 10 #[manA m ve vo] w (SmallB m w) := by
  obtain ⟨re, ro⟩ := h
  obtain ⟨ae, ce, rfl⟩ := re.slice
  obtain ⟨ao, co, rfl⟩ := ro.slice
  have me := re.len_le
  have mo := ro.len_le
  obtain ⟨id, ba, fi, ti, eps, objs⟩ := m
  simp only at re ro me mo
  obtain ⟨ne, hne⟩ : ∃ t, t = eps.length := ⟨_, rfl⟩
  have HS := Lib.hid (show ∀ t : Bool, (t = true → ne ≤ 300 ∧ objs.length ≤ 12 ∧ ∀ o ∈ objs, o.name.size ≤ 100) → (t = true → Small ⟨id, ba, fi, ti, eps, objs⟩) by intro t; unfold Small; simp only; rw [← hne]; exact fun h => h)
  have b1 := below_alloc w (.cells #[.int .i64 id, .int .i64 ba, .int .i64 fi, .int .i64 ti, .slice ae ne ce, .slice ao objs.length co] 25)
  have row1 := heap_alloc_new w (.cells #[.int .i64 id, .int .i64 ba, .int .i64 fi, .int .i64 ti, .slice ae ne ce, .slice ao objs.length co] 25)
  unfold manA
  simp only
  rw [← hne]
  rw [← hne] at me
  clear hne re
  go_enter Tryd.func10, Tryd.ntmps10
  go_upto_region 1 with fail
  obtain ⟨w1, hw1⟩ : ∃ w1, w1 = w.alloc (.cells #[.int .i64 id, .int .i64 ba, .int .i64 fi, .int .i64 ti, .slice ae ne ce, .slice ao objs.length co] 25) := ⟨_, rfl⟩
  obtain ⟨g, hg⟩ : ∃ g, g = w.heap.size := ⟨_, rfl⟩
  rw [← hw1] at b1 row1 ⊢
  rw [← hg] at row1 ⊢
  clear hw1 hg
  have d4 : w1.cell? ⟨g, 4, none⟩ = some (.slice ae ne ce) := cell_of_row _ _ 4 _ _ _ row1
  have d5 : w1.cell? ⟨g, 5, none⟩ = some (.slice ao objs.length co) := cell_of_row _ _ 5 _ _ _ row1
  by_cases t1 : 300 < ne
  · go_wp2_with fail
    go_ret
    exact ⟨_, rfl, b1, fun h => by simp at h⟩
  · have t1' : decide ((300 : Int) < (ne : Int)) = false := decide_eq_false (by omega)
    by_cases t2 : 12 < objs.length
    · have t2' : decide ((12 : Int) < (objs.length : Int)) = true := decide_eq_true (by omega)
      clear t2
      go_wp2_with fail
      go_ret
      exact ⟨_, rfl, b1, fun h => by simp at h⟩
    · have t2' : decide ((12 : Int) < (objs.length : Int)) = false := decide_eq_false (by omega)
      go_wp2_with fail
      go_loopw [3] (fun iv wr => ∃ i : Nat, i ≤ objs.length ∧ iv = .int .i64 i ∧ wr = w1 ∧ ∀ j (hj : j < objs.length), j < i → objs[j].name.size ≤ 100) (fun iv _ => objs.length - (intOf iv).toNat)
      case atStart => exact ⟨0, Nat.zero_le _, rfl, rfl, fun j _ hj => by omega⟩
      case round =>
        obtain ⟨i, hi, rfl, rfl, hj⟩ := hrel
        have HJ := Lib.hid hj
        clear hj
        by_cases hlt : i < objs.length
        · obtain ⟨b, o, rfl, hx⟩ := objs_at (ro.below b1) i hlt
          obtain ⟨p0, _, _⟩ := hx i hlt
          obtain ⟨s, hs⟩ : ∃ t, t = objs[i].name := ⟨_, rfl⟩
          rw [← hs] at p0
          have HN := Lib.hid hs
          clear hx hs
          by_cases q1 : 100 < s.size
          · go_wp2_with fail
            go_ret
            exact ⟨_, rfl, b1, fun h => by simp at h⟩
          · go_wp2_with fail
            refine ⟨⟨i + 1, by omega, by go_num, trivial, ?_⟩, by simp [intOf]; omega⟩
            intro j hjl hj
            by_cases e : j = i
            · subst e; rw [← HN.out]; omega
            · exact HJ.out j hjl (by omega)
        · go_wp2_with fail
          go_ret
          refine ⟨_, rfl, b1, HS.out _ fun _ => ⟨by omega, by omega, fun o ho => ?_⟩⟩
          obtain ⟨j, hjl, rfl⟩ := List.mem_iff_getElem.1 ho
          exact HJ.out j hjl (by omega)
end Go.Proofs.YtldopocmmeidkaaDoor
