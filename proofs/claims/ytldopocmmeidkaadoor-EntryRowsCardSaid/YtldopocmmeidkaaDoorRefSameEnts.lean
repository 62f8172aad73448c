/- The document's SameEntries. -/
import Derived.Test.YtldopocmmeidkaaDoorEntAll
import Derived.Test.YtldopocmmeidkaaDoorRefSameEnt
namespace Go.Proofs.YtldopocmmeidkaaDoor
open Go Go.RowKit Man

theorem ents_at {w : World} {a : Option Addr} {c : Nat} {l : List EntR} (h : Rd w 7 (.slice a l.length c) l.length (l.flatMap entV)) (i : Nat) (hi : i < l.length) :
    ∃ b o, a = some ⟨b, o, none⟩ ∧ ∀ j (hj : j < l.length), w.cell? ⟨b, o + j * 7, none⟩ = some (.int .i64 l[j].k) ∧ w.cell? ⟨b, o + j * 7 + 1, none⟩ = some (.int .i64 l[j].m.id) ∧ w.cell? ⟨b, o + j * 7 + 2, none⟩ = some (.int .i64 l[j].m.base) ∧ w.cell? ⟨b, o + j * 7 + 3, none⟩ = some (.int .i64 l[j].m.fin) ∧ w.cell? ⟨b, o + j * 7 + 4, none⟩ = some (.int .i64 l[j].m.time) ∧ w.cell? ⟨b, o + j * 7 + 5, none⟩ = some l[j].ve ∧ w.cell? ⟨b, o + j * 7 + 6, none⟩ = some l[j].vo := by
  obtain ⟨b, o, rfl, _, _, hx⟩ := h.at (by omega)
  refine ⟨b, o, rfl, fun j hj => ?_⟩
  have f := fun k hk => flat_at entV 7 l (fun _ _ => rfl) j hj k hk
  exact ⟨hx (j * 7 + 0) _ (f 0 (by omega)), hx (j * 7 + 1) _ (f 1 (by omega)), hx (j * 7 + 2) _ (f 2 (by omega)), hx (j * 7 + 3) _ (f 3 (by omega)), hx (j * 7 + 4) _ (f 4 (by omega)), hx (j * 7 + 5) _ (f 5 (by omega)), hx (j * 7 + 6) _ (f 6 (by omega))⟩

set_option maxRecDepth 100000 in
set_option maxHeartbeats 1000000 in
theorem sameEnts_calls (va vb : Value) (l1 l2 : List EntR) (w : World) (h1 : Rd w 7 va l1.length (l1.flatMap entV)) (h2 : Rd w 7 vb l2.length (l2.flatMap entV)) (r1 : ∀ x ∈ l1, ManRd w x.m x.ve x.vo) (r2 : ∀ x ∈ l2, ManRd w x.m x.ve x.vo) :
    Calls Tryd.prog 33 #[va, vb] w (fun e w' => e = .returned (.bool (decide (l1.map (·.d) = l2.map (·.d)))) ∧ Below w.heap.size w w') := by
  obtain ⟨a1, c1, rfl⟩ := h1.slice
  obtain ⟨a2, c2, rfl⟩ := h2.slice
  have m1 := h1.len_le
  have m2 := h2.len_le
  by_cases hl : l1.length = l2.length
  · have hl' : ((l1.length : Int) != (l2.length : Int)) = false := by rw [hl]; simp
    have HL := Lib.hid hl
    clear hl
    go_enter Tryd.func33, Tryd.ntmps33
    go_wp2_with fail
    go_loopw [5, 6] (fun iv _ wr => ∃ k : Nat, k ≤ l1.length ∧ iv = .int .i64 k ∧ (l1.map (·.d)).take k = (l2.map (·.d)).take k ∧ Below w.heap.size w wr) (fun iv _ _ => l1.length - (intOf iv).toNat)
    case atStart => exact ⟨0, Nat.zero_le _, rfl, rfl, Below.refl _ _⟩
    case round =>
      obtain ⟨k, hk, rfl, hs, hb⟩ := hrel
      have HS := Lib.hid hs
      clear hs
      by_cases hlt : k < l1.length
      · have hlt2 : k < l2.length := by have := HL.out; omega
        obtain ⟨b1, o1, rfl, hx1⟩ := ents_at (h1.below hb) k hlt
        obtain ⟨b2, o2, rfl, hx2⟩ := ents_at (h2.below hb) k hlt2
        obtain ⟨p0, p1, p2, p3, p4, p5, p6⟩ := hx1 k hlt
        obtain ⟨q0, q1, q2, q3, q4, q5, q6⟩ := hx2 k hlt2
        have htn : (l1[k].k = l2[k].k ∧ l1[k].m = l2[k].m) → (l1.map (·.d)).take (k + 1) = (l2.map (·.d)).take (k + 1) := fun e => take_next (by rw [List.length_map]; exact hlt) (by rw [List.length_map]; exact hlt2) HS.out (by rw [List.getElem_map, List.getElem_map]; unfold EntR.d; rw [e.1, e.2])
        have hne : ¬ (l1[k].k = l2[k].k ∧ l1[k].m = l2[k].m) → decide (l1.map (·.d) = l2.map (·.d)) = false := fun e => decide_eq_false (fun h => by
          have h1 := congrArg (fun l => l[k]?) h
          simp only [List.getElem?_map, List.getElem?_eq_getElem hlt, List.getElem?_eq_getElem hlt2, Option.map_some, Option.some.injEq] at h1
          unfold EntR.d at h1
          simp only [Prod.mk.injEq] at h1
          exact e h1)
        have hsc := refSameEnt_calls (k := l1[k].k) (l := l2[k].k) (((r1 l1[k] (List.getElem_mem hlt)).below hb).below (Below.refl _ _).drew) (((r2 l2[k] (List.getElem_mem hlt2)).below hb).below (Below.refl _ _).drew)
        unfold entA at hsc
        obtain ⟨x, hx⟩ : ∃ x, x = l1[k] := ⟨_, rfl⟩
        obtain ⟨y, hy⟩ : ∃ y, y = l2[k] := ⟨_, rfl⟩
        rw [← hx, ← hy] at hsc htn hne
        rw [← hx] at p0 p1 p2 p3 p4 p5 p6
        rw [← hy] at q0 q1 q2 q3 q4 q5 q6
        have HTN := Lib.hid htn
        have HNE := Lib.hid hne
        clear hx1 hx2 hx hy htn hne
        obtain ⟨xk, xm, xe, xo⟩ := x
        obtain ⟨yk, ym, ye, yo⟩ := y
        simp only at p0 p1 p2 p3 p4 p5 p6 q0 q1 q2 q3 q4 q5 q6 hsc HTN HNE
        go_wp2_with fail
        go_still_tail 8, (by kernel_rfl)
        change wpList _ _ _ _ _ wr.drew
        go_wp2_with fail
        refine hsc.mono ?_
        rintro e w3 ⟨rfl, b3⟩
        have B3 : Below w.heap.size w w3 := nxt (nxt hb ((Below.refl _ _).drew)) b3
        by_cases he : xk = yk ∧ xm = ym
        · rw [decide_eq_true he]
          have HE := Lib.hid he
          clear he hsc
          go_wp2_with fail
          exact ⟨⟨k + 1, by omega, by go_num, HTN.out HE.out, B3⟩, by simp [intOf]; omega⟩
        · rw [decide_eq_false he]
          have HE := Lib.hid he
          clear he hsc
          go_wp2_with fail
          go_ret
          rw [HNE.out HE.out]
          exact ⟨rfl, B3⟩
      · have HS2 := Lib.hid (show decide (l1.map (·.d) = l2.map (·.d)) = true by
          have hs := HS.out
          rw [List.take_of_length_le (by rw [List.length_map]; omega), List.take_of_length_le (by rw [List.length_map]; have := HL.out; omega)] at hs
          exact decide_eq_true hs)
        go_wp2_with fail
        go_ret
        rw [HS2.out]
        exact ⟨rfl, hb⟩
  · have hl' : ((l1.length : Int) != (l2.length : Int)) = true := by rw [bne_iff_ne]; omega
    have HS2 := Lib.hid (show decide (l1.map (·.d) = l2.map (·.d)) = false from decide_eq_false (fun e => hl (by have := congrArg List.length e; simpa using this)))
    clear hl
    go_enter Tryd.func33, Tryd.ntmps33
    go_wp2_with fail
    go_ret
    rw [HS2.out]
    exact ⟨rfl, Below.refl _ _⟩
end Go.Proofs.YtldopocmmeidkaaDoor
