/- The document's lineage: CutEnd, CutStart. -/
import Derived.Test.YtdlcpcpcojpecaaDoorPlaysMath
import Derived.Test.YtdlcpcpcojpecaaDoorRefPairCopy
import Derived.Deep.DeepCutAuto
import Derived.Deep.CutBlock
namespace Go.Proofs.YtdlcpcpcojpecaaDoor
open Go Go.RowKit Epo

theorem cutE_next (a : Int) (l : List Pr) (i : Nat) (hi : i < l.length) : cutE a (l.take (i + 1)) = if l[i].st < a then cutE a (l.take i) ++ [l[i]] else cutE a (l.take i) := by
  unfold cutE
  rw [List.take_succ_eq_append_getElem hi, List.filter_append]
  by_cases h : l[i].st < a
  · rw [if_pos h, List.filter_cons_of_pos (by simpa using h)]; rfl
  · rw [if_neg h, List.filter_cons_of_neg (by simpa using h)]; simp
theorem pr_app (o : List Pr) (m : Pr) : o.flatMap prV ++ [.int .i64 m.ep, .int .i64 m.st] = (o ++ [m]).flatMap prV := by rw [List.flatMap_append]; rfl

set_option maxRecDepth 100000 in
set_option maxHeartbeats 1000000 in
theorem refCutEnd_calls (v : Value) (l : List Pr) (a : Int) (w : World) (h : Rd w 2 v l.length (l.flatMap prV)) (hn : l.length ≤ 1000000) :
    Calls Tryd.prog 14 #[v, .int .i64 a] w (NewRow 46 2 (cutE a l).length ((cutE a l).flatMap prV) w) := by
  obtain ⟨i0, hi, hz0, hz1, hz2⟩ := info_parts info_pair
  obtain ⟨am, c, rfl⟩ := h.slice
  have hlen := h.len_le
  go_enter Tryd.func14, Tryd.ntmps14
  go_wp2_with fail
  go_loopw [5, 6] (fun ov iv wr => ∃ (i : Nat) (o : List Pr), i ≤ l.length ∧ iv = .int .i64 i ∧ Hid (o = cutE a (l.take i)) ∧ o.length ≤ i ∧ wr.ownsRow w.heap.size 46 2 ov o.length (o.flatMap prV) ∧ Below w.heap.size w wr) (fun _ iv _ => l.length - (intOf iv).toNat)
  case atStart => exact ⟨0, [], Nat.zero_le _, rfl, Lib.hid rfl, Nat.le_refl _, World.ownsRow_nil _ _ _ _, Below.refl _ _⟩
  case round =>
    obtain ⟨i, o, hi', rfl, HI, hol, ho, hb⟩ := hrel
    by_cases hlt : i < l.length
    · obtain ⟨b, of, rfl, -, -, hx⟩ := (h.below hb).at (by omega)
      obtain ⟨q0, q1⟩ := pr_cells hx i hlt
      have hN := cutE_next a l i hlt
      rw [← HI.out] at hN
      have HN := Lib.hid hN
      clear hN hx
      generalize l[i] = m at *
      by_cases hq : m.st < a
      · have HN2 := Lib.hid (HN.out.trans (if_pos hq))
        clear HN
        go_wp2_with (at_builtin; refine wpList_append_own _ rfl _ _ 22 rfl w.heap.size 46 i0 (.agg #[.int .i64 0, .int .i64 0]) 2 16 Tryd.underlying22 hi hz0 hz1 hz2 rfl (by decide) _ _ _ rfl (ho.alloc _) ⟨wr.heap.size, 0, none⟩ 1 1 [.int .i64 m.ep, .int .i64 m.st] rfl (by rfl) (cells_new wr #[.int .i64 m.ep, .int .i64 m.st] 46) ?c2 ?c3 ?c4 ?c5 ?_)
        case c2 => simp [Value.oneCell']
        case c3 => unfold maxLen; omega
        case c4 => omega
        case c5 => have := hb.size; simp; omega
        intro v' w' hown' hgrow _
        rw [pr_app] at hown'
        have hb' : Below w.heap.size w w' := (hb.alloc hb.size _).grown hgrow (by have := hb.size; simp; omega) (fun j hj => (ho.lt j hj).1)
        clear hgrow
        go_wp2_with fail
        exact ⟨⟨i + 1, o ++ [m], by omega, by go_num, Lib.hid HN2.out.symm, by rw [List.length_append, List.length_singleton]; omega, by rw [List.length_append, List.length_singleton]; exact hown', hb'⟩, by simp [intOf]; omega⟩
      · have HN2 := Lib.hid (HN.out.trans (if_neg hq))
        clear HN
        obtain ⟨ao, co, rfl⟩ := owns_slice ho
        go_wp2_with fail
        exact ⟨⟨i + 1, o, by omega, by go_num, Lib.hid HN2.out.symm, by omega, ho, hb⟩, by simp [intOf]; omega⟩
    · have hE : o = cutE a l := by rw [HI.out, List.take_of_length_le (by omega)]
      have HE := Lib.hid hE
      clear hE
      obtain ⟨ao, co, rfl⟩ := owns_slice ho
      go_wp2_with fail
      go_ret
      rw [← HE.out]
      exact ⟨_, rfl, ho, hb⟩

/-- What is out after so many, where the first is made of the pair at m. -/
def outS (l : List Pr) (hd : Pr) (m i : Nat) : List Pr := if i ≤ m then [] else hd :: (l.drop (m + 1)).take (i - m - 1)
theorem outS_lo {l : List Pr} {hd : Pr} {m i : Nat} (h : i ≤ m) : outS l hd m i = [] := if_pos h
theorem outS_at {l : List Pr} {hd : Pr} {m : Nat} : outS l hd m (m + 1) = [hd] := by
  unfold outS
  rw [if_neg (by omega), show m + 1 - m - 1 = 0 by omega, List.take_zero]
theorem outS_hi {l : List Pr} {hd : Pr} {m i : Nat} (h : m < i) (hi : i < l.length) : outS l hd m (i + 1) = outS l hd m i ++ [l[i]] ∧ 0 < (outS l hd m i).length := by
  unfold outS
  rw [if_neg (by omega), if_neg (by omega)]
  obtain ⟨j, rfl⟩ : ∃ j, i = m + 1 + j := ⟨i - m - 1, by omega⟩
  rw [show m + 1 + j + 1 - m - 1 = j + 1 by omega, show m + 1 + j - m - 1 = j by omega]
  refine ⟨?_, by simp⟩
  rw [List.take_succ_eq_append_getElem (by rw [List.length_drop]; omega), List.getElem_drop]
  rfl
theorem outS_all {l : List Pr} {hd : Pr} {m : Nat} (h : m < l.length) : outS l hd m l.length = hd :: l.drop (m + 1) := by
  unfold outS
  rw [if_neg (by omega), List.take_of_length_le (by rw [List.length_drop]; omega)]
theorem cutS_outS {a : Int} {l : List Pr} (hv : valid l = 0) : ∃ m hd, cutS a l = outS l hd m l.length ∧ (l ≠ [] → m < l.length) ∧
    (∀ h : m < l.length, hd = ⟨l[m].ep, if l[m].st < a then min a 1099511627776 else l[m].st⟩) ∧
    (∀ j (h : j + 1 < l.length), j < m → l[j + 1].st ≤ a) ∧ ∀ j (h : j + 1 < l.length), m ≤ j → ¬ l[j + 1].st ≤ a := by
  obtain ⟨h1, h2, h3⟩ := (valid_iff l).1 hv
  by_cases hne : l = []
  · subst hne
    exact ⟨0, ⟨0, 0⟩, rfl, fun h => absurd rfl h, fun h => by simp at h, fun j h => by simp at h, fun j h => by simp at h⟩
  · obtain ⟨m, hm, g1, g2, g3⟩ := cutS_is (a := a) hne h2 h3
    exact ⟨m, _, by rw [g1, outS_all hm], fun _ => hm, fun _ => rfl, g2, g3⟩

set_option maxRecDepth 100000 in
set_option maxHeartbeats 2000000 in
theorem refCutStart_calls (v : Value) (l : List Pr) (a : Int) (w : World) (h : Rd w 2 v l.length (l.flatMap prV)) (hn : l.length ≤ 1000000) (hv : valid l = 0) :
    Calls Tryd.prog 16 #[v, .int .i64 a] w (NewRow 46 2 (cutS a l).length ((cutS a l).flatMap prV) w) := by
  obtain ⟨i0, hi, hz0, hz1, hz2⟩ := info_parts info_pair
  obtain ⟨am, c, rfl⟩ := h.slice
  have hlen := h.len_le
  obtain ⟨m, hd, hR, hml, hhd, hlo, hhi⟩ := cutS_outS (a := a) hv
  generalize cutS a l = R at hR ⊢
  have HR := Lib.hid hR
  clear hR hv
  go_enter Tryd.func16, Tryd.ntmps16
  go_wp2_with fail
  go_loopw [5, 6] (fun ov iv wr => ∃ (i : Nat) (o : List Pr), i ≤ l.length ∧ iv = .int .i64 i ∧ Hid (o = outS l hd m i) ∧ o.length ≤ i ∧ wr.ownsRow w.heap.size 46 2 ov o.length (o.flatMap prV) ∧ Below w.heap.size w wr) (fun _ iv _ => l.length - (intOf iv).toNat)
  case atStart => exact ⟨0, [], Nat.zero_le _, rfl, Lib.hid (outS_lo (Nat.zero_le _)).symm, Nat.le_refl _, World.ownsRow_nil _ _ _ _, Below.refl _ _⟩
  case round =>
    obtain ⟨i, o, hi', rfl, HI, hol, ho, hb⟩ := hrel
    by_cases hlt : i < l.length
    · have hml' := hml (by rintro rfl; simp at hlt)
      have hhd' := hhd hml'
      obtain ⟨b, of, rfl, -, -, hx⟩ := (h.below hb).at (by omega)
      obtain ⟨q0, q1⟩ := pr_cells hx i hlt
      obtain ⟨ao, co, rfl⟩ := owns_slice ho
      by_cases hc : i < m
      · have h1 : i + 1 < l.length := by omega
        obtain ⟨p0, p1⟩ := pr_cells hx (i + 1) h1
        have hle := hlo i h1 hc
        have HN := Lib.hid (show o = outS l hd m (i + 1) by rw [HI.out, outS_lo (by omega), outS_lo (by omega)])
        have i1 : ((i : Int) + 1).toNat = i + 1 := by omega
        generalize l[i + 1] = m2 at *
        generalize l[i] = m1 at *
        clear hx hhd hlo hhi hhd' hml
        go_wp2_with fail
        exact ⟨⟨i + 1, o, by omega, by go_num, HN, by omega, ho, hb⟩, by simp [intOf]; omega⟩
      · obtain ⟨p, hp⟩ : ∃ p : Pr, p = ⟨l[i].ep, if i = m ∧ l[i].st < a then min a 1099511627776 else l[i].st⟩ := ⟨_, rfl⟩
        have HN : Hid (outS l hd m (i + 1) = o ++ [p] ∧ ((o.length : Int) = 0 ↔ i = m)) := Lib.hid (by
          by_cases e : i = m
          · subst e
            rw [hp, HI.out, outS_at, outS_lo (Nat.le_refl _), hhd']
            simp
          · obtain ⟨g1, g2⟩ := outS_hi (l := l) (hd := hd) (m := m) (i := i) (by omega) hlt
            rw [hp, HI.out, g1]
            refine ⟨by simp [e], ?_⟩
            constructor
            · intro h; omega
            · intro h; exact absurd h e)
        have hcase : (∃ h1 : i + 1 < l.length, ¬ l[i + 1].st ≤ a) ∨ ¬ i + 1 < l.length := by
          by_cases h1 : i + 1 < l.length
          · exact .inl ⟨h1, by have := hhi i h1 (by omega); omega⟩
          · exact .inr h1
        have hlenp := HN.out.2
        clear hhd hlo hhi hhd' hml
        have i1 : ((i : Int) + 1).toNat = i + 1 := by omega
        have hcells : (∃ s, wr.cell? ⟨b, of + (i + 1) * 2 + 1, none⟩ = some (.int .i64 s) ∧ ¬ s ≤ a ∧ i + 1 < l.length) ∨ ¬ i + 1 < l.length := by
          rcases hcase with ⟨h1, h2⟩ | h1
          · exact .inl ⟨_, (pr_cells hx (i + 1) h1).2, h2, h1⟩
          · exact .inr h1
        clear hcase hx
        have hbl := World.block_lt_of_cell? _ _ q0
        simp only at hbl
        generalize l[i] = m1 at *
        obtain ⟨ep, st⟩ := m1
        obtain ⟨pe, M⟩ := p
        simp only [Pr.mk.injEq] at hp
        obtain ⟨rfl, hM⟩ := hp
        have hM2 : (i = m ∧ (st < a ∧ 1099511627776 < a) ∧ M = 1099511627776) ∨ (i = m ∧ (st < a ∧ ¬ 1099511627776 < a) ∧ M = a) ∨ (i = m ∧ ¬ st < a ∧ M = st) ∨ (¬ i = m ∧ M = st) := by
          rw [← or_assoc]
          by_cases e : i = m
          · by_cases e2 : st < a
            · by_cases e3 : 1099511627776 < a
              · exact .inl (.inl ⟨e, ⟨e2, e3⟩, by rw [hM, if_pos ⟨e, e2⟩]; omega⟩)
              · exact .inl (.inr ⟨e, ⟨e2, e3⟩, by rw [hM, if_pos ⟨e, e2⟩]; omega⟩)
            · exact .inr (.inl ⟨e, e2, by rw [hM, if_neg (fun h => e2 h.2)]⟩)
          · exact .inr (.inr ⟨e, by rw [hM, if_neg (fun h => e h.1)]⟩)
        clear hM
        have rowP := heap_alloc_new wr (.cells #[.int .i64 pe, .int .i64 M] 46)
        have b2 := below_alloc wr (.cells #[.int .i64 pe, .int .i64 M] 46)
        have o2 := owns_below ho b2
        have B2 := nxt hb b2
        rcases hcells with ⟨s, p1, h2, h1⟩ | h1
        all_goals
          rcases hM2 with ⟨e, ⟨e2, e3⟩, rfl⟩ | ⟨e, ⟨e2, e3⟩, rfl⟩ | ⟨e, e2, rfl⟩ | ⟨e, rfl⟩
          all_goals
            have hOL : o.length ≤ 1000000 := by omega
            obtain ⟨n, hn0⟩ : ∃ n, n = o.length := ⟨_, rfl⟩
            rw [← hn0] at o2 hlenp hOL ⊢
            have HN0 := Lib.hid hn0
            clear hn0
            have hz : (((n : Int) == 0) = true ∧ decide ((n : Int) = 0) = true ∧ (n == 0) = true ∧ decide (n = 0) = true ∧ i = m) ∨ (((n : Int) == 0) = false ∧ decide ((n : Int) = 0) = false ∧ (n == 0) = false ∧ decide (n = 0) = false ∧ ¬ i = m) := by
              by_cases hz : n = 0
              · refine .inl ⟨by rw [hz]; rfl, by rw [hz]; rfl, by rw [hz]; rfl, by rw [hz]; rfl, hlenp.1 (by omega)⟩
              · refine .inr ⟨beq_eq_false_iff_ne.2 (by omega), decide_eq_false (by omega), beq_eq_false_iff_ne.2 (by omega), decide_eq_false (by omega), fun h => hz (by have := hlenp.2 h; omega)⟩
            rcases hz with ⟨z1, z2, z3, z4, hz⟩ | ⟨z1, z2, z3, z4, hz⟩
            all_goals
              first
              | exact absurd hz e
              | exact absurd e hz
              | clear hlenp e hz
            all_goals
              go_upto_region 9 with fail
              generalize wr.alloc (.cells #[.int .i64 pe, .int .i64 _] 46) = W2 at *
              have m0 : W2.cell? ⟨wr.heap.size, 0, none⟩ = some (.int .i64 pe) := cell_of_row W2 _ 0 _ _ _ rowP
              have m1 := cell_of_row W2 _ 1 _ _ _ rowP
              go_wp2_with (at_builtin; refine wpList_append_own _ rfl _ _ 22 rfl w.heap.size 46 i0 _ 2 16 Tryd.underlying22 hi hz0 hz1 hz2 rfl (by decide) _ _ _ rfl (o2.alloc _) ⟨W2.heap.size, 0, none⟩ 1 1 [.int .i64 pe, .int .i64 _] rfl (by rfl) (cells_new W2 #[.int .i64 pe, .int .i64 _] 46) (by simp [Value.oneCell']) (by unfold maxLen; omega) (by omega) (by have := B2.size; simp; omega) ?_)
              intro v' w' hown' hgrow _
              have B6 : Below w.heap.size w w' := (B2.alloc B2.size _).grown hgrow (by have := B2.size; simp; omega) (fun k hk => (o2.lt k hk).1)
              rw [pr_app o ⟨pe, _⟩] at hown'
              go_wp2_with fail
              refine ⟨⟨i + 1, o ++ [⟨pe, _⟩], by omega, by go_num, Lib.hid HN.out.1.symm, by rw [List.length_append, List.length_singleton]; omega, ?_, B6⟩, by simp [intOf]; omega⟩
              rw [List.length_append, ← HN0.out]
              exact hown'
    · have hE : o = R := by rw [HI.out, HR.out, show i = l.length by omega]
      obtain ⟨ao, co, rfl⟩ := owns_slice ho
      clear hhd hlo hhi
      go_wp2_with fail
      go_ret
      rw [← hE]
      exact ⟨_, rfl, ho, hb⟩
end Go.Proofs.YtdlcpcpcojpecaaDoor
