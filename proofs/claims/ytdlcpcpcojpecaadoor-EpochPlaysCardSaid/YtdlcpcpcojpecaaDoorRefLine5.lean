/- The document's lineage: Begin. -/
import Derived.Test.YtdlcpcpcojpecaaDoorRefLine2
import Derived.Test.YtdlcpcpcojpecaaDoorRefValidP
import Derived.Test.YtdlcpcpcojpecaaDoorEpoBegin2
namespace Go.Proofs.YtdlcpcpcojpecaaDoor
open Go Go.RowKit Epo

def RBeg (l : List Pr) (v : Value) (r : Nat × List Pr) (w : World) (e : Ending) (w' : World) : Prop :=
  ∃ v', e = .returned (.tuple #[v', .int .i64 ((r.1 : Nat) : Int)]) ∧ ((v' = v ∧ r.2 = l) ∨ ∃ B, w.heap.size ≤ B ∧ w'.ownsRow B 46 2 v' r.2.length (r.2.flatMap prV)) ∧ Below w.heap.size w w'

set_option maxRecDepth 100000 in
set_option maxHeartbeats 1000000 in
theorem refBegin_bad (v : Value) (l : List Pr) (p : Pr) (w : World) (h : Rd w 2 v l.length (l.flatMap prV)) (hr : Epo.right p = false) :
    Calls Tryd.prog 11 #[v, .int .i64 p.ep, .int .i64 p.st] w (RBeg l v (105, l) w) := by
  obtain ⟨am, c, rfl⟩ := h.slice
  have hlen := h.len_le
  have hc1 := refRightEpoch_calls p.ep w
  have hc2 := refRight_calls p.st w
  have hrp := right_parts p
  rw [hr] at hrp
  obtain ⟨r1, hr1⟩ : ∃ r, r = decide (0 ≤ p.ep ∧ p.ep ≤ 1073741824) := ⟨_, rfl⟩
  obtain ⟨r2, hr2⟩ : ∃ r, r = decide (0 ≤ p.st ∧ p.st ≤ 1099511627776) := ⟨_, rfl⟩
  rw [← hr1] at hc1 hrp
  rw [← hr2] at hc2 hrp
  have HRP := Lib.hid hrp
  clear hr1 hr2 hrp hr
  cases r1
  · go_enter Tryd.func11, Tryd.ntmps11
    go_wp2_with fail
    refine hc1.mono ?_
    rintro e w2 ⟨rfl, rfl⟩
    go_wp2_with fail
    go_ret2
    exact ⟨_, rfl, .inl ⟨rfl, rfl⟩, Below.refl _ _⟩
  · cases r2
    · go_enter Tryd.func11, Tryd.ntmps11
      go_wp2_with fail
      refine hc1.mono ?_
      rintro e w2 ⟨rfl, rfl⟩
      go_wp2_with fail
      refine hc2.mono ?_
      rintro e w2 ⟨rfl, rfl⟩
      go_wp2_with fail
      go_ret2
      exact ⟨_, rfl, .inl ⟨rfl, rfl⟩, Below.refl _ _⟩
    · exact absurd HRP.out (by decide)

set_option maxRecDepth 100000 in
set_option maxHeartbeats 1000000 in
theorem refBegin_none (v : Value) (p : Pr) (w : World) (h : Rd w 2 v 0 []) (hr : Epo.right p = true) :
    Calls Tryd.prog 11 #[v, .int .i64 p.ep, .int .i64 p.st] w (RBeg [] v (0, [p]) w) := by
  obtain ⟨i0, hi, hz0, hz1, hz2⟩ := info_parts info_pair
  obtain ⟨am, c, rfl⟩ := h.slice
  have hc1 := refRightEpoch_calls p.ep w
  have hc2 := refRight_calls p.st w
  have hrp := right_parts p
  rw [hr] at hrp
  have hrp' := Bool.and_eq_true_iff.1 hrp.symm
  rw [hrp'.1] at hc1
  rw [hrp'.2] at hc2
  have hcp := refPairs_calls _ [] w h (by simp)
  unfold NewRow at hcp
  simp only [List.length_nil, List.flatMap_nil] at hcp
  clear hrp' hrp hr
  go_enter Tryd.func11, Tryd.ntmps11
  go_wp2_with fail
  refine hc1.mono ?_
  rintro e w2 ⟨rfl, rfl⟩
  go_wp2_with fail
  refine hc2.mono ?_
  rintro e w2 ⟨rfl, rfl⟩
  go_wp2_with fail
  refine hcp.mono ?_
  rintro e w3 ⟨v3, rfl, ho, b3⟩
  clear hcp hc1 hc2
  have ho' := ho
  obtain ⟨ao, co, rfl⟩ := owns_slice ho'
  clear ho'
  go_wp2_with (at_builtin; refine wpList_append_own _ rfl _ _ 22 rfl w.heap.size 46 i0 _ 2 16 Tryd.underlying22 hi hz0 hz1 hz2 rfl (by decide) _ _ _ rfl (ho.alloc _) ⟨w3.heap.size, 0, none⟩ 1 1 [.int .i64 p.ep, .int .i64 p.st] rfl (by rfl) (cells_new w3 #[.int .i64 p.ep, .int .i64 p.st] 46) (by simp [Value.oneCell']) (by unfold maxLen; omega) (by omega) (by have := b3.size; simp; omega) ?_)
  intro v' w' hown' hgrow _
  have B6 : Below w.heap.size w w' := (b3.alloc b3.size _).grown hgrow (by have := b3.size; simp; omega) (fun k hk => (ho.lt k hk).1)
  go_wp2_with fail
  go_ret2
  exact ⟨_, rfl, .inr ⟨_, Nat.le_refl _, hown'⟩, B6⟩

theorem flat_last1 (l : List Pr) (q : Pr) (e : Int) (k : Nat) (hgl : l.getLast? = some q) (hk : l.length = k + 1) : (l.flatMap prV).set (k * 2) (.int .i64 e) = (l.dropLast ++ [(⟨e, q.st⟩ : Pr)]).flatMap prV := by
  obtain ⟨xs, rfl⟩ := List.getLast?_eq_some_iff.1 hgl
  have hx : xs.length = k := by simpa using hk
  have hf : ∀ ys : List Pr, (ys.flatMap prV).length = ys.length * 2 := by
    intro ys
    induction ys with
    | nil => rfl
    | cons y ys ih => rw [List.flatMap_cons, List.length_append, ih]; simp [prV]; omega
  rw [List.dropLast_concat, List.flatMap_append, List.flatMap_append, List.set_append_right _ _ (by rw [hf, hx]; omega), hf, hx]
  congr 1
  simp [prV]

set_option maxRecDepth 100000 in
set_option maxHeartbeats 2000000 in
theorem refBegin_some (v : Value) (l : List Pr) (p q : Pr) (w : World) (h : Rd w 2 v l.length (l.flatMap prV)) (hl : l.length ≤ 256) (hr : Epo.right p = true) (hq : l.getLast? = some q) :
    Calls Tryd.prog 11 #[v, .int .i64 p.ep, .int .i64 p.st] w (RBeg l v (beginR l p) w) := by
  obtain ⟨i0, hi, hz0, hz1, hz2⟩ := info_parts info_pair
  obtain ⟨am, c, rfl⟩ := h.slice
  have hlen := h.len_le
  have hc1 := refRightEpoch_calls p.ep w
  have hc2 := refRight_calls p.st w
  have hrp := right_parts p
  rw [hr] at hrp
  have hrp' := Bool.and_eq_true_iff.1 hrp.symm
  rw [hrp'.1] at hc1
  rw [hrp'.2] at hc2
  have hpos : 0 < l.length := by cases l with | nil => simp at hq | cons => simp
  obtain ⟨k, hk⟩ : ∃ k, l.length = k + 1 := ⟨l.length - 1, by omega⟩
  have hkl : k < l.length := by omega
  have hqk : l[k] = q := by rw [List.getLast?_eq_getElem?, hk, show k + 1 - 1 = k by omega, List.getElem?_eq_getElem hkl] at hq; simpa using hq
  obtain ⟨b, o, rfl, -, -, hx⟩ := h.at (by omega)
  obtain ⟨q0, q1⟩ := pr_cells hx k hkl
  rw [hqk] at q0 q1
  have hR := beginR.eq_1 l p
  rw [if_neg (by rw [hr]; decide), hq] at hR
  simp only at hR
  have b1 := below_alloc w (.cells #[.int .i64 q.ep, .int .i64 q.st] 46)
  have hcp := refPairs_calls _ l _ (h.below b1) (by omega)
  have hfl := Lib.hid (flat_last l q ⟨p.ep, q.st⟩ k hq hk)
  have HW := Lib.hid hk
  have HQK := Lib.hid (show l[k]? = some q by rw [List.getElem?_eq_getElem hkl, hqk])
  have HF1 := Lib.hid (flat_last1 l q p.ep k hq hk)
  have HDL := Lib.hid (show ∀ x : Pr, (l.dropLast ++ [x]).length = k + 1 by intro x; rw [List.length_append, List.length_dropLast, hk]; simp)
  clear hfl
  generalize beginR l p = R at hR ⊢
  have hs1 : IntKind.i64.wrap ((k : Int) + 1 - 1) = (k : Int) := by rw [IntKind.wrap_i64]; omega
  have hs2 : IntKind.i64.wrap (k : Int) = (k : Int) := by rw [IntKind.wrap_i64]; omega
  have hkk : (k : Int) < (k : Int) + 1 := by omega
  clear hx hrp' hrp hr hq hqk hkl
  rw [hk] at hcp hlen hl
  have Hh := Lib.hid h
  clear h
  obtain ⟨L, hL⟩ : ∃ L, L = l.length := ⟨_, rfl⟩
  rw [← hL]
  obtain rfl : L = k + 1 := by omega
  clear hL hk
  by_cases e1 : p.ep < q.ep
  · have HR := Lib.hid (hR.trans (if_pos e1))
    clear hR hcp
    go_enter Tryd.func11, Tryd.ntmps11
    go_wp2_with fail
    refine hc1.mono ?_
    rintro e w2 ⟨rfl, rfl⟩
    go_wp2_with fail
    refine hc2.mono ?_
    rintro e w2 ⟨rfl, rfl⟩
    go_wp2_with fail
    go_ret2
    rw [HR.out]
    exact ⟨_, rfl, .inl ⟨rfl, rfl⟩, b1⟩
  rw [if_neg e1] at hR
  by_cases e2 : p.ep = q.ep
  · have HR := Lib.hid (hR.trans (if_pos e2))
    clear hR hcp
    have e2b : (p.ep == q.ep) = true := by rw [e2]; exact beq_self_eq_true _
    have E2 := Lib.hid e2
    clear e2
    go_enter Tryd.func11, Tryd.ntmps11
    go_wp2_with fail
    refine hc1.mono ?_
    rintro e w2 ⟨rfl, rfl⟩
    go_wp2_with fail
    refine hc2.mono ?_
    rintro e w2 ⟨rfl, rfl⟩
    go_wp2_with fail
    go_ret2
    rw [HR.out]
    exact ⟨_, rfl, .inl ⟨rfl, rfl⟩, b1⟩
  rw [if_neg e2] at hR
  have e2b : (p.ep == q.ep) = false := by rw [beq_eq_false_iff_ne]; exact e2
  by_cases e3 : p.st < q.st
  · have HR := Lib.hid (hR.trans (if_pos e3))
    clear hR hcp
    go_enter Tryd.func11, Tryd.ntmps11
    go_wp2_with fail
    refine hc1.mono ?_
    rintro e w2 ⟨rfl, rfl⟩
    go_wp2_with fail
    refine hc2.mono ?_
    rintro e w2 ⟨rfl, rfl⟩
    go_wp2_with fail
    go_ret2
    rw [HR.out]
    exact ⟨_, rfl, .inl ⟨rfl, rfl⟩, b1⟩
  rw [if_neg e3] at hR
  rw [HW.out] at hR
  by_cases e4 : 256 ≤ k + 1
  · have HR := Lib.hid (hR.trans (if_pos e4))
    clear hR hcp
    have e4b : decide ((256 : Int) ≤ (k : Int) + 1) = true := decide_eq_true (by omega)
    go_enter Tryd.func11, Tryd.ntmps11
    go_wp2_with fail
    refine hc1.mono ?_
    rintro e w2 ⟨rfl, rfl⟩
    go_wp2_with fail
    refine hc2.mono ?_
    rintro e w2 ⟨rfl, rfl⟩
    go_wp2_with fail
    go_ret2
    rw [HR.out]
    exact ⟨_, rfl, .inl ⟨rfl, rfl⟩, b1⟩
  rw [if_neg e4] at hR
  have e4b : decide ((256 : Int) ≤ (k : Int) + 1) = false := decide_eq_false (by omega)
  have e4c : (256 : Int) ≤ (k : Int) + 1 ↔ False := ⟨fun h => by omega, False.elim⟩
  obtain ⟨est, hest⟩ : ∃ est, est = (q.st == p.st) := ⟨_, rfl⟩
  have hR2 : R = if est = true then (0, l.dropLast ++ [p]) else (0, l ++ [p]) := by
    rw [hR]
    by_cases e5 : p.st = q.st
    · rw [if_pos e5, if_pos (by rw [hest, e5]; exact beq_self_eq_true _)]
    · rw [if_neg e5, if_neg (by rw [hest]; intro h; exact e5 (beq_iff_eq.1 h).symm)]
  have HST := Lib.hid hest
  have HRR := Lib.hid hR2
  clear hR hR2 hest
  unfold NewRow at hcp
  go_enter Tryd.func11, Tryd.ntmps11
  go_wp2_with fail
  refine hc1.mono ?_
  rintro e w2 ⟨rfl, rfl⟩
  go_wp2_with fail
  refine hc2.mono ?_
  rintro e w2 ⟨rfl, rfl⟩
  go_wp2_with fail
  refine hcp.mono ?_
  rintro e W ⟨v3, rfl, ho, b3⟩
  clear hcp hc1 hc2
  obtain ⟨b', ⟨co, rfl⟩⟩ : ∃ b', ∃ co, v3 = .slice (some ⟨b', 0, none⟩) (k + 1) co := by
    obtain ⟨ao, co, rfl⟩ := owns_slice ho
    obtain ⟨b', rfl, _⟩ := owns_at ho (by omega)
    exact ⟨b', co, rfl⟩
  obtain ⟨b'', o', he, _, _, hx⟩ := (Rd.of_owns ho).at (by omega)
  simp only [Option.some.injEq, Addr.mk.injEq] at he
  obtain ⟨rfl, rfl, _⟩ := he
  obtain ⟨c0, c1⟩ := pr_cells hx k (by rw [HW.out]; omega)
  simp only [Nat.zero_add] at c0 c1
  have hqk : l[k]'(by rw [HW.out]; omega) = q := by
    have := HQK.out
    rw [List.getElem?_eq_getElem (by rw [HW.out]; omega)] at this
    exact Option.some.inj this
  rw [hqk] at c0 c1
  have z0 := World.ownsRow.frozenAt ho (k * 2)
  have s1 := World.ownsRow.stored ho (k * 2) (.int .i64 p.ep)
  have B3 := nxt b1 b3
  cases est
  · have hne : (q.st == p.st) = false := HST.out.symm
    clear s1 hqk hx
    have b3s : w.heap.size + 1 ≤ W.heap.size := by have := b3.size; simpa using this
    go_wp2_with (at_builtin; refine wpList_append_own _ rfl _ _ 22 rfl _ 46 i0 _ 2 16 Tryd.underlying22 hi hz0 hz1 hz2 rfl (by decide) _ _ _ rfl (ho.alloc _) ⟨W.heap.size, 0, none⟩ 1 1 [.int .i64 p.ep, .int .i64 p.st] rfl (by rfl) (cells_new W #[.int .i64 p.ep, .int .i64 p.st] 46) (by simp [Value.oneCell']) (by unfold maxLen; omega) (by omega) (by simp; omega) ?_)
    intro v' w' hown' hgrow _
    have B6 : Below w.heap.size w w' := (B3.alloc B3.size _).grown hgrow (by have := B3.size; simp; omega) (fun k hk => by have := (ho.lt k hk).1; have := b1.size; omega)
    rw [pr_app] at hown'
    go_wp2_with fail
    go_ret2
    rw [HRR.out, if_neg (by decide)]
    refine ⟨_, rfl, .inr ⟨w.heap.size + 1, Nat.le_succ _, ?_⟩, B6⟩
    rw [List.length_append, HW.out]
    exact hown'
  · have hne : (q.st == p.st) = true := HST.out.symm
    have heq : q.st = p.st := beq_iff_eq.1 hne
    obtain ⟨s1o, s1g⟩ := s1
    rw [HF1.out, heq] at s1o
    have B6 : Below w.heap.size w (W.setCell ⟨b', k * 2, none⟩ (.int .i64 p.ep)) := B3.grown s1g B3.size (fun k hk => by have := (ho.lt k hk).1; have := b1.size; omega)
    have S1O := Lib.hid s1o
    clear s1o s1g hqk hx heq
    go_wp2_with fail
    go_ret2
    rw [HRR.out]
    first | rw [if_pos trivial] | rw [if_pos rfl]
    refine ⟨_, rfl, .inr ⟨_, ?_, by rw [HDL.out]; exact S1O.out⟩, B6⟩
    exact (below_alloc w _).size

/-- The document's Begin. -/
theorem refBegin_calls (v : Value) (l : List Pr) (p : Pr) (w : World) (h : Rd w 2 v l.length (l.flatMap prV)) (hl : l.length ≤ 256) :
    Calls Tryd.prog 11 #[v, .int .i64 p.ep, .int .i64 p.st] w (RBeg l v (beginR l p) w) := by
  by_cases hr : Epo.right p = false
  · have := refBegin_bad v l p w h hr
    rw [beginR, if_pos hr]
    exact this
  · have hr' : Epo.right p = true := by simpa using hr
    cases hq : l.getLast? with
    | none =>
      have hl0 : l = [] := by simpa using hq
      subst hl0
      have := refBegin_none v p w h hr'
      rw [beginR, if_neg hr]
      exact this
    | some q => exact refBegin_some v l p q w h hl hr' hq
end Go.Proofs.YtdlcpcpcojpecaaDoor
