/- Pairs in memory: are they right, the first one that is not; a copy of them. -/
import Derived.Test.YtdlcpcpcojpecaaDoorBase
import Derived.Test.YtdlcpcpcojpecaaDoorRowNew
import Derived.Test.YtdlcpcpcojpecaaDoorPlain
namespace Go.Proofs.YtdlcpcpcojpecaaDoor
open Go Go.RowKit Epo

def prV (m : Pr) : List Value := [.int .i64 m.ep, .int .i64 m.st]
theorem prV_len (l : List Pr) : ∀ x ∈ l, (prV x).length = 2 := fun _ _ => rfl
theorem prV_one (l : List Pr) : ∀ u ∈ l.flatMap prV, u.oneCell' = true := by
  intro u hu
  obtain ⟨m, _, hm⟩ := List.mem_flatMap.1 hu
  simp only [prV, List.mem_cons, List.not_mem_nil, or_false] at hm
  rcases hm with rfl | rfl <;> rfl
theorem pr_cells {w : World} {b o : Nat} {l : List Pr} (hx : ∀ j u, (l.flatMap prV)[j]? = some u → w.cell? ⟨b, o + j, none⟩ = some u) (i : Nat) (hi : i < l.length) :
    w.cell? ⟨b, o + i * 2, none⟩ = some (.int .i64 l[i].ep) ∧ w.cell? ⟨b, o + i * 2 + 1, none⟩ = some (.int .i64 l[i].st) := by
  have h := fun j hj => flat_at prV 2 l (prV_len l) i hi j hj
  exact ⟨hx (i * 2 + 0) _ (h 0 (by omega)), hx (i * 2 + 1) _ (h 1 (by omega))⟩
theorem info_pair : (Tryd.prog.info? 46).map (fun i => (i.zero, i.size, i.bytes)) = some (some (.agg #[.int .i64 0, .int .i64 0]), 2, 16) := by kernel_rfl

set_option maxRecDepth 100000 in
set_option maxHeartbeats 400000 in
theorem prRight_calls (m : Pr) (w : World) :
    Calls Tryd.prog 22 #[.agg #[.int .i64 m.ep, .int .i64 m.st]] w (fun e w' => e = .returned (.bool (Epo.right m)) ∧ Below w.heap.size w w') := by
  obtain ⟨o, t⟩ := m
  have hr : Epo.right ⟨o, t⟩ = decide (0 ≤ o ∧ o ≤ 1073741824 ∧ 0 ≤ t ∧ t ≤ 1099511627776) := rfl
  have HR := Lib.hid hr
  clear hr
  simp only
  go_enter Tryd.func22, Tryd.ntmps22
  go_wp2_with fail
  all_goals (
    go_ret
    rw [HR.out]
    exact ⟨congrArg (fun z => Ending.returned (.bool z)) (by first | (simp_all; done) | (simp_all; omega)), below_alloc _ _⟩)

set_option maxRecDepth 100000 in
set_option maxHeartbeats 400000 in
theorem prBad_calls (m : Pr) (w : World) :
    Calls Tryd.prog 21 #[.agg #[.int .i64 m.ep, .int .i64 m.st]] w (fun e w' => e = .returned (.bool (!Epo.right m)) ∧ Below w.heap.size w w') := by
  have b1 := below_alloc w (.cells #[.int .i64 m.ep, .int .i64 m.st] 46)
  have hc := prRight_calls m (w.alloc (.cells #[.int .i64 m.ep, .int .i64 m.st] 46))
  obtain ⟨r, hr⟩ : ∃ r, Epo.right m = r := ⟨_, rfl⟩
  rw [hr] at hc ⊢
  clear hr
  go_enter Tryd.func21, Tryd.ntmps21
  go_wp2_with fail
  refine hc.mono ?_
  rintro e w2 ⟨rfl, b2⟩
  go_wp2_with fail
  go_ret
  exact ⟨rfl, nxt b1 b2⟩

set_option maxRecDepth 100000 in
set_option maxHeartbeats 400000 in
theorem clone_pairs (v : Value) (n : Nat) (xs : List Value) (w : World) (h : Rd w 2 v n xs) (h1 : ∀ u ∈ xs, u.oneCell' = true) (hn : n ≤ 1000000000) :
    Calls Tryd.prog 23 #[v] w (NewRow 46 2 n xs w) := by
  obtain ⟨i0, hi, hz0, hz1, hz2⟩ := info_parts info_pair
  rcases h.2 with ⟨rfl, rfl⟩ | ⟨x, cap, rfl, hc, hm, hx⟩
  · have hxs : xs = [] := by have := h.1; simpa using this
    subst hxs
    have hq := fun w' => Lib.run_eql_slice_nil (P := Tryd.prog) w' 22 46 none 0 0 0 0 Tryd.underlying22
    go_enter Tryd.func23, Tryd.ntmps23
    go_wp2_with fail
    go_ret
    exact ⟨_, rfl, World.ownsRow_nil _ _ _ _, Below.refl _ _⟩
  · have hq := fun w' => Lib.run_eql_slice_nil (P := Tryd.prog) w' 22 46 (some x) n cap 0 0 Tryd.underlying22
    go_enter Tryd.func23, Tryd.ntmps23
    go_wp2_with (at_builtin; refine wpList_append_own _ rfl _ _ 22 rfl w.heap.size 46 i0 _ 2 16 Tryd.underlying22 hi hz0 hz1 hz2 rfl (by decide) _ 0 [] rfl (World.ownsRow_made w #[] 0 (Nat.le_refl _) (by decide) rfl) x n cap xs rfl ?c0 ?c1 ?c2 ?c3 ?c4 ?c5 ?_)
    case c0 => exact h.1
    case c1 => intro j u hu; have h3 := hx j u hu; rw [(Below.alloc (Below.refl w.heap.size w) (Nat.le_refl _) _).cell (World.block_lt_of_cell? w _ h3)]; exact h3
    case c2 => exact h1
    case c3 => unfold maxLen at hm ⊢; omega
    case c4 => omega
    case c5 => simp
    intro v' w' hown hgrow _
    go_wp2
    go_ret
    refine ⟨_, rfl, ?_, ?_⟩
    · simpa using hown
    · exact ((Below.refl _ _).alloc (Nat.le_refl _) _).grown hgrow (by simp) (by simp [Value.ownBlock])

/-- Where the first pair that is not right lies. -/
def IdxFuncPost (l : List Pr) (w : World) (e : Ending) (w' : World) : Prop :=
  ∃ r : Int, e = .returned (.int .i64 r) ∧ -1 ≤ r ∧ (0 ≤ r ∧ l.all Epo.right = false ∨ r = -1 ∧ l.all Epo.right = true) ∧ Below w.heap.size w w'

set_option maxRecDepth 100000 in
set_option maxHeartbeats 1000000 in
theorem idxFunc_calls {w : World} {v : Value} {l : List Pr} (h : Rd w 2 v l.length (l.flatMap prV)) :
    Calls Tryd.prog 39 #[v, .func (.func 21) #[] #[]] w (IdxFuncPost l w) := by
  obtain ⟨am, cm, rfl⟩ := h.slice
  have m1 := h.len_le
  go_enter Tryd.func39, Tryd.ntmps39
  go_wp2_with fail
  go_loopw [5, 8] (fun _ iv wr => ∃ i : Nat, i ≤ l.length ∧ iv = .int .i64 i ∧ (∀ m ∈ l.take i, Epo.right m = true) ∧ Below w.heap.size w wr) (fun _ iv _ => l.length - (intOf iv).toNat)
  case atStart => exact ⟨0, Nat.zero_le _, rfl, by simp, Below.refl _ _⟩
  case round =>
    obtain ⟨i, hi, rfl, hs, hb⟩ := hrel
    have HS := Lib.hid hs
    clear hs
    by_cases hlt : i < l.length
    · obtain ⟨b, o, rfl, hc1, hm1, hx1⟩ := (h.below hb).at (by omega) (by omega)
      obtain ⟨q0, q1⟩ := pr_cells hx1 i hlt
      have hnext : l.take (i + 1) = l.take i ++ [l[i]] := List.take_succ_eq_append_getElem hlt
      have hmem : l[i] ∈ l := List.getElem_mem hlt
      have HNX := Lib.hid hnext
      clear hx1 hnext
      generalize l[i] = m at *
      have hc := prBad_calls m wr
      cases hr : Epo.right m
      · have HA := Lib.hid (show l.all Epo.right = false by rw [List.all_eq_false]; exact ⟨m, hmem, by rw [hr]; decide⟩)
        rw [hr] at hc
        clear hr
        go_wp2_with (go_at_call 21; refine hc.mono ?_; rintro e w2 ⟨rfl, b2⟩)
        go_ret
        unfold IdxFuncPost
        exact ⟨_, rfl, by omega, .inl ⟨by omega, HA.out⟩, nxt hb (by assumption)⟩
      · have HR := Lib.hid hr
        rw [hr] at hc
        clear hr
        go_wp2_with (go_at_call 21; refine hc.mono ?_; rintro e w2 ⟨rfl, b2⟩)
        refine ⟨⟨i + 1, by omega, by go_num, ?_, nxt hb (by assumption)⟩, by simp [intOf]; omega⟩
        intro y hy
        rw [HNX.out] at hy
        rcases List.mem_append.1 hy with h1 | h1
        · exact HS.out y h1
        · simp only [List.mem_singleton] at h1; subst h1; exact HR.out
    · have HA := Lib.hid (show l.all Epo.right = true by
        rw [List.all_eq_true]
        have := HS.out
        rwa [List.take_of_length_le (by omega)] at this)
      go_wp2_with fail
      go_ret
      unfold IdxFuncPost
      exact ⟨_, rfl, by omega, .inr ⟨rfl, HA.out⟩, hb⟩

set_option maxRecDepth 100000 in
set_option maxHeartbeats 400000 in
theorem containsFunc_calls {w : World} {v : Value} {l : List Pr} (h : Rd w 2 v l.length (l.flatMap prV)) :
    Calls Tryd.prog 20 #[v, .func (.func 21) #[] #[]] w (fun e w' => e = .returned (.bool (!l.all Epo.right)) ∧ Below w.heap.size w w') := by
  have hc := idxFunc_calls h
  unfold IdxFuncPost at hc
  obtain ⟨u, hu⟩ : ∃ u, l.all Epo.right = u := ⟨_, rfl⟩
  rw [hu] at hc ⊢
  clear hu
  go_enter Tryd.func20, Tryd.ntmps20
  go_wp2_with fail
  refine hc.mono ?_
  rintro e w2 h2
  obtain ⟨r, rfl, h0, h1, b2⟩ := h2
  rcases h1 with ⟨h1, rfl⟩ | ⟨rfl, rfl⟩
  all_goals (
    go_wp2_with fail
    go_ret
    exact ⟨rfl, b2⟩)
end Go.Proofs.YtdlcpcpcojpecaaDoor
