/- Plain: entries one behind the other; cut; with a byte turned. -/
import Derived.Test.YtldopocmmeidkaaDoorEntAll
namespace Go.Proofs.YtldopocmmeidkaaDoor
open Go Go.RowKit Man Vint Crc

theorem openL_take {l b : List UInt8} (h : openL l = .ok b) : b = l.take (l.length - 4) ∧ 4 ≤ l.length := by
  unfold openL at h
  split at h
  · cases h
  · split at h
    · simp only [OR.ok.injEq] at h; exact ⟨h.symm, by omega⟩
    · cases h
theorem spoil_sum' {L : Nat} {X EB : List UInt8} {d : UInt8} (hd : d ≠ 0) (hL : L = (sealed X).length) (hl : L ≤ 65000) (hE : EB = lit L 4 ++ sealed X) (k : Nat) (h4 : 4 ≤ k) (hk : k < EB.length) :
    little ((EB.set k (EB[k] ^^^ d)).take 4) = L ∧ openL (((EB.set k (EB[k] ^^^ d)).drop 4).take L) = .sum := by
  have l4 := lit_length 4 L
  subst hE
  have hk' : k - 4 < (sealed X).length := by rw [List.length_append, l4] at hk; omega
  have he : (lit L 4 ++ sealed X)[k] = (sealed X)[k - 4] := by rw [List.getElem_append_right (by omega)]; simp only [l4]
  rw [he]
  refine ⟨?_, ?_⟩
  · rw [List.take_set, List.take_left' l4, List.set_eq_of_length_le (by omega), little_lit 4 L (by omega)]
  · rw [List.drop_set, if_neg (by omega), List.drop_left' l4, List.take_of_length_le (by rw [List.length_set]; omega)]
    refine openL_sum _ (by rw [List.length_set, sealed_len]; omega) ?_
    have := run_turned_ne hd (sealed X) (k - 4) hk' (~~~ 0#32)
    rw [run_sealed] at this
    exact this

theorem EGood.not_nil {s k : Int} {m : ManD} {n : Nat} (h : EGood [] s k m n) : False := by
  have := h.1; simp at this
theorem AllR.det {bs : List UInt8} {l : List (Int × ManD)} {p : Nat} (h : AllR bs l p) : ∀ {l' : List (Int × ManD)} {p' : Nat}, AllR bs l' p' → l.length = l'.length → l = l' ∧ p = p' := by
  induction h with
  | nil =>
    intro l' p' h' hl
    cases h' with
    | nil => exact ⟨rfl, rfl⟩
    | snoc _ _ => simp at hl
  | snoc h1 hg ih =>
    intro l' p' h' hl
    cases h' with
    | nil => simp at hl
    | snoc h2 hg2 =>
      obtain ⟨rfl, rfl⟩ := ih h2 (by simpa using hl)
      obtain ⟨-, rfl, rfl, rfl⟩ := hg.uniq hg2
      exact ⟨rfl, rfl⟩
theorem AllR.pre {bs : List UInt8} {l : List (Int × ManD)} {p : Nat} (h : AllR bs l p) : ∀ j, j < l.length → ∃ q s k m n, AllR bs (l.take j) q ∧ EGood (bs.drop q) s k m n := by
  induction h with
  | nil => intro j hj; simp at hj
  | @snoc l p s k m n h1 hg ih =>
    intro j hj
    rw [List.length_append, List.length_singleton] at hj
    by_cases e : j = l.length
    · subst e
      exact ⟨p, s, k, m, n, by rw [List.take_left]; exact h1, hg⟩
    · obtain ⟨q, s', k', m', n', h2, h3⟩ := ih j (by omega)
      exact ⟨q, s', k', m', n', by rw [List.take_append_of_le_length (by omega)]; exact h2, h3⟩
/-- Nothing more is there. -/
def Stops (bs : List UInt8) (p : Nat) : Prop := ∀ s k m n, ¬ EGood (bs.drop p) s k m n
theorem AllR.end_uniq {bs : List UInt8} {l l' : List (Int × ManD)} {p p' : Nat} (h : AllR bs l p) (hs : Stops bs p) (h' : AllR bs l' p') (hs' : Stops bs p') : l = l' ∧ p = p' := by
  have aux : ∀ {l l' : List (Int × ManD)} {p p' : Nat}, AllR bs l p → Stops bs p → AllR bs l' p' → ¬ l.length < l'.length := by
    intro l l' p p' h hs h' hlt
    obtain ⟨q, s, k, m, n, h2, h3⟩ := h'.pre l.length hlt
    obtain ⟨-, rfl⟩ := h.det h2 (by rw [List.length_take]; omega)
    exact hs s k m n h3
  have h1 := aux h hs h'
  have h2 := aux h' hs' h
  exact h.det h' (by omega)
theorem stops_end (bs : List UInt8) : Stops bs bs.length := fun s k m n h => by
  rw [List.drop_of_length_le (Nat.le_refl _)] at h
  exact h.not_nil

/-- An entry that may be laid: its number, its kind, its manifest. -/
structure EntG where
  s : Int
  k : Int
  m : ManD
def EntG.b (x : EntG) : List UInt8 := entB x.s x.k x.m
def EntG.d (x : EntG) : Int × ManD := (x.k, x.m)
structure EntG.Ok (x : EntG) : Prop where
  mok : manOk x.m
  ok : Man.Ok x.m
  s0 : 0 ≤ x.s
  s1 : I64 x.s
  k1 : 1 ≤ x.k
  k4 : x.k ≤ 4
def rowB (l : List EntG) : List UInt8 := l.flatMap EntG.b
/-- Where the first j end. -/
def endB (l : List EntG) (j : Nat) : Nat := (rowB (l.take j)).length

theorem rowB_snoc (l : List EntG) (x : EntG) : rowB (l ++ [x]) = rowB l ++ x.b := by unfold rowB; rw [List.flatMap_append]; simp
theorem rowB_split (l : List EntG) (j : Nat) : rowB l = rowB (l.take j) ++ rowB (l.drop j) := by
  conv => lhs; rw [← List.take_append_drop j l]
  unfold rowB
  rw [List.flatMap_append]
theorem take_next' (l : List EntG) (j : Nat) (h : j < l.length) : l.take (j + 1) = l.take j ++ [l[j]] := List.take_succ_eq_append_getElem h
theorem endB_next (l : List EntG) (j : Nat) (h : j < l.length) : endB l (j + 1) = endB l j + l[j].b.length := by
  unfold endB
  rw [take_next' l j h, rowB_snoc, List.length_append]
theorem b_pos (x : EntG) : 21 ≤ x.b.length := by
  unfold EntG.b; rw [entB_len]; omega
theorem endB_all (l : List EntG) (j : Nat) (h : l.length ≤ j) : endB l j = (rowB l).length := by
  unfold endB; rw [List.take_of_length_le h]
theorem endB_le (l : List EntG) (j : Nat) : endB l j ≤ (rowB l).length := by
  unfold endB rowB
  conv => rhs; rw [← List.take_append_drop j l, List.flatMap_append, List.length_append]
  omega
theorem endB_mono (l : List EntG) (i j : Nat) (h : i ≤ j) : endB l i ≤ endB l j := by
  have h1 := endB_le (l.take j) i
  unfold endB at *
  rw [List.take_take, Nat.min_eq_left h] at h1
  exact h1
theorem rowB_at (l : List EntG) (j : Nat) (h : j < l.length) : rowB l = rowB (l.take j) ++ (l[j].b ++ rowB (l.drop (j + 1))) := by
  conv => lhs; rw [← List.take_append_drop (j + 1) l]
  unfold rowB
  rw [List.flatMap_append, take_next' l j h, List.flatMap_append]
  simp

/-- Whatever bytes begin with the first j: they are read. -/
theorem rows_read (l : List EntG) (hok : ∀ x ∈ l, x.Ok) (bs : List UInt8) : ∀ j, j ≤ l.length → bs.take (endB l j) = rowB (l.take j) → AllR bs ((l.take j).map EntG.d) (endB l j) := by
  intro j
  induction j with
  | zero => intro _ _; simp only [List.take_zero, List.map_nil]; exact .nil
  | succ j ih =>
    intro hj hb
    have hlt : j < l.length := by omega
    have he := endB_next l j hlt
    have h1 : bs.take (endB l j) = rowB (l.take j) := by
      have := congrArg (List.take (endB l j)) hb
      rw [List.take_take, Nat.min_eq_left (by omega), take_next' l j hlt, rowB_snoc] at this
      rw [this]
      exact List.take_left' rfl
    have h2 := ih (by omega) h1
    have h3 : bs.drop (endB l j) = l[j].b ++ bs.drop (endB l (j + 1)) := by
      have h4 := List.take_append_drop (endB l (j + 1)) bs
      rw [hb, take_next' l j hlt, rowB_snoc] at h4
      conv => lhs; rw [← h4]
      rw [List.append_assoc]; exact List.drop_left' rfl
    have hx := hok l[j] (List.getElem_mem hlt)
    have hg := egood_put hx.mok hx.ok hx.s0 hx.s1 hx.k1 hx.k4 (bs.drop (endB l (j + 1)))
    have hg' : EGood (bs.drop (endB l j)) l[j].s l[j].k l[j].m l[j].b.length := by rw [h3]; exact hg
    have := AllR.snoc h2 hg'
    rw [take_next' l j hlt, List.map_append, he]
    exact this

/-- Cut at a place: up to there. -/
theorem rows_cut (l : List EntG) (hok : ∀ x ∈ l, x.Ok) (k j : Nat) (hj : j ≤ l.length) (h1 : endB l j ≤ k) (h2 : j < l.length → k < endB l (j + 1)) :
    AllR ((rowB l).take k) ((l.take j).map EntG.d) (endB l j) ∧ Stops ((rowB l).take k) (endB l j) := by
  have hb : (rowB l).take (endB l j) = rowB (l.take j) := by
    rw [rowB_split l j]
    exact List.take_left' rfl
  refine ⟨rows_read l hok _ j hj (by rw [List.take_take, Nat.min_eq_left h1]; exact hb), ?_⟩
  by_cases e : j < l.length
  · intro s k' m n hg
    have h3 := h2 e
    rw [endB_next l j e] at h3
    have h4 : ((rowB l).take k).drop (endB l j) = l[j].b.take (k - endB l j) := by
      rw [rowB_at l j e, List.drop_take]
      rw [show ((rowB (l.take j)) ++ (l[j].b ++ rowB (l.drop (j + 1)))).drop (endB l j) = l[j].b ++ rowB (l.drop (j + 1)) from List.drop_left' rfl]
      rw [List.take_append_of_le_length (by omega)]
    rw [h4] at hg
    have hx := hok l[j] (List.getElem_mem e)
    exact (egood_cut hx.mok hx.ok (k - endB l j) (by unfold EntG.b at h3; omega)).1 s k' m n hg
  · intro s k' m n hg
    have h3 := endB_all l j (by omega)
    rw [List.drop_of_length_le (by rw [List.length_take]; omega)] at hg
    exact hg.not_nil

/-- An entry with a byte turned is none. -/
theorem egood_turned {seq k : Int} {m : ManD} (h : manOk m) (hk : Man.Ok m) (t : Nat) (ht : t < (entB seq k m).length) (d : UInt8) (hd : d ≠ 0) (rest : List UInt8) : ∀ s' k' m' n', ¬ EGood ((entB seq k m).set t ((entB seq k m)[t] ^^^ d) ++ rest) s' k' m' n' := by
  intro s' k' m' n' hg
  have hl := mbody_len m h hk
  have hlen := entB_len seq k m
  have hL : (sealed (entL seq k m)).length = 17 + (mbody m).length := by rw [sealed_len, entL_len]; omega
  have e4 : (lit (sealed (entL seq k m)).length 4).length = 4 := lit_length 4 _
  have hB : entB seq k m = lit (sealed (entL seq k m)).length 4 ++ sealed (entL seq k m) := rfl
  by_cases h4 : 4 ≤ t
  · -- behind its length: the sum tells
    have hs := spoil_sum' hd (X := entL seq k m) (L := (sealed (entL seq k m)).length) rfl (by omega) hB t h4 ht
    obtain ⟨hs1, hs2⟩ := hs
    have e1 : ((entB seq k m).set t ((entB seq k m)[t] ^^^ d) ++ rest).take 4 = ((entB seq k m).set t ((entB seq k m)[t] ^^^ d)).take 4 := List.take_append_of_le_length (by rw [List.length_set]; omega)
    obtain ⟨-, -, -, -, b, hb, -⟩ := hg
    rw [e1, hs1] at hb
    rw [List.drop_append_of_le_length (by rw [List.length_set]; omega), List.take_append_of_le_length (by rw [List.length_drop, List.length_set]; omega)] at hb
    rw [hs2] at hb
    cases hb
  · -- its length: what is read is cut off, or goes on
    obtain ⟨x, hx⟩ : ∃ x, x = (entB seq k m)[t] ^^^ d := ⟨_, rfl⟩
    have hset : (entB seq k m).set t ((entB seq k m)[t] ^^^ d) = (lit (sealed (entL seq k m)).length 4).set t x ++ sealed (entL seq k m) := by
      rw [← hx, hB, List.set_append_left _ _ (by omega)]
    have hne : little ((lit (sealed (entL seq k m)).length 4).set t x) ≠ (sealed (entL seq k m)).length := by
      intro e1
      have e2 : lit (little ((lit (sealed (entL seq k m)).length 4).set t x)) 4 = lit (sealed (entL seq k m)).length 4 := by rw [e1]
      have e3 := lit_little ((lit (sealed (entL seq k m)).length 4).set t x)
      rw [List.length_set, e4] at e3
      rw [e3] at e2
      have e5 : (lit (sealed (entL seq k m)).length 4)[t]? = some x := by
        rw [← e2]; exact List.getElem?_set_self (by omega)
      have e6 : (lit (sealed (entL seq k m)).length 4)[t]? = some (entB seq k m)[t] := by
        have : (entB seq k m)[t]? = (lit (sealed (entL seq k m)).length 4)[t]? := by rw [hB]; exact List.getElem?_append_left (by omega)
        rw [← this]; exact List.getElem?_eq_getElem ht
      rw [e6] at e5
      have e7 : (entB seq k m)[t] = (entB seq k m)[t] ^^^ d := by rw [← hx]; exact Option.some.inj e5
      have e8 : (entB seq k m)[t] ^^^ ((entB seq k m)[t] ^^^ d) = (entB seq k m)[t] ^^^ (entB seq k m)[t] := by rw [← e7]
      rw [← UInt8.xor_assoc, UInt8.xor_self, UInt8.zero_xor] at e8
      exact hd e8
    rw [hset, List.append_assoc] at hg
    obtain ⟨Q, hQ⟩ : ∃ Q, Q = (lit (sealed (entL seq k m)).length 4).set t x := ⟨_, rfl⟩
    have hQl : Q.length = 4 := by rw [hQ, List.length_set, e4]
    rw [← hQ] at hg hne
    obtain ⟨-, hg2, hg3, -, b, hb, hb9, -, -, -, -, -, bb, hb1, hb2, -⟩ := hg
    rw [List.take_left' hQl] at hg2 hg3 hb
    rw [List.drop_left' hQl] at hb
    obtain ⟨L', hL'⟩ : ∃ L', L' = little Q := ⟨_, rfl⟩
    rw [← hL'] at hne hg2 hg3 hb
    rw [List.length_append, List.length_append, hQl] at hg3
    -- what is opened
    have hop := openL_take hb
    have hop2 := openL_take hb1
    have hbl : b.length + 4 = L' := by
      rw [hop.1, List.length_take, List.length_take, List.length_append]
      have := hop.2
      rw [List.length_take, List.length_append] at this
      omega
    have hbe : b = (sealed (entL seq k m) ++ rest).take (L' - 4) := by
      rw [hop.1, List.take_take]
      congr 1
      rw [List.length_take, List.length_append]
      omega
    have hs : sealed (entL seq k m) ++ rest = entL seq k m ++ (le4 (sum (entL seq k m)) ++ rest) := by unfold sealed; rw [List.append_assoc]
    have hd9 : b.drop 9 = ((sealed (mbody m)) ++ (le4 (sum (entL seq k m)) ++ rest)).take (L' - 13) := by
      rw [hbe, hs, List.drop_take, List.drop_append_of_le_length (by rw [entL_len]; omega), entL_drop]
      congr 1
    have hdl : (b.drop 9).length = L' - 13 := by rw [List.length_drop]; omega
    have hbb : bb = ((sealed (mbody m)) ++ (le4 (sum (entL seq k m)) ++ rest)).take (L' - 17) := by
      rw [hop2.1, hdl, hd9, List.take_take]
      congr 1
      have := hop2.2
      rw [hdl] at this
      omega
    have hbb2 : bb = (mbody m ++ (le4 (sum (mbody m)) ++ (le4 (sum (entL seq k m)) ++ rest))).take (L' - 17) := by
      rw [hbb]; unfold sealed; rw [List.append_assoc]
    by_cases hlt : L' - 17 < (mbody m).length
    · rw [List.take_append_of_le_length (by omega)] at hbb2
      rw [hbb2, readM_cut m (putOk_of2 h hk) _ hlt] at hb2
      cases hb2
    · have hgt : (mbody m).length < L' - 17 := by have := hop2.2; rw [hdl] at this; omega
      have hbb3 : bb = mbody m ++ (le4 (sum (mbody m)) ++ (le4 (sum (entL seq k m)) ++ rest)).take (L' - 17 - (mbody m).length) := by
        rw [hbb2, List.take_append, List.take_of_length_le (by omega)]
      have hbl2 : bb.length = L' - 17 := by
        have h1 := hop2.1
        have h2 := hop2.2
        rw [h1, List.length_take, hdl]
        rw [hdl] at h2
        omega
      rw [hbb3, readM_put m (putOk_of2 h hk), if_neg (by
        intro h0
        rw [hbb3, List.length_append, h0] at hbl2
        omega)] at hb2
      cases hb2

/-- With a byte turned: up to the entry that was touched. -/
theorem rows_turned (l : List EntG) (hok : ∀ x ∈ l, x.Ok) (i j : Nat) (hi : i < (rowB l).length) (d : UInt8) (hd : d ≠ 0) (hj : j < l.length) (h1 : endB l j ≤ i) (h2 : i < endB l (j + 1)) :
    AllR ((rowB l).set i ((rowB l)[i] ^^^ d)) ((l.take j).map EntG.d) (endB l j) ∧ Stops ((rowB l).set i ((rowB l)[i] ^^^ d)) (endB l j) := by
  have hr := rowB_at l j hj
  have he := endB_next l j hj
  have hpl : (rowB (l.take j)).length = endB l j := rfl
  have ht : i - endB l j < l[j].b.length := by omega
  have hx : (rowB l)[i] = l[j].b[i - endB l j] := by
    have h3 : (rowB l)[i]? = some (rowB l)[i] := List.getElem?_eq_getElem hi
    have h4 : (rowB l)[i]? = some l[j].b[i - endB l j] := by
      rw [hr, List.getElem?_append_right (by omega), hpl, List.getElem?_append_left ht]
      exact List.getElem?_eq_getElem ht
    rw [h3] at h4
    exact Option.some.inj h4
  rw [hx]
  obtain ⟨x, hxx⟩ : ∃ x, x = l[j].b[i - endB l j] ^^^ d := ⟨_, rfl⟩
  have hs : (rowB l).set i x = rowB (l.take j) ++ (l[j].b.set (i - endB l j) x ++ rowB (l.drop (j + 1))) := by
    rw [hr, List.set_append_right _ _ (by omega), hpl, List.set_append_left _ _ ht]
  rw [← hxx, hs]
  refine ⟨rows_read l hok _ j (by omega) (List.take_left' rfl), ?_⟩
  intro s k' m n hg
  rw [List.drop_left' hpl, hxx] at hg
  have ho := hok l[j] (List.getElem_mem hj)
  exact egood_turned ho.mok ho.ok (i - endB l j) ht d hd _ s k' m n hg
end Go.Proofs.YtldopocmmeidkaaDoor
