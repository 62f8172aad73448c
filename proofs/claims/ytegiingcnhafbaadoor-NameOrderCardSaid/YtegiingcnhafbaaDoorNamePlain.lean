/- Plain: what names of segments and objects say; a text cut at each '-'. -/
import Derived.Test.YtegiingcnhafbaaDoorNameOrd
import Derived.Lib.SplitLaws
namespace Go.Proofs.YtegiingcnhafbaaDoor
open Go Go.RowKit

theorem dig_val : ∀ (k : Nat) (l : List UInt8), l.length = k → (∀ x ∈ l, 48 ≤ x.toNat ∧ x.toNat ≤ 57) → digL (valL l) k = l := by
  intro k
  induction k with
  | zero => intro l h _; have := List.length_eq_zero_iff.1 h; subst this; rfl
  | succ k ih =>
    intro l h hd
    have hne : l ≠ [] := by intro e; subst e; simp at h
    obtain ⟨a, c, rfl⟩ : ∃ a c, l = a ++ [c] := ⟨l.dropLast, l.getLast hne, (List.dropLast_concat_getLast hne).symm⟩
    have hc := hd c (by simp)
    rw [valL_snoc]
    show digL ((10 * valL a + (c.toNat - 48)) / 10) k ++ [UInt8.ofNat (48 + (10 * valL a + (c.toNat - 48)) % 10)] = a ++ [c]
    have e1 : (10 * valL a + (c.toNat - 48)) / 10 = valL a := by omega
    have e2 : 48 + (10 * valL a + (c.toNat - 48)) % 10 = c.toNat := by omega
    rw [e1, e2, ih a (by simpa using h) (fun x hx => hd x (by simp [hx])), UInt8.ofNat_toNat]
theorem numL_iff (k n : Nat) (l : List UInt8) (hl : l.length = k + 1) : numL l = some n ↔ n < 10 ^ (k + 1) ∧ l = wideL n (k + 1) := by
  constructor
  · intro h
    unfold numL at h
    split at h
    · next hd =>
      have hd' : ∀ x ∈ l, 48 ≤ x.toNat ∧ x.toNat ≤ 57 := fun x hx => of_decide_eq_true (List.all_eq_true.1 hd x hx)
      have hv := valL_lt l hd'
      rw [hl] at hv
      simp only [Option.some.injEq] at h
      subst h
      exact ⟨hv, by rw [wide_dig k _ hv, dig_val (k + 1) l hl hd']⟩
    · cases h
  · rintro ⟨h1, rfl⟩
    exact numL_wide n (k + 1)

/-- A segment's name. -/
def segL (n : Nat) : List UInt8 := [108, 111, 103, 45] ++ wideL n 13
def segO (base : Int) : ByteArray := if offOk base = true then ⟨(segL base.toNat).toArray⟩ else ⟨#[]⟩
theorem segL_len {n : Nat} (h : n ≤ 1099511627776) : (segL n).length = 17 := by
  unfold segL
  rw [List.length_append, wideL_len n 12 (by omega)]; rfl
theorem segL_inj {n m : Nat} (h : segL n = segL m) : n = m := by
  unfold segL at h
  have e := congrArg valL (List.append_cancel_left h)
  rw [valL_wide, valL_wide] at e
  exact e
theorem object_parts {i j a b : Nat} {k k' : ByteArray} (hi : i ≤ 2147483647) (hj : j ≤ 2147483647) (ha : a ≤ 1099511627776) (hb : b ≤ 1099511627776) (h : objectL i k a = objectL j k' b) : i = j ∧ k = k' ∧ a = b := by
  have hl := congrArg List.length h
  rw [objectL_len i k a (by omega) (by omega), objectL_len j k' b (by omega) (by omega)] at hl
  unfold objectL at h
  have l1 := wideL_len i 9 (by omega)
  have l2 := wideL_len j 9 (by omega)
  have l3 := wideL_len a 12 (by omega)
  have l4 := wideL_len b 12 (by omega)
  have h1 := List.append_inj' h (by rw [l3, l4])
  have h2 := List.append_inj' h1.1 rfl
  have h3 := List.append_inj' h2.1 (by rw [kind_len, kind_len]; omega)
  have h4 := List.append_inj' h3.1 rfl
  have h5 := List.append_inj h4.1 rfl
  have e1 := congrArg valL h5.2
  have e2 := congrArg valL h1.2
  rw [valL_wide, valL_wide] at e1 e2
  exact ⟨e1, ByteArray.ext (Array.ext' h3.2), e2⟩

/-- What a name of a segment says. -/
def BaseIs (l : List UInt8) (v : Value) : Prop := (∃ n : Nat, n ≤ 1099511627776 ∧ l = segL n ∧ v = .tuple #[.int .i64 (n : Int), .bool true]) ∨ ((∀ n : Nat, n ≤ 1099511627776 → l ≠ segL n) ∧ v = .tuple #[.int .i64 0, .bool false])
theorem BaseIs.uniq {l : List UInt8} {v v' : Value} (h : BaseIs l v) (h' : BaseIs l v') : v = v' := by
  rcases h with ⟨n, hn, e, rfl⟩ | ⟨h, rfl⟩ <;> rcases h' with ⟨m, hm, e', rfl⟩ | ⟨h', rfl⟩
  · rw [segL_inj (e.symm.trans e')]
  · exact absurd e (h' n hn)
  · exact absurd e' (h m hm)
  · rfl
/-- Its parts. -/
def IsObj (l : List UInt8) (i : Nat) (k : ByteArray) (a : Nat) : Prop := i ≤ 2147483647 ∧ kindOk k = true ∧ a ≤ 1099511627776 ∧ l = objectL i k a
def PartsIs (l : List UInt8) (v : Value) : Prop := (∃ i k a, IsObj l i k a ∧ v = .tuple #[.int .i64 (i : Nat), .string k, .int .i64 (a : Nat), .bool true]) ∨ ((∀ i k a, ¬ IsObj l i k a) ∧ v = .tuple #[.int .i64 0, .string ⟨#[]⟩, .int .i64 0, .bool false])
theorem PartsIs.uniq {l : List UInt8} {v v' : Value} (h : PartsIs l v) (h' : PartsIs l v') : v = v' := by
  rcases h with ⟨i, k, a, e, rfl⟩ | ⟨h, rfl⟩ <;> rcases h' with ⟨j, k', b, e', rfl⟩ | ⟨h', rfl⟩
  · obtain ⟨rfl, rfl, rfl⟩ := object_parts e.1 e'.1 e.2.2.1 e'.2.2.1 (e.2.2.2.symm.trans e'.2.2.2)
    rfl
  · exact absurd e (h' _ _ _)
  · exact absurd e' (h _ _ _)
  · rfl

/-! ### A text cut at each '-' -/

theorem pre_one (c : UInt8) (s : List UInt8) : ([c] : List UInt8).isPrefixOf s = true ↔ ∃ t, s = c :: t := by
  cases s with
  | nil => simp
  | cons d t =>
    simp only [List.isPrefixOf, Bool.and_true, beq_iff_eq, List.cons.injEq]
    exact ⟨fun h => ⟨t, h.symm, rfl⟩, fun ⟨_, h, _⟩ => h.symm⟩
theorem occ_not {a : List UInt8} {c : UInt8} {r : List UInt8} (h : c ∉ a) (j : Nat) (hj : j < a.length) : Lib.occAt (a ++ r) [c] j = false := by
  rw [Bool.eq_false_iff]
  intro ho
  unfold Lib.occAt at ho
  obtain ⟨t, ht⟩ := (pre_one c _).1 ho
  rw [List.drop_append_of_le_length (by omega), List.drop_eq_getElem_cons hj] at ht
  simp only [List.cons_append, List.cons.injEq] at ht
  exact h (ht.1 ▸ List.getElem_mem hj)
theorem index_at {a b : List UInt8} {c : UInt8} (h : c ∉ a) : Lib.index (a ++ c :: b) [c] = a.length :=
  Lib.index_first (by simp) (by unfold Lib.occAt; rw [List.drop_left]; exact (pre_one c _).2 ⟨b, rfl⟩) (fun j hj => occ_not h j hj)
theorem index_no {a : List UInt8} {c : UInt8} (h : c ∉ a) : Lib.index a [c] = -1 :=
  Lib.index_none (fun j hj => by
    rcases Nat.lt_or_ge j a.length with h1 | h1
    · have := occ_not (r := []) h j h1
      rwa [List.append_nil] at this
    · unfold Lib.occAt
      rw [List.drop_eq_nil_of_le h1]; rfl)
theorem split_no {a : List UInt8} {c : UInt8} (h : c ∉ a) : Lib.split a [c] = [a] := by
  unfold Lib.split
  rw [Lib.count_miss (index_no h)]; rfl
theorem split_at {a b : List UInt8} {c : UInt8} (h : c ∉ a) : Lib.split (a ++ c :: b) [c] = a :: Lib.split b [c] := by
  have hi := index_at (b := b) h
  have hd : (a ++ c :: b).drop (a.length + 1) = b := by
    rw [← List.drop_drop, List.drop_left]; rfl
  unfold Lib.split
  rw [Lib.count_hit (by simp) hi]
  show Lib.splitK [c] 0 (1 + Lib.count ((a ++ c :: b).drop (a.length + 1)) [c]) (a ++ c :: b) = _
  rw [hd, Nat.add_comm 1]
  rw [Lib.splitK, hi, if_neg (by rw [beq_iff_eq]; omega)]
  show (a ++ c :: b).take ((a.length : Int).toNat + 0) :: Lib.splitK [c] 0 (Lib.count b [c]) ((a ++ c :: b).drop ((a.length : Int).toNat + 1)) = _
  rw [Int.toNat_natCast, hd, Nat.add_zero, List.take_left]
theorem split_join (c : UInt8) : ∀ (n : Nat) (l : List UInt8), l.length ≤ n → ∃ p ps, Lib.split l [c] = p :: ps ∧ l = p ++ ps.flatMap (fun q => c :: q) ∧ c ∉ p ∧ ∀ q ∈ ps, c ∉ q := by
  intro n
  induction n with
  | zero =>
    intro l hl
    have : l = [] := List.length_eq_zero_iff.1 (by omega)
    subst this
    exact ⟨[], [], split_no (by simp), rfl, by simp, by simp⟩
  | succ n ih =>
    intro l hl
    by_cases h : c ∈ l
    · obtain ⟨a, b, rfl, ha⟩ := List.eq_append_cons_of_mem h
      obtain ⟨p, ps, h1, h2, h3, h4⟩ := ih b (by simp at hl; omega)
      refine ⟨a, p :: ps, by rw [split_at ha, h1], ?_, ha, ?_⟩
      · rw [List.flatMap_cons, List.cons_append, ← h2]
      · intro q hq
        rcases List.mem_cons.1 hq with rfl | hq
        · exact h3
        · exact h4 q hq
    · exact ⟨l, [], split_no h, by simp, h, by simp⟩
theorem split_four {l p0 p1 p2 p3 : List UInt8} (h : Lib.split l [45] = [p0, p1, p2, p3]) : l = p0 ++ [45] ++ p1 ++ [45] ++ p2 ++ [45] ++ p3 := by
  obtain ⟨p, ps, h1, h2, -, -⟩ := split_join 45 l.length l (Nat.le_refl _)
  rw [h] at h1
  simp only [List.cons.injEq] at h1
  obtain ⟨rfl, rfl⟩ := h1
  rw [h2]; simp
theorem wide_no (n k : Nat) : (45 : UInt8) ∉ wideL n k := fun h => by
  have := wide_digit n k 45 h
  revert this; decide
theorem kind_no {k : ByteArray} (h : kindOk k = true) : (45 : UInt8) ∉ k.data.toList := fun h' => by
  have := kind_small h 45 h'
  revert this; decide
theorem split_obj {i a : Nat} {k : ByteArray} (h : kindOk k = true) : Lib.split (objectL i k a) [45] = [[115, 101, 103], wideL i 10, k.data.toList, wideL a 13] := by
  have e : objectL i k a = [115, 101, 103] ++ 45 :: (wideL i 10 ++ 45 :: (k.data.toList ++ 45 :: wideL a 13)) := by unfold objectL; simp
  rw [e, split_at (by decide), split_at (wide_no i 10), split_at (kind_no h), split_no (wide_no a 13)]
theorem results_tmp4 {fn : Func} {t u v x : Tmp} (h : fn.results = #[.tmp t, .tmp u, .tmp v, .tmp x]) (tmps : Array Value) (P : Program) (w : World) :
    (results fn tmps).run P w = .ok (.tuple #[tmps.getD t undef, tmps.getD u undef, tmps.getD v undef, tmps.getD x undef]) w := by
  simp [results, h]
end Go.Proofs.YtegiingcnhafbaaDoor
