/- Plain: what is cut out of batches that follow one another. No program in sight. -/
import Derived.Test.YtlfbdcgojbfcaaaDoorRouteCut
import Derived.Test.YtlfbdcgojbfcaaaDoorRowBatMath
namespace Go.Proofs.YtlfbdcgojbfcaaaDoor.Rec

def contig : Int → List BatD → Prop
  | _, [] => True
  | s, b :: l => b.base = s ∧ 1 ≤ b.recs.length ∧ b.recs.length ≤ 64 ∧ contig (nextB b) l
def endOf : Int → List BatD → Int
  | s, [] => s
  | _, b :: l => endOf (nextB b) l
def takeGo (most : Int) : Int → List BatD → List BatD
  | _, [] => []
  | sum, b :: l => if most < sum ∨ most - sum < (sizeB b : Int) then [] else b :: takeGo most (sum + (sizeB b : Int)) l

theorem endOf_app : ∀ (l1 l2 : List BatD) (s : Int), endOf s (l1 ++ l2) = endOf (endOf s l1) l2 := by
  intro l1
  induction l1 with
  | nil => intro l2 s; rfl
  | cons b l1 ih => intro l2 s; exact ih l2 (nextB b)
theorem contig_app : ∀ (l1 l2 : List BatD) (s : Int), contig s (l1 ++ l2) ↔ contig s l1 ∧ contig (endOf s l1) l2 := by
  intro l1
  induction l1 with
  | nil => intro l2 s; simp [contig, endOf]
  | cons b l1 ih =>
    intro l2 s
    have := ih l2 (nextB b)
    simp only [List.cons_append, contig, endOf, this]
    constructor
    · rintro ⟨h1, h2, h3, h4, h5⟩; exact ⟨⟨h1, h2, h3, h4⟩, h5⟩
    · rintro ⟨⟨h1, h2, h3, h4⟩, h5⟩; exact ⟨h1, h2, h3, h4, h5⟩
theorem endOf_ge : ∀ (l : List BatD) (s : Int), contig s l → s + (l.length : Int) ≤ endOf s l := by
  intro l
  induction l with
  | nil => intro s _; simp [endOf]
  | cons b l ih =>
    intro s h
    obtain ⟨h1, h2, h3, h4⟩ := h
    have := ih _ h4
    show s + ((b :: l).length : Int) ≤ endOf (nextB b) l
    unfold nextB at *
    rw [List.length_cons]
    omega
theorem takeGo_pre (most : Int) : ∀ (l : List BatD) (s : Int), ∃ r, l = takeGo most s l ++ r := by
  intro l
  induction l with
  | nil => intro s; exact ⟨[], rfl⟩
  | cons b l ih =>
    intro s
    unfold takeGo
    split
    · exact ⟨_, rfl⟩
    · obtain ⟨r, hr⟩ := ih (s + (sizeB b : Int))
      exact ⟨r, by conv => lhs; rw [hr]
                   rfl⟩
theorem takeGo_mono (a b : Int) (hab : a ≤ b) : ∀ (l : List BatD) (s : Int), ∃ r, takeGo b s l = takeGo a s l ++ r := by
  intro l
  induction l with
  | nil => intro s; exact ⟨[], rfl⟩
  | cons x l ih =>
    intro s
    by_cases h : a < s ∨ a - s < (sizeB x : Int)
    · exact ⟨takeGo b s (x :: l), by conv => rhs; unfold takeGo
                                     rw [if_pos h]; rfl⟩
    · obtain ⟨r, hr⟩ := ih (s + (sizeB x : Int))
      refine ⟨r, ?_⟩
      unfold takeGo
      rw [if_neg h, if_neg (by omega), hr]
      rfl
def sumS : List BatD → Int
  | [] => 0
  | b :: l => (sizeB b : Int) + sumS l
theorem sumS_snoc (l : List BatD) (b : BatD) : sumS (l ++ [b]) = sumS l + (sizeB b : Int) := by
  induction l with
  | nil => simp [sumS]
  | cons x l ih => rw [List.cons_append]; unfold sumS; rw [ih]; omega
theorem sumS_bd (l : List BatD) : 0 ≤ sumS l ∧ sumS l ≤ 50000 * (l.length : Int) := by
  induction l with
  | nil => simp [sumS]
  | cons x l ih => unfold sumS; have := sizeB_bd x; rw [List.length_cons]; omega
theorem takeGo_sum (most : Int) : ∀ (l : List BatD) (s : Int), takeGo most s l ≠ [] → s + sumS (takeGo most s l) ≤ most := by
  intro l
  induction l with
  | nil => intro s h; exact absurd rfl h
  | cons b l ih =>
    intro s h
    unfold takeGo at h ⊢
    split
    · rename_i hc; rw [if_pos hc] at h; exact absurd rfl h
    · rename_i hc
      show s + ((sizeB b : Int) + sumS (takeGo most (s + (sizeB b : Int)) l)) ≤ most
      by_cases h0 : takeGo most (s + (sizeB b : Int)) l = []
      · rw [h0]; simp only [sumS]; omega
      · have := ih _ h0; omega
theorem takeGo_all (most : Int) : ∀ (l : List BatD) (s : Int), s + 50000 * (l.length : Int) ≤ most → takeGo most s l = l := by
  intro l
  induction l with
  | nil => intro s _; rfl
  | cons b l ih =>
    intro s h
    rw [List.length_cons] at h
    have := sizeB_bd b
    unfold takeGo
    rw [if_neg (by omega), ih _ (by omega)]

theorem cutGo_more (o most : Int) : ∀ (l out : List BatD) (s sum : Int), contig s l → o < s → out ≠ [] → cutGo o most l out sum = out ++ takeGo most sum l := by
  intro l
  induction l with
  | nil => intro out s sum _ _ _; simp [cutGo, takeGo]
  | cons b l ih =>
    intro out s sum h ho hne
    obtain ⟨h1, h2, h3, h4⟩ := h
    have hlen : 0 < out.length := List.length_pos_iff.2 hne
    have hf : fromB b o = b := by unfold fromB; rw [if_pos (by omega)]
    unfold cutGo takeGo
    unfold nextB at *
    rw [hf, if_neg (by omega)]
    by_cases hc : most < sum ∨ most - sum < (sizeB b : Int)
    · rw [if_pos ⟨hlen, hc⟩, if_pos hc, List.append_nil]
    · rw [if_neg (fun h => hc h.2), if_neg hc, ih _ _ _ h4 (by omega) (by simp)]
      simp
theorem cut_none (o most : Int) : ∀ (l : List BatD) (s : Int), contig s l → (endOf s l ≤ o ∨ o < s) → cutL o most l = [] := by
  intro l
  unfold cutL
  induction l with
  | nil => intro s _ _; rfl
  | cons b l ih =>
    intro s h ho
    obtain ⟨h1, h2, h3, h4⟩ := h
    have hge := endOf_ge l _ h4
    have he : endOf s (b :: l) = endOf (nextB b) l := rfl
    rw [he] at ho
    unfold cutGo
    unfold nextB at *
    rw [if_pos (by
      rcases ho with ho | ho
      · exact .inl (by omega)
      · exact .inr ⟨rfl, by omega⟩)]
    exact ih _ h4 (by omega)
theorem cut_at (o : Int) : ∀ (l : List BatD) (s : Int), contig s l → s ≤ o → o < endOf s l →
    ∃ c0 post, (∀ most, cutL o most l = c0 :: takeGo most (sizeB c0 : Int) post) ∧ contig o (c0 :: post) ∧ endOf o (c0 :: post) = endOf s l ∧ post.length < l.length ∧ (o = s → l = c0 :: post) := by
  intro l
  induction l with
  | nil => intro s _ h1 h2; simp [endOf] at h2; omega
  | cons b l ih =>
    intro s h hs he
    obtain ⟨h1, h2, h3, h4⟩ := h
    have he' : endOf s (b :: l) = endOf (nextB b) l := rfl
    rw [he'] at he ⊢
    by_cases hn : nextB b ≤ o
    · obtain ⟨c0, post, e1, e2, e3, e4, e5⟩ := ih _ h4 hn he
      refine ⟨c0, post, fun most => ?_, e2, e3, by rw [List.length_cons]; omega, fun hos => ?_⟩
      · rw [← e1 most]
        unfold cutL
        conv => lhs; unfold cutGo
        rw [if_pos (.inl hn)]
      · unfold nextB at hn; omega
    · have hbo : b.base ≤ o := by omega
      have hnx : nextB (fromB b o) = nextB b ∧ (fromB b o).base = o ∧ 1 ≤ (fromB b o).recs.length ∧ (fromB b o).recs.length ≤ 64 := by
        unfold fromB nextB at *
        split
        · exact ⟨by trivial, by omega, h2, h3⟩
        · simp only [List.length_drop]
          refine ⟨by omega, by trivial, by omega, by omega⟩
      obtain ⟨n1, n2, n3, n4⟩ := hnx
      refine ⟨fromB b o, l, fun most => ?_, ⟨n2, n3, n4, by rw [n1]; exact h4⟩, by show endOf (nextB (fromB b o)) l = _; rw [n1], by simp, fun hos => ?_⟩
      · unfold cutL
        unfold cutGo
        rw [if_neg (by rintro (h | ⟨_, h⟩) <;> omega), if_neg (by simp), cutGo_more o most l _ (nextB b) _ h4 (by omega) (by simp)]
        simp
      · unfold fromB; rw [if_pos (by omega)]

theorem contig_row (base : Int) (every : Nat) (zs : List Int) : ∀ k, k ≤ zs.length → contig base (rowL base every zs k) ∧ endOf base (rowL base every zs k) = offs base zs k := by
  intro k
  induction k with
  | zero => intro _; exact ⟨by simp [rowL, contig], by simp [rowL, endOf, offs_zero]⟩
  | succ k ih =>
    intro hk
    obtain ⟨h1, h2⟩ := ih (by omega)
    have hn := nOf_bd (zAt zs k)
    have hr := rowB_recs base every zs k
    have hb : (rowB base every zs k).base = offs base zs k := rfl
    have hx : nextB (rowB base every zs k) = offs base zs (k + 1) := by
      unfold nextB
      rw [hb, hr, offs_succ base zs k (by omega), zAt_at zs k (by omega)]
    rw [rowL_snoc]
    refine ⟨(contig_app _ _ _).2 ⟨h1, ?_⟩, ?_⟩
    · rw [h2]; exact ⟨hb, by omega, by omega, trivial⟩
    · rw [endOf_app]; exact hx
/-- How many records. -/
def sumN : List BatD → Int
  | [] => 0
  | b :: l => (b.recs.length : Int) + sumN l
theorem sumN_snoc (l : List BatD) (b : BatD) : sumN (l ++ [b]) = sumN l + (b.recs.length : Int) := by
  induction l with
  | nil => simp [sumN]
  | cons x l ih => rw [List.cons_append]; unfold sumN; rw [ih]; omega
theorem sumN_end : ∀ (l : List BatD) (s : Int), contig s l → sumN l = endOf s l - s := by
  intro l
  induction l with
  | nil => intro s _; simp [sumN, endOf]
  | cons b l ih =>
    intro s h
    obtain ⟨h1, h2, h3, h4⟩ := h
    have := ih _ h4
    show (b.recs.length : Int) + sumN l = endOf (nextB b) l - s
    unfold nextB at *
    omega
theorem sumN_take (l : List BatD) (i : Nat) (hi : i < l.length) : sumN (l.take (i + 1)) = sumN (l.take i) + (l[i].recs.length : Int) := by
  rw [List.take_succ_eq_append_getElem hi, sumN_snoc]
theorem sumS_take (l : List BatD) (i : Nat) (hi : i < l.length) : sumS (l.take (i + 1)) = sumS (l.take i) + (sizeB l[i] : Int) := by
  rw [List.take_succ_eq_append_getElem hi, sumS_snoc]
theorem last_end : ∀ (l : List BatD) (s : Int) (h : 0 < l.length), nextB (l[l.length - 1]'(by omega)) = endOf s l := by
  intro l
  induction l with
  | nil => intro s h; simp at h
  | cons b l ih =>
    intro s h
    cases l with
    | nil => rfl
    | cons c l =>
      have := ih (nextB b) (by simp)
      simp only [List.length_cons, Nat.add_sub_cancel] at this ⊢
      rw [List.getElem_cons_succ]
      exact this
end Go.Proofs.YtlfbdcgojbfcaaaDoor.Rec
