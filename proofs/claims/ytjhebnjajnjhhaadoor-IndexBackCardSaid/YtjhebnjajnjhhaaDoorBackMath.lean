/- Plain: an index that additions have built, cut behind its last mark, as bytes and back. No program in sight. -/
import Derived.Test.YtjhebnjajnjhhaaDoorSpoilMath
import Derived.Test.YtjhebnjajnjhhaaDoorIdxCutAll
import Derived.Test.YtjhebnjajnjhhaaDoorIdxAddBase
namespace Go.Proofs.YtjhebnjajnjhhaaDoor
open Idx

theorem rise_pw : ∀ l : List Mk, rise l = true → l.Pairwise (fun a b => a.off < b.off ∧ a.pos < b.pos) := by
  intro l
  induction l with
  | nil => intro _; exact List.Pairwise.nil
  | cons a l ih =>
    intro h
    rw [List.pairwise_cons]
    refine ⟨?_, ih (rise_tail h)⟩
    cases l with
    | nil => intro b hb; simp at hb
    | cons b l =>
      have h1 := rise_head h
      have h2 := ih (rise_tail h)
      rw [List.pairwise_cons] at h2
      intro c hc
      rcases List.mem_cons.1 hc with rfl | hc
      · exact h1
      · have := h2.1 c hc; omega

/-- What additions leave, as far as bytes and further additions ask. -/
structure Good (x : Ix) : Prop where
  g1 : x.marks.all Idx.right = true
  g2 : rise x.marks = true
  g3 : ∀ q, x.marks.getLast? = some q → ∃ a, x.adds.getLast? = some a ∧ q.off ≤ a.1 ∧ q.pos ≤ a.2
  g5 : x.time ≤ 1099511627776

/-- And as far as a cut behind the last mark asks. -/
structure Full (x : Ix) : Prop where
  good : Good x
  f1 : x.adds.Pairwise (fun a b => a.2 < b.2)
  f2 : ∀ q, x.marks.getLast? = some q → (q.off, q.pos) ∈ x.adds
  f3 : x.marks = [] → x.adds = []

theorem may_parts {x : Ix} {m : Mk} {size : Int} (h : may x m size = true) : Idx.right m = true ∧ ∀ a, x.adds.getLast? = some a → a.1 < m.off ∧ a.2 < m.pos := by
  unfold may at h
  simp only [Bool.and_eq_true] at h
  refine ⟨h.1.1, fun a ha => ?_⟩
  have := h.2
  rw [ha] at this
  exact of_decide_eq_true this

theorem Good.add {x : Ix} (h : Good x) {m : Mk} {size : Int} (hm : may x m size = true) : Good (Idx.add x m) := by
  obtain ⟨hr, hl⟩ := may_parts hm
  have hr' := hr
  unfold Idx.right at hr'
  rw [decide_eq_true_eq] at hr'
  have hT : max x.time m.time ≤ 1099511627776 := by have := h.g5; omega
  have hlast : (x.adds ++ [(m.off, m.pos)]).getLast? = some (m.off, m.pos) := by simp
  cases hmk : marked x m.pos with
  | true =>
    rw [add_marked hmk rfl]
    refine ⟨?_, ?_, ?_, hT⟩
    · simp only [List.all_append, List.all_cons, List.all_nil, Bool.and_true, h.g1, Bool.true_and]
      unfold Idx.right; rw [decide_eq_true_eq]; simp only; omega
    · simp only
      rw [rise_snoc, h.g2, Bool.true_and]
      split
      · rename_i q hq
        obtain ⟨a, ha, h1, h2⟩ := h.g3 q hq
        have := hl a ha
        rw [decide_eq_true_eq]; simp only; omega
      · rfl
    · intro q hq
      simp only [List.getLast?_append, List.getLast?_singleton, Option.some_or, Option.some.injEq] at hq
      subst hq
      exact ⟨_, hlast, Int.le_refl _, Int.le_refl _⟩
  | false =>
    rw [add_unmarked hmk rfl]
    refine ⟨h.g1, h.g2, ?_, hT⟩
    intro q hq
    obtain ⟨a, ha, h1, h2⟩ := h.g3 q hq
    have := hl a ha
    exact ⟨_, hlast, by simp only; omega, by simp only; omega⟩

theorem Full.add {x : Ix} (h : Full x) {m : Mk} {size : Int} (hm : may x m size = true) : Full (Idx.add x m) := by
  obtain ⟨_, hl⟩ := may_parts hm
  have hpw : (x.adds ++ [(m.off, m.pos)]).Pairwise (fun a b => a.2 < b.2) := by
    rw [List.pairwise_append]
    refine ⟨h.f1, List.pairwise_singleton _ _, fun a ha b hb => ?_⟩
    rw [List.mem_singleton.1 hb]
    cases hq : x.adds.getLast? with
    | none => rw [List.getLast?_eq_none_iff.1 hq] at ha; simp at ha
    | some c =>
      have h1 := (hl c hq).2
      obtain ⟨ys, hys⟩ := List.getLast?_eq_some_iff.1 hq
      have h2 := h.f1
      rw [hys] at ha h2
      rcases List.mem_append.1 ha with h3 | h3
      · have := (List.pairwise_append.1 h2).2.2 a h3 c (by simp); simp only; omega
      · rw [List.mem_singleton.1 h3]; exact h1
  refine ⟨h.good.add hm, ?_, ?_, ?_⟩
  · cases hmk : marked x m.pos with
    | true => rw [add_marked hmk rfl]; exact hpw
    | false => rw [add_unmarked hmk rfl]; exact hpw
  · cases hmk : marked x m.pos with
    | true =>
      rw [add_marked hmk rfl]
      intro q hq
      simp only [List.getLast?_append, List.getLast?_singleton, Option.some_or, Option.some.injEq] at hq
      subst hq
      exact List.mem_append_right _ (List.mem_singleton.2 rfl)
    | false =>
      rw [add_unmarked hmk rfl]
      intro q hq
      exact List.mem_append_left _ (h.f2 q hq)
  · cases hmk : marked x m.pos with
    | true => rw [add_marked hmk rfl]; intro e; simp at e
    | false =>
      rw [add_unmarked hmk rfl]
      intro e
      have e' : x.marks = [] := e
      unfold marked at hmk
      rw [e'] at hmk
      simp at hmk

theorem full_new (e : Int) : Full (Idx.new e) := ⟨⟨rfl, rfl, by intro q h; simp [Idx.new] at h, by show minT ≤ _; unfold minT; omega⟩, List.Pairwise.nil, by intro q h; simp [Idx.new] at h, fun _ => rfl⟩

/-- An addition, or none. -/
def tryAdd (x : Ix) (m : Mk) (size : Int) : Ix := if may x m size = true then Idx.add x m else x
theorem Full.try {x : Ix} (h : Full x) (m : Mk) (size : Int) : Full (tryAdd x m size) := by
  unfold tryAdd; split
  · rename_i hm; exact h.add hm
  · exact h
theorem Good.try {x : Ix} (h : Good x) (m : Mk) (size : Int) : Good (tryAdd x m size) := by
  unfold tryAdd; split
  · rename_i hm; exact h.add hm
  · exact h
theorem add_every (x : Ix) (m : Mk) : (Idx.add x m).every = x.every := by unfold Idx.add; rfl
theorem try_every (x : Ix) (m : Mk) (size : Int) : (tryAdd x m size).every = x.every := by unfold tryAdd; split; exact add_every x m; rfl
theorem add_marks_len (x : Ix) (m : Mk) : (Idx.add x m).marks.length ≤ x.marks.length + 1 := by
  unfold Idx.add; simp only; split <;> simp
theorem add_adds_len (x : Ix) (m : Mk) : (Idx.add x m).adds.length = x.adds.length + 1 := by unfold Idx.add; simp
theorem try_len (x : Ix) (m : Mk) (size : Int) : (tryAdd x m size).marks.length ≤ x.marks.length + 1 ∧ (tryAdd x m size).adds.length ≤ x.adds.length + 1 := by
  unfold tryAdd
  split
  · exact ⟨add_marks_len x m, Nat.le_of_eq (add_adds_len x m)⟩
  · omega

theorem Good.poss {x : Ix} (h : Good x) : ∀ k ∈ x.marks, 0 ≤ k.pos ∧ k.pos ≤ 1073741824 := by
  intro k hk
  have := List.all_eq_true.1 h.g1 k hk
  unfold Idx.right at this
  rw [decide_eq_true_eq] at this
  omega

/-- Two that go on the same. -/
structure Like (x y : Ix) : Prop where
  e : y.every = x.every
  m : y.marks = x.marks
  a : y.adds.getLast? = x.adds.getLast?
  t : y.time = x.time

theorem Like.may {x y : Ix} (h : Like x y) (m : Mk) (size : Int) : may y m size = may x m size := by unfold Idx.may; rw [h.a]
theorem Like.add {x y : Ix} (h : Like x y) (m : Mk) : Like (Idx.add x m) (Idx.add y m) := by
  have hk : marked y m.pos = marked x m.pos := by unfold marked; rw [h.m, h.e]
  unfold Idx.add
  rw [hk, h.m, h.t]
  exact ⟨h.e, rfl, by simp, rfl⟩
theorem Like.try {x y : Ix} (h : Like x y) (m : Mk) (size : Int) : Like (tryAdd x m size) (tryAdd y m size) := by
  unfold tryAdd
  rw [h.may m size]
  split
  · exact h.add m
  · exact h
theorem Like.good {x y : Ix} (h : Like x y) (g : Good x) : Good y := ⟨by rw [h.m]; exact g.g1, by rw [h.m]; exact g.g2, by rw [h.m, h.a]; exact g.g3, by rw [h.t]; exact g.g5⟩

/-- Cut behind its last mark it is what is read out of its marks. -/
theorem cut_last {x : Ix} (h : Full x) (q : Mk) (hq : x.marks.getLast? = some q) : (cut x (q.pos + 1)).marks = x.marks ∧ Good (cut x (q.pos + 1)) ∧ Like (cut x (q.pos + 1)) (ofMarks x.every x.marks) := by
  obtain ⟨ys, hys⟩ := List.getLast?_eq_some_iff.1 hq
  have hpw := rise_pw _ h.good.g2
  have hm : x.marks.filter (fun m => decide (m.pos < q.pos + 1)) = x.marks := by
    rw [List.filter_eq_self]
    intro m hm
    rw [decide_eq_true_eq]
    rw [hys] at hm hpw
    rcases List.mem_append.1 hm with h1 | h1
    · have := ((List.pairwise_append.1 hpw).2.2 m h1 q (by simp)).2; omega
    · rw [List.mem_singleton.1 h1]; omega
  obtain ⟨l1, l2, hl⟩ := List.append_of_mem (h.f2 q hq)
  have hf := h.f1
  rw [hl] at hf
  have ha : x.adds.filter (fun a => decide (a.2 < q.pos + 1)) = l1 ++ [(q.off, q.pos)] := by
    rw [hl, List.filter_append, List.filter_cons]
    have h1 : l1.filter (fun a => decide (a.2 < q.pos + 1)) = l1 := by
      rw [List.filter_eq_self]
      intro a ha
      have := (List.pairwise_append.1 hf).2.2 a ha (q.off, q.pos) List.mem_cons_self
      simp only [decide_eq_true_eq]; simp only at this; omega
    have h2 : l2.filter (fun a => decide (a.2 < q.pos + 1)) = [] := by
      rw [List.filter_eq_nil_iff]
      intro a ha
      have := (List.pairwise_cons.1 (List.pairwise_append.1 hf).2.1).1 a ha
      simp only [decide_eq_true_eq]; simp only at this; omega
    rw [h1, h2, if_pos (by simp only [decide_eq_true_eq]; omega)]
  have hc : cut x (q.pos + 1) = ⟨x.every, x.marks, l1 ++ [(q.off, q.pos)], q.time⟩ := by
    unfold cut
    rw [hm, ha]
    simp only [hq]; rfl
  have ho : ofMarks x.every x.marks = ⟨x.every, x.marks, [(q.off, q.pos)], q.time⟩ := by unfold ofMarks; rw [hq]; rfl
  rw [hc, ho]
  refine ⟨rfl, ⟨h.good.g1, h.good.g2, ?_, ?_⟩, ⟨rfl, rfl, by simp, rfl⟩⟩
  · intro q' hq'
    have e : some q' = some q := by rw [← hq', ← hq]
    cases e
    exact ⟨(q.off, q.pos), by simp, Int.le_refl _, Int.le_refl _⟩
  · have := List.all_eq_true.1 h.good.g1 q (List.mem_of_getLast? hq)
    unfold Idx.right at this
    rw [decide_eq_true_eq] at this
    simp only; omega

theorem cut_none {x : Ix} (h : Full x) (hn : x.marks = []) : (cut x 0).marks = x.marks ∧ Good (cut x 0) ∧ Like (cut x 0) (ofMarks x.every x.marks) := by
  have hc : cut x 0 = ⟨x.every, [], [], minT⟩ := by unfold cut; rw [hn, h.f3 hn]; rfl
  have ho : ofMarks x.every x.marks = ⟨x.every, [], [], minT⟩ := by unfold ofMarks; rw [hn]; rfl
  rw [hc, ho, hn]
  exact ⟨rfl, ⟨rfl, rfl, by intro q hq; simp at hq, by show minT ≤ _; unfold minT; omega⟩, ⟨rfl, rfl, rfl, rfl⟩⟩

theorem Full.rises_marks {x : Ix} (h : Full x) : rises x.marks := by
  intro i j hi hj hij
  exact (List.pairwise_iff_getElem.1 (rise_pw _ h.good.g2) i j hi hj hij).2
theorem Full.rises_adds {x : Ix} (h : Full x) : rises (x.adds.map adM) := by
  intro i j hi hj hij
  rw [List.length_map] at hi hj
  simp only [List.getElem_map]
  exact List.pairwise_iff_getElem.1 h.f1 i j hi hj hij
end Go.Proofs.YtjhebnjajnjhhaaDoor
