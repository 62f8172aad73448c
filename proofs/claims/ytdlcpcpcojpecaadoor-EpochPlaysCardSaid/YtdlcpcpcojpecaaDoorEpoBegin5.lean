/- Line.Begin, whatever is told: what is amiss, and the pairs then. -/
import Derived.Test.YtdlcpcpcojpecaaDoorEpoBegin2
import Derived.Test.YtdlcpcpcojpecaaDoorEpoBegin3
import Derived.Test.YtdlcpcpcojpecaaDoorEpoBegin4
import Derived.Test.YtdlcpcpcojpecaaDoorPlaysMath
namespace Go.Proofs.YtdlcpcpcojpecaaDoor
open Go Go.RowKit Epo

set_option maxRecDepth 100000 in
set_option maxHeartbeats 400000 in
theorem begin_many (S : List Nat) (A : Nat → Addr) {w : World} {F : Nat → Prop} {g : Nat} {l : List Pr} (hS : Sents S w A) (h3 : 3 ∈ S) (h : LineAt w F g l) (p q : Pr) (hr : Epo.right p = true) (hgl : l.getLast? = some q) (hq : q.ep < p.ep) (hst : q.st ≤ p.st) (hl : 256 ≤ l.length) :
    Calls Tryd.prog 12 #[.pointer (some ⟨g, 0, none⟩), .int .i64 p.ep, .int .i64 p.st] w (fun e w' => e = .returned (senV A 3) ∧ LineAt w' F g l ∧ Below w.heap.size w w') := by
  have b1 := below_alloc w (.cells #[.int .i64 p.ep, .int .i64 p.st] 46)
  have hrc := prRight_calls p (w.alloc (.cells #[.int .i64 p.ep, .int .i64 p.st] 46))
  rw [hr] at hrc
  have g3 : ∀ w', Below w.heap.size w w' → w'.cell? ⟨0, 0, none⟩ = some (.iface 85 (.pointer (some (A 3)))) := fun w' b => (hS.below b).cell 3 h3
  have H := Lib.hid h
  have hlc := fun W (hW : Below w.heap.size w W) => last_calls (h.below hW)
  unfold LastPost at hlc
  have hne : l ≠ [] := by rintro rfl; simp at hgl
  rw [hgl, decide_eq_true hne] at hlc
  simp only [Option.getD_some] at hlc
  have he1 : (p.ep == q.ep) = false := by rw [beq_eq_false_iff_ne]; omega
  clear hr hgl h
  go_enter Tryd.func12, Tryd.ntmps12
  go_wp2_with fail
  refine hrc.mono ?_
  rintro e w2 ⟨rfl, b2⟩
  go_wp2_with fail
  refine (hlc _ (nxt b1 b2)).mono ?_
  rintro e w3 ⟨rfl, b3⟩
  have B3 := nxt (nxt b1 b2) b3
  have b4 := below_alloc w3 (.cells #[.int .i64 q.ep, .int .i64 q.st] 46)
  have B4 := nxt B3 b4
  have k3 := g3 _ B4
  obtain ⟨v, hv⟩ := H.out.below B4
  obtain ⟨am, cm, rfl⟩ := owns_slice hv.pairs
  have c3 : (w3.alloc (.cells #[.int .i64 q.ep, .int .i64 q.st] 46)).cell? ⟨g, 0, none⟩ = some (.slice am l.length cm) := cell_of_row _ g 0 _ _ _ hv.row
  clear hrc hlc b1 b2 b3 g3 hv
  go_wp2_with fail
  go_ret
  exact ⟨rfl, H.out.below B4, B4⟩

set_option maxRecDepth 100000 in
set_option maxHeartbeats 400000 in
theorem begin_shape (S : List Nat) (A : Nat → Addr) {w : World} {F : Nat → Prop} {g : Nat} {l : List Pr} (hS : Sents S w A) (h3 : 2 ∈ S) (h : LineAt w F g l) (p q : Pr) (hr : Epo.right p = true) (hgl : l.getLast? = some q) (hq : q.ep < p.ep) (hst : p.st < q.st) :
    Calls Tryd.prog 12 #[.pointer (some ⟨g, 0, none⟩), .int .i64 p.ep, .int .i64 p.st] w (fun e w' => e = .returned (senV A 2) ∧ LineAt w' F g l ∧ Below w.heap.size w w') := by
  have b1 := below_alloc w (.cells #[.int .i64 p.ep, .int .i64 p.st] 46)
  have hrc := prRight_calls p (w.alloc (.cells #[.int .i64 p.ep, .int .i64 p.st] 46))
  rw [hr] at hrc
  have g3 : ∀ w', Below w.heap.size w w' → w'.cell? ⟨2, 0, none⟩ = some (.iface 85 (.pointer (some (A 2)))) := fun w' b => (hS.below b).cell 2 h3
  have H := Lib.hid h
  have hlc := fun W (hW : Below w.heap.size w W) => last_calls (h.below hW)
  unfold LastPost at hlc
  have hne : l ≠ [] := by rintro rfl; simp at hgl
  rw [hgl, decide_eq_true hne] at hlc
  simp only [Option.getD_some] at hlc
  have he1 : (p.ep == q.ep) = false := by rw [beq_eq_false_iff_ne]; omega
  clear hr hgl h
  go_enter Tryd.func12, Tryd.ntmps12
  go_wp2_with fail
  refine hrc.mono ?_
  rintro e w2 ⟨rfl, b2⟩
  go_wp2_with fail
  refine (hlc _ (nxt b1 b2)).mono ?_
  rintro e w3 ⟨rfl, b3⟩
  have B3 := nxt (nxt b1 b2) b3
  have b4 := below_alloc w3 (.cells #[.int .i64 q.ep, .int .i64 q.st] 46)
  have B4 := nxt B3 b4
  have k3 := g3 _ B4
  obtain ⟨v, hv⟩ := H.out.below B4
  obtain ⟨am, cm, rfl⟩ := owns_slice hv.pairs
  have c3 : (w3.alloc (.cells #[.int .i64 q.ep, .int .i64 q.st] 46)).cell? ⟨g, 0, none⟩ = some (.slice am l.length cm) := cell_of_row _ g 0 _ _ _ hv.row
  clear hrc hlc b1 b2 b3 g3 hv
  go_wp2_with fail
  go_ret
  exact ⟨rfl, H.out.below B4, B4⟩

set_option maxRecDepth 100000 in
set_option maxHeartbeats 400000 in
theorem begin_range (S : List Nat) (A : Nat → Addr) {w : World} {F : Nat → Prop} {g : Nat} {l : List Pr} (hS : Sents S w A) (h4 : 4 ∈ S) (h : LineAt w F g l) (p : Pr) (hr : Epo.right p = false) :
    Calls Tryd.prog 12 #[.pointer (some ⟨g, 0, none⟩), .int .i64 p.ep, .int .i64 p.st] w (fun e w' => e = .returned (senV A 4) ∧ LineAt w' F g l ∧ Below w.heap.size w w') := by
  have b1 := below_alloc w (.cells #[.int .i64 p.ep, .int .i64 p.st] 46)
  have hrc := prRight_calls p (w.alloc (.cells #[.int .i64 p.ep, .int .i64 p.st] 46))
  rw [hr] at hrc
  have g4 : ∀ w', Below w.heap.size w w' → w'.cell? ⟨1, 0, none⟩ = some (.iface 85 (.pointer (some (A 4)))) := fun w' b => (hS.below b).cell 4 h4
  have H := Lib.hid h
  clear hr h
  go_enter Tryd.func12, Tryd.ntmps12
  go_wp2_with fail
  refine hrc.mono ?_
  rintro e w2 ⟨rfl, b2⟩
  have B2 := nxt b1 b2
  have k4 := g4 _ B2
  clear hrc b1 b2 g4
  go_wp2_with fail
  go_ret
  exact ⟨rfl, H.out.below B2, B2⟩

/-- Whatever is told to begin. -/
def BegAll (A : Nat → Addr) (F : Nat → Prop) (g : Nat) (r : Nat × List Pr) (w : World) (e : Ending) (w' : World) : Prop :=
  e = .returned (if r.1 = 0 then .nilIface else senV A (r.1 - 101)) ∧ ∃ F', LineAt w' F' g r.2 ∧ (∀ k, F' k → F k ∨ w.heap.size ≤ k) ∧ Frame F w w'
theorem begin_all (S : List Nat) (A : Nat → Addr) {w : World} {F : Nat → Prop} {g : Nat} {l : List Pr} (hS : Sents S w A) (h2 : 2 ∈ S) (h3 : 3 ∈ S) (h4 : 4 ∈ S) (h13 : 13 ∈ S) (h : LineAt w F g l) (hl : l.length ≤ 256) (p : Pr) :
    Calls Tryd.prog 12 #[.pointer (some ⟨g, 0, none⟩), .int .i64 p.ep, .int .i64 p.st] w (BegAll A F g (beginR l p) w) := by
  have keep : ∀ (n : Nat) (e : Ending) (w' : World), (e = .returned (senV A (n - 101)) ∧ LineAt w' F g l ∧ Below w.heap.size w w') → n ≠ 0 → BegAll A F g (n, l) w e w' := fun n e w' ⟨h1, h2, h3⟩ hn =>
    ⟨by rw [if_neg hn]; exact h1, F, h2, fun _ hk => .inl hk, Frame.of_below h3⟩
  unfold beginR
  by_cases hr : Epo.right p = false
  · rw [if_pos hr]
    exact (begin_range S A hS h4 h p hr).mono (fun e w' h => keep 105 e w' h (by decide))
  rw [if_neg hr]
  have hr' : Epo.right p = true := by simpa using hr
  obtain ⟨ep, st⟩ := p
  cases hq : l.getLast? with
  | none =>
    have hl0 : l = [] := by simpa using hq
    subst hl0
    refine (begin_push A h ⟨ep, st⟩ hr' (by simp) (fun q hq => by simp at hq)).mono (fun e w' hh => ?_)
    unfold BegPost at hh
    obtain ⟨h1, h2⟩ := hh
    exact ⟨by rw [h1]; rfl, h2⟩
  | some q =>
    simp only
    by_cases e1 : ep < q.ep
    · rw [if_pos e1]
      refine (begin_fenced S A hS h13 h ⟨ep, st⟩ q hr' hq e1).mono (fun e w' hh => ?_)
      unfold BegPost at hh
      obtain ⟨h1, h2⟩ := hh
      exact ⟨by rw [h1]; rfl, h2⟩
    rw [if_neg e1]
    by_cases e2 : ep = q.ep
    · rw [if_pos e2]
      subst e2
      refine (begin_same A h st q hr' hq).mono (fun e w' hh => ?_)
      unfold BegPost at hh
      obtain ⟨h1, h2⟩ := hh
      exact ⟨by rw [h1]; rfl, h2⟩
    rw [if_neg e2]
    by_cases e3 : st < q.st
    · rw [if_pos e3]
      exact (begin_shape S A hS h2 h ⟨ep, st⟩ q hr' hq (by show q.ep < ep; omega) e3).mono (fun e w' h => keep 103 e w' h (by decide))
    rw [if_neg e3]
    by_cases e4 : 256 ≤ l.length
    · rw [if_pos e4]
      exact (begin_many S A hS h3 h ⟨ep, st⟩ q hr' hq (by show q.ep < ep; omega) (by show q.st ≤ st; omega) e4).mono (fun e w' h => keep 104 e w' h (by decide))
    rw [if_neg e4]
    by_cases e5 : st = q.st
    · rw [if_pos e5]
      subst e5
      refine (begin_put A h ep q hr' (by omega) hq (by omega)).mono (fun e w' hh => ?_)
      unfold BegPost at hh
      obtain ⟨h1, h2⟩ := hh
      exact ⟨by rw [h1]; rfl, h2⟩
    rw [if_neg e5]
    refine (begin_push A h ⟨ep, st⟩ hr' (by omega) (fun q' hq' => ?_)).mono (fun e w' hh => ?_)
    · rw [hq] at hq'
      simp only [Option.some.injEq] at hq'
      subst hq'
      show q.ep < ep ∧ q.st < st
      omega
    · unfold BegPost at hh
      obtain ⟨h1, h2⟩ := hh
      exact ⟨by rw [h1]; rfl, h2⟩
end Go.Proofs.YtdlcpcpcojpecaaDoor
