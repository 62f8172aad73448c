/- Line.Begin where no number is wrong and places never fall. -/
import Derived.Test.YtdlcpcpcojpecaaDoorEpoBegin3
import Derived.Test.YtdlcpcpcojpecaaDoorEpoBegin4
import Derived.Test.YtdlcpcpcojpecaaDoorLeads
namespace Go.Proofs.YtdlcpcpcojpecaaDoor
open Go Go.RowKit Epo

def LeadPost (A : Nat → Addr) (F : Nat → Prop) (g : Nat) (l : List Pr) (last n a : Int) (w : World) (e : Ending) (w' : World) : Prop :=
  (e = .returned .nilIface ∧ last ≤ n ∧ ∃ l' F', Epo.Good l' n a ∧ l'.length ≤ l.length + 1 ∧ LineAt w' F' g l' ∧ (∀ k, F' k → F k ∨ w.heap.size ≤ k) ∧ Frame F w w') ∨
  (e = .returned (senV A 13) ∧ n < last ∧ Epo.Good l last a ∧ ∃ F', LineAt w' F' g l ∧ (∀ k, F' k → F k ∨ w.heap.size ≤ k) ∧ Frame F w w')

theorem lead_calls (S : List Nat) (A : Nat → Addr) {w : World} {F : Nat → Prop} {g : Nat} {l : List Pr} {last a : Int} (hS : Sents S w A) (h13 : 13 ∈ S) (h : LineAt w F g l) (hi : Epo.Inv l last a) (n : Int) (hn0 : 0 ≤ n) (hn1 : n ≤ 100) (ha0 : 0 ≤ a) (ha1 : a ≤ 1000000) (hl : l.length < 256) :
    Calls Tryd.prog 12 #[.pointer (some ⟨g, 0, none⟩), .int .i64 n, .int .i64 a] w (LeadPost A F g l last n a w) := by
  have hr : ∀ st : Int, 0 ≤ st → st ≤ 1000000 → Epo.right ⟨n, st⟩ = true := fun st h1 h2 => by unfold Epo.right; rw [decide_eq_true_eq]; simp only; omega
  have push : (∀ q, l.getLast? = some q → q.ep < n ∧ q.st < a) → up l = true → last ≤ n → Calls Tryd.prog 12 #[.pointer (some ⟨g, 0, none⟩), .int .i64 n, .int .i64 a] w (LeadPost A F g l last n a w) := by
    intro h1 hu hle
    refine (begin_push A h ⟨n, a⟩ (hr a ha0 ha1) hl h1).mono ?_
    rintro e w' ⟨rfl, F', h2, h3, h4⟩
    refine .inl ⟨rfl, hle, _, F', ⟨up_snoc l _ hu h1, ⟨n, a⟩, by simp, rfl, Int.le_refl _, hn0⟩, by simp, h2, h3, h4⟩
  rcases hi with ⟨rfl, rfl⟩ | ⟨hu, q, hgl, rfl, hqa, hq0⟩
  · exact push (by simp) rfl (by omega)
  · by_cases c1 : n < q.ep
    · refine (begin_fenced S A hS h13 h ⟨n, a⟩ q (hr a ha0 ha1) hgl c1).mono ?_
      rintro e w' ⟨rfl, F', h2, h3, h4⟩
      exact .inr ⟨rfl, c1, ⟨hu, q, hgl, rfl, hqa, hq0⟩, F', h2, h3, h4⟩
    · by_cases c2 : n = q.ep
      · subst c2
        refine (begin_same A h a q (hr a ha0 ha1) hgl).mono ?_
        rintro e w' ⟨rfl, F', h2, h3, h4⟩
        exact .inl ⟨rfl, Int.le_refl _, l, F', ⟨hu, q, hgl, rfl, hqa, hq0⟩, by omega, h2, h3, h4⟩
      · by_cases c3 : a = q.st
        · subst c3
          refine (begin_put A h n q (hr _ ha0 ha1) hl hgl (by omega)).mono ?_
          rintro e w' ⟨rfl, F', h2, h3, h4⟩
          refine .inl ⟨rfl, by omega, _, F', ⟨up_put l q n hu hgl (by omega), ⟨n, q.st⟩, by simp, rfl, Int.le_refl _, hn0⟩, by simp, h2, h3, h4⟩
        · exact push (fun q' h' => by rw [hgl] at h'; obtain rfl := Option.some.inj h'; omega) hu (by omega)
end Go.Proofs.YtdlcpcpcojpecaaDoor
