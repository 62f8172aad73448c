/- What an index is told, as plain data, and how it lies in memory; an addition that may be refused. -/
import Derived.Test.YtjhebnjajnjhhaaDoorBase
import Derived.Test.YtjhebnjajnjhhaaDoorBackMath
import Derived.Test.YtjhebnjajnjhhaaDoorIdxAdd
import Derived.Test.YtjhebnjajnjhhaaDoorIdxFirst
import Derived.Test.YtjhebnjajnjhhaaDoorIdxRefused
namespace Go.Proofs.YtjhebnjajnjhhaaDoor
open Go Go.RowKit Idx

structure DoI where
  kind : Int
  pos : Int
  size : Int
  off : Int
  time : Int

def doiV (x : DoI) : List Value := [.int .i64 x.kind, .int .i64 x.pos, .int .i64 x.size, .int .i64 x.off, .int .i64 x.time]
theorem doiV_len (l : List DoI) : ∀ x ∈ l, (doiV x).length = 5 := fun _ _ => rfl
def DoI.mk' (x : DoI) : Mk := ⟨x.off, x.time, x.pos⟩

theorem doi_cells {w : World} {b o : Nat} {xs : List DoI} (hx : ∀ j u, (xs.flatMap doiV)[j]? = some u → w.cell? ⟨b, o + j, none⟩ = some u) (i : Nat) (hi : i < xs.length) :
    w.cell? ⟨b, o + i * 5 + 1, none⟩ = some (.int .i64 xs[i].pos) ∧ w.cell? ⟨b, o + i * 5 + 2, none⟩ = some (.int .i64 xs[i].size) ∧
    w.cell? ⟨b, o + i * 5 + 3, none⟩ = some (.int .i64 xs[i].off) ∧ w.cell? ⟨b, o + i * 5 + 4, none⟩ = some (.int .i64 xs[i].time) := by
  have h := fun j hj => flat_at doiV 5 xs (doiV_len xs) i hi j hj
  exact ⟨hx (i * 5 + 1) _ (h 1 (by omega)), hx (i * 5 + 2) _ (h 2 (by omega)), hx (i * 5 + 3) _ (h 3 (by omega)), hx (i * 5 + 4) _ (h 4 (by omega))⟩

/-- What an addition returns, and leaves. -/
def TryPost (A : Nat → Addr) (F : Nat → Prop) (g : Nat) (ok : Bool) (x' : Ix) (w : World) (e : Ending) (w' : World) : Prop :=
  e = .returned (if ok then .nilIface else senV A 4) ∧ ∃ F', IdxAt w' F' g x' ∧ (∀ k, F' k → F k ∨ w.heap.size ≤ k) ∧ Frame F w w'

theorem idxTry_calls (S : List Nat) (A : Nat → Addr) {w : World} (hS : Sents S w A) (h4 : 4 ∈ S) {F : Nat → Prop} {g : Nat} {x : Ix} (h : IdxAt w F g x) (G : Good x) (m : Mk) (size : Int) (hl1 : x.marks.length ≤ 1000000) (hl2 : x.adds.length ≤ 1000000) :
    Calls Tryd.prog 19 #[.pointer (some ⟨g, 0, none⟩), .int .i64 m.off, .int .i64 m.time, .int .i64 m.pos, .int .i64 size] w (TryPost A F g (may x m size) (tryAdd x m size) w) := by
  cases hm : may x m size with
  | true =>
    refine (idxAdd_calls h m size hm hl1 hl2 G.poss).mono ?_
    intro e w' h'
    obtain ⟨he, F', h1, h2, h3⟩ := h'.go
    unfold tryAdd
    rw [if_pos hm]
    exact ⟨he, F', h1, h2, h3⟩
  | false =>
    refine (idxAdd_refused S A hS h4 h m size hm hl2).mono ?_
    intro e w' h'
    obtain ⟨he, b⟩ := h'
    unfold tryAdd
    rw [if_neg (by rw [hm]; simp)]
    exact ⟨he, F, h.below b, fun k hk => .inl hk, Frame.of_below b⟩
end Go.Proofs.YtjhebnjajnjhhaaDoor
