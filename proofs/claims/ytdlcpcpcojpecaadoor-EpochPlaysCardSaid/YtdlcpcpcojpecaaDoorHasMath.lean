/- Plain: is a part of a log one of a lineage? No program in sight. -/
import Derived.Test.YtdlcpcpcojpecaaDoorCutsMath
namespace Go.Proofs.YtdlcpcpcojpecaaDoor.Epo

/-- Where pair number i of a part ends. -/
def toAt (en : Int) (l : List Pr) (i : Nat) : Int := match l[i + 1]? with
  | some q => q.st
  | none => en
/-- A pair lies within the same epoch of a lineage. -/
def OkAt (e : List Pr) (p : Pr) (to' : Int) : Prop := ∃ k, ∃ hk : k < e.length, lastK (·.st) p.st e e.length = (k : Int) ∧ e[k].ep = p.ep ∧ ∀ h1 : k + 1 < e.length, to' ≤ e[k + 1].st
def HasP (e l : List Pr) (en wh : Int) : Prop := valid l = 0 ∧ (∃ q, l.getLast? = some q ∧ q.st < en) ∧ en ≤ wh ∧ ∀ i (hi : i < l.length), OkAt e l[i] (toAt en l i)

theorem OkAt.no_neg {e : List Pr} {p : Pr} {t : Int} (h : lastK (·.st) p.st e e.length = -1) : ¬ OkAt e p t := by
  rintro ⟨k, _, h1, _⟩; omega
theorem OkAt.iff {e : List Pr} {p : Pr} {t : Int} (k : Nat) (hk : k < e.length) (h : lastK (·.st) p.st e e.length = (k : Int)) : OkAt e p t ↔ e[k].ep = p.ep ∧ ∀ h1 : k + 1 < e.length, t ≤ e[k + 1].st := by
  constructor
  · rintro ⟨k', hk', h1, h2, h3⟩
    obtain rfl : k = k' := by omega
    exact ⟨h2, h3⟩
  · rintro ⟨h2, h3⟩
    exact ⟨k, hk, h, h2, h3⟩
end Go.Proofs.YtdlcpcpcojpecaaDoor.Epo
