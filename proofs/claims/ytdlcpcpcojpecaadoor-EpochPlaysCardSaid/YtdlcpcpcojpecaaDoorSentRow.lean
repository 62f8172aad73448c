/- Out of a row's condition on the package-level errors: the sentinels as a walk meets them. -/
import Derived.Test.YtdlcpcpcojpecaaDoorSent
import Derived.Test.YtdlcpcpcojpecaaDoorRowBase
import Derived.LaidLaws
import Derived.LaidMore
import Derived.MakeChecks
import Derived.Stop.ErrReads
import Derived.Stop.Joined
namespace Go.Proofs.YtdlcpcpcojpecaaDoor
open Go Go.ChangeShapes Go.WideShapes Go.ChangeAt Go.RowKit

def nameOf : Nat → String
  | 0 => "cordwood/api.ErrEnd"
  | 1 => "cordwood/api.ErrSum"
  | 2 => "cordwood/api.ErrShape"
  | 3 => "cordwood/api.ErrMany"
  | 4 => "cordwood/api.ErrRange"
  | 5 => "cordwood/api.ErrName"
  | 6 => "cordwood/api.ErrNone"
  | 7 => "cordwood/api.ErrThere"
  | 8 => "cordwood/api.ErrFull"
  | 9 => "cordwood/api.ErrCrash"
  | 10 => "cordwood/api.ErrStore"
  | 11 => "cordwood/api.ErrKind"
  | 12 => "cordwood/api.ErrState"
  | 13 => "cordwood/api.ErrFenced"
  | 14 => "cordwood/api.ErrOutside"
  | 15 => "cordwood/api.ErrUnavail"
  | 16 => "cordwood/api.ErrWord"
  | 17 => "cordwood/api.ErrNumber"
  | 18 => "cordwood/api.ErrClosed"
  | _ => ""

def datumOf : Nat → DataW Unit
  | 0 => Rows.laid_cordwood_api_ErrEnd
  | 1 => Rows.laid_cordwood_api_ErrSum
  | 2 => Rows.laid_cordwood_api_ErrShape
  | 3 => Rows.laid_cordwood_api_ErrMany
  | 4 => Rows.laid_cordwood_api_ErrRange
  | 5 => Rows.laid_cordwood_api_ErrName
  | 6 => Rows.laid_cordwood_api_ErrNone
  | 7 => Rows.laid_cordwood_api_ErrThere
  | 8 => Rows.laid_cordwood_api_ErrFull
  | 9 => Rows.laid_cordwood_api_ErrCrash
  | 10 => Rows.laid_cordwood_api_ErrStore
  | 11 => Rows.laid_cordwood_api_ErrKind
  | 12 => Rows.laid_cordwood_api_ErrState
  | 13 => Rows.laid_cordwood_api_ErrFenced
  | 14 => Rows.laid_cordwood_api_ErrOutside
  | 15 => Rows.laid_cordwood_api_ErrUnavail
  | 16 => Rows.laid_cordwood_api_ErrWord
  | 17 => Rows.laid_cordwood_api_ErrNumber
  | 18 => Rows.laid_cordwood_api_ErrClosed
  | _ => .nil

/-- The listed variables, one by one. -/
def SentL (P : Program) (W : World) (TP : TypeId) : List (String × DataW Unit) → List Addr → Prop
  | [], [] => True
  | (n, _) :: r, a :: bs => (∃ g, P.globalNamed n = some g ∧ W.cell? ⟨g, 0, none⟩ = some (.iface TP (.pointer (some a)))) ∧ SentL P W TP r bs
  | _, _ => False

theorem sentL_of_laid {P : Program} {W : World} {TI TP TE TS : TypeId} {ms : Array (String × TypeId)} {f : Field}
    (hTI : P.underlying TI = some (.interface ms)) (hrow : ∀ u, P.typeName? 3 u = some "*errors.errorString" → u = TP)
    (hTP : P.underlying TP = some (.pointer TE)) (hTE : P.underlying TE = some (.struct #[f])) (hft : f.type = TS) (hfo : f.offset = 0) (hTS : P.underlying TS = some .string) (hc : P.cellsOf TE = 1) (hcs : P.cellsOf TS = 1) :
    ∀ (laid : List (String × DataW Unit)) (ps : List MemPlace), DataW.LaidVars P W laid ps → ps.Nodup →
    (∀ b off, MemPlace.cell b off ∈ ps → (∃ c t, W.heap[b]? = some (.cells c t (0, 0))) ∧ ∀ u v, W.cell? ⟨b, off, none⟩ = some (.iface u v) → Value.okWide P W .any 0 u v) →
    (∀ x ∈ laid, (∃ text, x.2 = .iface "*errors.errorString" (.ptr (.agg [.lit (.string text)]))) ∧ ∀ g, P.globalNamed x.1 = some g → (P.globals[g]?).map (·.type) = some TI) →
    ∃ As : List Addr, SentL P W TP laid As ∧ As.Nodup ∧ ∀ a ∈ As, MemPlace.cell a.block a.off ∈ ps := by
  intro laid
  induction laid with
  | nil => intro ps _ _ _ _; exact ⟨[], trivial, List.nodup_nil, by simp⟩
  | cons x laid ih =>
    intro ps hl hnd hrows hall
    obtain ⟨n, d⟩ := x
    obtain ⟨g, t, cs, fuel, p, q, hg, ht, hv, hd, hr, rfl⟩ := hl
    obtain ⟨⟨text, hx⟩, htype⟩ := hall (n, d) (List.mem_cons_self)
    simp only at hx
    subst hx
    obtain rfl := Option.some.inj ((htype g hg).symm.trans ht)
    obtain ⟨l0⟩ := cs
    have hcell := World.var?_cell hg hv 0
    have ok0 : ∀ u v, l0 = [.iface u v] → Value.okWide P W .any 0 u v := fun u v e => by
      subst e
      exact (hrows g 0 (by simp [MemPlace.row])).2 u v (by simpa using hcell)
    obtain ⟨a, s, rfl, hca, _, _, rfl⟩ := errorString_of_trod hTI hrow hTP hTE hft hfo hTS hc hcs hd ok0
    rw [List.nodup_append] at hnd
    obtain ⟨hnd1, hnd2, hdis⟩ := hnd
    obtain ⟨As, h1, h2, h3⟩ := ih q hr hnd2 (fun b off hb => hrows b off (List.mem_append_right _ hb)) (fun y hy => hall y (List.mem_cons_of_mem _ hy))
    refine ⟨a :: As, ⟨⟨g, hg, by simpa using hcell⟩, h1⟩, ?_, ?_⟩
    · rw [List.nodup_cons]
      refine ⟨fun hin => ?_, h2⟩
      exact hdis (MemPlace.cell a.block a.off) (by simp [MemPlace.row]) _ (h3 a hin) rfl
    · intro b hb
      rcases List.mem_cons.1 hb with rfl | hb
      · simp [MemPlace.row]
      · exact List.mem_append_right _ (h3 b hb)

theorem sentL_at {P : Program} {W : World} {TP : TypeId} (D : Nat → DataW Unit) : ∀ (cs : List Nat) (As : List Addr), SentL P W TP (cs.map fun i => (nameOf i, D i)) As →
    As.length = cs.length ∧ ∀ (j i : Nat) (a : Addr), cs[j]? = some i → As[j]? = some a → ∃ g, P.globalNamed (nameOf i) = some g ∧ W.cell? ⟨g, 0, none⟩ = some (.iface TP (.pointer (some a))) := by
  intro cs
  induction cs with
  | nil =>
    intro As h
    cases As with
    | nil => exact ⟨rfl, by simp⟩
    | cons _ _ => exact h.elim
  | cons c cs ih =>
    intro As h
    cases As with
    | nil => exact h.elim
    | cons b As =>
      obtain ⟨h1, h2⟩ := h
      obtain ⟨h3, h4⟩ := ih As h2
      refine ⟨by simp [h3], fun j i a hi ha => ?_⟩
      rcases j with _ | j
      · simp at hi ha; subst hi; subst ha; exact h1
      · exact h4 j i a (by simpa using hi) (by simpa using ha)

theorem nodup_inj {α : Type _} {l : List α} (h : l.Nodup) (i j : Nat) (hi : i < l.length) (hj : j < l.length) (e : l[i] = l[j]) : i = j := by
  have hp := List.pairwise_iff_getElem.1 h
  rcases Nat.lt_trichotomy i j with h1 | h1 | h1
  · exact absurd e (hp i j hi hj h1)
  · exact h1
  · exact absurd e.symm (hp j i hj hi h1)

theorem sents_of {W : World} (cs : List Nat) (As : List Addr) (h : SentL Tryd.prog W 85 (cs.map fun i => (nameOf i, datumOf i)) As) (hA : As.Nodup) (hrow : ∀ a ∈ As, ∃ c t, W.heap[a.block]? = some (.cells c t (0, 0)))
    (hg : ∀ i ∈ cs, Tryd.prog.globalNamed (nameOf i) = some (glob i)) : ∃ A, Sents cs W A := by
  obtain ⟨hl, ha⟩ := sentL_at datumOf cs As h
  refine ⟨fun i => As.getD (cs.idxOf i) default, ⟨fun i hi => ?_, fun i hi j hj e => ?_, fun i hi => ?_⟩⟩
  · have hlt := List.idxOf_lt_length_of_mem hi
    have h1 : cs[cs.idxOf i]? = some i := by rw [List.getElem?_eq_getElem hlt]; simp
    have h2 : As[cs.idxOf i]? = some (As.getD (cs.idxOf i) default) := by
      rw [List.getElem?_eq_getElem (by omega), List.getD_eq_getElem?_getD, List.getElem?_eq_getElem (by omega)]; rfl
    obtain ⟨g, hg', hc⟩ := ha _ _ _ h1 h2
    rw [hg i hi] at hg'
    obtain rfl := Option.some.inj hg'
    exact hc
  · have li := List.idxOf_lt_length_of_mem hi
    have lj := List.idxOf_lt_length_of_mem hj
    simp only [List.getD_eq_getElem?_getD] at e
    rw [List.getElem?_eq_getElem (by omega), List.getElem?_eq_getElem (by omega)] at e
    have := nodup_inj hA _ _ _ _ e
    have e1 : cs[cs.idxOf i]'li = i := by simp
    have e2 : cs[cs.idxOf j]'lj = j := by simp
    rw [← e1, ← e2]
    congr 1
  · have hlt := List.idxOf_lt_length_of_mem hi
    refine hrow _ ?_
    rw [List.getD_eq_getElem?_getD, List.getElem?_eq_getElem (by omega)]
    exact List.getElem_mem _

theorem errorRow (u : TypeId) (h : Tryd.prog.typeName? 3 u = some "*errors.errorString") : u = 85 :=
  typeName_ptr_named (nm := "errors.errorString") (by rw [show "*" ++ "errors.errorString" = "*errors.errorString" by decide]; kernel_rfl) (by kernel_rfl) (by decide) u (by rw [show "*" ++ "errors.errorString" = "*errors.errorString" by decide]; exact h)

/-- A row's condition on listed errors. -/
theorem sents_laid {W : World} (cs : List Nat) (laid : List (String × DataW Unit)) (he : laid = cs.map fun i => (nameOf i, datumOf i)) (hp : (laid.all fun x => x.2.handleName?.isNone) = true)
    (hd : ∀ i ∈ cs, ∃ text, datumOf i = .iface "*errors.errorString" (.ptr (.agg [.lit (.string text)])))
    (hg : ∀ i ∈ cs, Tryd.prog.globalNamed (nameOf i) = some (glob i) ∧ (Tryd.prog.globals[glob i]?).map (·.type) = some 27)
    (h : laidMetH Tryd.prog laid W) : ∃ A, Sents cs W A := by
  rw [MakeChecks.laidMetH_plain _ _ _ hp] at h
  obtain ⟨ps, hl, hnd, hrows⟩ := h
  subst he
  obtain ⟨As, h1, h2, h3⟩ := sentL_of_laid Tryd.underlying27 errorRow Tryd.underlying85 Tryd.underlying103 rfl rfl Tryd.underlying9 (by kernel_rfl) (by kernel_rfl) _ ps hl hnd hrows (fun x hx => by
    obtain ⟨i, hi, rfl⟩ := List.mem_map.1 hx
    refine ⟨hd i hi, fun g hg' => ?_⟩
    rw [(hg i hi).1] at hg'
    obtain rfl := Option.some.inj hg'
    exact (hg i hi).2)
  exact sents_of cs As h1 h2 (fun a ha => (hrows _ _ (h3 a ha)).1) (fun i hi => (hg i hi).1)

end Go.Proofs.YtdlcpcpcojpecaaDoor
