/- How a manifest comes in: for the row. -/
import Derived.Test.YtldopocmmeidkaaDoorRowEnt
namespace Go.Proofs.YtldopocmmeidkaaDoor
open Go Go.ChangeShapes Go.WideShapes Go.ChangeAt Go.RowKit Go.Deep Man Vint

set_option maxRecDepth 100000 in
theorem rd_man0 {H : Type} {enc : TypeId × Value → H} {W : World} {base : Nat} {held : Bool} {r : Reach} {b0 : Nat} {v : Value} {d : DataW H} {p : List MemPlace}
    (hval : Value.okWide Tryd.prog W r b0 25 v) (h : DataW.Trod enc Tryd.prog W base (fun _ => true) held 25 v d p) :
    ∃ (b : ManD) (vr : Value × Value), v = .agg #[.int .i64 b.id, .int .i64 b.base, .int .i64 b.fin, .int .i64 b.time, vr.1, vr.2] ∧ ManRd W b vr.1 vr.2 ∧ Man.Ok b := by
  unfold Value.okWide at hval
  rw [Tryd.underlying25] at hval
  obtain ⟨cs, rfl, hsz, _⟩ := hval
  obtain ⟨n, hn⟩ := h
  obtain ⟨m, ve, vo, hm, hr, hk⟩ := rd_mani (cs := cs.toList) hn
  refine ⟨m, (ve, vo), ?_, hr, hk⟩
  obtain ⟨cl⟩ := cs
  simp only at hm
  rw [hm]
  rfl
end Go.Proofs.YtldopocmmeidkaaDoor
