/- How arguments that came in read: for the rows. No function is named here. -/
import Derived.Test.YtdlcpcpcojpecaaDoorRows
import Derived.Test.YtdlcpcpcojpecaaDoorBase
import Derived.ProofKit
import Derived.OpenShut
import Derived.ShutString
import Derived.ChangeOld
import Derived.Carry
namespace Go.Proofs.YtdlcpcpcojpecaaDoor
open Go Go.ChangeShapes Go.WideShapes Go.ChangeAt Go.RowKit

theorem own : ownKnob Tryd.prog.godebug = none := by kernel_rfl
theorem laidOut : laidOutB Tryd.prog = true := by kernel_rfl

theorem rd_ints {H : Type} {enc : TypeId × Value → H} {P : Program} {W : World} {base : Nat} {held : Bool} {T E : TypeId} {k : IntKind} {a : Option Addr} {len cap : Nat} {d : DataW H} {p : List MemPlace}
    (hT : P.underlying T = some (.slice E)) (hE : P.underlying E = some (.int k)) (hc : P.cellsOf E = 1)
    (h : DataW.Trod enc P W base (fun _ => true) held T (.slice a len cap) d p) :
    ∃ zs : List Int, zs.length = len ∧ Rd W 1 (.slice a len cap) len (zs.map (Value.int k)) ∧ ∀ z ∈ zs, (Lit.int k z).wf = true := by
  obtain ⟨fuel, hf⟩ := h
  rcases open_ints hT hE hc hf with ⟨hcs, _⟩ | ⟨x, l, c, zs, hcs, _, hl, hm, hz, _, hcell, hwz⟩
  · simp [Value.cells] at hcs
    obtain ⟨rfl, rfl, rfl⟩ := hcs
    exact ⟨[], rfl, Rd.nil _ _, by simp⟩
  · simp [Value.cells] at hcs
    obtain ⟨rfl, rfl, rfl⟩ := hcs
    simp only [if_true] at hz
    refine ⟨zs.take len, by simp; omega, ⟨by simp; omega, .inr ⟨x, cap, rfl, hl, hm, fun j u hu => ?_⟩⟩, fun z hz' => hwz z (List.mem_of_mem_take hz')⟩
    rw [List.map_take, List.getElem?_take] at hu
    split at hu
    · rename_i hj
      have hj2 : j < zs.length := by omega
      rw [List.getElem?_map, List.getElem?_eq_getElem hj2] at hu
      simp only [Option.map_some, Option.some.injEq] at hu
      rw [hcell j hj2, ← hu, List.getD_eq_getElem?_getD, List.getElem?_eq_getElem hj2]
      rfl
    · cases hu

theorem bytes_of_ints : ∀ (zs : List Int), (∀ z ∈ zs, (Lit.int .u8 z).wf = true) → ∃ l : List UInt8, l.length = zs.length ∧ zs.map (Value.int .u8) = bvs l := by
  intro zs
  induction zs with
  | nil => intro _; exact ⟨[], rfl, rfl⟩
  | cons z zs ih =>
    intro h
    obtain ⟨l, h1, h2⟩ := ih (fun y hy => h y (List.mem_cons_of_mem _ hy))
    have hb := bounds_u8 (h z (List.mem_cons_self))
    refine ⟨UInt8.ofNat z.toNat :: l, by simp [h1], ?_⟩
    simp only [List.map_cons, bvs, bv] at h2 ⊢
    rw [h2]
    congr 2
    rw [UInt8.toNat_ofNat']; omega

theorem rd_bytes {H : Type} {enc : TypeId × Value → H} {P : Program} {W : World} {base : Nat} {held : Bool} {T E : TypeId} {a : Option Addr} {len cap : Nat} {d : DataW H} {p : List MemPlace}
    (hT : P.underlying T = some (.slice E)) (hE : P.underlying E = some (.int .u8)) (hc : P.cellsOf E = 1)
    (h : DataW.Trod enc P W base (fun _ => true) held T (.slice a len cap) d p) :
    ∃ l : List UInt8, l.length = len ∧ Rd W 1 (.slice a len cap) l.length (bvs l) := by
  obtain ⟨zs, h1, h2, h3⟩ := rd_ints hT hE hc h
  obtain ⟨l, h4, h5⟩ := bytes_of_ints zs h3
  refine ⟨l, by omega, ?_⟩
  rw [← h5, show l.length = len by omega]; exact h2

theorem i64_of_wf {n : Int} (h : (Lit.int .i64 n).wf = true) : -9223372036854775808 ≤ n ∧ n ≤ 9223372036854775807 := bounds_i64 h
theorem u64_of_wf {n : Int} (h : (Lit.int .u64 n).wf = true) : ∃ m : Nat, n = m ∧ m < 18446744073709551616 := by
  have := bounds_u64 h
  exact ⟨n.toNat, by omega, by omega⟩
theorem u32_of_wf {n : Int} (h : (Lit.int .u32 n).wf = true) : ∃ m : Nat, n = m ∧ m < 4294967296 := by
  have := bounds_u32 h
  exact ⟨n.toNat, by omega, by omega⟩
theorem u8_of_wf {n : Int} (h : (Lit.int .u8 n).wf = true) : ∃ c : UInt8, n = c.toNat := by
  have := bounds_u8 h
  exact ⟨UInt8.ofNat n.toNat, by rw [UInt8.toNat_ofNat']; omega⟩
end Go.Proofs.YtdlcpcpcojpecaaDoor
