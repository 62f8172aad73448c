/- How numbers and texts come in: for the rows. No function is named here. -/
import Derived.Test.YtlfbdcgojbfcaaaDoorRowFlat
import Derived.Test.YtlfbdcgojbfcaaaDoorRdT
import Derived.Test.YtlfbdcgojbfcaaaDoorPlain
namespace Go.Proofs.YtlfbdcgojbfcaaaDoor
open Go Go.ChangeShapes Go.WideShapes Go.ChangeAt Go.RowKit Go.Deep Vint

theorem rd_texts_of {H : Type} {enc : TypeId × Value → H} {P : Program} {W : World} {base : Nat} {held : Bool} {T E U : TypeId} {a : Option Addr} {len cap : Nat} {d : DataW H} {p : List MemPlace}
    (hT : P.underlying T = some (.slice E)) (hE : P.underlying E = some (.slice U)) (hU : P.underlying U = some (.int .u8)) (hC : P.cellsOf E = 1) (hCU : P.cellsOf U = 1)
    (h : DataW.Trod enc P W base (fun _ => true) held T (.slice a len cap) d p) :
    ∃ ts : List (List UInt8), ts.length = len ∧ RdT W (.slice a len cap) ts ∧ True := by
  obtain ⟨cells, hr, he⟩ := rd_elems hT 1 hC h
  have hl : cells.length = len := by have := hr.1; omega
  have hch : ∀ i : Nat, ∃ t : List UInt8, i < len → ∃ u, cells[i]? = some u ∧ Rd W 1 u t.length (bvs t) := by
    intro i
    by_cases hi : i < len
    · obtain ⟨n, x, hx⟩ := he i hi
      have hic : i < cells.length := by omega
      rw [Nat.mul_one, List.drop_eq_getElem_cons hic, List.take_succ_cons, List.take_zero] at hx
      have hs : ∃ ad m c, cells[i] = .slice ad m c := by
        rcases DataW.trod_slice hE hx with ⟨h1, _⟩ | ⟨ad, m, c, _, _, _, _, h1, _⟩
        · exact ⟨none, 0, 0, by simpa using h1⟩
        · exact ⟨some ad, m, c, by simpa using h1⟩
      obtain ⟨ad, m, c, hs⟩ := hs
      rw [hs] at hx
      obtain ⟨t, rfl, hrt⟩ := rd_bytes hE hU hCU (d := x.1) (p := x.2) (⟨n, hx⟩ : DataW.Trod enc P W base (fun _ => true) held E (.slice ad m c) x.1 x.2)
      exact ⟨t, fun _ => ⟨_, by rw [List.getElem?_eq_getElem hic, hs], hrt⟩⟩
    · exact ⟨[], fun h => absurd h hi⟩
  obtain ⟨f, hf⟩ := Classical.axiomOfChoice hch
  refine ⟨(List.range len).map f, by simp, ⟨cells, by simpa using hr, fun i hi => ?_⟩, trivial⟩
  have hi2 : i < len := by simpa using hi
  obtain ⟨u, h1, h2⟩ := hf i hi2
  refine ⟨u, h1, ?_⟩
  rw [show ((List.range len).map f)[i] = f i by simp]
  exact h2

theorem rd_u64s_of {H : Type} {enc : TypeId × Value → H} {P : Program} {W : World} {base : Nat} {held : Bool} {T E : TypeId} {a : Option Addr} {len cap : Nat} {d : DataW H} {p : List MemPlace}
    (hT : P.underlying T = some (.slice E)) (hE : P.underlying E = some (.int .u64)) (hc : P.cellsOf E = 1)
    (h : DataW.Trod enc P W base (fun _ => true) held T (.slice a len cap) d p) :
    ∃ us : List Nat, us.length = len ∧ Rd W 1 (.slice a len cap) us.length (us.map (fun (n : Nat) => Value.int .u64 (n : Int))) ∧ ∀ u ∈ us, U64 u := by
  obtain ⟨zs, h1, h2, h3⟩ := rd_ints hT hE hc h
  refine ⟨zs.map Int.toNat, by simpa using h1, ?_, ?_⟩
  · rw [List.length_map, h1, List.map_map]
    have he : zs.map ((fun (n : Nat) => Value.int .u64 (n : Int)) ∘ Int.toNat) = zs.map (Value.int .u64) := by
      refine List.map_congr_left fun z hz => ?_
      obtain ⟨m, rfl, _⟩ := u64_of_wf (h3 z hz)
      rfl
    rw [he]; exact h2
  · intro u hu
    obtain ⟨z, hz, rfl⟩ := List.mem_map.1 hu
    obtain ⟨m, rfl, hm⟩ := u64_of_wf (h3 z hz)
    exact hm

theorem rd_i64s_of {H : Type} {enc : TypeId × Value → H} {P : Program} {W : World} {base : Nat} {held : Bool} {T E : TypeId} {a : Option Addr} {len cap : Nat} {d : DataW H} {p : List MemPlace}
    (hT : P.underlying T = some (.slice E)) (hE : P.underlying E = some (.int .i64)) (hc : P.cellsOf E = 1)
    (h : DataW.Trod enc P W base (fun _ => true) held T (.slice a len cap) d p) :
    ∃ ns : List Int, ns.length = len ∧ Rd W 1 (.slice a len cap) ns.length (ns.map (fun (n : Int) => Value.int .i64 n)) ∧ ∀ n ∈ ns, I64 n := by
  obtain ⟨zs, h1, h2, h3⟩ := rd_ints hT hE hc h
  exact ⟨zs, h1, by rw [h1]; exact h2, fun n hn => i64_of_wf (h3 n hn)⟩
end Go.Proofs.YtlfbdcgojbfcaaaDoor
