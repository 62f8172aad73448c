/- What a reader is asked, as plain data, and how it lies in memory. -/
import Derived.Test.YtlgbdibfpboleaaDoorFlat
namespace Go.Proofs.YtlgbdibfpboleaaDoor
open Go Go.RowKit

/-- An ask: its kind, how many, the greatest, from, to. -/
structure AskR where
  kind : Int
  n : Int
  a : Nat
  b : Int
  c : Int

def AskR.ok (x : AskR) : Prop := (-9223372036854775808 ≤ x.n ∧ x.n ≤ 9223372036854775807) ∧ x.a < 18446744073709551616
def askV (x : AskR) : List Value := [.int .i64 x.kind, .int .i64 x.n, .int .u64 (x.a : Int), .int .i64 x.b, .int .i64 x.c]
theorem askV_len (l : List AskR) : ∀ x ∈ l, (askV x).length = 5 := fun _ _ => rfl

/-- The five cells of one of them. -/
theorem ask_cells {w : World} {b o : Nat} {xs : List AskR} (hx : ∀ j u, (xs.flatMap askV)[j]? = some u → w.cell? ⟨b, o + j, none⟩ = some u) (i : Nat) (hi : i < xs.length) :
    w.cell? ⟨b, o + i * 5, none⟩ = some (.int .i64 xs[i].kind) ∧ w.cell? ⟨b, o + i * 5 + 1, none⟩ = some (.int .i64 xs[i].n) ∧ w.cell? ⟨b, o + i * 5 + 2, none⟩ = some (.int .u64 (xs[i].a : Int)) ∧
    w.cell? ⟨b, o + i * 5 + 3, none⟩ = some (.int .i64 xs[i].b) ∧ w.cell? ⟨b, o + i * 5 + 4, none⟩ = some (.int .i64 xs[i].c) := by
  have h := fun j hj => flat_at askV 5 xs (askV_len xs) i hi j hj
  exact ⟨hx (i * 5 + 0) _ (h 0 (by omega)), hx (i * 5 + 1) _ (h 1 (by omega)), hx (i * 5 + 2) _ (h 2 (by omega)), hx (i * 5 + 3) _ (h 3 (by omega)), hx (i * 5 + 4) _ (h 4 (by omega))⟩
end Go.Proofs.YtlgbdibfpboleaaDoor
