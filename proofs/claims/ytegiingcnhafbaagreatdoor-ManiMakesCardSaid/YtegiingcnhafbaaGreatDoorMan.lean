/- Manifests: their data, their bytes, how they lie. No Go function is named here. -/
import Derived.Test.YtegiingcnhafbaaGreatDoorEpo
import Derived.Test.YtegiingcnhafbaaGreatDoorCrcOpen
import Derived.Lib.AppendStr
namespace Go.Proofs.YtegiingcnhafbaaGreatDoor.Man
open Vint

structure ObjD where
  name : ByteArray
  len : Int
  sum : Nat
structure ManD where
  id : Int
  base : Int
  fin : Int
  time : Int
  eps : List Epo.Pr
  objs : List ObjD

/-- A number with a sign, as one of 64 bits. -/
def u64 (n : Int) : Nat := (n % 18446744073709551616).toNat
theorem u64_lt (n : Int) : u64 n < 18446744073709551616 := by unfold u64; omega
def pairL (p : Epo.Pr) : List UInt8 := putL (u64 p.ep) ++ putL (u64 p.st)
def objL (o : ObjD) : List UInt8 := putL o.name.size ++ (o.name.data.toList ++ (putL (u64 o.len) ++ putL o.sum))
def mbody (m : ManD) : List UInt8 :=
  putL (u64 m.id) ++ (putL (u64 m.base) ++ (putL (u64 m.fin) ++ (putL (fold m.time) ++ (putL m.eps.length ++ (m.eps.flatMap pairL ++ (putL m.objs.length ++ m.objs.flatMap objL))))))
def entL (seq kind : Int) (m : ManD) : List UInt8 := lit (u64 seq) 8 ++ (UInt8.ofNat kind.toNat :: Crc.sealed (mbody m))
def entB (seq kind : Int) (m : ManD) : List UInt8 := lit (Crc.sealed (entL seq kind m)).length 4 ++ Crc.sealed (entL seq kind m)

structure Ok (m : ManD) : Prop where
  id : I64 m.id
  base : I64 m.base
  fin : I64 m.fin
  time : I64 m.time
  eps : ∀ p ∈ m.eps, I64 p.ep ∧ I64 p.st
  objs : ∀ o ∈ m.objs, I64 o.len ∧ o.sum < 4294967296
end Go.Proofs.YtegiingcnhafbaaGreatDoor.Man
namespace Go.Proofs.YtegiingcnhafbaaGreatDoor
open Go Go.RowKit Man

def obV (o : ObjD) : List Value := [.string o.name, .int .i64 o.len, .int .u32 (o.sum : Int)]
theorem obV_len (l : List ObjD) : ∀ x ∈ l, (obV x).length = 3 := fun _ _ => rfl
theorem u64_wrap (n : Int) : IntKind.u64.wrap n = (u64 n : Int) := by rw [IntKind.wrap_u64]; unfold u64; omega
/-- A manifest's cells. -/
def manV (m : ManD) (ve vo : Value) : List Value := [.int .i64 m.id, .int .i64 m.base, .int .i64 m.fin, .int .i64 m.time, ve, vo]
def ManRd (w : World) (m : ManD) (ve vo : Value) : Prop := Rd w 2 ve m.eps.length (m.eps.flatMap prV) ∧ Rd w 3 vo m.objs.length (m.objs.flatMap obV)
theorem ManRd.below {w w1 : World} {m : ManD} {ve vo : Value} (h : ManRd w m ve vo) (b : Below w.heap.size w w1) : ManRd w1 m ve vo := ⟨h.1.below b, h.2.below b⟩
theorem strCells_bvs (s : ByteArray) : Lib.strCells s = bvs s.data.toList := rfl

/-- The cells of an object. -/
theorem objs_at {w : World} {a : Option Addr} {c : Nat} {l : List ObjD} (h : Rd w 3 (.slice a l.length c) l.length (l.flatMap obV)) (i : Nat) (hi : i < l.length) :
    ∃ b o, a = some ⟨b, o, none⟩ ∧ ∀ j (hj : j < l.length), w.cell? ⟨b, o + j * 3, none⟩ = some (.string l[j].name) ∧ w.cell? ⟨b, o + j * 3 + 1, none⟩ = some (.int .i64 l[j].len) ∧ w.cell? ⟨b, o + j * 3 + 2, none⟩ = some (.int .u32 (l[j].sum : Int)) := by
  obtain ⟨b, o, rfl, _, _, hx⟩ := h.at (by omega)
  refine ⟨b, o, rfl, fun j hj => ?_⟩
  have f := fun k hk => flat_at obV 3 l (obV_len l) j hj k hk
  exact ⟨hx (j * 3 + 0) _ (f 0 (by omega)), hx (j * 3 + 1) _ (f 1 (by omega)), hx (j * 3 + 2) _ (f 2 (by omega))⟩
theorem pairs_at {w : World} {a : Option Addr} {c : Nat} {l : List Epo.Pr} (h : Rd w 2 (.slice a l.length c) l.length (l.flatMap prV)) (i : Nat) (hi : i < l.length) :
    ∃ b o, a = some ⟨b, o, none⟩ ∧ ∀ j (hj : j < l.length), w.cell? ⟨b, o + j * 2, none⟩ = some (.int .i64 l[j].ep) ∧ w.cell? ⟨b, o + j * 2 + 1, none⟩ = some (.int .i64 l[j].st) := by
  obtain ⟨b, o, rfl, _, _, hx⟩ := h.at (by omega)
  refine ⟨b, o, rfl, fun j hj => ?_⟩
  have f := fun k hk => flat_at prV 2 l (fun _ _ => rfl) j hj k hk
  exact ⟨hx (j * 2 + 0) _ (f 0 (by omega)), hx (j * 2 + 1) _ (f 1 (by omega))⟩
/-- What a manifest has that is small. -/
def Small (m : ManD) : Prop := m.eps.length ≤ 300 ∧ m.objs.length ≤ 12 ∧ ∀ o ∈ m.objs, o.name.size ≤ 100
def manA (m : ManD) (ve vo : Value) : Value := .agg #[.int .i64 m.id, .int .i64 m.base, .int .i64 m.fin, .int .i64 m.time, ve, vo]
theorem manSize : (Tryz.prog.info? 27).map (·.size) = some 6 := by kernel_rfl
theorem pr_one (l : List Epo.Pr) : ∀ u ∈ l.flatMap prV, u.oneCell' = true := by
  intro u hu
  obtain ⟨x, _, hx⟩ := List.mem_flatMap.1 hu
  simp [prV] at hx
  rcases hx with rfl | rfl <;> rfl
theorem ob_one (l : List ObjD) : ∀ u ∈ l.flatMap obV, u.oneCell' = true := by
  intro u hu
  obtain ⟨x, _, hx⟩ := List.mem_flatMap.1 hu
  simp [obV] at hx
  rcases hx with rfl | rfl | rfl <;> rfl

end Go.Proofs.YtegiingcnhafbaaGreatDoor
