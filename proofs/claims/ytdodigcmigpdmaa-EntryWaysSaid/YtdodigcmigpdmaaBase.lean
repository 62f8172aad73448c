/- General words and lemmas for the walks: a slice that reads as a list of cells. No program, no Go function is named here. -/
import Derived.WalkKit
import Derived.WalkSpells
import Derived.Lib.Hide
import Derived.KernelRfl
import Derived.Deep.QuietTactic
import Derived.BigQuiet
namespace Go.Proofs.Ytdodigcmigpdmaa
open Go Go.RowKit

/-- A slice value that reads, in a world, as these cells (n elements of sz cells each). -/
def Rd (w : World) (sz : Nat) (v : Value) (n : Nat) (xs : List Value) : Prop :=
  xs.length = n * sz ∧
  ((v = .slice none 0 0 ∧ n = 0) ∨
   ∃ x cap, v = .slice (some x) n cap ∧ n ≤ cap ∧ cap ≤ maxLen ∧ ∀ j u, xs[j]? = some u → w.cell? (x.add j) = some u)

theorem Rd.nil (w : World) (sz : Nat) : Rd w sz (.slice none 0 0) 0 [] := ⟨by simp, .inl ⟨rfl, rfl⟩⟩

theorem add_none (b off j : Nat) : (⟨b, off, none⟩ : Addr).add j = ⟨b, off + j, none⟩ := by
  unfold Addr.add; split <;> simp_all

theorem Rd.of_owns {w : World} {base e sz : Nat} {v : Value} {n : Nat} {xs : List Value} (h : w.ownsRow base e sz v n xs) : Rd w sz v n xs := by
  refine ⟨h.1, ?_⟩
  rcases h.2 with hn | ⟨g, cap, cur, rfl, hb, hg, hc, hm, hs, ht⟩
  · exact .inl hn
  · exact .inr ⟨⟨g, 0, none⟩, cap, rfl, hc, hm, fun j u hu => World.ownsRow.cells h (g := g) rfl j u hu⟩

/-- What lies below B reads on as it did. -/
theorem Rd.below {w w' : World} {sz n : Nat} {v : Value} {xs : List Value} (h : Rd w sz v n xs) (hb : Below w.heap.size w w') : Rd w' sz v n xs := by
  refine ⟨h.1, ?_⟩
  rcases h.2 with hn | ⟨x, cap, rfl, hc, hm, hx⟩
  · exact .inl hn
  · refine .inr ⟨x, cap, rfl, hc, hm, fun j u hu => ?_⟩
    have h1 := hx j u hu
    rw [hb.cell (World.block_lt_of_cell? w _ h1)]; exact h1

theorem owns_below {w w' : World} {base e sz n : Nat} {v : Value} {xs : List Value} (h : w.ownsRow base e sz v n xs) (hb : Below w.heap.size w w') : w'.ownsRow base e sz v n xs := by
  refine ⟨h.1, ?_⟩
  rcases h.2 with hn | ⟨g, cap, cur, rfl, h1, h2, r⟩
  · exact .inl hn
  · refine .inr ⟨g, cap, cur, rfl, h1, ?_, r⟩
    rw [hb.block g (Array.getElem?_eq_some_iff.1 h2).1]; exact h2

theorem owns_base {w : World} {base base' e sz n : Nat} {v : Value} {xs : List Value} (h : w.ownsRow base e sz v n xs) (hb : base' ≤ base) : w.ownsRow base' e sz v n xs := by
  refine ⟨h.1, ?_⟩
  rcases h.2 with hn | ⟨g, cap, cur, rfl, h1, r⟩
  · exact .inl hn
  · exact .inr ⟨g, cap, cur, rfl, by omega, r⟩

theorem owns_slice {w : World} {base e sz n : Nat} {v : Value} {xs : List Value} (h : w.ownsRow base e sz v n xs) : ∃ a c, v = .slice a n c := by
  rcases h.2 with ⟨rfl, rfl⟩ | ⟨g, cap, cur, rfl, _⟩
  · exact ⟨_, _, rfl⟩
  · exact ⟨_, _, rfl⟩
theorem Rd.slice {w : World} {sz n : Nat} {v : Value} {xs : List Value} (h : Rd w sz v n xs) : ∃ a c, v = .slice a n c := by
  rcases h.2 with ⟨rfl, rfl⟩ | ⟨x, cap, rfl, _⟩
  · exact ⟨_, _, rfl⟩
  · exact ⟨_, _, rfl⟩

theorem Rd.len_le {w : World} {sz n : Nat} {v : Value} {xs : List Value} (h : Rd w sz v n xs) : n ≤ 9223372036854775807 := by
  rcases h.2 with ⟨_, rfl⟩ | ⟨x, cap, he, hc, hm, hx⟩
  · omega
  · unfold maxLen at hm; omega

/-- Where there is an element the slice leads somewhere. -/
theorem Rd.at {w : World} {sz n c : Nat} {a : Option Addr} {xs : List Value} (h : Rd w sz (.slice a n c) n xs) (hn : 0 < n) (hs : 0 < sz := by decide) :
    ∃ b off, a = some ⟨b, off, none⟩ ∧ n ≤ c ∧ c ≤ maxLen ∧ ∀ j u, xs[j]? = some u → w.cell? ⟨b, off + j, none⟩ = some u := by
  rcases h.2 with ⟨_, rfl⟩ | ⟨x, cap, he, hc, hm, hx⟩
  · omega
  · simp only [Value.slice.injEq] at he
    obtain ⟨rfl, _, rfl⟩ := he
    obtain ⟨b, off, spot⟩ := x
    have hlen : 0 < xs.length := by rw [h.1]; exact Nat.mul_pos hn hs
    have h0 := hx 0 xs[0] (by simp [hlen])
    have hspot : spot = none := by simpa [Addr.add] using World.cell?_spot h0
    subst hspot
    exact ⟨b, off, rfl, hc, hm, fun j u hu => by have := hx j u hu; rwa [add_none] at this⟩

theorem take_next {α : Type} {l1 l2 : List α} {k : Nat} (h1 : k < l1.length) (h2 : k < l2.length) (h : l1.take k = l2.take k) (he : l1[k] = l2[k]) : l1.take (k + 1) = l2.take (k + 1) := by
  rw [List.take_succ_eq_append_getElem h1, List.take_succ_eq_append_getElem h2, h, he]

theorem below_alloc (w : World) (o : Obj) : Below w.heap.size w (w.alloc o) := (Below.refl _ _).alloc (Nat.le_refl _) _
theorem below_drewN {B : Nat} {a w : World} (h : Below B a w) (n : Nat) : Below B a (w.drewN n) := ⟨h.os, h.tape, h.output, h.size, h.block⟩

/-- One call behind another one. -/
theorem nxt {w w1 w2 : World} (h : Below w.heap.size w w1) (k : Below w1.heap.size w1 w2) : Below w.heap.size w w2 := h.trans (k.mono h.size)

/-- A row just laid reads as what was laid. -/
theorem Rd.new (w : World) (xs : Array Value) (T : TypeId) (sz n : Nat) (h : xs.size = n * sz) (hm : n ≤ maxLen) : Rd (w.alloc (.cells xs T)) sz (.slice (some ⟨w.heap.size, 0, none⟩) n n) n xs.toList := by
  refine ⟨by simpa using h, .inr ⟨⟨w.heap.size, 0, none⟩, n, rfl, Nat.le_refl _, hm, fun j u hu => ?_⟩⟩
  rw [add_none]
  have := cell_of_row (w.alloc (.cells xs T)) w.heap.size j xs T (0, 0) (heap_alloc_new w _)
  simp only [Nat.zero_add]
  rw [this]; simpa using hu

/-- A byte as a cell. -/
def bv (c : UInt8) : Value := .int .u8 c.toNat
def bvs (l : List UInt8) : List Value := l.map bv
@[simp] theorem bvs_length (l : List UInt8) : (bvs l).length = l.length := by simp [bvs]
theorem bvs_at (l : List UInt8) (k : Nat) (h : k < l.length) : (bvs l)[k]? = some (.int .u8 ((l[k].toNat : Nat) : Int)) := by
  simp [bvs, bv, h]
theorem bvs_append (a b : List UInt8) : bvs (a ++ b) = bvs a ++ bvs b := by simp [bvs]
theorem bvs_one (l : List UInt8) : ∀ u ∈ bvs l, u.oneCell' = true := by
  intro u hu
  obtain ⟨c, _, rfl⟩ := List.mem_map.1 hu
  rfl

/-- One byte more, in whatever words its number is written. -/
theorem bvs_snoc (l em : List UInt8) (c : UInt8) (x : Int) (h : x = c.toNat) : bvs (l ++ em) ++ [.int .u8 x] = bvs (l ++ (em ++ [c])) := by
  subst h; simp [bvs, bv]

theorem or128 (m : Nat) : bits .or .u8 ((m : Int) % 256) 128 = ((UInt8.ofNat (m % 128 + 128)).toNat : Int) := by
  have e : ((m : Int) % 256) = ((m % 256 : Nat) : Int) := by omega
  have h := u8_or_nat (m % 256) 128 (by omega) (by omega)
  rw [e]
  refine (h.trans ?_)
  have h2 : (UInt8.ofNat (m % 128 + 128)).toNat = m % 128 + 128 := by
    rw [UInt8.toNat_ofNat']; omega
  rw [h2]
  have h3 : ∀ k, k < 256 → k ||| 128 = k % 128 + 128 := by decide +kernel
  rw [h3 _ (by omega)]
  omega

theorem byte_small (m : Nat) (h : m < 256) : (m : Int) = ((UInt8.ofNat m).toNat : Int) := by
  rw [UInt8.toNat_ofNat']; omega

theorem tmod_bd (n b : Int) (hb : 1 ≤ b) : -b < n.tmod b ∧ n.tmod b < b := by
  rcases Int.lt_or_le n 0 with h | h
  · obtain ⟨k, rfl⟩ : ∃ k, n = -k := ⟨-n, by omega⟩
    rw [Int.neg_tmod, Int.tmod_eq_emod_of_nonneg (by omega)]
    have h1 := Int.emod_nonneg k (show b ≠ 0 by omega)
    have h2 := Int.emod_lt_of_pos k (show 0 < b by omega)
    omega
  · rw [Int.tmod_eq_emod_of_nonneg h]
    have h1 := Int.emod_nonneg n (show b ≠ 0 by omega)
    have h2 := Int.emod_lt_of_pos n (show 0 < b by omega)
    omega

theorem emod_of_tmod (n b : Int) (hb : 1 ≤ b) : n % b = if n.tmod b < 0 then n.tmod b + b else n.tmod b := by
  have hbd := tmod_bd n b hb
  have hd := Int.mul_tdiv_add_tmod n b
  split
  · rename_i h
    conv => lhs; rw [← hd]
    rw [Int.add_comm, Int.add_mul_emod_self_left, ← Int.add_emod_right]
    exact Int.emod_eq_of_lt (by omega) (by omega)
  · rename_i h
    conv => lhs; rw [← hd]
    rw [Int.add_comm, Int.add_mul_emod_self_left]
    exact Int.emod_eq_of_lt (by omega) (by omega)

theorem not64 (k : Nat) (h : k < 18446744073709551616) : k ^^^ 18446744073709551615 = 18446744073709551615 - k := by
  have h1 : (BitVec.ofNat 64 k ^^^ BitVec.allOnes 64).toNat = (~~~ BitVec.ofNat 64 k).toNat := by rw [BitVec.xor_allOnes]
  rw [BitVec.toNat_xor, BitVec.toNat_not, BitVec.toNat_allOnes, BitVec.toNat_ofNat, Nat.mod_eq_of_lt (by simpa using h)] at h1
  simpa using h1

end Go.Proofs.Ytdodigcmigpdmaa
