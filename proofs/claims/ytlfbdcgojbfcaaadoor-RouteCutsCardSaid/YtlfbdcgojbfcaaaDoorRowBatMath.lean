/- Plain: the batches that follow one another, of so many records each. No program in sight. -/
import Derived.Test.YtlfbdcgojbfcaaaDoorRecBackMath
import Derived.Test.YtlfbdcgojbfcaaaDoorBat
namespace Go.Proofs.YtlfbdcgojbfcaaaDoor.Rec
open Go Vint

def nOf (z : Int) : Nat := (z % 5).toNat + 1
theorem nOf_bd (z : Int) : 1 ≤ nOf z ∧ nOf z ≤ 5 := by unfold nOf; omega
theorem nOf_int (z : Int) : z % 5 + 1 = ((nOf z : Nat) : Int) := by unfold nOf; omega
def vOf (z : Int) (k : Nat) : Nat := (IntKind.i64.wrap (z + k) % 9).toNat
theorem vOf_bd (z : Int) (k : Nat) : vOf z k < 9 := by unfold vOf; omega
theorem vOf_int (z : Int) (k : Nat) : IntKind.i64.wrap (z + k) % 9 = ((vOf z k : Nat) : Int) := by unfold vOf; omega
def rowRec (i : Nat) (z : Int) (k : Nat) : RecD := ⟨((100 * i + k : Nat) : Int), [UInt8.ofNat (97 + vOf z k)], List.replicate (vOf z k) 0⟩
def rowBat (at_ : Int) (every i : Nat) (z : Int) : BatD := ⟨at_, ((1 + i / every : Nat) : Int), (List.range (nOf z)).map (rowRec i z)⟩
def offs (base : Int) (zs : List Int) (i : Nat) : Int := base + (((zs.take i).map nOf).sum : Nat)
def zAt (zs : List Int) (i : Nat) : Int := (zs[i]?).getD 0
def rowB (base : Int) (every : Nat) (zs : List Int) (i : Nat) : BatD := rowBat (offs base zs i) every i (zAt zs i)
def rowL (base : Int) (every : Nat) (zs : List Int) (k : Nat) : List BatD := (List.range k).map (rowB base every zs)

theorem rowL_len (base : Int) (every : Nat) (zs : List Int) (k : Nat) : (rowL base every zs k).length = k := by simp [rowL]
theorem rowL_snoc (base : Int) (every : Nat) (zs : List Int) (k : Nat) : rowL base every zs (k + 1) = rowL base every zs k ++ [rowB base every zs k] := by simp [rowL, List.range_succ]
theorem rowL_at (base : Int) (every : Nat) (zs : List Int) (k i : Nat) (h : i < (rowL base every zs k).length) : (rowL base every zs k)[i] = rowB base every zs i := by simp [rowL]
theorem rowL_take (base : Int) (every : Nat) (zs : List Int) (k j : Nat) (h : j ≤ k) : (rowL base every zs k).take j = rowL base every zs j := by
  unfold rowL
  rw [← List.map_take, List.take_range, Nat.min_eq_left h]
theorem offs_zero (base : Int) (zs : List Int) : offs base zs 0 = base := by simp [offs]
theorem offs_succ (base : Int) (zs : List Int) (i : Nat) (h : i < zs.length) : offs base zs (i + 1) = offs base zs i + ((nOf zs[i] : Nat) : Int) := by
  unfold offs
  rw [List.take_succ_eq_append_getElem h, List.map_append, List.sum_append]
  simp
  omega
theorem zAt_at (zs : List Int) (i : Nat) (h : i < zs.length) : zAt zs i = zs[i] := by unfold zAt; rw [List.getElem?_eq_getElem h]; rfl
theorem offs_bd (base : Int) (zs : List Int) (i : Nat) : base ≤ offs base zs i ∧ offs base zs i ≤ base + 5 * (i : Int) := by
  induction i with
  | zero => rw [offs_zero]; omega
  | succ i ih =>
    by_cases h : i < zs.length
    · rw [offs_succ base zs i h]
      have := nOf_bd zs[i]
      omega
    · unfold offs at *
      rw [List.take_of_length_le (l := zs) (i := i) (by omega)] at ih
      rw [List.take_of_length_le (l := zs) (i := i + 1) (by omega)]
      omega
theorem offs_mono (base : Int) (zs : List Int) (i j : Nat) (h : i ≤ j) : offs base zs i ≤ offs base zs j := by
  induction j with
  | zero =>
    obtain rfl : i = 0 := by omega
    exact Int.le_refl _
  | succ j ih =>
    by_cases h1 : i ≤ j
    · have h2 := ih h1
      by_cases h3 : j < zs.length
      · rw [offs_succ base zs j h3]; omega
      · unfold offs at *
        rw [List.take_of_length_le (l := zs) (i := j) (by omega)] at h2
        rw [List.take_of_length_le (l := zs) (i := j + 1) (by omega)]
        exact h2
    · obtain rfl : i = j + 1 := by omega
      exact Int.le_refl _

theorem rowRec_ok (i : Nat) (z : Int) (k : Nat) (hi : i ≤ 1000) (hk : k < 5) : recOk (rowRec i z k) = true := by
  unfold recOk rowRec
  rw [decide_eq_true_eq]
  have := vOf_bd z k
  simp only [List.length_singleton, List.length_replicate]
  omega
theorem rowB_recs (base : Int) (every : Nat) (zs : List Int) (i : Nat) : (rowB base every zs i).recs.length = nOf (zAt zs i) := by simp [rowB, rowBat]
theorem rowB_valid (base : Int) (every : Nat) (zs : List Int) (i : Nat) (hb : 0 ≤ base ∧ base ≤ 10000000000) (hi : i ≤ 1000) : valid (rowB base every zs i) = 0 := by
  have hn := nOf_bd (zAt zs i)
  have ho := offs_bd base zs i
  have hd : i / every ≤ i := Nat.div_le_self _ _
  obtain ⟨q, hq⟩ : ∃ q, q = i / every := ⟨_, rfl⟩
  rw [← hq] at hd
  rw [valid_iff, rowB_recs]
  refine ⟨⟨by omega, by omega⟩, ?_, ?_⟩
  · unfold rowB rowBat
    simp only
    rw [← hq]
    refine ⟨by omega, by omega, by omega, by omega⟩
  · rw [List.all_eq_true]
    intro x hx
    unfold rowB rowBat at hx
    obtain ⟨k, hk, rfl⟩ := List.mem_map.1 hx
    rw [List.mem_range] at hk
    exact rowRec_ok i _ k hi (by omega)
theorem rowL_valid (base : Int) (every : Nat) (zs : List Int) (k : Nat) (hb : 0 ≤ base ∧ base ≤ 10000000000) (hk : k ≤ 1000) : ∀ b ∈ rowL base every zs k, valid b = 0 := by
  intro b hb'
  unfold rowL at hb'
  obtain ⟨i, hi, rfl⟩ := List.mem_map.1 hb'
  rw [List.mem_range] at hi
  exact rowB_valid base every zs i hb (by omega)
end Go.Proofs.YtlfbdcgojbfcaaaDoor.Rec
