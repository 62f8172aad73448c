/- Plain: an index's bytes, spoilt. No program in sight. -/
import Derived.Test.YtjhebnjajnjhhaaDoorPlain
import Derived.Test.YtjhebnjajnjhhaaDoorIdxRead
import Derived.Test.YtjhebnjajnjhhaaDoorIdxCutsMath
namespace Go.Proofs.YtjhebnjajnjhhaaDoor
open Idx Vint

theorem rise_pairwise : ∀ l : List Mk, l.Pairwise (fun a b => a.off < b.off ∧ a.pos < b.pos) → rise l = true := by
  intro l
  induction l with
  | nil => intro _; rfl
  | cons a l ih =>
    intro h
    rw [List.pairwise_cons] at h
    cases l with
    | nil => rfl
    | cons b l =>
      simp only [rise, Bool.and_eq_true, decide_eq_true_eq]
      exact ⟨h.1 b List.mem_cons_self, ih h.2⟩

theorem top_zero (n : Nat) : top (fun _ => 0) (n + 1) = 0 := by
  induction n with
  | zero => rfl
  | succ n ih => show max (top (fun _ => 0) (n + 1)) 0 = 0; rw [ih]; rfl

section
variable (e : Int) (s : Nat → Int) (hs : ∀ i, 1 ≤ s i ∧ s i ≤ 90)
include hs
theorem built_rise (n : Nat) : rise (built e 1 (fun _ => 0) (ps s) n).marks = true := by
  obtain ⟨is, hm, hp, _⟩ := built_marks e 1 (fun _ => 0) (ps s) n
  rw [hm]
  apply rise_pairwise
  rw [List.pairwise_map]
  exact hp.imp (fun {a b} h => ⟨by simp only; omega, ps_mono s hs a b h⟩)
theorem built_right (n : Nat) (hn : n ≤ 100) : (built e 1 (fun _ => 0) (ps s) n).marks.all Idx.right = true := by
  obtain ⟨is, hm, _, hl, _⟩ := built_marks e 1 (fun _ => 0) (ps s) n
  rw [hm, List.all_eq_true]
  intro m hmm
  obtain ⟨i, hi, rfl⟩ := List.mem_map.1 hmm
  have h1 := hl i hi
  have h2 := ps_bd s hs i
  unfold Idx.right
  rw [decide_eq_true_eq]
  simp only [top_zero]
  omega
end

theorem fold_lt (x : Int) (h : -17592186044416 ≤ x ∧ x ≤ 17592186044416) : fold x < 18446744073709551616 := by
  unfold fold; split <;> omega
theorem markL_len (p m : Mk) (hp : Idx.right p = true) (hm : Idx.right m = true) : (markL p m).length ≤ 30 := by
  unfold Idx.right at hp hm
  rw [decide_eq_true_eq] at hp hm
  unfold markL
  rw [List.length_append, List.length_append]
  have h1 := putL_len10 (m.off - p.off).toNat (by omega)
  have h2 := putL_len10 (fold (m.time - p.time)) (fold_lt _ (by omega))
  have h3 := putL_len10 (m.pos - p.pos).toNat (by omega)
  omega
theorem marksL_len30 : ∀ (l : List Mk) (p : Mk), Idx.right p = true → l.all Idx.right = true → (marksL p l).length ≤ 30 * l.length := by
  intro l
  induction l with
  | nil => intro p _ _; simp [marksL]
  | cons m l ih =>
    intro p hp hl
    simp only [List.all_cons, Bool.and_eq_true] at hl
    have h1 := ih m hl.1 hl.2
    have h2 := markL_len p m hp hl.1
    rw [marksL, List.length_append, List.length_cons]
    omega
theorem body_len (e : Int) (l : List Mk) (he : 1 ≤ e) (he2 : e ≤ 1048576) (hl : l.all Idx.right = true) (hn : l.length ≤ 4096) : (Crc.sealed (bodyL e l)).length ≤ 200000 := by
  rw [sealed_len]
  unfold bodyL
  rw [List.length_append, List.length_append]
  have h1 := putL_len10 e.toNat (by omega)
  have h2 := putL_len10 l.length (by omega)
  have h3 := marksL_len30 l mk0 (by decide) hl
  omega

theorem readIdx_put (e : Int) (l : List Mk) (he : 1 ≤ e) (he2 : e ≤ 1048576) (hr : l.all right = true) (hri : rise l = true) (hl : l.length ≤ 4096) : readIdx (Crc.sealed (bodyL e l)) = (.fine, e, l) := by
  unfold readIdx
  rw [openL_sealed]
  exact readIn_put e l he he2 hr hri hl
theorem readIdx_turned {d : UInt8} (hd : d ≠ 0) (b : List UInt8) (k : Nat) (hk : k < (Crc.sealed b).length) : readIdx ((Crc.sealed b).set k ((Crc.sealed b)[k] ^^^ d)) = (.bare 1, 0, []) := by
  unfold readIdx
  rw [openL_sum _ (by rw [List.length_set, sealed_len]; omega) (by
    have := Crc.run_turned_ne hd (Crc.sealed b) k hk (~~~ 0#32)
    rw [Crc.run_sealed] at this
    exact this)]
theorem readIdx_short (l : List UInt8) (h : l.length < 4) : readIdx l = (.bare 0, 0, []) := by
  unfold readIdx openL
  rw [if_pos h]
end Go.Proofs.YtjhebnjajnjhhaaDoor
