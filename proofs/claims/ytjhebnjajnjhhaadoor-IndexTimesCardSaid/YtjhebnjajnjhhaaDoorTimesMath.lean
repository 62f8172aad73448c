/- Plain: marks of batches at 0, 2, 4, .., places 0, 10, 20, ..; the greatest time so far, the first mark not below a time. No program in sight. -/
import Derived.Test.YtjhebnjajnjhhaaDoorIndexMath
namespace Go.Proofs.YtjhebnjajnjhhaaDoor.Idx

def tts (ns : List Int) : Nat → Int := fun i => ns.getD i 0 % 1000 - 500
def pl10 : Nat → Int := fun i => 10 * (i : Int)
def X (ns : List Int) (n : Nat) : Ix := built 1 2 (tts ns) pl10 n

theorem X_marks (ns : List Int) (n : Nat) : (X ns n).marks = (List.range n).map (fun (i : Nat) => ⟨2 * (i : Int), top (tts ns) (i + 1), pl10 i⟩) :=
  built_all 2 (tts ns) pl10 (fun i j h => by unfold pl10; omega) n
theorem X_marks_len (ns : List Int) (n : Nat) : (X ns n).marks.length = n := by rw [X_marks]; simp
theorem X_adds_len (ns : List Int) (n : Nat) : (X ns n).adds.length = n := by unfold X; rw [built_adds]; simp
theorem X_succ (ns : List Int) (n : Nat) : X ns (n + 1) = add (X ns n) ⟨2 * (n : Int), tts ns n, 10 * (n : Int)⟩ := rfl
theorem X_pos (ns : List Int) (n : Nat) (h : n ≤ 100) : ∀ k ∈ (X ns n).marks, 0 ≤ k.pos ∧ k.pos ≤ 1073741824 := by
  intro k hk
  rw [X_marks] at hk
  obtain ⟨i, hi, rfl⟩ := List.mem_map.1 hk
  have := List.mem_range.1 hi
  show 0 ≤ 10 * (i : Int) ∧ 10 * (i : Int) ≤ 1073741824
  omega
theorem tts_bd (ns : List Int) (i : Nat) : -500 ≤ tts ns i ∧ tts ns i ≤ 499 := by unfold tts; omega
theorem X_may (ns : List Int) (n : Nat) (h : n ≤ 100) : may (X ns n) ⟨2 * (n : Int), tts ns n, 10 * (n : Int)⟩ 10 = true := by
  have hb := tts_bd ns n
  unfold may
  have hr : right ⟨2 * (n : Int), tts ns n, 10 * (n : Int)⟩ = true := by unfold right; rw [decide_eq_true_eq]; simp only; omega
  rw [hr]
  simp only [Bool.true_and, Bool.and_eq_true, decide_eq_true_eq]
  refine ⟨by decide, ?_⟩
  unfold X
  rw [built_adds]
  cases n with
  | zero => rfl
  | succ m =>
    rw [List.range_succ, List.map_append, List.map_singleton, List.getLast?_append]
    simp only [List.getLast?_singleton, Option.some_or, decide_eq_true_eq]
    unfold pl10
    omega

def bestOf (ns : List Int) : Nat → Int
  | 0 => 0
  | n + 1 => top (tts ns) (n + 1)
def wantOf (ns : List Int) (a : Int) (n : Nat) : Int := (when (X ns n) a).getD (-1)

theorem minT_le (ns : List Int) (i : Nat) : minT ≤ tts ns i := by have := tts_bd ns i; unfold minT; omega
theorem best_step (ns : List Int) (i : Nat) : (i = 0 ∨ bestOf ns i < tts ns i) ∧ bestOf ns (i + 1) = tts ns i ∨ ¬ (i = 0 ∨ bestOf ns i < tts ns i) ∧ bestOf ns (i + 1) = bestOf ns i := by
  cases i with
  | zero =>
    left
    refine ⟨.inl rfl, ?_⟩
    show max minT (tts ns 0) = _
    have := minT_le ns 0
    omega
  | succ i =>
    have h1 : bestOf ns (i + 1 + 1) = max (bestOf ns (i + 1)) (tts ns (i + 1)) := rfl
    rw [h1]
    omega

theorem when_succ (ns : List Int) (a : Int) (n : Nat) : when (X ns (n + 1)) a = (when (X ns n) a).or (if a ≤ top (tts ns) (n + 1) then some (2 * (n : Int)) else none) := by
  unfold when
  rw [X_marks, X_marks, List.range_succ, List.map_append, List.find?_append, Option.map_or]
  congr 1
  simp only [List.map_singleton, List.find?_singleton]
  by_cases h : a ≤ top (tts ns) (n + 1) <;> simp [h]

theorem when_nonneg (ns : List Int) (a : Int) (n : Nat) (o : Int) (h : when (X ns n) a = some o) : 0 ≤ o := by
  unfold when at h
  rw [Option.map_eq_some_iff] at h
  obtain ⟨m, hm, rfl⟩ := h
  have := List.mem_of_find?_eq_some hm
  rw [X_marks] at this
  obtain ⟨i, _, rfl⟩ := List.mem_map.1 this
  show 0 ≤ 2 * (i : Int)
  omega

theorem want_step (ns : List Int) (a : Int) (i : Nat) : (wantOf ns a i < 0 ∧ a ≤ bestOf ns (i + 1)) ∧ wantOf ns a (i + 1) = 2 * (i : Int) ∨ ¬ (wantOf ns a i < 0 ∧ a ≤ bestOf ns (i + 1)) ∧ wantOf ns a (i + 1) = wantOf ns a i := by
  unfold wantOf
  rw [when_succ]
  have hb : bestOf ns (i + 1) = top (tts ns) (i + 1) := rfl
  rw [hb]
  cases hw : when (X ns i) a with
  | none =>
    by_cases h : a ≤ top (tts ns) (i + 1)
    · left; simp [h]
    · right; simp [h]
  | some o =>
    have := when_nonneg ns a i o hw
    right
    simp
    omega

theorem X_times (ns : List Int) (n i : Nat) (h : i + 1 < (X ns n).marks.length) : (X ns n).marks[i].time ≤ (X ns n).marks[i + 1].time :=
  built_times 1 2 (tts ns) pl10 n i (i + 1) _ _ (by omega) (List.getElem?_eq_getElem (show i < (X ns n).marks.length by omega)) (List.getElem?_eq_getElem h)
end Go.Proofs.YtjhebnjajnjhhaaDoor.Idx
