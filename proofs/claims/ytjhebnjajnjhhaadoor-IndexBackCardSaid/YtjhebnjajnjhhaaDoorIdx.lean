/- An index in memory: its block, the rows of its marks and of what was added. -/
import Derived.Test.YtjhebnjajnjhhaaDoorBase
import Derived.Test.YtjhebnjajnjhhaaDoorSent
import Derived.Test.YtjhebnjajnjhhaaDoorPlain
namespace Go.Proofs.YtjhebnjajnjhhaaDoor
open Go Go.RowKit Idx

def mkV (m : Mk) : List Value := [.int .i64 m.off, .int .i64 m.time, .int .i64 m.pos]
def adV (a : Int × Int) : List Value := [.int .i64 a.1, .int .i64 0, .int .i64 a.2]
theorem mkV_len (l : List Mk) : ∀ x ∈ l, (mkV x).length = 3 := fun _ _ => rfl
theorem adV_len (l : List (Int × Int)) : ∀ x ∈ l, (adV x).length = 3 := fun _ _ => rfl

/-- An index lies in block g, its rows where vm and va lead, all in blocks of F. -/
structure IdxV (w : World) (F : Nat → Prop) (g : Nat) (x : Ix) (vm va : Value) : Prop where
  mine : F g
  old : ∀ k, F k → k < w.heap.size
  row : w.heap[g]? = some (.cells #[.int .i64 x.every, vm, va, .int .i64 x.time] 104 (0, 0))
  marks : w.ownsRow 0 34 3 vm x.marks.length (x.marks.flatMap mkV)
  inM : ∀ k, vm.ownBlock = some k → F k
  adds : w.ownsRow 0 34 3 va x.adds.length (x.adds.flatMap adV)
  inA : ∀ k, va.ownBlock = some k → F k
  apart : ∀ k, vm.ownBlock = some k → va.ownBlock ≠ some k

def IdxAt (w : World) (F : Nat → Prop) (g : Nat) (x : Ix) : Prop := ∃ vm va, IdxV w F g x vm va

theorem IdxV.below {w w1 : World} {F : Nat → Prop} {g : Nat} {x : Ix} {vm va : Value} (h : IdxV w F g x vm va) (b : Below w.heap.size w w1) : IdxV w1 F g x vm va :=
  ⟨h.mine, fun k hk => Nat.lt_of_lt_of_le (h.old k hk) b.size, heap_below b h.row, owns_below h.marks b, h.inM, owns_below h.adds b, h.inA, h.apart⟩
theorem IdxAt.below {w w1 : World} {F : Nat → Prop} {g : Nat} {x : Ix} (h : IdxAt w F g x) (b : Below w.heap.size w w1) : IdxAt w1 F g x := by
  obtain ⟨vm, va, h⟩ := h; exact ⟨vm, va, h.below b⟩
theorem IdxAt.old {w : World} {F : Nat → Prop} {g : Nat} {x : Ix} (h : IdxAt w F g x) : ∀ k, F k → k < w.heap.size := by obtain ⟨_, _, h⟩ := h; exact h.old

/-- Blocks of another one have turned. -/
theorem IdxV.frame {w w1 : World} {F G : Nat → Prop} {g : Nat} {x : Ix} {vm va : Value} (h : IdxV w F g x vm va) (f : Frame G w w1) (hd : ∀ k, F k → ¬ G k) : IdxV w1 F g x vm va :=
  ⟨h.mine, fun k hk => Nat.lt_of_lt_of_le (h.old k hk) f.size, f.heap h.row (hd g h.mine), f.owns h.marks (fun k hk => hd k (h.inM k hk)), h.inM, f.owns h.adds (fun k hk => hd k (h.inA k hk)), h.inA, h.apart⟩
theorem IdxAt.frame {w w1 : World} {F G : Nat → Prop} {g : Nat} {x : Ix} (h : IdxAt w F g x) (f : Frame G w w1) (hd : ∀ k, F k → ¬ G k) : IdxAt w1 F g x := by
  obtain ⟨vm, va, h⟩ := h; exact ⟨vm, va, h.frame f hd⟩

theorem IdxV.not_row {w : World} {F : Nat → Prop} {g : Nat} {x : Ix} {vm va : Value} (h : IdxV w F g x vm va) : va.ownBlock ≠ some g ∧ vm.ownBlock ≠ some g := by
  constructor
  · intro e
    rcases h.adds.2 with ⟨rfl, _⟩ | ⟨k, cap, cur, rfl, _, hk, _⟩
    · simp [Value.ownBlock] at e
    · simp only [Value.ownBlock, Option.some.injEq] at e
      exact row_ne h.row hk (by decide) e
  · intro e
    rcases h.marks.2 with ⟨rfl, _⟩ | ⟨k, cap, cur, rfl, _, hk, _⟩
    · simp [Value.ownBlock] at e
    · simp only [Value.ownBlock, Option.some.injEq] at e
      exact row_ne h.row hk (by decide) e

/-- More was added: the row behind an append, and its place kept. -/
theorem IdxV.added {w w1 : World} {F : Nat → Prop} {g : Nat} {x : Ix} {vm va va' : Value} (h : IdxV w F g x vm va) (l : List (Int × Int)) (ho : w1.ownsRow 0 34 3 va' l.length (l.flatMap adV)) (hg : w.grownBy w1 va.ownBlock)
    (hw : ∀ k, va'.ownBlock = some k → va.ownBlock = some k ∨ w.heap.size ≤ k) :
    IdxV (w1.setCell ⟨g, 2, none⟩ va') (fun k => F k ∨ va'.ownBlock = some k) g { x with adds := l } vm va' ∧ Frame F w (w1.setCell ⟨g, 2, none⟩ va') ∧ w1.heap[g]? = some (.cells #[.int .i64 x.every, vm, va, .int .i64 x.time] 104 (0, 0)) := by
  have f1 : Frame F w w1 := Frame.of_grown hg h.inA
  have t := Touch.setCell (g := g) w1 2 va'
  have hrow1 : w1.heap[g]? = some (.cells #[.int .i64 x.every, vm, va, .int .i64 x.time] 104 (0, 0)) := by
    rw [hg.block g (Array.getElem?_eq_some_iff.1 h.row).1 (fun e => h.not_row.1 e.symm)]; exact h.row
  have hm1 : w1.ownsRow 0 34 3 vm x.marks.length (x.marks.flatMap mkV) :=
    h.marks.kept hg (by
      cases hv : vm.ownBlock with
      | none => exact .inl rfl
      | some k => exact .inr (fun e => h.apart k hv e.symm))
  have hsz : (w1.setCell ⟨g, 2, none⟩ va').heap.size = w1.heap.size := by simp [World.setCell]
  refine ⟨⟨.inl h.mine, ?_, heap_setCell_same _ g 2 _ _ _ hrow1, t.owns hm1 hrow1 (by decide), fun k hk => .inl (h.inM k hk), t.owns ho hrow1 (by decide), fun k hk => .inr hk, ?_⟩, ?_, hrow1⟩
  · rintro k (hk | hk)
    · rw [hsz]; exact Nat.lt_of_lt_of_le (h.old k hk) hg.size
    · rw [hsz]; exact owns_lt ho k hk
  · intro k hk e
    rcases hw k e with h1 | h1
    · exact h.apart k hk h1
    · have := h.old k (h.inM k hk); omega
  · exact f1.trans (Frame.of_touch (F := F) t h.mine) (fun _ e => .inl e)

/-- A mark more. -/
theorem IdxV.marked {w w1 : World} {F : Nat → Prop} {g : Nat} {x : Ix} {vm va vm' : Value} (h : IdxV w F g x vm va) (l : List Mk) (ho : w1.ownsRow 0 34 3 vm' l.length (l.flatMap mkV)) (hg : w.grownBy w1 vm.ownBlock)
    (hw : ∀ k, vm'.ownBlock = some k → vm.ownBlock = some k ∨ w.heap.size ≤ k) :
    IdxV (w1.setCell ⟨g, 1, none⟩ vm') (fun k => F k ∨ vm'.ownBlock = some k) g { x with marks := l } vm' va ∧ Frame F w (w1.setCell ⟨g, 1, none⟩ vm') ∧ w1.heap[g]? = some (.cells #[.int .i64 x.every, vm, va, .int .i64 x.time] 104 (0, 0)) := by
  have f1 : Frame F w w1 := Frame.of_grown hg h.inM
  have t := Touch.setCell (g := g) w1 1 vm'
  have hrow1 : w1.heap[g]? = some (.cells #[.int .i64 x.every, vm, va, .int .i64 x.time] 104 (0, 0)) := by
    rw [hg.block g (Array.getElem?_eq_some_iff.1 h.row).1 (fun e => h.not_row.2 e.symm)]; exact h.row
  have hm1 : w1.ownsRow 0 34 3 va x.adds.length (x.adds.flatMap adV) :=
    h.adds.kept hg (by
      cases hv : va.ownBlock with
      | none => exact .inl rfl
      | some k => exact .inr (fun e => h.apart k e.symm hv))
  have hsz : (w1.setCell ⟨g, 1, none⟩ vm').heap.size = w1.heap.size := by simp [World.setCell]
  refine ⟨⟨.inl h.mine, ?_, heap_setCell_same _ g 1 _ _ _ hrow1, t.owns ho hrow1 (by decide), fun k hk => .inr hk, t.owns hm1 hrow1 (by decide), fun k hk => .inl (h.inA k hk), ?_⟩, ?_, hrow1⟩
  · rintro k (hk | hk)
    · rw [hsz]; exact Nat.lt_of_lt_of_le (h.old k hk) hg.size
    · rw [hsz]; exact owns_lt ho k hk
  · intro k hk e
    rcases hw k hk with h1 | h1
    · exact h.apart k h1 e
    · have := h.old k (h.inA k e); omega
  · exact f1.trans (Frame.of_touch (F := F) t h.mine) (fun _ e => .inl e)

/-- The greatest time is another one. -/
theorem IdxV.timed {w : World} {F : Nat → Prop} {g : Nat} {x : Ix} {vm va : Value} (h : IdxV w F g x vm va) (t : Int) :
    IdxV (w.setCell ⟨g, 3, none⟩ (.int .i64 t)) F g { x with time := t } vm va ∧ Frame F w (w.setCell ⟨g, 3, none⟩ (.int .i64 t)) := by
  have u := Touch.setCell (g := g) w 3 (.int .i64 t)
  exact ⟨⟨h.mine, fun k hk => Nat.lt_of_lt_of_le (h.old k hk) u.size, heap_setCell_same _ g 3 _ _ _ h.row, u.owns h.marks h.row (by decide), h.inM, u.owns h.adds h.row (by decide), h.inA, h.apart⟩, Frame.of_touch u h.mine⟩

/-- The cells of one mark, of one addition. -/
theorem mk_cells {w : World} {b o : Nat} {l : List Mk} (hx : ∀ j u, (l.flatMap mkV)[j]? = some u → w.cell? ⟨b, o + j, none⟩ = some u) (i : Nat) (hi : i < l.length) :
    w.cell? ⟨b, o + i * 3, none⟩ = some (.int .i64 l[i].off) ∧ w.cell? ⟨b, o + i * 3 + 1, none⟩ = some (.int .i64 l[i].time) ∧ w.cell? ⟨b, o + i * 3 + 2, none⟩ = some (.int .i64 l[i].pos) := by
  have h := fun j hj => flat_at mkV 3 l (mkV_len l) i hi j hj
  exact ⟨hx (i * 3 + 0) _ (h 0 (by omega)), hx (i * 3 + 1) _ (h 1 (by omega)), hx (i * 3 + 2) _ (h 2 (by omega))⟩
theorem ad_cells {w : World} {b o : Nat} {l : List (Int × Int)} (hx : ∀ j u, (l.flatMap adV)[j]? = some u → w.cell? ⟨b, o + j, none⟩ = some u) (i : Nat) (hi : i < l.length) :
    w.cell? ⟨b, o + i * 3, none⟩ = some (.int .i64 l[i].1) ∧ w.cell? ⟨b, o + i * 3 + 1, none⟩ = some (.int .i64 0) ∧ w.cell? ⟨b, o + i * 3 + 2, none⟩ = some (.int .i64 l[i].2) := by
  have h := fun j hj => flat_at adV 3 l (adV_len l) i hi j hj
  exact ⟨hx (i * 3 + 0) _ (h 0 (by omega)), hx (i * 3 + 1) _ (h 1 (by omega)), hx (i * 3 + 2) _ (h 2 (by omega))⟩

/-! ### The plain contracts -/

set_option maxRecDepth 100000 in
theorem newIdx_calls (every : Int) (w : World) (h1 : 1 ≤ every) (h2 : every ≤ 1048576) :
    Calls Tryd.prog 17 #[.int .i64 every] w (fun e w' => e = .returned (.tuple #[.pointer (some ⟨w.heap.size, 0, none⟩), .nilIface]) ∧ IdxAt w' (fun k => k = w.heap.size) w.heap.size (Idx.new every) ∧ Below w.heap.size w w') := by
  go_enter Tryd.func17, Tryd.ntmps17
  go_wp2_with fail
  go_ret2
  have hr := heap_alloc_new w (.cells #[.int .i64 every, .slice none 0 0, .slice none 0 0, .int .i64 (-9223372036854775808)] 104)
  exact ⟨rfl, ⟨.slice none 0 0, .slice none 0 0, ⟨rfl, by rintro k rfl; simp, hr, World.ownsRow_nil _ _ _ _, by simp [Value.ownBlock], World.ownsRow_nil _ _ _ _, by simp [Value.ownBlock], by simp [Value.ownBlock]⟩⟩, below_alloc _ _⟩

set_option maxRecDepth 100000 in
set_option maxHeartbeats 400000 in
theorem idxRight_calls (m : Mk) (w : World) :
    Calls Tryd.prog 56 #[.agg #[.int .i64 m.off, .int .i64 m.time, .int .i64 m.pos]] w (fun e w' => e = .returned (.bool (Idx.right m)) ∧ Below w.heap.size w w') := by
  obtain ⟨o, t, p⟩ := m
  have hr : Idx.right ⟨o, t, p⟩ = decide (0 ≤ o ∧ o ≤ 1099511627776 ∧ -1099511627776 ≤ t ∧ t ≤ 1099511627776 ∧ 0 ≤ p ∧ p ≤ 1073741824) := rfl
  have HR := Lib.hid hr
  clear hr
  simp only
  go_enter Tryd.func56, Tryd.ntmps56
  go_wp2_with fail
  all_goals (
    go_ret
    rw [HR.out]
    exact ⟨congrArg (fun z => Ending.returned (.bool z)) (by first | (simp_all; done) | (simp_all; omega)), below_alloc _ _⟩)
end Go.Proofs.YtjhebnjajnjhhaaDoor
