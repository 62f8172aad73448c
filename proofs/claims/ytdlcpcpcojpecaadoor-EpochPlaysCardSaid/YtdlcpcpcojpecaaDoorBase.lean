/- General words and lemmas for the walks: a slice that reads as a list of cells. No program, no Go function is named here. Merged of: Base, Touch, Frame, Flat, Off, Ord. -/
import Derived.WalkKit
import Derived.WalkSpells
import Derived.Lib.Hide
import Derived.KernelRfl
import Derived.Lib.SlBytesConst
import Derived.Deep.QuietTactic
import Derived.DataElems
import Derived.BigQuiet
import Derived.Deep.RegionWith
import Derived.Deep.RegionLaw
import Derived.Deep.RegionHeld

/-! General words and lemmas for the walks: a slice that reads as a list of cells. No program, no Go function is named here. -/
namespace Go.Proofs.YtdlcpcpcojpecaaDoor
open Go Go.RowKit

/-- A slice value that reads, in a world, as these cells (n elements of sz cells each). -/
def Rd (w : World) (sz : Nat) (v : Value) (n : Nat) (xs : List Value) : Prop :=
  xs.length = n * sz ∧
  ((v = .slice none 0 0 ∧ n = 0) ∨
   ∃ x cap, v = .slice (some x) n cap ∧ n ≤ cap ∧ cap ≤ maxLen ∧ ∀ j u, xs[j]? = some u → w.cell? (x.add j) = some u)

theorem Rd.nil (w : World) (sz : Nat) : Rd w sz (.slice none 0 0) 0 [] := ⟨by simp, .inl ⟨rfl, rfl⟩⟩

theorem add_none (b off j : Nat) : (⟨b, off, none⟩ : Addr).add j = ⟨b, off + j, none⟩ := by
  unfold Addr.add; split <;> simp_all

theorem Rd.of_owns {w : World} {base e sz : Nat} {v : Value} {n : Nat} {xs : List Value} (h : w.ownsRow base e sz v n xs) : Rd w sz v n xs := by
  refine ⟨h.1, ?_⟩
  rcases h.2 with hn | ⟨g, cap, cur, rfl, hb, hg, hc, hm, hs, ht⟩
  · exact .inl hn
  · exact .inr ⟨⟨g, 0, none⟩, cap, rfl, hc, hm, fun j u hu => World.ownsRow.cells h (g := g) rfl j u hu⟩

/-- What lies below B reads on as it did. -/
theorem Rd.below {w w' : World} {sz n : Nat} {v : Value} {xs : List Value} (h : Rd w sz v n xs) (hb : Below w.heap.size w w') : Rd w' sz v n xs := by
  refine ⟨h.1, ?_⟩
  rcases h.2 with hn | ⟨x, cap, rfl, hc, hm, hx⟩
  · exact .inl hn
  · refine .inr ⟨x, cap, rfl, hc, hm, fun j u hu => ?_⟩
    have h1 := hx j u hu
    rw [hb.cell (World.block_lt_of_cell? w _ h1)]; exact h1

theorem owns_below {w w' : World} {base e sz n : Nat} {v : Value} {xs : List Value} (h : w.ownsRow base e sz v n xs) (hb : Below w.heap.size w w') : w'.ownsRow base e sz v n xs := by
  refine ⟨h.1, ?_⟩
  rcases h.2 with hn | ⟨g, cap, cur, rfl, h1, h2, r⟩
  · exact .inl hn
  · refine .inr ⟨g, cap, cur, rfl, h1, ?_, r⟩
    rw [hb.block g (Array.getElem?_eq_some_iff.1 h2).1]; exact h2

theorem owns_base {w : World} {base base' e sz n : Nat} {v : Value} {xs : List Value} (h : w.ownsRow base e sz v n xs) (hb : base' ≤ base) : w.ownsRow base' e sz v n xs := by
  refine ⟨h.1, ?_⟩
  rcases h.2 with hn | ⟨g, cap, cur, rfl, h1, r⟩
  · exact .inl hn
  · exact .inr ⟨g, cap, cur, rfl, by omega, r⟩

theorem owns_slice {w : World} {base e sz n : Nat} {v : Value} {xs : List Value} (h : w.ownsRow base e sz v n xs) : ∃ a c, v = .slice a n c := by
  rcases h.2 with ⟨rfl, rfl⟩ | ⟨g, cap, cur, rfl, _⟩
  · exact ⟨_, _, rfl⟩
  · exact ⟨_, _, rfl⟩
theorem Rd.slice {w : World} {sz n : Nat} {v : Value} {xs : List Value} (h : Rd w sz v n xs) : ∃ a c, v = .slice a n c := by
  rcases h.2 with ⟨rfl, rfl⟩ | ⟨x, cap, rfl, _⟩
  · exact ⟨_, _, rfl⟩
  · exact ⟨_, _, rfl⟩

theorem Rd.len_le {w : World} {sz n : Nat} {v : Value} {xs : List Value} (h : Rd w sz v n xs) : n ≤ 9223372036854775807 := by
  rcases h.2 with ⟨_, rfl⟩ | ⟨x, cap, he, hc, hm, hx⟩
  · omega
  · unfold maxLen at hm; omega

/-- Where there is an element the slice leads somewhere. -/
theorem Rd.at {w : World} {sz n c : Nat} {a : Option Addr} {xs : List Value} (h : Rd w sz (.slice a n c) n xs) (hn : 0 < n) (hs : 0 < sz := by decide) :
    ∃ b off, a = some ⟨b, off, none⟩ ∧ n ≤ c ∧ c ≤ maxLen ∧ ∀ j u, xs[j]? = some u → w.cell? ⟨b, off + j, none⟩ = some u := by
  rcases h.2 with ⟨_, rfl⟩ | ⟨x, cap, he, hc, hm, hx⟩
  · omega
  · simp only [Value.slice.injEq] at he
    obtain ⟨rfl, _, rfl⟩ := he
    obtain ⟨b, off, spot⟩ := x
    have hlen : 0 < xs.length := by rw [h.1]; exact Nat.mul_pos hn hs
    have h0 := hx 0 xs[0] (by simp [hlen])
    have hspot : spot = none := by simpa [Addr.add] using World.cell?_spot h0
    subst hspot
    exact ⟨b, off, rfl, hc, hm, fun j u hu => by have := hx j u hu; rwa [add_none] at this⟩

theorem take_next {α : Type} {l1 l2 : List α} {k : Nat} (h1 : k < l1.length) (h2 : k < l2.length) (h : l1.take k = l2.take k) (he : l1[k] = l2[k]) : l1.take (k + 1) = l2.take (k + 1) := by
  rw [List.take_succ_eq_append_getElem h1, List.take_succ_eq_append_getElem h2, h, he]

theorem below_alloc (w : World) (o : Obj) : Below w.heap.size w (w.alloc o) := (Below.refl _ _).alloc (Nat.le_refl _) _
theorem below_drewN {B : Nat} {a w : World} (h : Below B a w) (n : Nat) : Below B a (w.drewN n) := ⟨h.os, h.tape, h.output, h.size, h.block⟩

theorem below_setRow {B : Nat} {a w : World} (h : Below B a w) (g : Nat) (cs : Array Value) (hg : B ≤ g) : Below B a (w.setRow g cs) :=
  ⟨h.os, h.tape, h.output, by have := h.size; simpa using this, fun k hk => (setRow_other w g k cs (by omega)).trans (h.block k hk)⟩

/-- A whole row is stored: of the world behind it what matters is told. -/
theorem wpList_store_row_g {P : Program} {ops : Array Oper} {rest : List Oper} {o : Oper} {a : Act} {w : World} {Q : Exit → Act → World → Prop} (hgd : o.guard = none) (ty : TypeId) (x y : Operand) (ho : o.op = .store ty x y)
    (g : Nat) (cells : Array Value) (hx : a.eval x = .pointer (some ⟨g, 0, none⟩)) (hy : a.eval y = .agg cells)
    (t : TypeId) (old : Array Value) (hg : w.heap[g]? = some (.cells old t (0, 0))) (hi : (P.info? ty).map (·.size) = some cells.size)
    (hold : old.size = cells.size) (h1 : cells.all (·.oneCell') = true)
    (h : ∀ w', w'.heap[g]? = some (.cells cells t (0, 0)) → w.grownBy w' (some g) → w'.heap.size = w.heap.size → wpList P ops Q rest (a.put o.dst undef) w') : wpList P ops Q (o :: rest) a w :=
  wpList_store_row hgd ty x y ho g cells hx hy t old hg hi hold h1 (h _ (setRow_heap w g old cells t (0, 0) hg)
    ⟨rfl, rfl, rfl, by simp, fun k _ hk => setRow_other w g k cells (fun e => hk (by rw [e]))⟩ (by simp))

/-- A cell of a block known whole: it reads, it may be written, and what the block holds behind the store. -/
theorem block_cell {w : World} {g k : Nat} {cs : Array Value} {t : TypeId} (hg : w.heap[g]? = some (.cells cs t (0, 0))) (hk : k < cs.size) :
    (∃ old, w.cell? ⟨g, k, none⟩ = some old) ∧ w.frozen? ⟨g, k, none⟩ = false ∧ ∀ v, (w.setCell ⟨g, k, none⟩ v).heap[g]? = some (.cells (cs.setIfInBounds k v) t (0, 0)) := by
  refine ⟨⟨cs[k], ?_⟩, frozen_of_row w g k _ _ hg, fun v => heap_setCell_same w g k _ _ v hg⟩
  rw [cell_of_row w g k _ _ _ hg, Array.getElem?_eq_getElem hk]

theorem bAlloc {w W : World} (h : Below w.heap.size w W) (o : Obj) : Below w.heap.size w (W.alloc o) := h.alloc h.size o
theorem heap_below {w w' : World} {g : Nat} {o : Obj} (hb : Below w.heap.size w w') (h : w.heap[g]? = some o) : w'.heap[g]? = some o := by
  rw [hb.block g (Array.getElem?_eq_some_iff.1 h).1]; exact h

/-- One call behind another one. -/
theorem nxt {w w1 w2 : World} (h : Below w.heap.size w w1) (k : Below w1.heap.size w1 w2) : Below w.heap.size w w2 := h.trans (k.mono h.size)

theorem cells_new (w : World) (xs : Array Value) (T : TypeId) : ∀ (j : Nat) u, xs.toList[j]? = some u → (w.alloc (.cells xs T)).cell? ((⟨w.heap.size, 0, none⟩ : Addr).add j) = some u := by
  intro j u hu
  rw [add_none]
  have := cell_of_row (w.alloc (.cells xs T)) w.heap.size j xs T (0, 0) (heap_alloc_new w _)
  simp only [Nat.zero_add]
  rw [this]; simpa using hu

/-- A row just laid reads as what was laid. -/
theorem Rd.new (w : World) (xs : Array Value) (T : TypeId) (sz n : Nat) (h : xs.size = n * sz) (hm : n ≤ maxLen) : Rd (w.alloc (.cells xs T)) sz (.slice (some ⟨w.heap.size, 0, none⟩) n n) n xs.toList := by
  refine ⟨by simpa using h, .inr ⟨⟨w.heap.size, 0, none⟩, n, rfl, Nat.le_refl _, hm, fun j u hu => ?_⟩⟩
  rw [add_none]
  have := cell_of_row (w.alloc (.cells xs T)) w.heap.size j xs T (0, 0) (heap_alloc_new w _)
  simp only [Nat.zero_add]
  rw [this]; simpa using hu

theorem Rd.newF (w : World) (xs : Array Value) (T : TypeId) (fr : Nat × Nat) (sz n : Nat) (h : xs.size = n * sz) (hm : n ≤ maxLen) : Rd (w.alloc (.cells xs T fr)) sz (.slice (some ⟨w.heap.size, 0, none⟩) n n) n xs.toList := by
  refine ⟨by simpa using h, .inr ⟨⟨w.heap.size, 0, none⟩, n, rfl, Nat.le_refl _, hm, fun j u hu => ?_⟩⟩
  rw [add_none]
  have := cell_of_row (w.alloc (.cells xs T fr)) w.heap.size j xs T fr (heap_alloc_new w _)
  simp only [Nat.zero_add]
  rw [this]; simpa using hu

theorem alloc_size (w : World) (o : Obj) : (w.alloc o).heap.size = w.heap.size + 1 := by simp

/-- A part of a slice reads as that part. -/
theorem Rd.part {w : World} {sz n c : Nat} {a : Option Addr} {xs : List Value} (h : Rd w sz (.slice a n c) n xs) (l m : Nat) (h1 : l ≤ m) (h2 : m ≤ n) :
    ∃ a' c', sliced a l m c sz = .slice a' (m - l) c' ∧ Rd w sz (.slice a' (m - l) c') (m - l) ((xs.drop (l * sz)).take ((m - l) * sz)) := by
  have hlen : ((xs.drop (l * sz)).take ((m - l) * sz)).length = (m - l) * sz := by
    rw [List.length_take, List.length_drop, h.1, ← Nat.sub_mul]
    exact Nat.min_eq_left (Nat.mul_le_mul_right _ (by omega))
  rcases h.2 with ⟨he, rfl⟩ | ⟨x, cap, he, hc, hm, hx⟩
  · simp only [Value.slice.injEq] at he
    obtain ⟨rfl, _, rfl⟩ := he
    have : m = 0 := by omega
    subst this
    have : l = 0 := by omega
    subst this
    exact ⟨none, 0, rfl, hlen, .inl ⟨rfl, rfl⟩⟩
  · simp only [Value.slice.injEq] at he
    obtain ⟨rfl, _, rfl⟩ := he
    by_cases hcl : c = l
    · subst hcl
      have : m = c := by omega
      subst this
      refine ⟨some x, m - m, by simp [sliced], hlen, .inr ⟨x, m - m, rfl, by omega, by omega, fun j u hu => ?_⟩⟩
      simp at hu
    · refine ⟨some (x.add (l * sz)), c - l, by simp [sliced, hcl], hlen, .inr ⟨x.add (l * sz), c - l, rfl, by omega, by omega, fun j u hu => ?_⟩⟩
      rw [List.getElem?_take] at hu
      split at hu
      · rw [List.getElem?_drop] at hu
        have := hx _ u hu
        rw [Addr.add_add]; exact this
      · cases hu

/-- A part of a slice, told once for all worlds. -/
theorem part_all (ad : Option Addr) (n c sz l m : Nat) (h1 : l ≤ m) (h2 : m ≤ n) : ∃ a' c', sliced ad l m c sz = .slice a' (m - l) c' ∧
    ∀ w0 xs, Rd w0 sz (.slice ad n c) n xs → Rd w0 sz (.slice a' (m - l) c') (m - l) ((xs.drop (l * sz)).take ((m - l) * sz)) := by
  refine ⟨_, _, rfl, fun w0 xs h => ?_⟩
  obtain ⟨a', c', e, r⟩ := h.part l m h1 h2
  have e' : sliced ad l m c sz = .slice (if c = l then ad else ad.map (·.add (l * sz))) (m - l) (c - l) := rfl
  rw [e'] at e
  simp only [Value.slice.injEq] at e
  obtain ⟨e1, _, e3⟩ := e
  rw [e1, e3]; exact r

theorem Rd.cap {w : World} {sz n c : Nat} {a : Option Addr} {xs : List Value} (h : Rd w sz (.slice a n c) n xs) : n ≤ c := by
  rcases h.2 with ⟨he, rfl⟩ | ⟨y, cap, he, hc, _, _⟩
  · omega
  · simp only [Value.slice.injEq] at he; omega

theorem wpList_slice_lh {P : Program} {ops : Array Oper} {rest : List Oper} {o : Oper} {a : Act} {w : World} {Q : Exit → Act → World → Prop} (hgd : o.guard = none) (t : TypeId) (x lo hi : Operand)
    (ho : o.op = .slice t x (some lo) (some hi) none) (ht : P.underlying t = some (.slice (P.elem t))) (sz : Nat) (hsz : (P.info? (P.elem t)).map (·.size) = some sz)
    (ad : Option Addr) (n c : Nat) (hx : a.eval x = .slice ad n c) (kl kh : IntKind) (L H : Int) (hl : a.eval lo = .int kl L) (hh : a.eval hi = .int kh H) (l m : Nat) (eL : L = (l : Int)) (eH : H = (m : Int))
    (hnc : n ≤ c) (h1 : l ≤ m) (h2 : m ≤ n)
    (hK : ∀ a' c', (∀ w0 xs, Rd w0 sz (.slice ad n c) n xs → Rd w0 sz (.slice a' (m - l) c') (m - l) ((xs.drop (l * sz)).take ((m - l) * sz))) → wpList P ops Q rest (a.put o.dst (.slice a' (m - l) c')) w) : wpList P ops Q (o :: rest) a w := by
  refine wpList_plain hgd fun K hK' => ?_
  subst eL eH
  obtain ⟨a', c', e, r⟩ := part_all ad n c sz l m h1 h2
  have hs : (sizeOf (P.elem t)).run P w = .ok sz w := by
    obtain ⟨i, hi1, hi2⟩ := Option.map_eq_some_iff.1 hsz
    simp [sizeOf, typeInfo, hi1, hi2]
  have hrun := run_slice_lh (P := P) (w := w) t ad n c ht kl kh (l : Int) (m : Int) (by omega) (by omega) (by omega)
  have hat := run_sliceAt_slice (P := P) (w := w) t (.slice ad n c) (some (.int kl (l : Int))) (some (.int kh (m : Int))) none ht
  unfold Oper.wp
  simp only [execOp, ho, hx, hl, hh, Option.map_some, Option.map_none, hat, hrun, hs, Sem.run_bind, Sem.run_pure, Result.andThen, Int.toNat_natCast, e]
  exact hK' _ _ (hK a' c' r)

theorem wpList_slice_l {P : Program} {ops : Array Oper} {rest : List Oper} {o : Oper} {a : Act} {w : World} {Q : Exit → Act → World → Prop} (hgd : o.guard = none) (t : TypeId) (x lo : Operand)
    (ho : o.op = .slice t x (some lo) none none) (ht : P.underlying t = some (.slice (P.elem t))) (sz : Nat) (hsz : (P.info? (P.elem t)).map (·.size) = some sz)
    (ad : Option Addr) (n c : Nat) (hx : a.eval x = .slice ad n c) (kl : IntKind) (L : Int) (hl : a.eval lo = .int kl L) (l : Nat) (eL : L = (l : Int))
    (h1 : l ≤ n)
    (hK : ∀ a' c', (∀ w0 xs, Rd w0 sz (.slice ad n c) n xs → Rd w0 sz (.slice a' (n - l) c') (n - l) (xs.drop (l * sz))) → wpList P ops Q rest (a.put o.dst (.slice a' (n - l) c')) w) : wpList P ops Q (o :: rest) a w := by
  refine wpList_plain hgd fun K hK' => ?_
  subst eL
  obtain ⟨a', c', e, r'⟩ := part_all ad n c sz l n h1 (Nat.le_refl _)
  have r : ∀ w0 xs, Rd w0 sz (.slice ad n c) n xs → Rd w0 sz (.slice a' (n - l) c') (n - l) (xs.drop (l * sz)) := fun w0 xs h => by
    have := r' w0 xs h
    rwa [List.take_of_length_le (by rw [List.length_drop, h.1, ← Nat.sub_mul]; exact Nat.le_refl _)] at this
  have hs : (sizeOf (P.elem t)).run P w = .ok sz w := by
    obtain ⟨i, hi1, hi2⟩ := Option.map_eq_some_iff.1 hsz
    simp [sizeOf, typeInfo, hi1, hi2]
  have hrun := run_slice_l (P := P) (w := w) t ad n c ht kl (l : Int) (by omega) (by omega)
  have hat := run_sliceAt_slice (P := P) (w := w) t (.slice ad n c) (some (.int kl (l : Int))) none none ht
  unfold Oper.wp
  simp only [execOp, ho, hx, hl, Option.map_some, Option.map_none, hat, hrun, hs, Sem.run_bind, Sem.run_pure, Result.andThen, Int.toNat_natCast, e]
  exact hK' _ _ (hK a' c' r)

theorem wpList_slice_h {P : Program} {ops : Array Oper} {rest : List Oper} {o : Oper} {a : Act} {w : World} {Q : Exit → Act → World → Prop} (hgd : o.guard = none) (t : TypeId) (x hi : Operand)
    (ho : o.op = .slice t x none (some hi) none) (ht : P.underlying t = some (.slice (P.elem t))) (sz : Nat) (hsz : (P.info? (P.elem t)).map (·.size) = some sz)
    (ad : Option Addr) (n c : Nat) (hx : a.eval x = .slice ad n c) (kh : IntKind) (H : Int) (hh : a.eval hi = .int kh H) (m : Nat) (eH : H = (m : Int))
    (hnc : n ≤ c) (h2 : m ≤ n)
    (hK : ∀ a' c', (∀ w0 xs, Rd w0 sz (.slice ad n c) n xs → Rd w0 sz (.slice a' m c') m (xs.take (m * sz))) → wpList P ops Q rest (a.put o.dst (.slice a' m c')) w) : wpList P ops Q (o :: rest) a w := by
  refine wpList_plain hgd fun K hK' => ?_
  subst eH
  obtain ⟨a', c', e, r⟩ := part_all ad n c sz 0 m (Nat.zero_le _) h2
  simp only [Nat.zero_mul, List.drop_zero, Nat.sub_zero] at e r
  have hs : (sizeOf (P.elem t)).run P w = .ok sz w := by
    obtain ⟨i, hi1, hi2⟩ := Option.map_eq_some_iff.1 hsz
    simp [sizeOf, typeInfo, hi1, hi2]
  have hrun := run_slice_h (P := P) (w := w) t ad n c ht kh (m : Int) (by omega) (by omega)
  have hat := run_sliceAt_slice (P := P) (w := w) t (.slice ad n c) none (some (.int kh (m : Int))) none ht
  unfold Oper.wp
  simp only [execOp, ho, hx, hh, Option.map_some, Option.map_none, hat, hrun, hs, Sem.run_bind, Sem.run_pure, Result.andThen, Int.toNat_natCast, e]
  exact hK' _ _ (hK a' c' r)

theorem take_drop_take {α : Type} (l : List α) (n m : Nat) (h : n ≤ m) (hm : m ≤ l.length) : l.take n ++ (l.drop n).take (m - n) = l.take m := by
  obtain ⟨d, rfl⟩ : ∃ d, m = n + d := ⟨m - n, by omega⟩
  rw [show n + d - n = d by omega, List.take_add]

theorem owns_at {w : World} {base e sz n c : Nat} {a : Option Addr} {xs : List Value} (h : w.ownsRow base e sz (.slice a n c) n xs) (hn : 0 < n) : ∃ g, a = some ⟨g, 0, none⟩ ∧ base ≤ g := by
  rcases h.2 with ⟨_, rfl⟩ | ⟨g, cap, cur, he, hb, _⟩
  · omega
  · simp only [Value.slice.injEq] at he
    exact ⟨g, he.1, hb⟩

/-- A slice expression's run, where it stands in a region that draws its order: a fact for each. -/
theorem run_cut_h {P : Program} (t : TypeId) (ht : P.underlying t = some (.slice (P.elem t))) (sz : Nat) (hsz : (P.info? (P.elem t)).map (·.size) = some sz) (ad : Option Addr) (n c m : Nat) (k : IntKind) (hm : m ≤ c) (W : World) :
    (Instr.sliceAt t (.slice ad n c) none (some (.int k (m : Int))) none).run P W = .ok (sliced ad 0 m c sz) W := by
  have hs : (sizeOf (P.elem t)).run P W = .ok sz W := by
    obtain ⟨i, hi1, hi2⟩ := Option.map_eq_some_iff.1 hsz
    simp [sizeOf, typeInfo, hi1, hi2]
  rw [run_sliceAt_slice W t _ _ _ _ ht, run_slice_h W t ad n c ht k (m : Int) (by omega) (by omega), hs]
  simp [Result.andThen]
theorem run_cut_l {P : Program} (t : TypeId) (ht : P.underlying t = some (.slice (P.elem t))) (sz : Nat) (hsz : (P.info? (P.elem t)).map (·.size) = some sz) (ad : Option Addr) (n c l : Nat) (k : IntKind) (hl : l ≤ n) (W : World) :
    (Instr.sliceAt t (.slice ad n c) (some (.int k (l : Int))) none none).run P W = .ok (sliced ad l n c sz) W := by
  have hs : (sizeOf (P.elem t)).run P W = .ok sz W := by
    obtain ⟨i, hi1, hi2⟩ := Option.map_eq_some_iff.1 hsz
    simp [sizeOf, typeInfo, hi1, hi2]
  rw [run_sliceAt_slice W t _ _ _ _ ht, run_slice_l W t ad n c ht k (l : Int) (by omega) (by omega), hs]
  simp [Result.andThen]
theorem run_cut_lh {P : Program} (t : TypeId) (ht : P.underlying t = some (.slice (P.elem t))) (sz : Nat) (hsz : (P.info? (P.elem t)).map (·.size) = some sz) (ad : Option Addr) (n c l m : Nat) (k k' : IntKind) (hl : l ≤ m) (hm : m ≤ c) (W : World) :
    (Instr.sliceAt t (.slice ad n c) (some (.int k (l : Int))) (some (.int k' (m : Int))) none).run P W = .ok (sliced ad l m c sz) W := by
  have hs : (sizeOf (P.elem t)).run P W = .ok sz W := by
    obtain ⟨i, hi1, hi2⟩ := Option.map_eq_some_iff.1 hsz
    simp [sizeOf, typeInfo, hi1, hi2]
  rw [run_sliceAt_slice W t _ _ _ _ ht, run_slice_lh W t ad n c ht k k' (l : Int) (m : Int) (by omega) (by omega) (by omega), hs]
  simp [Result.andThen]

/-- A byte as a cell. -/
def bv (c : UInt8) : Value := .int .u8 c.toNat
def bvs (l : List UInt8) : List Value := l.map bv
@[simp] theorem bvs_length (l : List UInt8) : (bvs l).length = l.length := by simp [bvs]
theorem bvs_at (l : List UInt8) (k : Nat) (h : k < l.length) : (bvs l)[k]? = some (.int .u8 ((l[k].toNat : Nat) : Int)) := by
  simp [bvs, bv, h]
theorem bvs_append (a b : List UInt8) : bvs (a ++ b) = bvs a ++ bvs b := by simp [bvs]
theorem bvs_one (l : List UInt8) : ∀ u ∈ bvs l, u.oneCell' = true := by
  intro u hu
  obtain ⟨c, _, rfl⟩ := List.mem_map.1 hu
  rfl

theorem bvs_take_succ (l : List UInt8) (k : Nat) (h : k < l.length) : bvs (l.take k) ++ [.int .u8 ((l[k].toNat : Nat) : Int)] = bvs (l.take (k + 1)) := by
  rw [List.take_succ_eq_append_getElem h, bvs_append]; rfl

theorem u8x (x y : UInt8) : bits .xor .u8 ((x.toNat : Nat) : Int) ((y.toNat : Nat) : Int) = (((x ^^^ y).toNat : Nat) : Int) := by
  rw [u8_xor_nat _ _ x.toNat_lt y.toNat_lt, UInt8.toNat_xor]

theorem bvs_set (l : List UInt8) (k : Nat) (c : UInt8) : (bvs l).set k (.int .u8 ((c.toNat : Nat) : Int)) = bvs (l.set k c) := by
  simp only [bvs, List.map_set]; rfl

theorem i64_and1 (n : Int) : bits .and .i64 n 1 = n % 2 := by
  have h1 : (BitVec.ofInt 64 1).toNat = 2 ^ 1 - 1 := by decide
  have key : (BitVec.ofInt 64 n &&& BitVec.ofInt 64 1).toNat = (n % ((2 ^ 64 : Nat) : Int)).toNat % 2 ^ 1 := by
    rw [BitVec.toNat_and, BitVec.toNat_ofInt, h1, Nat.and_two_pow_sub_one_eq_mod]
  show IntKind.i64.wrap ((BitVec.ofInt 64 n &&& BitVec.ofInt 64 1).toNat : Nat) = n % 2
  rw [key, IntKind.wrap_i64]
  omega

/-- One byte more, in whatever words its number is written. -/
theorem bvs_snoc (l em : List UInt8) (c : UInt8) (x : Int) (h : x = c.toNat) : bvs (l ++ em) ++ [.int .u8 x] = bvs (l ++ (em ++ [c])) := by
  subst h; simp [bvs, bv]

theorem or128 (m : Nat) : bits .or .u8 ((m : Int) % 256) 128 = ((UInt8.ofNat (m % 128 + 128)).toNat : Int) := by
  have e : ((m : Int) % 256) = ((m % 256 : Nat) : Int) := by omega
  have h := u8_or_nat (m % 256) 128 (by omega) (by omega)
  rw [e]
  refine (h.trans ?_)
  have h2 : (UInt8.ofNat (m % 128 + 128)).toNat = m % 128 + 128 := by
    rw [UInt8.toNat_ofNat']; omega
  rw [h2]
  have h3 : ∀ k, k < 256 → k ||| 128 = k % 128 + 128 := by decide +kernel
  rw [h3 _ (by omega)]
  omega

theorem byte_small (m : Nat) (h : m < 256) : (m : Int) = ((UInt8.ofNat m).toNat : Int) := by
  rw [UInt8.toNat_ofNat']; omega

theorem tmod_bd (n b : Int) (hb : 1 ≤ b) : -b < n.tmod b ∧ n.tmod b < b := by
  rcases Int.lt_or_le n 0 with h | h
  · obtain ⟨k, rfl⟩ : ∃ k, n = -k := ⟨-n, by omega⟩
    rw [Int.neg_tmod, Int.tmod_eq_emod_of_nonneg (by omega)]
    have h1 := Int.emod_nonneg k (show b ≠ 0 by omega)
    have h2 := Int.emod_lt_of_pos k (show 0 < b by omega)
    omega
  · rw [Int.tmod_eq_emod_of_nonneg h]
    have h1 := Int.emod_nonneg n (show b ≠ 0 by omega)
    have h2 := Int.emod_lt_of_pos n (show 0 < b by omega)
    omega

theorem emod_of_tmod (n b : Int) (hb : 1 ≤ b) : n % b = if n.tmod b < 0 then n.tmod b + b else n.tmod b := by
  have hbd := tmod_bd n b hb
  have hd := Int.mul_tdiv_add_tmod n b
  split
  · rename_i h
    conv => lhs; rw [← hd]
    rw [Int.add_comm, Int.add_mul_emod_self_left, ← Int.add_emod_right]
    exact Int.emod_eq_of_lt (by omega) (by omega)
  · rename_i h
    conv => lhs; rw [← hd]
    rw [Int.add_comm, Int.add_mul_emod_self_left]
    exact Int.emod_eq_of_lt (by omega) (by omega)

theorem not64 (k : Nat) (h : k < 18446744073709551616) : k ^^^ 18446744073709551615 = 18446744073709551615 - k := by
  have h1 : (BitVec.ofNat 64 k ^^^ BitVec.allOnes 64).toNat = (~~~ BitVec.ofNat 64 k).toNat := by rw [BitVec.xor_allOnes]
  rw [BitVec.toNat_xor, BitVec.toNat_not, BitVec.toNat_allOnes, BitVec.toNat_ofNat, Nat.mod_eq_of_lt (by simpa using h)] at h1
  simpa using h1

end Go.Proofs.YtdlcpcpcojpecaaDoor

/-! One block may have turned, and new ones may be there: what reads on as it did. No program, no Go function is named here. -/
namespace Go.Proofs.YtdlcpcpcojpecaaDoor
open Go Go.RowKit

/-- Of what was there at most block g has turned. -/
def Touch (g : Nat) (w w' : World) : Prop := w.grownBy w' (some g)

theorem Touch.size {g : Nat} {w w' : World} (h : Touch g w w') : w.heap.size ≤ w'.heap.size := World.grownBy.size h
theorem Touch.block {g : Nat} {w w' : World} (h : Touch g w w') {k : Nat} (hk : k < w.heap.size) (hne : k ≠ g) : w'.heap[k]? = w.heap[k]? :=
  World.grownBy.block h k hk (fun e => hne (Option.some.inj e))
theorem Touch.refl (g : Nat) (w : World) : Touch g w w := ⟨rfl, rfl, rfl, Nat.le_refl _, fun _ _ _ => rfl⟩
theorem Touch.of_below {g : Nat} {w w' : World} (h : Below w.heap.size w w') : Touch g w w' := ⟨h.os, h.tape, h.output, h.size, fun k hk _ => h.block k hk⟩
theorem Touch.trans {g : Nat} {a b c : World} (h : Touch g a b) (k : Touch g b c) : Touch g a c :=
  ⟨(World.grownBy.os k).trans (World.grownBy.os h), (World.grownBy.tape k).trans (World.grownBy.tape h), (World.grownBy.output k).trans (World.grownBy.output h), Nat.le_trans h.size k.size,
    fun i hi hne => (World.grownBy.block k i (Nat.lt_of_lt_of_le hi h.size) hne).trans (World.grownBy.block h i hi hne)⟩
theorem Touch.setCell {g : Nat} (w : World) (k : Nat) (v : Value) : Touch g w (w.setCell ⟨g, k, none⟩ v) :=
  ⟨rfl, rfl, rfl, by simp [World.setCell], fun i _ hne => Below.heap_setCell _ _ _ _ (fun e => hne (by rw [e]))⟩
theorem Touch.set {g : Nat} {a w : World} (h : Touch g a w) (k : Nat) (v : Value) : Touch g a (w.setCell ⟨g, k, none⟩ v) := h.trans (Touch.setCell w k v)
theorem Touch.below {g B : Nat} {a w w' : World} (h : Touch g w w') (b : Below B a w) (hg : B ≤ g) (hB : B ≤ w.heap.size) : Below B a w' :=
  b.trans ⟨World.grownBy.os h, World.grownBy.tape h, World.grownBy.output h, h.size, fun k hk => h.block (by omega) (by omega)⟩
theorem Touch.new {g : Nat} {a w w' : World} (h : Touch g w w') (b : Below a.heap.size a w) (hg : a.heap.size ≤ g) : Below a.heap.size a w' := h.below b hg b.size
theorem Touch.heap {g k : Nat} {w w' : World} {o : Obj} (t : Touch g w w') (h : w.heap[k]? = some o) (hk : k ≠ g) : w'.heap[k]? = some o := by
  rw [t.block (Array.getElem?_eq_some_iff.1 h).1 hk]; exact h
theorem Touch.drewN {g : Nat} {a w : World} (h : Touch g a w) (n : Nat) : Touch g a (w.drewN n) := ⟨(World.grownBy.os h : w.os = a.os), (World.grownBy.tape h : w.tape = a.tape), (World.grownBy.output h : w.output = a.output), h.size, fun k hk hne => (World.grownBy.block h k hk hne : w.heap[k]? = a.heap[k]?)⟩
theorem Touch.of_grown {g : Nat} {w w' : World} {row : Option Nat} (h : w.grownBy w' row) (hr : ∀ k, row = some k → k = g) : Touch g w w' :=
  ⟨h.os, h.tape, h.output, h.size, fun k hk hne => h.block k hk (fun e => hne (by rw [hr k e.symm]))⟩

/-- Rows of unlike kinds are two. -/
theorem row_ne {w : World} {g k : Nat} {c c' : Array Value} {t t' : TypeId} {f f' : Nat × Nat} (h : w.heap[g]? = some (.cells c t f)) (h' : w.heap[k]? = some (.cells c' t' f')) (ht : t' ≠ t) : k ≠ g := by
  rintro rfl
  rw [h] at h'
  simp only [Option.some.injEq, Obj.cells.injEq] at h'
  exact ht h'.2.1.symm

theorem Touch.row {g k : Nat} {w w' : World} {c c' : Array Value} {t t' : TypeId} {f f' : Nat × Nat} (u : Touch g w w') (h : w.heap[g]? = some (.cells c t f)) (h' : w.heap[k]? = some (.cells c' t' f')) (ht : t' ≠ t) : w'.heap[k]? = some (.cells c' t' f') :=
  u.heap h' (row_ne h h' ht)

theorem Touch.owns {g base e sz n : Nat} {w w' : World} {v : Value} {xs : List Value} (u : Touch g w w') (h : w.ownsRow base e sz v n xs) {c : Array Value} {t : TypeId} {f : Nat × Nat} (hg : w.heap[g]? = some (.cells c t f)) (ht : e ≠ t) : w'.ownsRow base e sz v n xs := by
  refine ⟨h.1, ?_⟩
  rcases h.2 with hn | ⟨k, cap, cur, rfl, h1, h2, r⟩
  · exact .inl hn
  · exact .inr ⟨k, cap, cur, rfl, h1, u.row hg h2 ht, r⟩

/-- A row whose blocks lie from base on, where another one, below it, turned. -/
theorem Touch.owns_from {g base e sz n : Nat} {w w' : World} {v : Value} {xs : List Value} (u : Touch g w w') (h : w.ownsRow base e sz v n xs) (hg : g < base) : w'.ownsRow base e sz v n xs := by
  refine ⟨h.1, ?_⟩
  rcases h.2 with hn | ⟨k, cap, cur, rfl, h1, h2, r⟩
  · exact .inl hn
  · exact .inr ⟨k, cap, cur, rfl, h1, u.heap h2 (by omega), r⟩

/-- Where the row that has turned is one whose kind is known. -/
theorem owns_grown {base e sz n : Nat} {w w' : World} {v : Value} {xs : List Value} {row : Option Nat} (u : w.grownBy w' row) (h : w.ownsRow base e sz v n xs) {t : TypeId} (hr : ∀ k, row = some k → ∃ c f, w.heap[k]? = some (.cells c t f)) (ht : e ≠ t) : w'.ownsRow base e sz v n xs := by
  cases row with
  | none => exact owns_below h ⟨u.os, u.tape, u.output, u.size, fun k hk => u.block k hk (by simp)⟩
  | some g =>
    obtain ⟨c, f, hc⟩ := hr g rfl
    exact Touch.owns (g := g) u h hc ht

end Go.Proofs.YtdlcpcpcojpecaaDoor

/-! Some blocks may have turned, and new ones may be there; 'append' on a row of one's own, with where the row lies behind it. No program, no Go function is named here. -/
namespace Go.Proofs.YtdlcpcpcojpecaaDoor
open Go Go.RowKit

/-- Of what was there only blocks of F have turned. -/
structure Frame (F : Nat → Prop) (w w' : World) : Prop where
  os : w'.os = w.os
  tape : w'.tape = w.tape
  output : w'.output = w.output
  size : w.heap.size ≤ w'.heap.size
  block : ∀ k, k < w.heap.size → ¬ F k → w'.heap[k]? = w.heap[k]?

theorem Frame.refl (F : Nat → Prop) (w : World) : Frame F w w := ⟨rfl, rfl, rfl, Nat.le_refl _, fun _ _ _ => rfl⟩
theorem Frame.of_below {F : Nat → Prop} {w w' : World} (h : Below w.heap.size w w') : Frame F w w' := ⟨h.os, h.tape, h.output, h.size, fun k hk _ => h.block k hk⟩
theorem Frame.of_touch {F : Nat → Prop} {g : Nat} {w w' : World} (h : Touch g w w') (hg : F g) : Frame F w w' :=
  ⟨World.grownBy.os h, World.grownBy.tape h, World.grownBy.output h, h.size, fun k hk hn => h.block hk (fun e => hn (by rw [e]; exact hg))⟩
theorem Frame.of_grown {F : Nat → Prop} {row : Option Nat} {w w' : World} (h : w.grownBy w' row) (hg : ∀ k, row = some k → F k) : Frame F w w' :=
  ⟨h.os, h.tape, h.output, h.size, fun k hk hn => h.block k hk (fun e => hn (hg k e.symm))⟩
/-- Two steps: the second one's blocks are the first one's, or new. -/
theorem Frame.trans {F G : Nat → Prop} {a b c : World} (h : Frame F a b) (k : Frame G b c) (hG : ∀ i, G i → F i ∨ a.heap.size ≤ i) : Frame F a c :=
  ⟨k.os.trans h.os, k.tape.trans h.tape, k.output.trans h.output, Nat.le_trans h.size k.size, fun i hi hn => by
    rw [k.block i (Nat.lt_of_lt_of_le hi h.size) (fun e => by
      rcases hG i e with h1 | h1
      · exact hn h1
      · omega)]
    exact h.block i hi hn⟩
theorem Frame.then_below {F : Nat → Prop} {a b c : World} (h : Frame F a b) (k : Below b.heap.size b c) : Frame F a c := h.trans (Frame.of_below (F := fun _ => False) k) (fun _ e => e.elim)
theorem Frame.after_below {F : Nat → Prop} {a b c : World} (h : Below a.heap.size a b) (k : Frame F b c) : Frame F a c := (Frame.of_below h).trans k (fun _ e => .inl e)
theorem Frame.below {F : Nat → Prop} {B : Nat} {a w w' : World} (h : Frame F w w') (b : Below B a w) (hF : ∀ k, F k → B ≤ k) (hB : B ≤ w.heap.size) : Below B a w' :=
  b.trans ⟨h.os, h.tape, h.output, h.size, fun k hk => h.block k (by omega) (fun e => by have := hF k e; omega)⟩
theorem Frame.heap {F : Nat → Prop} {w w' : World} {k : Nat} {o : Obj} (f : Frame F w w') (h : w.heap[k]? = some o) (hk : ¬ F k) : w'.heap[k]? = some o := by
  rw [f.block k (Array.getElem?_eq_some_iff.1 h).1 hk]; exact h
theorem Frame.owns {F : Nat → Prop} {w w' : World} {base e sz n : Nat} {v : Value} {xs : List Value} (f : Frame F w w') (h : w.ownsRow base e sz v n xs) (hF : ∀ k, v.ownBlock = some k → ¬ F k) : w'.ownsRow base e sz v n xs := by
  refine ⟨h.1, ?_⟩
  rcases h.2 with hn | ⟨k, cap, cur, rfl, h1, h2, r⟩
  · exact .inl hn
  · exact .inr ⟨k, cap, cur, rfl, h1, f.heap h2 (hF k rfl), r⟩

theorem owns_zero {w : World} {base e sz n : Nat} {v : Value} {xs : List Value} (h : w.ownsRow base e sz v n xs) : w.ownsRow 0 e sz v n xs := owns_base h (Nat.zero_le _)
theorem owns_ge {w : World} {base e sz n : Nat} {v : Value} {xs : List Value} (h : w.ownsRow base e sz v n xs) : ∀ k, v.ownBlock = some k → base ≤ k := fun k hk => (h.lt k hk).1
theorem owns_lt {w : World} {base e sz n : Nat} {v : Value} {xs : List Value} (h : w.ownsRow base e sz v n xs) : ∀ k, v.ownBlock = some k → k < w.heap.size := fun k hk => (h.lt k hk).2

/-- Where the row lies behind an append: where it lay, or in a new block. -/
theorem run_append_where {P : Program} (w : World) (t ty e : TypeId) (i : TypeInfo) (z : Value) (size bytes : Nat) (ht : P.underlying t = some (.slice e)) (hi : P.info? e = some i) (hz : i.zero = some z)
    (hsize : i.size = size) (hby : i.bytes = bytes) (hzs : z.cells.size = size) (hsz : 0 < size)
    (v : Value) (n : Nat) (xs : List Value) (hown : w.ownsRow 0 e size v n xs)
    (a : Addr) (m c : Nat) (news : List Value) (hl : news.length = m * size) (hnews : ∀ j u, news[j]? = some u → w.cell? (a.add j) = some u) (h1 : ∀ u ∈ news, u.oneCell' = true)
    (h63 : n + m ≤ maxLen) (hbytes : (n + m) * bytes ≤ 140737488355328) :
    ∃ v' w', (Builtin.append_ #[t, t] ty #[v, .slice (some a) m c]).run P w = .ok v' w' ∧ w'.ownsRow 0 e size v' (n + m) (xs ++ news) ∧ w.grownBy w' v.ownBlock ∧
      ∀ k, v'.ownBlock = some k → v.ownBlock = some k ∨ w.heap.size ≤ k := by
  obtain ⟨v', w', hr, h2, h3, _⟩ := run_append_own (P := P) w 0 t ty e i z size bytes ht hi hz hsize hby hzs hsz v n xs hown a m c news hl hnews h1 h63 hbytes (Nat.zero_le _)
  refine ⟨v', w', hr, h2, h3, ?_⟩
  rcases hown.2 with ⟨rfl, rfl⟩ | ⟨g, cap, cur, rfl, _, hg, hnc, hcm, hcs, htake⟩
  · have hx : xs = [] := List.eq_nil_of_length_eq_zero (by simpa using hown.1)
    subst hx
    obtain ⟨v2, w2, hr2, h4, _, _⟩ := run_append_own (P := P) w w.heap.size t ty e i z size bytes ht hi hz hsize hby hzs hsz (.slice none 0 0) 0 [] (World.ownsRow_nil w w.heap.size e size) a m c news hl hnews h1 h63 hbytes (Nat.le_refl _)
    rw [hr] at hr2
    simp only [Result.ok.injEq] at hr2
    obtain ⟨rfl, rfl⟩ := hr2
    exact fun k hk => .inr (h4.lt k hk).1
  · by_cases hroom : n + m ≤ cap
    · subst hsize
      have hfit : n * i.size + news.length ≤ cur.size := by rw [hl, hcs, ← Nat.add_mul]; exact Nat.mul_le_mul_right _ hroom
      have hr2 := run_append_room (P := P) w t ty e i ht hi g n cap cur hg a m c news hl hnews h1 hroom hfit
      rw [hr] at hr2
      simp only [Result.ok.injEq] at hr2
      obtain ⟨rfl, _⟩ := hr2
      exact fun k hk => .inl hk
    · subst hsize
      subst hby
      have holds : ∀ j u, xs[j]? = some u → w.cell? ((⟨g, 0, none⟩ : Addr).add j) = some u := hown.cells (g := g) rfl
      have hsmall : n + m ≤ 9223372036854775807 := by simp only [maxLen] at h63; omega
      have hr2 := run_append_grow (P := P) w t ty e i z ht hi hz ⟨g, 0, none⟩ n cap xs hown.1 holds a m c news hl hnews (by omega) (by omega) (growslice_fits (by omega) hbytes)
      rw [hr] at hr2
      simp only [Result.ok.injEq] at hr2
      obtain ⟨rfl, _⟩ := hr2
      intro k hk
      simp only [Value.ownBlock, Option.some.injEq] at hk
      exact .inr (by omega)

theorem wpList_append_where {P : Program} {w : World} {ops : Array Oper} {rest : List Oper} {o : Oper} {a : Act} {Q : Exit → Act → World → Prop} (hgd : o.guard = none) (s x : Operand) (t : TypeId)
    (ho : o.op = .call { callee := .builtin .append, args := #[s, x], argTypes := #[t, t] })
    (e : TypeId) (i : TypeInfo) (z : Value) (size bytes : Nat) (ht : P.underlying t = some (.slice e)) (hi : P.info? e = some i) (hz : i.zero = some z)
    (hsize : i.size = size) (hby : i.bytes = bytes) (hzs : z.cells.size = size) (hsz : 0 < size)
    (v : Value) (n : Nat) (xs : List Value) (hs : a.eval s = v) (hown : w.ownsRow 0 e size v n xs)
    (ad : Addr) (m c : Nat) (news : List Value) (hx : a.eval x = .slice (some ad) m c) (hl : news.length = m * size) (hnews : ∀ j u, news[j]? = some u → w.cell? (ad.add j) = some u) (h1 : ∀ u ∈ news, u.oneCell' = true)
    (h63 : n + m ≤ maxLen) (hbytes : (n + m) * bytes ≤ 140737488355328)
    (h : ∀ v' w', w'.ownsRow 0 e size v' (n + m) (xs ++ news) → w.grownBy w' v.ownBlock → (∀ k, v'.ownBlock = some k → v.ownBlock = some k ∨ w.heap.size ≤ k) → wpList P ops Q rest (a.put o.dst v') w') : wpList P ops Q (o :: rest) a w := by
  refine wpList_plain hgd fun K hK => ?_
  obtain ⟨v', w', hr, h2, h3, h4⟩ := run_append_where (P := P) w t o.type e i z size bytes ht hi hz hsize hby hzs hsz v n xs hown ad m c news hl hnews h1 h63 hbytes
  unfold Oper.wp execOp
  simp only [ho, resolve, invoke, builtin, Sem.run_bind, Sem.run_pure, Result.andThen_ok, List.map_toArray, List.map_cons, List.map_nil, hs, hx, hr]
  exact hK _ _ (h v' w' h2 h3 h4)

/-- The same of the operation alone (in a region that draws its order). -/
theorem wp_append_where {P : Program} {w : World} {o : Oper} {a : Act} {K : Act → World → Prop} {Q : Exit → Act → World → Prop} (s x : Operand) (t : TypeId)
    (ho : o.op = .call { callee := .builtin .append, args := #[s, x], argTypes := #[t, t] })
    (e : TypeId) (i : TypeInfo) (z : Value) (size bytes : Nat) (ht : P.underlying t = some (.slice e)) (hi : P.info? e = some i) (hz : i.zero = some z)
    (hsize : i.size = size) (hby : i.bytes = bytes) (hzs : z.cells.size = size) (hsz : 0 < size)
    (v : Value) (n : Nat) (xs : List Value) (hs : a.eval s = v) (hown : w.ownsRow 0 e size v n xs)
    (ad : Addr) (m c : Nat) (news : List Value) (hx : a.eval x = .slice (some ad) m c) (hl : news.length = m * size) (hnews : ∀ j u, news[j]? = some u → w.cell? (ad.add j) = some u) (h1 : ∀ u ∈ news, u.oneCell' = true)
    (h63 : n + m ≤ maxLen) (hbytes : (n + m) * bytes ≤ 140737488355328)
    (h : ∀ v' w', w'.ownsRow 0 e size v' (n + m) (xs ++ news) → w.grownBy w' v.ownBlock → (∀ k, v'.ownBlock = some k → v.ownBlock = some k ∨ w.heap.size ≤ k) → K (a.put o.dst v') w') : o.wp P a w K Q := by
  obtain ⟨v', w', hr, h2, h3, h4⟩ := run_append_where (P := P) w t o.type e i z size bytes ht hi hz hsize hby hzs hsz v n xs hown ad m c news hl hnews h1 h63 hbytes
  unfold Oper.wp execOp
  simp only [ho, resolve, invoke, builtin, Sem.run_bind, Sem.run_pure, Result.andThen_ok, List.map_toArray, List.map_cons, List.map_nil, hs, hx, hr]
  exact h v' w' h2 h3 h4

/-- The same as one step of a region that draws. -/
theorem step_append_where {P : Program} {ops : Array Oper} {o : Oper} {a : Act} {w : World} {K : Act → World → Prop} {Q : Exit → Act → World → Prop} {E : Prop} (hgd : o.guard = none) (s x : Operand) (t : TypeId)
    (ho : o.op = .call { callee := .builtin .append, args := #[s, x], argTypes := #[t, t] })
    (e : TypeId) (i : TypeInfo) (z : Value) (size bytes : Nat) (ht : P.underlying t = some (.slice e)) (hi : P.info? e = some i) (hz : i.zero = some z)
    (hsize : i.size = size) (hby : i.bytes = bytes) (hzs : z.cells.size = size) (hsz : 0 < size)
    (v : Value) (n : Nat) (xs : List Value) (hs : a.eval s = v) (hown : w.ownsRow 0 e size v n xs)
    (ad : Addr) (m c : Nat) (news : List Value) (hx : a.eval x = .slice (some ad) m c) (hl : news.length = m * size) (hnews : ∀ j u, news[j]? = some u → w.cell? (ad.add j) = some u) (h1 : ∀ u ∈ news, u.oneCell' = true)
    (h63 : n + m ≤ maxLen) (hbytes : (n + m) * bytes ≤ 140737488355328)
    (h : ∀ v' w', w'.ownsRow 0 e size v' (n + m) (xs ++ news) → w.grownBy w' v.ownBlock → (∀ k, v'.ownBlock = some k → v.ownBlock = some k ∨ w.heap.size ≤ k) → K (a.put o.dst v') w') :
    if Region.wanted o (yielded ops a.tmps) = true then Oper.wp P o a w K Q else E := by
  have hw : Region.wanted o (yielded ops a.tmps) = true := by simp [Region.wanted, hgd]
  rw [if_pos hw]
  exact wp_append_where s x t ho e i z size bytes ht hi hz hsize hby hzs hsz v n xs hs hown ad m c news hx hl hnews h1 h63 hbytes h

end Go.Proofs.YtdlcpcpcojpecaaDoor

/-! Cells in groups of one length. No program is named here. -/
namespace Go.Proofs.YtdlcpcpcojpecaaDoor
open Go Go.RowKit

theorem flat_length {α : Type} (f : α → List Value) (C : Nat) (l : List α) (h : ∀ x ∈ l, (f x).length = C) : (l.flatMap f).length = l.length * C := by
  induction l with
  | nil => simp
  | cons a l ih =>
    rw [List.flatMap_cons, List.length_append, ih (fun x hx => h x (List.mem_cons_of_mem _ hx)), h a List.mem_cons_self, List.length_cons, Nat.succ_mul]
    omega

theorem flat_take {α : Type} (f : α → List Value) (C : Nat) : ∀ (l : List α), (∀ x ∈ l, (f x).length = C) → ∀ (i : Nat) (hi : i < l.length), ((l.flatMap f).drop (i * C)).take C = f l[i] := by
  intro l
  induction l with
  | nil => intro _ i hi; simp at hi
  | cons a l ih =>
    intro h i hi
    have ha := h a List.mem_cons_self
    rw [List.flatMap_cons]
    rcases i with _ | i
    · simp only [Nat.zero_mul, List.drop_zero, List.getElem_cons_zero]
      rw [List.take_append_of_le_length (by omega), ← ha, List.take_length]
    · simp only [List.getElem_cons_succ]
      rw [Nat.succ_mul, Nat.add_comm (i * C) C, ← List.drop_drop, List.drop_append_of_le_length (by omega), ← ha, List.drop_length, List.nil_append, ha]
      exact ih (fun x hx => h x (List.mem_cons_of_mem _ hx)) i (by simpa using hi)

theorem flat_at {α : Type} (f : α → List Value) (C : Nat) (l : List α) (h : ∀ x ∈ l, (f x).length = C) (i : Nat) (hi : i < l.length) (j : Nat) (hj : j < C) : (l.flatMap f)[i * C + j]? = (f l[i])[j]? := by
  rw [← flat_take f C l h i hi, List.getElem?_take, if_pos hj, List.getElem?_drop]

theorem flat_of {α : Type} (f : α → List Value) (C : Nat) (p : α → Prop) : ∀ (n : Nat) (cells : List Value), cells.length = n * C → (∀ i, i < n → ∃ x, p x ∧ (cells.drop (i * C)).take C = f x) →
    ∃ xs : List α, xs.length = n ∧ cells = xs.flatMap f ∧ ∀ x ∈ xs, p x := by
  intro n
  induction n with
  | zero =>
    intro cells hl _
    have : cells = [] := by cases cells with
      | nil => rfl
      | cons a l => simp at hl
    subst this
    exact ⟨[], rfl, rfl, by simp⟩
  | succ n ih =>
    intro cells hl h
    obtain ⟨x, px, hx⟩ := h 0 (by omega)
    rw [Nat.succ_mul] at hl
    obtain ⟨xs, h1, h2, h3⟩ := ih (cells.drop C) (by rw [List.length_drop]; omega) (fun i hi => by
      obtain ⟨y, py, hy⟩ := h (i + 1) (by omega)
      rw [Nat.succ_mul, Nat.add_comm, ← List.drop_drop] at hy
      exact ⟨y, py, hy⟩)
    refine ⟨x :: xs, by simp [h1], ?_, ?_⟩
    · rw [List.flatMap_cons, ← hx, ← h2]
      simp
    · intro y hy
      rcases List.mem_cons.1 hy with rfl | hy
      · exact px
      · exact h3 y hy
end Go.Proofs.YtdlcpcpcojpecaaDoor

/-! A slice value that does not lead into a block that has turned. No program, no Go function is named here. -/
namespace Go.Proofs.YtdlcpcpcojpecaaDoor
open Go Go.RowKit

/-- A slice value that does not lead into block g. -/
def OffV (g : Nat) (v : Value) : Prop := ∀ x n c, v = .slice (some x) n c → 0 < n → x.block ≠ g

theorem Rd.touch {w w' : World} {sz n g : Nat} {v : Value} {xs : List Value} (h : Rd w sz v n xs) (t : Touch g w w') (o : OffV g v) : Rd w' sz v n xs := by
  refine ⟨h.1, ?_⟩
  rcases h.2 with hn | ⟨x, cap, rfl, hc, hm, hx⟩
  · exact .inl hn
  · refine .inr ⟨x, cap, rfl, hc, hm, fun j u hu => ?_⟩
    have h1 := hx j u hu
    have hb : (x.add j).block = x.block := by obtain ⟨b, off, sp⟩ := x; unfold Addr.add; split <;> rfl
    have hn : 0 < n := by
      rcases Nat.eq_zero_or_pos n with h0 | h0
      · have h2 := (List.getElem?_eq_some_iff.1 hu).1
        rw [h.1, h0] at h2; omega
      · exact h0
    rw [World.cell?_of_block (t.block (World.block_lt_of_cell? w _ h1) (by rw [hb]; exact o _ _ _ rfl hn))]; exact h1

theorem OffV.of_rd {w : World} {sz n g : Nat} {v : Value} {xs : List Value} (h : Rd w sz v n xs) (hs : 0 < sz) (hg : w.heap.size ≤ g) : OffV g v := by
  intro x m c e hm
  rcases h.2 with ⟨rfl, _⟩ | ⟨y, cap, rfl, hc, _, hx⟩
  · simp at e
  · simp only [Value.slice.injEq, Option.some.injEq] at e
    obtain ⟨rfl, rfl, rfl⟩ := e
    have hl : 0 < xs.length := by rw [h.1]; exact Nat.mul_pos hm hs
    have h0 := hx 0 xs[0] (List.getElem?_eq_getElem hl)
    have h1 := World.block_lt_of_cell? w _ h0
    have hb : (y.add 0).block = y.block := by unfold Addr.add; split <;> rfl
    rw [hb] at h1
    omega

end Go.Proofs.YtdlcpcpcojpecaaDoor

/-! A region that draws its order, walked in one order: what only reads is taken first, what is passed over too; what writes or calls comes up alone. No program, no Go function is named here. -/
namespace Go.Proofs.YtdlcpcpcojpecaaDoor
open Go

section
variable {P : Program} {ops : Array Oper} {Q : Exit → Act → World → Prop} {md : Region.Mode} {S : World → Prop}

/-- The operations one by one, in this order: behind a 'true' one that yields its value in every world that meets S (or is passed over), behind a 'false' one that is carried out. -/
def wpOrd (P : Program) (ops : Array Oper) (Q : Exit → Act → World → Prop) (S : World → Prop) : List (Nat × Bool) → Act → World → Prop
  | [], a, w => Q .normal a w
  | (i, true) :: r, a, w => ∃ o v, ops[i]? = some o ∧ YieldsIf P ops S o v a ∧ wpOrd P ops Q S r (a.put o.dst v) w
  | (i, false) :: r, a, w => wpOp P ops Q i (fun a' w' => S w' ∧ wpOrd P ops Q S r a' w') a w

/-- May they come up in this order, and in no other one that matters? -/
def orderB (md : Region.Mode) (ops : Array Oper) : List (Nat × Bool) → Array Bool → Bool
  | [], listed => (Region.ready md ops listed).isEmpty
  | (i, true) :: r, listed => Region.free md ops listed i && (Region.ready md ops listed).contains i && orderB md ops r (listed.setIfInBounds i true)
  | (i, false) :: r, listed => (Region.ready md ops listed == [i]) && orderB md ops r (listed.setIfInBounds i true)

theorem wpAnyH_of_ord (hs : Region.noSelect ops = true) (hQ : ∀ c (a : Act) (d : Tmp) v w, Q (.panic c) (a.put (some d) v) w → Q (.panic c) a w) :
    ∀ (order : List (Nat × Bool)) (listed : Array Bool) (a : Act) (w : World), orderB md ops order listed = true → S w → wpOrd P ops Q S order a w → wpAnyH P md ops Q S order.length listed a w := by
  intro order
  induction order with
  | nil =>
    intro listed a w ho _ h
    unfold orderB at ho
    exact wpAnyH_done (List.isEmpty_iff.1 ho) h 0
  | cons x r ih =>
    intro listed a w ho hS h
    obtain ⟨i, b⟩ := x
    cases b with
    | true =>
      unfold orderB at ho
      simp only [Bool.and_eq_true] at ho
      obtain ⟨⟨h1, h2⟩, h3⟩ := ho
      obtain ⟨o, v, ho', hy, h4⟩ := h
      exact wpAnyH_take ho' hs h1 h2 (fun c a w => by cases hd : o.dst with | none => exact fun h => h | some d => exact hQ c a d v w) hy hS (ih _ _ _ h3 hS h4)
    | false =>
      unfold orderB at ho
      simp only [Bool.and_eq_true, beq_iff_eq] at ho
      obtain ⟨h1, h3⟩ := ho
      refine wpAnyH_all h1 (by simp) fun j hj => ?_
      obtain rfl := List.mem_singleton.1 hj
      exact wpOp_mono (fun a' w' h' => ⟨h'.1, ih _ _ _ h3 h'.1 h'.2⟩) h

/-- The same with the operations written out. -/
def wpOrdL (P : Program) (ops : Array Oper) (Q : Exit → Act → World → Prop) (S : World → Prop) : List (Nat × Bool × Option Oper) → Act → World → Prop
  | [], a, w => Q .normal a w
  | (_, true, some o) :: r, a, w => ∃ v, YieldsIf P ops S o v a ∧ wpOrdL P ops Q S r (a.put o.dst v) w
  | (_, false, some o) :: r, a, w => (Region.wanted o (yielded ops a.tmps) = true → Oper.wp P o a w (fun a' w' => S w' ∧ wpOrdL P ops Q S r a' w') Q) ∧ (Region.wanted o (yielded ops a.tmps) = false → S w ∧ wpOrdL P ops Q S r (a.put o.dst undef) w)
  | (_, _, none) :: _, _, _ => False

theorem wpOrd_of_L : ∀ (order : List (Nat × Bool)) (a : Act) (w : World), wpOrdL P ops Q S (order.map fun x => (x.1, x.2, ops[x.1]?)) a w → wpOrd P ops Q S order a w := by
  intro order
  induction order with
  | nil => intro a w h; exact h
  | cons x r ih =>
    intro a w h
    obtain ⟨i, b⟩ := x
    rw [List.map_cons] at h
    simp only at h
    cases ho : ops[i]? with
    | none => rw [ho] at h; cases b <;> exact absurd h (by unfold wpOrdL; exact fun h => h)
    | some o =>
      rw [ho] at h
      cases b with
      | true => obtain ⟨v, h1, h2⟩ := h; exact ⟨o, v, ho, h1, ih _ _ h2⟩
      | false =>
        obtain ⟨h1, h2⟩ := h
        show wpOp P ops Q i _ a w
        unfold wpOp
        simp only [ho]
        split
        · rename_i hw; exact .inl (Oper.wp_mono (fun a' w' h' => ⟨h'.1, ih _ _ h'.2⟩) (h1 hw))
        · rename_i hw
          have h3 := h2 (by simpa using hw)
          exact ⟨h3.1, ih _ _ h3.2⟩

theorem wp_region_ord {id : Nat} {a : Act} {w : World} (order : List (Nat × Bool)) (hm : P.follows .mixedOrders = true) (hs : Region.noSelect ops = true) (hl : order.length = ops.size)
    (ho : orderB .any ops order (Array.replicate ops.size false) = true) (hQ : ∀ c (a : Act) (d : Tmp) v w, Q (.panic c) (a.put (some d) v) w → Q (.panic c) a w) (hS : S w.drew)
    (h : wpOrdL P ops Q S (order.map fun x => (x.1, x.2, ops[x.1]?)) a w.drew) : (Code.region id ops true).wp P Q a w := by
  refine wp_region_held (S := S) hm ?_
  rw [← hl]
  exact wpAnyH_of_ord hs hQ order _ a _ (by rw [hl]; exact ho) hS (wpOrd_of_L _ _ _ h)

theorem ord_nil {a : Act} {w : World} (h : Q .normal a w) : wpOrdL P ops Q S [] a w := h
theorem ord_take {i : Nat} {o : Oper} {v : Value} {r : List (Nat × Bool × Option Oper)} {a : Act} {w : World} (hw : Region.wanted o (yielded ops a.tmps) = true) (hv : ∀ w, S w → (execOp a.eval o).run P w = .ok (.value v) w)
    (h : wpOrdL P ops Q S r (a.put o.dst v) w) : wpOrdL P ops Q S ((i, true, some o) :: r) a w := ⟨v, .inl ⟨hw, hv⟩, h⟩
theorem ord_skip {i : Nat} {o : Oper} {r : List (Nat × Bool × Option Oper)} {a : Act} {w : World} (hw : Region.wanted o (yielded ops a.tmps) = false)
    (h : wpOrdL P ops Q S r (a.put o.dst undef) w) : wpOrdL P ops Q S ((i, true, some o) :: r) a w := ⟨undef, .inr ⟨hw, rfl⟩, h⟩
theorem ord_do {i : Nat} {o : Oper} {r : List (Nat × Bool × Option Oper)} {a : Act} {w : World} (hw : Region.wanted o (yielded ops a.tmps) = true)
    (h : ∀ K : Act → World → Prop, Shut (∀ a w, S w → wpOrdL P ops Q S r a w → K a w) → Oper.wp P o a w K Q) : wpOrdL P ops Q S ((i, false, some o) :: r) a w :=
  ⟨fun _ => by
    have h' := h (fun a' w' => S w' ∧ wpOrdL P ops Q S r a' w') (fun a w hS hr => ⟨hS, hr⟩)
    exact h', fun hn => by rw [hw] at hn; cases hn⟩
/-- One that is passed over. -/
theorem ord_pass {i : Nat} {o : Oper} {r : List (Nat × Bool × Option Oper)} {a : Act} {w : World} (hw : Region.wanted o (yielded ops a.tmps) = false) (hS : S w)
    (h : wpOrdL P ops Q S r (a.put o.dst undef) w) : wpOrdL P ops Q S ((i, false, some o) :: r) a w :=
  ⟨fun hn => (by rw [hw] at hn; cases hn), fun _ => ⟨hS, h⟩⟩
end
end Go.Proofs.YtdlcpcpcojpecaaDoor
