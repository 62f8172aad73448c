/- General words and lemmas for the walks: a slice that reads as a list of cells. No program, no Go function is named here. -/
import Derived.WalkKit
import Derived.WalkSpells
import Derived.Lib.Hide
import Derived.KernelRfl
import Derived.Lib.SlBytesConst
import Derived.Deep.QuietTactic
import Derived.DataElems
import Derived.BigQuiet
import Derived.Deep.RegionWith
namespace Go.Proofs.YtjhebnjajnjhhaaDoor
open Go Go.RowKit

/-- A slice value that reads, in a world, as these cells (n elements of sz cells each). -/
def Rd (w : World) (sz : Nat) (v : Value) (n : Nat) (xs : List Value) : Prop :=
  xs.length = n * sz ∧
  ((v = .slice none 0 0 ∧ n = 0) ∨
   ∃ x cap, v = .slice (some x) n cap ∧ n ≤ cap ∧ cap ≤ maxLen ∧ ∀ j u, xs[j]? = some u → w.cell? (x.add j) = some u)

theorem Rd.nil (w : World) (sz : Nat) : Rd w sz (.slice none 0 0) 0 [] := ⟨by simp, .inl ⟨rfl, rfl⟩⟩

theorem add_none (b off j : Nat) : (⟨b, off, none⟩ : Addr).add j = ⟨b, off + j, none⟩ := by
  unfold Addr.add; split <;> simp_all

theorem Rd.of_owns {w : World} {base e sz : Nat} {v : Value} {n : Nat} {xs : List Value} (h : w.ownsRow base e sz v n xs) : Rd w sz v n xs := by
  refine ⟨h.1, ?_⟩
  rcases h.2 with hn | ⟨g, cap, cur, rfl, hb, hg, hc, hm, hs, ht⟩
  · exact .inl hn
  · exact .inr ⟨⟨g, 0, none⟩, cap, rfl, hc, hm, fun j u hu => World.ownsRow.cells h (g := g) rfl j u hu⟩

/-- What lies below B reads on as it did. -/
theorem Rd.below {w w' : World} {sz n : Nat} {v : Value} {xs : List Value} (h : Rd w sz v n xs) (hb : Below w.heap.size w w') : Rd w' sz v n xs := by
  refine ⟨h.1, ?_⟩
  rcases h.2 with hn | ⟨x, cap, rfl, hc, hm, hx⟩
  · exact .inl hn
  · refine .inr ⟨x, cap, rfl, hc, hm, fun j u hu => ?_⟩
    have h1 := hx j u hu
    rw [hb.cell (World.block_lt_of_cell? w _ h1)]; exact h1

theorem owns_below {w w' : World} {base e sz n : Nat} {v : Value} {xs : List Value} (h : w.ownsRow base e sz v n xs) (hb : Below w.heap.size w w') : w'.ownsRow base e sz v n xs := by
  refine ⟨h.1, ?_⟩
  rcases h.2 with hn | ⟨g, cap, cur, rfl, h1, h2, r⟩
  · exact .inl hn
  · refine .inr ⟨g, cap, cur, rfl, h1, ?_, r⟩
    rw [hb.block g (Array.getElem?_eq_some_iff.1 h2).1]; exact h2

theorem owns_base {w : World} {base base' e sz n : Nat} {v : Value} {xs : List Value} (h : w.ownsRow base e sz v n xs) (hb : base' ≤ base) : w.ownsRow base' e sz v n xs := by
  refine ⟨h.1, ?_⟩
  rcases h.2 with hn | ⟨g, cap, cur, rfl, h1, r⟩
  · exact .inl hn
  · exact .inr ⟨g, cap, cur, rfl, by omega, r⟩

theorem owns_slice {w : World} {base e sz n : Nat} {v : Value} {xs : List Value} (h : w.ownsRow base e sz v n xs) : ∃ a c, v = .slice a n c := by
  rcases h.2 with ⟨rfl, rfl⟩ | ⟨g, cap, cur, rfl, _⟩
  · exact ⟨_, _, rfl⟩
  · exact ⟨_, _, rfl⟩
theorem Rd.slice {w : World} {sz n : Nat} {v : Value} {xs : List Value} (h : Rd w sz v n xs) : ∃ a c, v = .slice a n c := by
  rcases h.2 with ⟨rfl, rfl⟩ | ⟨x, cap, rfl, _⟩
  · exact ⟨_, _, rfl⟩
  · exact ⟨_, _, rfl⟩

theorem Rd.len_le {w : World} {sz n : Nat} {v : Value} {xs : List Value} (h : Rd w sz v n xs) : n ≤ 9223372036854775807 := by
  rcases h.2 with ⟨_, rfl⟩ | ⟨x, cap, he, hc, hm, hx⟩
  · omega
  · unfold maxLen at hm; omega

/-- Where there is an element the slice leads somewhere. -/
theorem Rd.at {w : World} {sz n c : Nat} {a : Option Addr} {xs : List Value} (h : Rd w sz (.slice a n c) n xs) (hn : 0 < n) (hs : 0 < sz := by decide) :
    ∃ b off, a = some ⟨b, off, none⟩ ∧ n ≤ c ∧ c ≤ maxLen ∧ ∀ j u, xs[j]? = some u → w.cell? ⟨b, off + j, none⟩ = some u := by
  rcases h.2 with ⟨_, rfl⟩ | ⟨x, cap, he, hc, hm, hx⟩
  · omega
  · simp only [Value.slice.injEq] at he
    obtain ⟨rfl, _, rfl⟩ := he
    obtain ⟨b, off, spot⟩ := x
    have hlen : 0 < xs.length := by rw [h.1]; exact Nat.mul_pos hn hs
    have h0 := hx 0 xs[0] (by simp [hlen])
    have hspot : spot = none := by simpa [Addr.add] using World.cell?_spot h0
    subst hspot
    exact ⟨b, off, rfl, hc, hm, fun j u hu => by have := hx j u hu; rwa [add_none] at this⟩

theorem take_next {α : Type} {l1 l2 : List α} {k : Nat} (h1 : k < l1.length) (h2 : k < l2.length) (h : l1.take k = l2.take k) (he : l1[k] = l2[k]) : l1.take (k + 1) = l2.take (k + 1) := by
  rw [List.take_succ_eq_append_getElem h1, List.take_succ_eq_append_getElem h2, h, he]

theorem below_alloc (w : World) (o : Obj) : Below w.heap.size w (w.alloc o) := (Below.refl _ _).alloc (Nat.le_refl _) _
theorem below_drewN {B : Nat} {a w : World} (h : Below B a w) (n : Nat) : Below B a (w.drewN n) := ⟨h.os, h.tape, h.output, h.size, h.block⟩

theorem below_setRow {B : Nat} {a w : World} (h : Below B a w) (g : Nat) (cs : Array Value) (hg : B ≤ g) : Below B a (w.setRow g cs) :=
  ⟨h.os, h.tape, h.output, by have := h.size; simpa using this, fun k hk => (setRow_other w g k cs (by omega)).trans (h.block k hk)⟩

/-- A whole row is stored: of the world behind it what matters is told. -/
theorem wpList_store_row_g {P : Program} {ops : Array Oper} {rest : List Oper} {o : Oper} {a : Act} {w : World} {Q : Exit → Act → World → Prop} (hgd : o.guard = none) (ty : TypeId) (x y : Operand) (ho : o.op = .store ty x y)
    (g : Nat) (cells : Array Value) (hx : a.eval x = .pointer (some ⟨g, 0, none⟩)) (hy : a.eval y = .agg cells)
    (t : TypeId) (old : Array Value) (hg : w.heap[g]? = some (.cells old t (0, 0))) (hi : (P.info? ty).map (·.size) = some cells.size)
    (hold : old.size = cells.size) (h1 : cells.all (·.oneCell') = true)
    (h : ∀ w', w'.heap[g]? = some (.cells cells t (0, 0)) → w.grownBy w' (some g) → w'.heap.size = w.heap.size → wpList P ops Q rest (a.put o.dst undef) w') : wpList P ops Q (o :: rest) a w :=
  wpList_store_row hgd ty x y ho g cells hx hy t old hg hi hold h1 (h _ (setRow_heap w g old cells t (0, 0) hg)
    ⟨rfl, rfl, rfl, by simp, fun k _ hk => setRow_other w g k cells (fun e => hk (by rw [e]))⟩ (by simp))

/-- A cell of a block known whole: it reads, it may be written, and what the block holds behind the store. -/
theorem block_cell {w : World} {g k : Nat} {cs : Array Value} {t : TypeId} (hg : w.heap[g]? = some (.cells cs t (0, 0))) (hk : k < cs.size) :
    (∃ old, w.cell? ⟨g, k, none⟩ = some old) ∧ w.frozen? ⟨g, k, none⟩ = false ∧ ∀ v, (w.setCell ⟨g, k, none⟩ v).heap[g]? = some (.cells (cs.setIfInBounds k v) t (0, 0)) := by
  refine ⟨⟨cs[k], ?_⟩, frozen_of_row w g k _ _ hg, fun v => heap_setCell_same w g k _ _ v hg⟩
  rw [cell_of_row w g k _ _ _ hg, Array.getElem?_eq_getElem hk]

theorem bAlloc {w W : World} (h : Below w.heap.size w W) (o : Obj) : Below w.heap.size w (W.alloc o) := h.alloc h.size o
theorem heap_below {w w' : World} {g : Nat} {o : Obj} (hb : Below w.heap.size w w') (h : w.heap[g]? = some o) : w'.heap[g]? = some o := by
  rw [hb.block g (Array.getElem?_eq_some_iff.1 h).1]; exact h

/-- One call behind another one. -/
theorem nxt {w w1 w2 : World} (h : Below w.heap.size w w1) (k : Below w1.heap.size w1 w2) : Below w.heap.size w w2 := h.trans (k.mono h.size)

theorem cells_new (w : World) (xs : Array Value) (T : TypeId) : ∀ (j : Nat) u, xs.toList[j]? = some u → (w.alloc (.cells xs T)).cell? ((⟨w.heap.size, 0, none⟩ : Addr).add j) = some u := by
  intro j u hu
  rw [add_none]
  have := cell_of_row (w.alloc (.cells xs T)) w.heap.size j xs T (0, 0) (heap_alloc_new w _)
  simp only [Nat.zero_add]
  rw [this]; simpa using hu

/-- A row just laid reads as what was laid. -/
theorem Rd.new (w : World) (xs : Array Value) (T : TypeId) (sz n : Nat) (h : xs.size = n * sz) (hm : n ≤ maxLen) : Rd (w.alloc (.cells xs T)) sz (.slice (some ⟨w.heap.size, 0, none⟩) n n) n xs.toList := by
  refine ⟨by simpa using h, .inr ⟨⟨w.heap.size, 0, none⟩, n, rfl, Nat.le_refl _, hm, fun j u hu => ?_⟩⟩
  rw [add_none]
  have := cell_of_row (w.alloc (.cells xs T)) w.heap.size j xs T (0, 0) (heap_alloc_new w _)
  simp only [Nat.zero_add]
  rw [this]; simpa using hu

theorem Rd.newF (w : World) (xs : Array Value) (T : TypeId) (fr : Nat × Nat) (sz n : Nat) (h : xs.size = n * sz) (hm : n ≤ maxLen) : Rd (w.alloc (.cells xs T fr)) sz (.slice (some ⟨w.heap.size, 0, none⟩) n n) n xs.toList := by
  refine ⟨by simpa using h, .inr ⟨⟨w.heap.size, 0, none⟩, n, rfl, Nat.le_refl _, hm, fun j u hu => ?_⟩⟩
  rw [add_none]
  have := cell_of_row (w.alloc (.cells xs T fr)) w.heap.size j xs T fr (heap_alloc_new w _)
  simp only [Nat.zero_add]
  rw [this]; simpa using hu

theorem alloc_size (w : World) (o : Obj) : (w.alloc o).heap.size = w.heap.size + 1 := by simp

/-- A part of a slice reads as that part. -/
theorem Rd.part {w : World} {sz n c : Nat} {a : Option Addr} {xs : List Value} (h : Rd w sz (.slice a n c) n xs) (l m : Nat) (h1 : l ≤ m) (h2 : m ≤ n) :
    ∃ a' c', sliced a l m c sz = .slice a' (m - l) c' ∧ Rd w sz (.slice a' (m - l) c') (m - l) ((xs.drop (l * sz)).take ((m - l) * sz)) := by
  have hlen : ((xs.drop (l * sz)).take ((m - l) * sz)).length = (m - l) * sz := by
    rw [List.length_take, List.length_drop, h.1, ← Nat.sub_mul]
    exact Nat.min_eq_left (Nat.mul_le_mul_right _ (by omega))
  rcases h.2 with ⟨he, rfl⟩ | ⟨x, cap, he, hc, hm, hx⟩
  · simp only [Value.slice.injEq] at he
    obtain ⟨rfl, _, rfl⟩ := he
    have : m = 0 := by omega
    subst this
    have : l = 0 := by omega
    subst this
    exact ⟨none, 0, rfl, hlen, .inl ⟨rfl, rfl⟩⟩
  · simp only [Value.slice.injEq] at he
    obtain ⟨rfl, _, rfl⟩ := he
    by_cases hcl : c = l
    · subst hcl
      have : m = c := by omega
      subst this
      refine ⟨some x, m - m, by simp [sliced], hlen, .inr ⟨x, m - m, rfl, by omega, by omega, fun j u hu => ?_⟩⟩
      simp at hu
    · refine ⟨some (x.add (l * sz)), c - l, by simp [sliced, hcl], hlen, .inr ⟨x.add (l * sz), c - l, rfl, by omega, by omega, fun j u hu => ?_⟩⟩
      rw [List.getElem?_take] at hu
      split at hu
      · rw [List.getElem?_drop] at hu
        have := hx _ u hu
        rw [Addr.add_add]; exact this
      · cases hu

/-- A part of a slice, told once for all worlds. -/
theorem part_all (ad : Option Addr) (n c sz l m : Nat) (h1 : l ≤ m) (h2 : m ≤ n) : ∃ a' c', sliced ad l m c sz = .slice a' (m - l) c' ∧
    ∀ w0 xs, Rd w0 sz (.slice ad n c) n xs → Rd w0 sz (.slice a' (m - l) c') (m - l) ((xs.drop (l * sz)).take ((m - l) * sz)) := by
  refine ⟨_, _, rfl, fun w0 xs h => ?_⟩
  obtain ⟨a', c', e, r⟩ := h.part l m h1 h2
  have e' : sliced ad l m c sz = .slice (if c = l then ad else ad.map (·.add (l * sz))) (m - l) (c - l) := rfl
  rw [e'] at e
  simp only [Value.slice.injEq] at e
  obtain ⟨e1, _, e3⟩ := e
  rw [e1, e3]; exact r

theorem Rd.cap {w : World} {sz n c : Nat} {a : Option Addr} {xs : List Value} (h : Rd w sz (.slice a n c) n xs) : n ≤ c := by
  rcases h.2 with ⟨he, rfl⟩ | ⟨y, cap, he, hc, _, _⟩
  · omega
  · simp only [Value.slice.injEq] at he; omega

theorem wpList_slice_lh {P : Program} {ops : Array Oper} {rest : List Oper} {o : Oper} {a : Act} {w : World} {Q : Exit → Act → World → Prop} (hgd : o.guard = none) (t : TypeId) (x lo hi : Operand)
    (ho : o.op = .slice t x (some lo) (some hi) none) (ht : P.underlying t = some (.slice (P.elem t))) (sz : Nat) (hsz : (P.info? (P.elem t)).map (·.size) = some sz)
    (ad : Option Addr) (n c : Nat) (hx : a.eval x = .slice ad n c) (kl kh : IntKind) (L H : Int) (hl : a.eval lo = .int kl L) (hh : a.eval hi = .int kh H) (l m : Nat) (eL : L = (l : Int)) (eH : H = (m : Int))
    (hnc : n ≤ c) (h1 : l ≤ m) (h2 : m ≤ n)
    (hK : ∀ a' c', (∀ w0 xs, Rd w0 sz (.slice ad n c) n xs → Rd w0 sz (.slice a' (m - l) c') (m - l) ((xs.drop (l * sz)).take ((m - l) * sz))) → wpList P ops Q rest (a.put o.dst (.slice a' (m - l) c')) w) : wpList P ops Q (o :: rest) a w := by
  refine wpList_plain hgd fun K hK' => ?_
  subst eL eH
  obtain ⟨a', c', e, r⟩ := part_all ad n c sz l m h1 h2
  have hs : (sizeOf (P.elem t)).run P w = .ok sz w := by
    obtain ⟨i, hi1, hi2⟩ := Option.map_eq_some_iff.1 hsz
    simp [sizeOf, typeInfo, hi1, hi2]
  have hrun := run_slice_lh (P := P) (w := w) t ad n c ht kl kh (l : Int) (m : Int) (by omega) (by omega) (by omega)
  have hat := run_sliceAt_slice (P := P) (w := w) t (.slice ad n c) (some (.int kl (l : Int))) (some (.int kh (m : Int))) none ht
  unfold Oper.wp
  simp only [execOp, ho, hx, hl, hh, Option.map_some, Option.map_none, hat, hrun, hs, Sem.run_bind, Sem.run_pure, Result.andThen, Int.toNat_natCast, e]
  exact hK' _ _ (hK a' c' r)

theorem wpList_slice_l {P : Program} {ops : Array Oper} {rest : List Oper} {o : Oper} {a : Act} {w : World} {Q : Exit → Act → World → Prop} (hgd : o.guard = none) (t : TypeId) (x lo : Operand)
    (ho : o.op = .slice t x (some lo) none none) (ht : P.underlying t = some (.slice (P.elem t))) (sz : Nat) (hsz : (P.info? (P.elem t)).map (·.size) = some sz)
    (ad : Option Addr) (n c : Nat) (hx : a.eval x = .slice ad n c) (kl : IntKind) (L : Int) (hl : a.eval lo = .int kl L) (l : Nat) (eL : L = (l : Int))
    (h1 : l ≤ n)
    (hK : ∀ a' c', (∀ w0 xs, Rd w0 sz (.slice ad n c) n xs → Rd w0 sz (.slice a' (n - l) c') (n - l) (xs.drop (l * sz))) → wpList P ops Q rest (a.put o.dst (.slice a' (n - l) c')) w) : wpList P ops Q (o :: rest) a w := by
  refine wpList_plain hgd fun K hK' => ?_
  subst eL
  obtain ⟨a', c', e, r'⟩ := part_all ad n c sz l n h1 (Nat.le_refl _)
  have r : ∀ w0 xs, Rd w0 sz (.slice ad n c) n xs → Rd w0 sz (.slice a' (n - l) c') (n - l) (xs.drop (l * sz)) := fun w0 xs h => by
    have := r' w0 xs h
    rwa [List.take_of_length_le (by rw [List.length_drop, h.1, ← Nat.sub_mul]; exact Nat.le_refl _)] at this
  have hs : (sizeOf (P.elem t)).run P w = .ok sz w := by
    obtain ⟨i, hi1, hi2⟩ := Option.map_eq_some_iff.1 hsz
    simp [sizeOf, typeInfo, hi1, hi2]
  have hrun := run_slice_l (P := P) (w := w) t ad n c ht kl (l : Int) (by omega) (by omega)
  have hat := run_sliceAt_slice (P := P) (w := w) t (.slice ad n c) (some (.int kl (l : Int))) none none ht
  unfold Oper.wp
  simp only [execOp, ho, hx, hl, Option.map_some, Option.map_none, hat, hrun, hs, Sem.run_bind, Sem.run_pure, Result.andThen, Int.toNat_natCast, e]
  exact hK' _ _ (hK a' c' r)

theorem wpList_slice_h {P : Program} {ops : Array Oper} {rest : List Oper} {o : Oper} {a : Act} {w : World} {Q : Exit → Act → World → Prop} (hgd : o.guard = none) (t : TypeId) (x hi : Operand)
    (ho : o.op = .slice t x none (some hi) none) (ht : P.underlying t = some (.slice (P.elem t))) (sz : Nat) (hsz : (P.info? (P.elem t)).map (·.size) = some sz)
    (ad : Option Addr) (n c : Nat) (hx : a.eval x = .slice ad n c) (kh : IntKind) (H : Int) (hh : a.eval hi = .int kh H) (m : Nat) (eH : H = (m : Int))
    (hnc : n ≤ c) (h2 : m ≤ n)
    (hK : ∀ a' c', (∀ w0 xs, Rd w0 sz (.slice ad n c) n xs → Rd w0 sz (.slice a' m c') m (xs.take (m * sz))) → wpList P ops Q rest (a.put o.dst (.slice a' m c')) w) : wpList P ops Q (o :: rest) a w := by
  refine wpList_plain hgd fun K hK' => ?_
  subst eH
  obtain ⟨a', c', e, r⟩ := part_all ad n c sz 0 m (Nat.zero_le _) h2
  simp only [Nat.zero_mul, List.drop_zero, Nat.sub_zero] at e r
  have hs : (sizeOf (P.elem t)).run P w = .ok sz w := by
    obtain ⟨i, hi1, hi2⟩ := Option.map_eq_some_iff.1 hsz
    simp [sizeOf, typeInfo, hi1, hi2]
  have hrun := run_slice_h (P := P) (w := w) t ad n c ht kh (m : Int) (by omega) (by omega)
  have hat := run_sliceAt_slice (P := P) (w := w) t (.slice ad n c) none (some (.int kh (m : Int))) none ht
  unfold Oper.wp
  simp only [execOp, ho, hx, hh, Option.map_some, Option.map_none, hat, hrun, hs, Sem.run_bind, Sem.run_pure, Result.andThen, Int.toNat_natCast, e]
  exact hK' _ _ (hK a' c' r)

theorem take_drop_take {α : Type} (l : List α) (n m : Nat) (h : n ≤ m) (hm : m ≤ l.length) : l.take n ++ (l.drop n).take (m - n) = l.take m := by
  obtain ⟨d, rfl⟩ : ∃ d, m = n + d := ⟨m - n, by omega⟩
  rw [show n + d - n = d by omega, List.take_add]

theorem owns_at {w : World} {base e sz n c : Nat} {a : Option Addr} {xs : List Value} (h : w.ownsRow base e sz (.slice a n c) n xs) (hn : 0 < n) : ∃ g, a = some ⟨g, 0, none⟩ ∧ base ≤ g := by
  rcases h.2 with ⟨_, rfl⟩ | ⟨g, cap, cur, he, hb, _⟩
  · omega
  · simp only [Value.slice.injEq] at he
    exact ⟨g, he.1, hb⟩

/-- A slice expression's run, where it stands in a region that draws its order: a fact for each. -/
theorem run_cut_h {P : Program} (t : TypeId) (ht : P.underlying t = some (.slice (P.elem t))) (sz : Nat) (hsz : (P.info? (P.elem t)).map (·.size) = some sz) (ad : Option Addr) (n c m : Nat) (k : IntKind) (hm : m ≤ c) (W : World) :
    (Instr.sliceAt t (.slice ad n c) none (some (.int k (m : Int))) none).run P W = .ok (sliced ad 0 m c sz) W := by
  have hs : (sizeOf (P.elem t)).run P W = .ok sz W := by
    obtain ⟨i, hi1, hi2⟩ := Option.map_eq_some_iff.1 hsz
    simp [sizeOf, typeInfo, hi1, hi2]
  rw [run_sliceAt_slice W t _ _ _ _ ht, run_slice_h W t ad n c ht k (m : Int) (by omega) (by omega), hs]
  simp [Result.andThen]
theorem run_cut_l {P : Program} (t : TypeId) (ht : P.underlying t = some (.slice (P.elem t))) (sz : Nat) (hsz : (P.info? (P.elem t)).map (·.size) = some sz) (ad : Option Addr) (n c l : Nat) (k : IntKind) (hl : l ≤ n) (W : World) :
    (Instr.sliceAt t (.slice ad n c) (some (.int k (l : Int))) none none).run P W = .ok (sliced ad l n c sz) W := by
  have hs : (sizeOf (P.elem t)).run P W = .ok sz W := by
    obtain ⟨i, hi1, hi2⟩ := Option.map_eq_some_iff.1 hsz
    simp [sizeOf, typeInfo, hi1, hi2]
  rw [run_sliceAt_slice W t _ _ _ _ ht, run_slice_l W t ad n c ht k (l : Int) (by omega) (by omega), hs]
  simp [Result.andThen]
theorem run_cut_lh {P : Program} (t : TypeId) (ht : P.underlying t = some (.slice (P.elem t))) (sz : Nat) (hsz : (P.info? (P.elem t)).map (·.size) = some sz) (ad : Option Addr) (n c l m : Nat) (k k' : IntKind) (hl : l ≤ m) (hm : m ≤ c) (W : World) :
    (Instr.sliceAt t (.slice ad n c) (some (.int k (l : Int))) (some (.int k' (m : Int))) none).run P W = .ok (sliced ad l m c sz) W := by
  have hs : (sizeOf (P.elem t)).run P W = .ok sz W := by
    obtain ⟨i, hi1, hi2⟩ := Option.map_eq_some_iff.1 hsz
    simp [sizeOf, typeInfo, hi1, hi2]
  rw [run_sliceAt_slice W t _ _ _ _ ht, run_slice_lh W t ad n c ht k k' (l : Int) (m : Int) (by omega) (by omega) (by omega), hs]
  simp [Result.andThen]

/-- A byte as a cell. -/
def bv (c : UInt8) : Value := .int .u8 c.toNat
def bvs (l : List UInt8) : List Value := l.map bv
@[simp] theorem bvs_length (l : List UInt8) : (bvs l).length = l.length := by simp [bvs]
theorem bvs_at (l : List UInt8) (k : Nat) (h : k < l.length) : (bvs l)[k]? = some (.int .u8 ((l[k].toNat : Nat) : Int)) := by
  simp [bvs, bv, h]
theorem bvs_append (a b : List UInt8) : bvs (a ++ b) = bvs a ++ bvs b := by simp [bvs]
theorem bvs_one (l : List UInt8) : ∀ u ∈ bvs l, u.oneCell' = true := by
  intro u hu
  obtain ⟨c, _, rfl⟩ := List.mem_map.1 hu
  rfl

theorem bvs_take_succ (l : List UInt8) (k : Nat) (h : k < l.length) : bvs (l.take k) ++ [.int .u8 ((l[k].toNat : Nat) : Int)] = bvs (l.take (k + 1)) := by
  rw [List.take_succ_eq_append_getElem h, bvs_append]; rfl

theorem u8x (x y : UInt8) : bits .xor .u8 ((x.toNat : Nat) : Int) ((y.toNat : Nat) : Int) = (((x ^^^ y).toNat : Nat) : Int) := by
  rw [u8_xor_nat _ _ x.toNat_lt y.toNat_lt, UInt8.toNat_xor]

theorem bvs_set (l : List UInt8) (k : Nat) (c : UInt8) : (bvs l).set k (.int .u8 ((c.toNat : Nat) : Int)) = bvs (l.set k c) := by
  simp only [bvs, List.map_set]; rfl

theorem i64_and1 (n : Int) : bits .and .i64 n 1 = n % 2 := by
  have h1 : (BitVec.ofInt 64 1).toNat = 2 ^ 1 - 1 := by decide
  have key : (BitVec.ofInt 64 n &&& BitVec.ofInt 64 1).toNat = (n % ((2 ^ 64 : Nat) : Int)).toNat % 2 ^ 1 := by
    rw [BitVec.toNat_and, BitVec.toNat_ofInt, h1, Nat.and_two_pow_sub_one_eq_mod]
  show IntKind.i64.wrap ((BitVec.ofInt 64 n &&& BitVec.ofInt 64 1).toNat : Nat) = n % 2
  rw [key, IntKind.wrap_i64]
  omega

/-- One byte more, in whatever words its number is written. -/
theorem bvs_snoc (l em : List UInt8) (c : UInt8) (x : Int) (h : x = c.toNat) : bvs (l ++ em) ++ [.int .u8 x] = bvs (l ++ (em ++ [c])) := by
  subst h; simp [bvs, bv]

theorem or128 (m : Nat) : bits .or .u8 ((m : Int) % 256) 128 = ((UInt8.ofNat (m % 128 + 128)).toNat : Int) := by
  have e : ((m : Int) % 256) = ((m % 256 : Nat) : Int) := by omega
  have h := u8_or_nat (m % 256) 128 (by omega) (by omega)
  rw [e]
  refine (h.trans ?_)
  have h2 : (UInt8.ofNat (m % 128 + 128)).toNat = m % 128 + 128 := by
    rw [UInt8.toNat_ofNat']; omega
  rw [h2]
  have h3 : ∀ k, k < 256 → k ||| 128 = k % 128 + 128 := by decide +kernel
  rw [h3 _ (by omega)]
  omega

theorem byte_small (m : Nat) (h : m < 256) : (m : Int) = ((UInt8.ofNat m).toNat : Int) := by
  rw [UInt8.toNat_ofNat']; omega

theorem tmod_bd (n b : Int) (hb : 1 ≤ b) : -b < n.tmod b ∧ n.tmod b < b := by
  rcases Int.lt_or_le n 0 with h | h
  · obtain ⟨k, rfl⟩ : ∃ k, n = -k := ⟨-n, by omega⟩
    rw [Int.neg_tmod, Int.tmod_eq_emod_of_nonneg (by omega)]
    have h1 := Int.emod_nonneg k (show b ≠ 0 by omega)
    have h2 := Int.emod_lt_of_pos k (show 0 < b by omega)
    omega
  · rw [Int.tmod_eq_emod_of_nonneg h]
    have h1 := Int.emod_nonneg n (show b ≠ 0 by omega)
    have h2 := Int.emod_lt_of_pos n (show 0 < b by omega)
    omega

theorem emod_of_tmod (n b : Int) (hb : 1 ≤ b) : n % b = if n.tmod b < 0 then n.tmod b + b else n.tmod b := by
  have hbd := tmod_bd n b hb
  have hd := Int.mul_tdiv_add_tmod n b
  split
  · rename_i h
    conv => lhs; rw [← hd]
    rw [Int.add_comm, Int.add_mul_emod_self_left, ← Int.add_emod_right]
    exact Int.emod_eq_of_lt (by omega) (by omega)
  · rename_i h
    conv => lhs; rw [← hd]
    rw [Int.add_comm, Int.add_mul_emod_self_left]
    exact Int.emod_eq_of_lt (by omega) (by omega)

theorem not64 (k : Nat) (h : k < 18446744073709551616) : k ^^^ 18446744073709551615 = 18446744073709551615 - k := by
  have h1 : (BitVec.ofNat 64 k ^^^ BitVec.allOnes 64).toNat = (~~~ BitVec.ofNat 64 k).toNat := by rw [BitVec.xor_allOnes]
  rw [BitVec.toNat_xor, BitVec.toNat_not, BitVec.toNat_allOnes, BitVec.toNat_ofNat, Nat.mod_eq_of_lt (by simpa using h)] at h1
  simpa using h1

end Go.Proofs.YtjhebnjajnjhhaaDoor
