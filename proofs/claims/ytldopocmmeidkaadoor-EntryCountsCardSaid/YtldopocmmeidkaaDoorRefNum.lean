/- cordwoodref11.num: a number's bytes behind a list. -/
import Derived.Test.YtldopocmmeidkaaDoorManBytes
import Derived.Test.YtldopocmmeidkaaDoorRefPutInt
import Derived.Test.YtldopocmmeidkaaDoorRefSeal
namespace Go.Proofs.YtldopocmmeidkaaDoor
open Go Go.RowKit Man Vint Crc

/-- What is no row of bytes is as it was. -/
def Kept (w w' : World) : Prop := ∀ (k : Nat) (c : Array Value) (t : TypeId) (f : Nat × Nat), w.heap[k]? = some (.cells c t f) → 5 ≠ t → w'.heap[k]? = some (.cells c t f)
theorem Kept.trans {w w1 w2 : World} (h : Kept w w1) (h2 : Kept w1 w2) : Kept w w2 := fun k c t f hk ht => h2 k c t f (h k c t f hk ht) ht
theorem Kept.of_below {w w' : World} (b : Below w.heap.size w w') : Kept w w' := fun _ _ _ _ hk _ => heap_below b hk
theorem owns_rowIs2 {w : World} {base e sz n : Nat} {v : Value} {xs : List Value} (h : w.ownsRow base e sz v n xs) : ∀ k, v.ownBlock = some k → ∃ c f, w.heap[k]? = some (.cells c e f) := by
  intro k hk
  rcases h.2 with ⟨rfl, _⟩ | ⟨g, cap, cur, rfl, _, hg, _⟩
  · simp [Value.ownBlock] at hk
  · simp only [Value.ownBlock, Option.some.injEq] at hk
    subst hk
    exact ⟨_, _, hg⟩
theorem owns_ne2 {w : World} {base e sz n g : Nat} {v : Value} {xs : List Value} {c : Array Value} {t : TypeId} {f : Nat × Nat} (h : w.ownsRow base e sz v n xs) (hg : w.heap[g]? = some (.cells c t f)) (ht : e ≠ t) : v.ownBlock ≠ some g := by
  intro e1
  obtain ⟨c', f', h'⟩ := owns_rowIs2 h g e1
  exact row_ne hg h' ht rfl
theorem Kept.of_grown {w w' : World} {base n : Nat} {v : Value} {xs : List Value} (g : w.grownBy w' v.ownBlock) (h : w.ownsRow base 5 1 v n xs) : Kept w w' := fun k _ _ _ hk ht =>
  (g.block k (Array.getElem?_eq_some_iff.1 hk).1 (fun e => owns_ne2 h hk ht e.symm)).trans hk

/-- The same behind a row of one's own: it grows in place or anew. -/
def NumPost (w0 : World) (em t : List UInt8) (w : World) (e : Ending) (w' : World) : Prop :=
  ∃ (v : Value) (em' : List UInt8), e = .returned v ∧ Hid (em' = em ++ t) ∧ em'.length ≤ em.length + 10 ∧ w'.ownsRow w0.heap.size 5 1 v em'.length (bvs em') ∧ Below w0.heap.size w0 w' ∧ Kept w w'

theorem wp_append_str {P : Program} {o : Oper} {a : Act} {w : World} {K : Act → World → Prop} {Q : Exit → Act → World → Prop} (sl x : Operand) (t u : TypeId)
    (ho : o.op = .call { callee := .builtin .append, args := #[sl, x], argTypes := #[t, u] })
    (base : Nat) (e : TypeId) (i : TypeInfo) (ht : P.underlying t = some (.slice e)) (hu : P.underlying u = some .string) (hi : P.info? e = some i) (hz : i.zero = some (.int .u8 0))
    (hsize : i.size = 1) (hby : i.bytes = 1)
    (v : Value) (n : Nat) (xs : List Value) (hs : a.eval sl = v) (hown : w.ownsRow base e 1 v n xs) (s : ByteArray) (hx : a.eval x = .string s)
    (h63 : n + s.size ≤ maxLen) (hbytes : n + s.size ≤ 140737488355328) (hbase : base ≤ w.heap.size)
    (h : ∀ v' w', w'.ownsRow base e 1 v' (n + s.size) (xs ++ Lib.strCells s) → w.grownBy w' v.ownBlock → K (a.put o.dst v') w') : o.wp P a w K Q := by
  obtain ⟨v', w', hr, h2, h3, _⟩ := Lib.run_append_own_string (P := P) w base t u o.type e i ht hu hi hz hsize hby v n xs hown s h63 hbytes hbase
  unfold Oper.wp execOp
  simp only [ho, resolve, invoke, builtin, Sem.run_bind, Sem.run_pure, Result.andThen_ok, List.map_toArray, List.map_cons, List.map_nil, hs, hx, hr]
  exact h v' w' h2 h3

set_option maxRecDepth 100000 in
set_option maxHeartbeats 1000000 in
theorem num_calls (w0 : World) (v : Value) (em : List UInt8) (n : Int) (w : World) (hb : Below w0.heap.size w0 w) (ho : w.ownsRow w0.heap.size 5 1 v em.length (bvs em)) (hl : em.length ≤ 1000000) :
    Calls Tryd.prog 41 #[v, .int .i64 n] w (NumPost w0 em (putL (u64 n)) w) := by
  obtain ⟨i0, hi0, hz0, hz1, hz2⟩ := info_parts info_u8
  have u1 := u64_wrap n
  have l1 := u64_lt n
  generalize u64 n = x at *
  have hp := refPut_calls x w l1
  have h10 := putL_len10 x l1
  obtain ⟨a, c, rfl⟩ := owns_slice ho
  obtain ⟨P, hP⟩ : ∃ P, P = putL x := ⟨_, rfl⟩
  rw [← hP] at hp h10 ⊢
  clear hP
  go_enter Tryd.func41, Tryd.ntmps41
  go_wp2_with fail
  with_reducible refine hp.mono ?_
  rintro e w1 ⟨v1, rfl, o1, b1⟩
  have r1 := Rd.of_owns o1
  have o0 := owns_below ho b1
  have B1 := nxt hb b1
  have hs := B1.size
  obtain ⟨a1, c1, rfl⟩ := owns_slice o1
  clear hp o1
  go_wp2_with (at_builtin; refine wpList_append_rdg rfl _ _ 30 rfl w0.heap.size 5 i0 (.int .u8 0) 1 1 Tryd.underlying30 hi0 hz0 hz1 hz2 rfl (by decide) _ em.length (bvs em) rfl o0 _ _ (bvs P) rfl r1 (bvs_one _) ?c3 ?c4 ?c5 ?_)
  case c3 => unfold maxLen; omega
  case c4 => omega
  case c5 => exact hs
  intro v4 w4 o4 gr Tr
  have B4 : Below w0.heap.size w0 w4 := Tr w0 B1 (Nat.le_refl _)
  have K4 : Kept w w4 := (Kept.of_below b1).trans (Kept.of_grown gr o0)
  clear Tr gr
  go_wp2_with fail
  go_ret
  exact ⟨v4, em ++ P, rfl, Lib.hid rfl, by simp; omega, by rw [List.length_append, bvs_append]; exact o4, B4, K4⟩
end Go.Proofs.YtldopocmmeidkaaDoor
