/- cordwoodref11.num: a number's bytes behind a list. Merged of: RefNum, RefManBytes. -/
import Derived.Test.YtldopocmmeidkaaDoorManBy
import Derived.Test.YtldopocmmeidkaaDoorRefPutInt
import Derived.Test.YtldopocmmeidkaaDoorRefSeal
import Derived.Deep.RegionWith

/-! cordwoodref11.num: a number's bytes behind a list. -/
namespace Go.Proofs.YtldopocmmeidkaaDoor
open Go Go.RowKit Man Vint Crc

/-- What is no row of bytes is as it was. -/
def Kept (w w' : World) : Prop := ∀ (k : Nat) (c : Array Value) (t : TypeId) (f : Nat × Nat), w.heap[k]? = some (.cells c t f) → 5 ≠ t → w'.heap[k]? = some (.cells c t f)
theorem Kept.trans {w w1 w2 : World} (h : Kept w w1) (h2 : Kept w1 w2) : Kept w w2 := fun k c t f hk ht => h2 k c t f (h k c t f hk ht) ht
theorem Kept.of_below {w w' : World} (b : Below w.heap.size w w') : Kept w w' := fun _ _ _ _ hk _ => heap_below b hk
theorem owns_rowIs2 {w : World} {base e sz n : Nat} {v : Value} {xs : List Value} (h : w.ownsRow base e sz v n xs) : ∀ k, v.ownBlock = some k → ∃ c f, w.heap[k]? = some (.cells c e f) := by
  intro k hk
  rcases h.2 with ⟨rfl, _⟩ | ⟨g, cap, cur, rfl, _, hg, _⟩
  · simp [Value.ownBlock] at hk
  · simp only [Value.ownBlock, Option.some.injEq] at hk
    subst hk
    exact ⟨_, _, hg⟩
theorem owns_ne2 {w : World} {base e sz n g : Nat} {v : Value} {xs : List Value} {c : Array Value} {t : TypeId} {f : Nat × Nat} (h : w.ownsRow base e sz v n xs) (hg : w.heap[g]? = some (.cells c t f)) (ht : e ≠ t) : v.ownBlock ≠ some g := by
  intro e1
  obtain ⟨c', f', h'⟩ := owns_rowIs2 h g e1
  exact row_ne hg h' ht rfl
theorem Kept.of_grown {w w' : World} {base n : Nat} {v : Value} {xs : List Value} (g : w.grownBy w' v.ownBlock) (h : w.ownsRow base 5 1 v n xs) : Kept w w' := fun k _ _ _ hk ht =>
  (g.block k (Array.getElem?_eq_some_iff.1 hk).1 (fun e => owns_ne2 h hk ht e.symm)).trans hk

/-- The same behind a row of one's own: it grows in place or anew. -/
def NumPost (w0 : World) (em t : List UInt8) (w : World) (e : Ending) (w' : World) : Prop :=
  ∃ (v : Value) (em' : List UInt8), e = .returned v ∧ Hid (em' = em ++ t) ∧ em'.length ≤ em.length + 10 ∧ w'.ownsRow w0.heap.size 5 1 v em'.length (bvs em') ∧ Below w0.heap.size w0 w' ∧ Kept w w'

theorem wp_append_str {P : Program} {o : Oper} {a : Act} {w : World} {K : Act → World → Prop} {Q : Exit → Act → World → Prop} (sl x : Operand) (t u : TypeId)
    (ho : o.op = .call { callee := .builtin .append, args := #[sl, x], argTypes := #[t, u] })
    (base : Nat) (e : TypeId) (i : TypeInfo) (ht : P.underlying t = some (.slice e)) (hu : P.underlying u = some .string) (hi : P.info? e = some i) (hz : i.zero = some (.int .u8 0))
    (hsize : i.size = 1) (hby : i.bytes = 1)
    (v : Value) (n : Nat) (xs : List Value) (hs : a.eval sl = v) (hown : w.ownsRow base e 1 v n xs) (s : ByteArray) (hx : a.eval x = .string s)
    (h63 : n + s.size ≤ maxLen) (hbytes : n + s.size ≤ 140737488355328) (hbase : base ≤ w.heap.size)
    (h : ∀ v' w', w'.ownsRow base e 1 v' (n + s.size) (xs ++ Lib.strCells s) → w.grownBy w' v.ownBlock → K (a.put o.dst v') w') : o.wp P a w K Q := by
  obtain ⟨v', w', hr, h2, h3, _⟩ := Lib.run_append_own_string (P := P) w base t u o.type e i ht hu hi hz hsize hby v n xs hown s h63 hbytes hbase
  unfold Oper.wp execOp
  simp only [ho, resolve, invoke, builtin, Sem.run_bind, Sem.run_pure, Result.andThen_ok, List.map_toArray, List.map_cons, List.map_nil, hs, hx, hr]
  exact h v' w' h2 h3

set_option maxRecDepth 100000 in
set_option maxHeartbeats 1000000 in
theorem rnum_calls (w0 : World) (v : Value) (em : List UInt8) (n : Int) (w : World) (hb : Below w0.heap.size w0 w) (ho : w.ownsRow w0.heap.size 5 1 v em.length (bvs em)) (hl : em.length ≤ 1000000) :
    Calls Tryd.prog 41 #[v, .int .i64 n] w (NumPost w0 em (putL (u64 n)) w) := by
  obtain ⟨i0, hi0, hz0, hz1, hz2⟩ := info_parts info_u8
  have u1 := u64_wrap n
  have l1 := u64_lt n
  generalize u64 n = x at *
  have hp := refPut_calls x w l1
  have h10 := putL_len10 x l1
  obtain ⟨a, c, rfl⟩ := owns_slice ho
  obtain ⟨P, hP⟩ : ∃ P, P = putL x := ⟨_, rfl⟩
  rw [← hP] at hp h10 ⊢
  clear hP
  go_enter Tryd.func41, Tryd.ntmps41
  go_wp2_with fail
  with_reducible refine hp.mono ?_
  rintro e w1 ⟨v1, rfl, o1, b1⟩
  have r1 := Rd.of_owns o1
  have o0 := owns_below ho b1
  have B1 := nxt hb b1
  have hs := B1.size
  obtain ⟨a1, c1, rfl⟩ := owns_slice o1
  clear hp o1
  go_wp2_with (at_builtin; refine wpList_append_rdg rfl _ _ 30 rfl w0.heap.size 5 i0 (.int .u8 0) 1 1 Tryd.underlying30 hi0 hz0 hz1 hz2 rfl (by decide) _ em.length (bvs em) rfl o0 _ _ (bvs P) rfl r1 (bvs_one _) ?c3 ?c4 ?c5 ?_)
  case c3 => unfold maxLen; omega
  case c4 => omega
  case c5 => exact hs
  intro v4 w4 o4 gr Tr
  have B4 : Below w0.heap.size w0 w4 := Tr w0 B1 (Nat.le_refl _)
  have K4 : Kept w w4 := (Kept.of_below b1).trans (Kept.of_grown gr o0)
  clear Tr gr
  go_wp2_with fail
  go_ret
  exact ⟨v4, em ++ P, rfl, Lib.hid rfl, by simp; omega, by rw [List.length_append, bvs_append]; exact o4, B4, K4⟩
end Go.Proofs.YtldopocmmeidkaaDoor

/-! The document's ManifestBytes. -/
namespace Go.Proofs.YtldopocmmeidkaaDoor
open Go Go.RowKit Man Vint Crc

theorem u64_nat (n : Nat) (h : n < 18446744073709551616) : u64 (n : Int) = n := by unfold u64; omega

set_option maxRecDepth 100000 in
set_option maxHeartbeats 4000000 in
theorem refManBytes_calls {w : World} {m : ManD} {ve vo : Value} (h : ManRd w m ve vo) (hs : Small m) (hk : Man.Ok m) :
    Calls Tryd.prog 13 #[manA m ve vo] w (NewRow 5 1 (sealed (mbody m)).length (bvs (sealed (mbody m))) w) := by
  obtain ⟨i0, hi0, hz0, hz1, hz2⟩ := info_parts info_u8
  obtain ⟨re, ro⟩ := h
  obtain ⟨ae, ce, rfl⟩ := re.slice
  obtain ⟨ao, co, rfl⟩ := ro.slice
  have me := re.len_le
  have mo := ro.len_le
  have hs1 := hs.1
  have hs2 := hs.2.1
  have HN := Lib.hid hs.2.2
  have HOK := Lib.hid hk
  have b1 := below_alloc w (.cells #[.int .i64 m.id, .int .i64 m.base, .int .i64 m.fin, .int .i64 m.time, .slice ae m.eps.length ce, .slice ao m.objs.length co] 25)
  have row1 := heap_alloc_new w (.cells #[.int .i64 m.id, .int .i64 m.base, .int .i64 m.fin, .int .i64 m.time, .slice ae m.eps.length ce, .slice ao m.objs.length co] 25)
  unfold manA
  clear hs hk
  obtain ⟨id, ba, fi, ti, eps, objs⟩ := m
  simp only at re ro me mo hs1 hs2 HN HOK b1 row1 ⊢
  obtain ⟨M, hM⟩ : ∃ M : ManD, M = ⟨id, ba, fi, ti, eps, objs⟩ := ⟨_, rfl⟩
  rw [← hM] at HOK ⊢
  have HMB := Lib.hid (show mbody M = putL (u64 id) ++ (putL (u64 ba) ++ (putL (u64 fi) ++ (putL (fold ti) ++ (putL eps.length ++ (eps.flatMap Man.pairL ++ (putL objs.length ++ objs.flatMap objL)))))) by rw [hM]; rfl)
  have HO := Lib.hid (show ∀ o ∈ objs, I64 o.len ∧ o.sum < 4294967296 by have := HOK.out.objs; rw [hM] at this; exact this)
  have hti : I64 ti := by have := HOK.out.time; rw [hM] at this; exact this
  clear hM HOK
  obtain ⟨R, hR⟩ : ∃ R, R = sealed (mbody M) := ⟨_, rfl⟩
  rw [← hR]
  have HR := Lib.hid hR
  clear hR
  go_enter Tryd.func13, Tryd.ntmps13
  go_upto_region 1 with fail
  obtain ⟨w1, hw1⟩ : ∃ w1, w1 = w.alloc (.cells #[.int .i64 id, .int .i64 ba, .int .i64 fi, .int .i64 ti, .slice ae eps.length ce, .slice ao objs.length co] 25) := ⟨_, rfl⟩
  obtain ⟨g, hg⟩ : ∃ g, g = w.heap.size := ⟨_, rfl⟩
  rw [← hw1] at b1 row1 ⊢
  rw [← hg] at row1 ⊢
  clear hw1 hg
  have D : ∀ W, Below w1.heap.size w1 W → W.cell? ⟨g, 0, none⟩ = some (.int .i64 id) ∧ W.cell? ⟨g, 1, none⟩ = some (.int .i64 ba) ∧ W.cell? ⟨g, 2, none⟩ = some (.int .i64 fi) ∧ W.cell? ⟨g, 3, none⟩ = some (.int .i64 ti) ∧ W.cell? ⟨g, 4, none⟩ = some (.slice ae eps.length ce) ∧ W.cell? ⟨g, 5, none⟩ = some (.slice ao objs.length co) := fun W hB => by
    have r := heap_below hB row1
    exact ⟨cell_of_row _ _ 0 _ _ _ r, cell_of_row _ _ 1 _ _ _ r, cell_of_row _ _ 2 _ _ _ r, cell_of_row _ _ 3 _ _ _ r, cell_of_row _ _ 4 _ _ _ r, cell_of_row _ _ 5 _ _ _ r⟩
  have bD : Below w1.heap.size w1 w1.drew := (Below.refl _ _).drew
  have KK : ∀ W, Below w1.heap.size w1 W → (fun W => W.cell? ⟨g, 0, none⟩ = some (.int .i64 id) ∧ W.cell? ⟨g, 1, none⟩ = some (.int .i64 ba) ∧ W.cell? ⟨g, 2, none⟩ = some (.int .i64 fi)) W := fun W hB => ⟨(D W hB).1, (D W hB).2.1, (D W hB).2.2.1⟩
  have n1 := rnum_calls w1 (.slice none 0 0) [] id w1.drew bD (World.ownsRow_nil _ _ _ _) (by simp)
  refine wp_region_ord (S := (fun W => W.cell? ⟨g, 0, none⟩ = some (.int .i64 id) ∧ W.cell? ⟨g, 1, none⟩ = some (.int .i64 ba) ∧ W.cell? ⟨g, 2, none⟩ = some (.int .i64 fi))) [(0, true), (1, true), (3, true), (4, true), (6, true), (7, true), (2, false), (5, false), (8, false), (9, true)] (by kernel_rfl) (by kernel_rfl) rfl (by kernel_rfl) (fun _ _ _ _ _ h => h) (KK _ bD) ?_
  simp only [List.map_cons, List.map_nil, List.getElem?_toArray, List.getElem?_cons_succ, List.getElem?_cons_zero]
  iterate 6 (refine ord_take (v := ?_) (by kernel_rfl) (fun w hSw => ?_) ?_; rotate_left; (focus ((obtain ⟨s0, s1, s2⟩ := hSw); (try dsimp only at s0 s1 s2); go_simp; (first | done | with_reducible rfl))); simp only [Act.put, List.setIfInBounds_toArray, List.set_cons_zero, List.set_cons_succ])
  refine ord_do (by kernel_rfl) (fun K hK => ?_)
  go_simp
  go_at_call 41
  with_reducible refine n1.mono ?_
  rintro e w2 ⟨v2, m2, rfl, E2, hl2, o2, B2, -⟩
  have n2 := rnum_calls w1 v2 m2 ba w2 B2 o2 (by simp at hl2; omega)
  obtain ⟨a2, c2, rfl⟩ := owns_slice o2
  show K _ _
  refine hK.out _ _ (KK _ B2) ?_
  clear hK n1
  try simp only [Act.put, List.setIfInBounds_toArray, List.set_cons_zero, List.set_cons_succ]
  refine ord_do (by kernel_rfl) (fun K hK => ?_)
  go_simp
  go_at_call 41
  with_reducible refine n2.mono ?_
  rintro e w3 ⟨v3, m3, rfl, E3, hl3, o3, B3, -⟩
  have n3 := rnum_calls w1 v3 m3 fi w3 B3 o3 (by simp at hl2; omega)
  obtain ⟨a3, c3, rfl⟩ := owns_slice o3
  show K _ _
  refine hK.out _ _ (KK _ B3) ?_
  clear hK n2
  try simp only [Act.put, List.setIfInBounds_toArray, List.set_cons_zero, List.set_cons_succ]
  refine ord_do (by kernel_rfl) (fun K hK => ?_)
  go_simp
  go_at_call 41
  with_reducible refine n3.mono ?_
  rintro e w4 ⟨v4, m4, rfl, E4, hl4, o4, B4, -⟩
  have ln4 : m4.length ≤ 30 := by simp at hl2; omega
  obtain ⟨a4, c4, rfl⟩ := owns_slice o4
  show K _ _
  refine hK.out _ _ (KK _ B4) ?_
  clear hK n3
  try simp only [Act.put, List.setIfInBounds_toArray, List.set_cons_zero, List.set_cons_succ]
  refine ord_take (v := ?_) (by kernel_rfl) (fun w hSw => ?_) ?_; rotate_left; (focus ((obtain ⟨s0, s1, s2⟩ := hSw); (try dsimp only at s0 s1 s2); go_simp; (first | done | with_reducible rfl))); simp only [Act.put, List.setIfInBounds_toArray, List.set_cons_zero, List.set_cons_succ]
  refine ord_nil ?_
  have Em4 := Lib.hid (show m4 = putL (u64 id) ++ (putL (u64 ba) ++ putL (u64 fi)) by rw [E4.out, E3.out, E2.out]; simp)
  clear E4 E3 E2 hl2 hl3 hl4 o2 o3 B2 B3 KK
  obtain ⟨-, -, -, d3, -, -⟩ := D w4 B4
  have hpi := refPutInt_calls ti w4 hti
  have h10 := putL_len10 (fold ti) (fold_lt ti hti.1 hti.2)
  obtain ⟨PT, hPT⟩ : ∃ PT, PT = putL (fold ti) := ⟨_, rfl⟩
  rw [← hPT] at hpi h10 HMB
  clear hPT
  go_wp2_with fail
  with_reducible refine hpi.mono ?_
  rintro e w5 ⟨v5, rfl, o5, b5⟩
  have r5 := Rd.of_owns o5
  have o4' := owns_below o4 b5
  have B5 := nxt B4 b5
  have hs5 := B5.size
  obtain ⟨a5, c5, rfl⟩ := owns_slice o5
  clear hpi o5 o4 d3
  go_wp2_with (at_builtin; refine wpList_append_rd rfl _ _ 30 rfl w1.heap.size 5 i0 (.int .u8 0) 1 1 Tryd.underlying30 hi0 hz0 hz1 hz2 rfl (by decide) _ m4.length (bvs m4) rfl o4' _ _ (bvs PT) rfl r5 (bvs_one _) ?c3 ?c4 ?c5 ?_)
  case c3 => unfold maxLen; omega
  case c4 => omega
  case c5 => exact hs5
  intro v6 w6 o6 Tr
  have B6 : Below w1.heap.size w1 w6 := Tr w1 B5 (Nat.le_refl _)
  clear Tr r5 o4'
  obtain ⟨m6, hm6⟩ : ∃ m6, m6 = m4 ++ PT := ⟨_, rfl⟩
  have o6' : w6.ownsRow w1.heap.size 5 1 v6 m6.length (bvs m6) := by rw [hm6, List.length_append, bvs_append]; exact o6
  have hl6 : m6.length ≤ 40 := by rw [hm6, List.length_append]; omega
  have E6 := Lib.hid hm6
  have n6 := rnum_calls w1 v6 m6 eps.length w6 B6 o6' (by omega)
  rw [u64_nat eps.length (by omega)] at n6
  obtain ⟨-, -, -, -, d4, -⟩ := D w6 B6
  obtain ⟨a6, c6, rfl⟩ := owns_slice o6'
  clear o6 hm6
  go_wp2_with fail
  with_reducible refine n6.mono ?_
  rintro e w7 ⟨v7, m7, rfl, E7, hl7, o7, B7, -⟩
  have Em7 := Lib.hid (show m7 = putL (u64 id) ++ (putL (u64 ba) ++ (putL (u64 fi) ++ (PT ++ putL eps.length))) by rw [E7.out, E6.out, Em4.out]; simp)
  have ln7 : m7.length ≤ 50 := by omega
  clear n6 d4 E6 E7 Em4 B4 B5 b5 B6 hl7 hl6 ln4 h10
  go_wp2_with fail
  go_loopw [3, 4] (fun bv iv wr => ∃ i : Nat, i ≤ eps.length ∧ iv = .int .i64 i ∧ ∃ em : List UInt8, Hid (em = m7 ++ (eps.take i).flatMap Man.pairL) ∧ em.length ≤ 50 + 20 * i ∧ wr.ownsRow w1.heap.size 5 1 bv em.length (bvs em) ∧ Below w1.heap.size w1 wr) (fun _ iv _ => eps.length - (intOf iv).toNat)
  case atStart => exact ⟨0, Nat.zero_le _, rfl, m7, Lib.hid (by simp), by omega, o7, B7⟩
  case round =>
    obtain ⟨i, hi, rfl, em, HEM, hel, ho, hb⟩ := hrel
    obtain ⟨-, -, -, -, d4, d5⟩ := D wr hb
    by_cases hlt : i < eps.length
    · obtain ⟨b, o, rfl, hx⟩ := pairs_at (re.below b1) i hlt
      obtain ⟨q0, q1⟩ := hx i hlt
      have HNX := Lib.hid (mpairs_snoc eps i hlt)
      obtain ⟨m, hm⟩ : ∃ m, m = eps[i] := ⟨_, rfl⟩
      rw [← hm] at q0 q1 HNX
      clear hx hm
      obtain ⟨ep, st⟩ := m
      simp only at q0 q1 HNX
      have KK : ∀ W, Below w1.heap.size w1 W → (fun W => W.cell? ⟨g, 4, none⟩ = some (.slice (some ⟨b, o, none⟩) eps.length ce) ∧ W.cell? ⟨b, o + i * 2, none⟩ = some (.int .i64 ep) ∧ W.cell? ⟨b, o + i * 2 + 1, none⟩ = some (.int .i64 st)) W := fun W hB =>
        ⟨(D W hB).2.2.2.2.1, (hB.cell (World.block_lt_of_cell? _ _ q0)).trans q0, (hB.cell (World.block_lt_of_cell? _ _ q1)).trans q1⟩
      have n1 := rnum_calls w1 _ em ep wr.drew hb.drew (owns_below ho (Below.refl _ _).drew) (by omega)
      obtain ⟨a8, c8, rfl⟩ := owns_slice ho
      clear q0 q1 d5
      go_upto_region 7 with fail
      refine wp_region_ord (S := (fun W => W.cell? ⟨g, 4, none⟩ = some (.slice (some ⟨b, o, none⟩) eps.length ce) ∧ W.cell? ⟨b, o + i * 2, none⟩ = some (.int .i64 ep) ∧ W.cell? ⟨b, o + i * 2 + 1, none⟩ = some (.int .i64 st))) [(0, true), (1, true), (2, true), (3, true), (4, true), (5, true), (6, true), (8, true), (9, true), (10, true), (11, true), (12, true), (13, true), (7, false), (14, false), (15, true)] (by kernel_rfl) (by kernel_rfl) rfl (by kernel_rfl) (fun _ _ _ _ _ h => h) (KK _ hb.drew) ?_
      simp only [List.map_cons, List.map_nil, List.getElem?_toArray, List.getElem?_cons_succ, List.getElem?_cons_zero]
      iterate 13 (refine ord_take (v := ?_) (by kernel_rfl) (fun w hSw => ?_) ?_; rotate_left; (focus ((obtain ⟨s0, s1, s2⟩ := hSw); (try dsimp only at s0 s1 s2); go_simp; (first | done | with_reducible rfl))); simp only [Act.put, List.setIfInBounds_toArray, List.set_cons_zero, List.set_cons_succ])
      refine ord_do (by kernel_rfl) (fun K hK => ?_)
      go_simp
      go_at_call 41
      with_reducible refine n1.mono ?_
      rintro e w8 ⟨v8, m8, rfl, E8, hl8, o8, B8, -⟩
      have n2 := rnum_calls w1 v8 m8 st w8 B8 o8 (by omega)
      obtain ⟨a9, c9, rfl⟩ := owns_slice o8
      show K _ _
      refine hK.out _ _ (KK _ B8) ?_
      clear hK
      try simp only [Act.put, List.setIfInBounds_toArray, List.set_cons_zero, List.set_cons_succ]
      refine ord_do (by kernel_rfl) (fun K hK => ?_)
      go_simp
      go_at_call 41
      with_reducible refine n2.mono ?_
      rintro e w9 ⟨v9, m9, rfl, E9, hl9, o9, B9, -⟩
      have o9' := o9
      obtain ⟨a10, c10, rfl⟩ := owns_slice o9
      show K _ _
      refine hK.out _ _ (KK _ B9) ?_
      clear hK
      try simp only [Act.put, List.setIfInBounds_toArray, List.set_cons_zero, List.set_cons_succ]
      (refine ord_take (v := ?_) (by kernel_rfl) (fun w hSw => ?_) ?_; rotate_left; (focus ((obtain ⟨s0, s1, s2⟩ := hSw); (try dsimp only at s0 s1 s2); go_simp; (first | done | with_reducible rfl))); simp only [Act.put, List.setIfInBounds_toArray, List.set_cons_zero, List.set_cons_succ])
      refine ord_nil ?_
      have E10 := Lib.hid (show m9 = m7 ++ (eps.take (i + 1)).flatMap Man.pairL by rw [HNX.out, E9.out, E8.out, HEM.out]; simp)
      clear n1 n2 E9 E8 o8 KK
      go_wp2_with fail
      exact ⟨⟨i + 1, by omega, by go_num, m9, E10, by omega, o9, B9⟩, by simp [intOf]; omega⟩
    · have EP := Lib.hid (show em = m7 ++ eps.flatMap Man.pairL by rw [HEM.out, List.take_of_length_le (by omega)])
      have hel' : em.length ≤ 6050 := by omega
      have n1 := rnum_calls w1 _ em objs.length wr hb ho (by omega)
      rw [u64_nat objs.length (by omega)] at n1
      obtain ⟨a8, c8, rfl⟩ := owns_slice ho
      clear HEM hel
      go_wp2_with fail
      with_reducible refine n1.mono ?_
      rintro e w8 ⟨v8, m8, rfl, E8, hl8, o8, B8, -⟩
      have ln8 : m8.length ≤ 6060 := by omega
      clear n1 ho d4 d5 hb o7 B7 hl8 hel' ln7
      go_wp2_with fail
      go_loopw [3, 5] (fun bv iv wr => ∃ i : Nat, i ≤ objs.length ∧ iv = .int .i64 i ∧ ∃ em : List UInt8, Hid (em = m8 ++ (objs.take i).flatMap objL) ∧ em.length ≤ 6060 + 130 * i ∧ wr.ownsRow w1.heap.size 5 1 bv em.length (bvs em) ∧ Below w1.heap.size w1 wr) (fun _ iv _ => objs.length - (intOf iv).toNat)
      case atStart => exact ⟨0, Nat.zero_le _, rfl, m8, Lib.hid (by simp), by omega, o8, B8⟩
      case round =>
        obtain ⟨j, hj, rfl, em', HEM, hel, ho, hb⟩ := hrel
        obtain ⟨-, -, -, -, -, d5⟩ := D wr hb
        by_cases hjt : j < objs.length
        · obtain ⟨b, o, rfl, hx⟩ := objs_at (ro.below (nxt b1 hb)) j hjt
          obtain ⟨q0, q1, q2⟩ := hx j hjt
          have HNX := Lib.hid (mobjs_snoc objs j hjt)
          have hnm := HN.out objs[j] (List.getElem_mem hjt)
          have hsm := (HO.out objs[j] (List.getElem_mem hjt)).2
          obtain ⟨m, hm⟩ : ∃ m, m = objs[j] := ⟨_, rfl⟩
          rw [← hm] at q0 q1 q2 HNX hnm hsm
          clear hx hm
          obtain ⟨nm, ln, sm⟩ := m
          simp only at q0 q1 q2 HNX hnm hsm
          have y2 : IntKind.i64.wrap (sm : Int) = (sm : Int) := by rw [IntKind.wrap_i64]; omega
          have HLN := Lib.hid (show objL ⟨nm, ln, sm⟩ = putL nm.size ++ (nm.data.toList ++ (putL (Man.u64 ln) ++ putL sm)) from rfl)
          have ba' := below_alloc wr (.cells #[.string nm, .int .i64 ln, .int .u32 (sm : Int)] 46)
          have rowp := heap_alloc_new wr (.cells #[.string nm, .int .i64 ln, .int .u32 (sm : Int)] 46)
          have oW := owns_below ho ba'
          obtain ⟨a9, c9, rfl⟩ := owns_slice ho
          go_upto_region 13 with fail
          obtain ⟨W, hW⟩ : ∃ W, W = wr.alloc (.cells #[.string nm, .int .i64 ln, .int .u32 (sm : Int)] 46) := ⟨_, rfl⟩
          obtain ⟨gp, hgp⟩ : ∃ gp, gp = wr.heap.size := ⟨_, rfl⟩
          rw [← hW] at ba' rowp oW ⊢
          rw [← hgp] at rowp ⊢
          have BW := nxt hb ba'
          clear hW hgp q0 q1 q2 ho d5 ba' hb
          have n1 := rnum_calls w1 _ em' nm.size W.drew BW.drew (owns_below oW (Below.refl _ _).drew) (by omega)
          rw [u64_nat nm.size (by omega)] at n1
          have c0 : W.cell? ⟨gp, 0, none⟩ = some (.string nm) := cell_of_row _ _ 0 _ _ _ rowp
          refine wp_region_ord (S := (fun W => W.cell? ⟨gp, 0, none⟩ = some (.string nm))) [(0, true), (1, true), (2, true), (3, true), (5, true), (6, true), (4, false), (7, false), (8, true)] (by kernel_rfl) (by kernel_rfl) rfl (by kernel_rfl) (fun _ _ _ _ _ h => h) c0 ?_
          simp only [List.map_cons, List.map_nil, List.getElem?_toArray, List.getElem?_cons_succ, List.getElem?_cons_zero]
          iterate 6 (refine ord_take (v := ?_) (by kernel_rfl) (fun w hSw => ?_) ?_; rotate_left; (focus ((try dsimp only at hSw); go_simp; (first | done | with_reducible rfl))); simp only [Act.put, List.setIfInBounds_toArray, List.set_cons_zero, List.set_cons_succ])
          refine ord_do (by kernel_rfl) (fun K hK => ?_)
          go_simp
          go_at_call 41
          with_reducible refine n1.mono ?_
          rintro e w9 ⟨v9, m9, rfl, E9, hl9, o9, B9, K9⟩
          have rowp9 : w9.heap[gp]? = some (.cells #[.string nm, .int .i64 ln, .int .u32 (sm : Int)] 46 (0, 0)) := K9 gp _ _ _ rowp (by decide)
          have hge := owns_ge o9
          have hs9 := B9.size
          have kept9 := fun (w' : World) (gr : w9.grownBy w' _) => Kept.of_grown gr o9
          obtain ⟨a10, c10, rfl⟩ := owns_slice o9
          show K _ _
          refine hK.out _ _ (cell_of_row _ _ 0 _ _ _ rowp9) ?_
          clear hK
          try simp only [Act.put, List.setIfInBounds_toArray, List.set_cons_zero, List.set_cons_succ]
          refine ord_do (by kernel_rfl) (fun K hK => ?_)
          refine wp_append_str _ _ 30 9 rfl w1.heap.size 5 i0 Tryd.underlying30 Tryd.underlying9 hi0 hz0 hz1 hz2 (.slice a10 m9.length c10) m9.length (bvs m9) rfl o9 nm rfl ?c2 ?c3 ?c4 ?_
          case c2 => unfold maxLen; omega
          case c3 => omega
          case c4 => exact hs9
          intro v10 w10 own10 gr
          have rowp10 : w10.heap[gp]? = some (.cells #[.string nm, .int .i64 ln, .int .u32 (sm : Int)] 46 (0, 0)) := kept9 w10 gr gp _ _ _ rowp9 (by decide)
          have B10 : Below w1.heap.size w1 w10 := B9.grown gr hs9 (fun k e => hge k e)
          have hlm : (m9 ++ nm.data.toList).length = m9.length + nm.size := by simp
          obtain ⟨m10, hm10⟩ : ∃ m10, m10 = m9 ++ nm.data.toList := ⟨_, rfl⟩
          have o10 : w10.ownsRow w1.heap.size 5 1 v10 m10.length (bvs m10) := by
            rw [hm10, hlm, show bvs (m9 ++ nm.data.toList) = bvs m9 ++ Lib.strCells nm by rw [strCells_bvs]; simp [bvs]]; exact own10
          rw [← hm10] at hlm
          have E10 := Lib.hid hm10
          have hl10 : m10.length ≤ em'.length + 110 := by omega
          have n2 := rnum_calls w1 v10 m10 ln w10.drew B10.drew (owns_below o10 (Below.refl _ _).drew) (by omega)
          obtain ⟨a11, c11, rfl⟩ := owns_slice o10
          show K _ _
          refine hK.out _ _ (cell_of_row _ _ 0 _ _ _ rowp10) ?_
          clear hK n1 own10 gr kept9 hge hs9 hm10 hlm rowp9 B9 K9 o9
          try simp only [Act.put, List.setIfInBounds_toArray, List.set_cons_zero, List.set_cons_succ]
          (refine ord_take (v := ?_) (by kernel_rfl) (fun w hSw => ?_) ?_; rotate_left; (focus ((try dsimp only at hSw); go_simp; (first | done | with_reducible rfl))); simp only [Act.put, List.setIfInBounds_toArray, List.set_cons_zero, List.set_cons_succ])
          refine ord_nil ?_
          go_upto_region 14 with fail
          have KK : (fun W => W.cell? ⟨gp, 1, none⟩ = some (.int .i64 ln) ∧ W.cell? ⟨gp, 2, none⟩ = some (.int .u32 (sm : Int))) w10.drew := ⟨cell_of_row w10 _ 1 _ _ _ rowp10, cell_of_row w10 _ 2 _ _ _ rowp10⟩
          refine wp_region_ord (S := (fun W => W.cell? ⟨gp, 1, none⟩ = some (.int .i64 ln) ∧ W.cell? ⟨gp, 2, none⟩ = some (.int .u32 (sm : Int)))) [(0, true), (1, true), (2, true), (4, true), (5, true), (6, true), (3, false), (7, false), (8, true)] (by kernel_rfl) (by kernel_rfl) rfl (by kernel_rfl) (fun _ _ _ _ _ h => h) KK ?_
          simp only [List.map_cons, List.map_nil, List.getElem?_toArray, List.getElem?_cons_succ, List.getElem?_cons_zero]
          iterate 6 (refine ord_take (v := ?_) (by kernel_rfl) (fun w hSw => ?_) ?_; rotate_left; (focus ((obtain ⟨s0, s1⟩ := hSw); (try dsimp only at s0 s1); go_simp; (first | done | with_reducible rfl))); simp only [Act.put, List.setIfInBounds_toArray, List.set_cons_zero, List.set_cons_succ])
          refine ord_do (by kernel_rfl) (fun K hK => ?_)
          go_simp
          go_at_call 41
          with_reducible refine n2.mono ?_
          rintro e w11 ⟨v11, m11, rfl, E11, hl11, o11, B11, K11⟩
          have rowp11 : w11.heap[gp]? = some (.cells #[.string nm, .int .i64 ln, .int .u32 (sm : Int)] 46 (0, 0)) := K11 gp _ _ _ rowp10 (by decide)
          have n3 := rnum_calls w1 v11 m11 sm w11 B11 o11 (by omega)
          rw [u64_nat sm (by omega)] at n3
          obtain ⟨a12, c12, rfl⟩ := owns_slice o11
          show K _ _
          refine hK.out _ _ ⟨cell_of_row _ _ 1 _ _ _ rowp11, cell_of_row _ _ 2 _ _ _ rowp11⟩ ?_
          clear hK
          try simp only [Act.put, List.setIfInBounds_toArray, List.set_cons_zero, List.set_cons_succ]
          refine ord_do (by kernel_rfl) (fun K hK => ?_)
          go_simp
          go_at_call 41
          with_reducible refine n3.mono ?_
          rintro e w12 ⟨v12, m12, rfl, E12, hl12, o12, B12, K12⟩
          have rowp12 : w12.heap[gp]? = some (.cells #[.string nm, .int .i64 ln, .int .u32 (sm : Int)] 46 (0, 0)) := K12 gp _ _ _ rowp11 (by decide)
          obtain ⟨a13, c13, rfl⟩ := owns_slice o12
          show K _ _
          refine hK.out _ _ ⟨cell_of_row _ _ 1 _ _ _ rowp12, cell_of_row _ _ 2 _ _ _ rowp12⟩ ?_
          clear hK
          try simp only [Act.put, List.setIfInBounds_toArray, List.set_cons_zero, List.set_cons_succ]
          (refine ord_take (v := ?_) (by kernel_rfl) (fun w hSw => ?_) ?_; rotate_left; (focus ((obtain ⟨s0, s1⟩ := hSw); (try dsimp only at s0 s1); go_simp; (first | done | with_reducible rfl))); simp only [Act.put, List.setIfInBounds_toArray, List.set_cons_zero, List.set_cons_succ])
          refine ord_nil ?_
          have E13 := Lib.hid (show m12 = m8 ++ (objs.take (j + 1)).flatMap objL by rw [HNX.out, HLN.out, E12.out, E11.out, E10.out, E9.out, HEM.out]; simp)
          clear n2 n3 E12 E11 E10 E9 KK K11 K12 rowp11 rowp12
          go_wp2_with fail
          exact ⟨⟨j + 1, by omega, by go_num, m12, E13, by omega, o12, B12⟩, by simp [intOf]; omega⟩
        · have EM := Lib.hid (show em' = mbody M by rw [HEM.out, List.take_of_length_le (by omega), E8.out, EP.out, Em7.out, HMB.out]; simp)
          have hp := refSeal_calls _ em' wr (Rd.of_owns ho) (by omega)
          obtain ⟨a9, c9, rfl⟩ := owns_slice ho
          go_wp2_with fail
          with_reducible refine hp.mono ?_
          rintro e w9 ⟨v9, rfl, o9, b9⟩
          go_wp2_with fail
          go_ret
          have B9 := nxt b1 (nxt hb b9)
          refine ⟨v9, rfl, ?_, B9⟩
          rw [HR.out, ← EM.out]; exact owns_base o9 (nxt b1 hb).size
end Go.Proofs.YtldopocmmeidkaaDoor
