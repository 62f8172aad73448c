/- Index.Bytes: an index as bytes. -/
import Derived.Test.YtjhebnjajnjhhaaDoorIdx
import Derived.Test.YtjhebnjajnjhhaaDoorIdxAsk
import Derived.Test.YtjhebnjajnjhhaaDoorPlain
import Derived.Test.YtjhebnjajnjhhaaDoorVintPut
import Derived.Test.YtjhebnjajnjhhaaDoorVintInt
import Derived.Test.YtjhebnjajnjhhaaDoorCrcWalk
namespace Go.Proofs.YtjhebnjajnjhhaaDoor
open Go Go.RowKit Idx Vint Crc

theorem markSize : (Tryd.prog.info? 34).map (·.size) = some 3 := by kernel_rfl

theorem marksL_snoc : ∀ (l : List Mk) (p : Mk) (i : Nat) (hi : i < l.length), marksL p (l.take (i + 1)) = marksL p (l.take i) ++ markL ((p :: l)[i]'(by simp; omega)) l[i] := by
  intro l
  induction l with
  | nil => intro p i hi; simp at hi
  | cons m l ih =>
    intro p i hi
    cases i with
    | zero => simp [marksL]
    | succ i =>
      simp only [List.take_succ_cons, marksL, List.getElem_cons_succ]
      rw [ih m i (by simpa using hi), List.append_assoc]

/-- The mark ahead. -/
def ahead (l : List Mk) (i : Nat) : Mk := ((mk0 :: l)[i]?).getD mk0

theorem ahead_at {l : List Mk} {i : Nat} (hi : i < l.length) : (mk0 :: l)[i]'(by simp; omega) = ahead l i := by
  unfold ahead
  rw [List.getElem?_eq_getElem (by simp; omega)]
  rfl
theorem ahead_next {l : List Mk} {i : Nat} (hi : i < l.length) : ahead l (i + 1) = l[i] := by
  unfold ahead
  rw [List.getElem?_cons_succ, List.getElem?_eq_getElem hi]
  rfl
theorem rise_at : ∀ (l : List Mk), rise l = true → ∀ i (h : i + 1 < l.length), l[i].off < l[i + 1].off ∧ l[i].pos < l[i + 1].pos := by
  intro l
  induction l with
  | nil => intro _ i h; simp at h
  | cons a l ih =>
    intro hr i h
    cases l with
    | nil => simp at h
    | cons b l =>
      cases i with
      | zero => exact rise_head hr
      | succ i =>
        have := ih (rise_tail hr) i (by simpa using h)
        simpa using this
/-- The steps between marks that are right and rise. -/
theorem ahead_bd {l : List Mk} (hr : l.all Idx.right = true) (hri : rise l = true) {i : Nat} (hi : i < l.length) :
    ∃ x z : Nat, l[i].off - (ahead l i).off = (x : Int) ∧ l[i].pos - (ahead l i).pos = (z : Int) ∧ x ≤ 1099511627776 ∧ z ≤ 1073741824 ∧ -2199023255552 ≤ l[i].time - (ahead l i).time ∧ l[i].time - (ahead l i).time ≤ 2199023255552 := by
  have h1 := List.all_eq_true.1 hr _ (List.getElem_mem hi)
  unfold Idx.right at h1
  rw [decide_eq_true_eq] at h1
  rcases i with _ | i
  · have : ahead l 0 = mk0 := rfl
    rw [this]
    exact ⟨(l[0].off).toNat, (l[0].pos).toNat, by simp only [mk0]; omega, by simp only [mk0]; omega, by omega, by omega, by simp only [mk0]; omega, by simp only [mk0]; omega⟩
  · rw [ahead_next (by omega)]
    have h2 := List.all_eq_true.1 hr _ (List.getElem_mem (show i < l.length by omega))
    unfold Idx.right at h2
    rw [decide_eq_true_eq] at h2
    have h3 := rise_at l hri i hi
    exact ⟨(l[i + 1].off - l[i].off).toNat, (l[i + 1].pos - l[i].pos).toNat, by omega, by omega, by omega, by omega, by omega, by omega⟩

theorem marksL_len : ∀ (l : List Mk) (p : Mk), (∀ i (hi : i < l.length), (markL ((p :: l)[i]'(by simp; omega)) l[i]).length ≤ 30) → (marksL p l).length ≤ 30 * l.length := by
  intro l
  induction l with
  | nil => intro p _; simp [marksL]
  | cons m l ih =>
    intro p h
    have h0 := h 0 (by simp)
    have := ih m (fun i hi => h (i + 1) (by simpa using hi))
    simp only [marksL, List.length_append, List.length_cons]
    simp only [List.getElem_cons_zero] at h0
    omega

set_option maxRecDepth 100000 in
set_option maxHeartbeats 600000 in
theorem ibytes_calls {w : World} {F : Nat → Prop} {g : Nat} {x : Ix} (h : IdxAt w F g x) (he : 1 ≤ x.every) (he2 : x.every ≤ 1048576) (hl : x.marks.length ≤ 4096) (hr : x.marks.all Idx.right = true) (hri : rise x.marks = true) :
    Calls Tryd.prog 54 #[.pointer (some ⟨g, 0, none⟩)] w (NewRow 5 1 (sealed (bodyL x.every x.marks)).length (bvs (sealed (bodyL x.every x.marks))) w) := by
  obtain ⟨vm, va, h⟩ := h
  have hom := Rd.of_owns h.marks
  have hrow := h.row
  obtain ⟨ev, hev⟩ : ∃ ev : Nat, x.every = (ev : Int) := ⟨x.every.toNat, by omega⟩
  rw [hev] at hrow he he2 ⊢
  clear h hev
  obtain ⟨l, hlx⟩ : ∃ l, l = x.marks := ⟨_, rfl⟩
  rw [← hlx] at hom hl hr hri ⊢
  clear hlx
  obtain ⟨am, cm, rfl⟩ := hom.slice
  have k0 : w.cell? ⟨g, 0, none⟩ = some (.int .i64 (ev : Int)) := cell_of_row w g 0 _ _ _ hrow
  have hput := put_calls (.slice none 0 0) 0 [] ev w (Rd.nil w 1) (by omega) (by unfold U64; omega)
  have hp1 := putL_len10 ev (by omega)
  have hp2 := putL_len10 l.length (by omega)
  go_enter Tryd.func54, Tryd.ntmps54
  go_wp2_with fail
  refine hput.mono ?_
  rintro e w1 ⟨v1, rfl, o1, b1⟩
  have k1 : w1.cell? ⟨g, 1, none⟩ = some (.slice am l.length cm) := cell_of_row w1 g 1 _ _ _ (heap_below b1 hrow)
  rw [Nat.zero_add, List.nil_append] at o1
  have hput2 := put_calls v1 (putL ev).length (putL ev) l.length w1 (Rd.of_owns o1) (by omega) (by unfold U64; omega)
  obtain ⟨a1, c1, rfl⟩ := owns_slice o1
  clear hput o1
  go_wp2_with fail
  refine hput2.mono ?_
  rintro e w2 ⟨v2, rfl, o2, b2⟩
  obtain ⟨a2, c2, rfl⟩ := owns_slice o2
  have B2 := nxt b1 b2
  have k2 : w2.cell? ⟨g, 1, none⟩ = some (.slice am l.length cm) := cell_of_row w2 g 1 _ _ _ (heap_below B2 hrow)
  have k3 : ∀ O, (w2.alloc O).cell? ⟨g, 1, none⟩ = some (.slice am l.length cm) := fun O => cell_of_row _ g 1 _ _ _ (heap_below (bAlloc B2 O) hrow)
  have B3 := bAlloc B2 (.cells #[.int .i64 0, .int .i64 0, .int .i64 0] 34)
  have row3 := heap_alloc_new w2 (.cells #[.int .i64 0, .int .i64 0, .int .i64 0] 34)
  have o3 := owns_base (o2.alloc (.cells #[.int .i64 0, .int .i64 0, .int .i64 0] 34)) b1.size
  have hg4 := B2.size
  have hnb : (Value.slice a2 ((putL ev).length + (putL l.length).length) c2).ownBlock ≠ some w2.heap.size := fun e => by have := o2.lt _ e; omega
  clear hput2 o2
  go_wp2_with fail
  generalize w2.heap.size = g4 at *
  generalize w2.alloc (.cells #[.int .i64 0, .int .i64 0, .int .i64 0] 34) = w3 at *
  go_loopw [3, 26] (fun bv iv wr => ∃ i : Nat, i ≤ l.length ∧ iv = .int .i64 i ∧ ∃ em : List UInt8, ∃ q : Mk, Hid (em = putL ev ++ putL l.length ++ marksL mk0 (l.take i)) ∧ Hid (q = ahead l i) ∧ em.length ≤ 20 + 30 * i ∧ wr.heap[g4]? = some (.cells #[.int .i64 q.off, .int .i64 q.time, .int .i64 q.pos] 34 (0, 0)) ∧ wr.ownsRow w.heap.size 5 1 bv em.length (bvs em) ∧ bv.ownBlock ≠ some g4 ∧ Below w.heap.size w wr) (fun _ iv _ => l.length - (intOf iv).toNat)
  case atStart => exact ⟨0, Nat.zero_le _, rfl, putL ev ++ putL l.length, mk0, Lib.hid (by simp [marksL]), Lib.hid rfl, by simp; omega, row3, by simpa using o3, hnb, B3⟩
  case round =>
    obtain ⟨i, hi, rfl, em, q, HE, HQ, hel, row4, ho, hob, hb⟩ := hrel
    by_cases hlt : i < l.length
    · obtain ⟨b, o, rfl, hc1, hm1, hx1⟩ := (hom.below hb).at (by omega) (by omega)
      obtain ⟨q0, q1, q2⟩ := mk_cells hx1 i hlt
      obtain ⟨x, z, hx, hz, hx1', hz1', hy1, hy2⟩ := ahead_bd hr hri hlt
      have hsn := marksL_snoc l mk0 i hlt
      rw [ahead_at hlt] at hsn
      have hnx := ahead_next hlt
      rw [← HQ.out] at hx hz hy1 hy2 hsn
      obtain ⟨m, hm⟩ : ∃ m, m = l[i] := ⟨_, rfl⟩
      rw [← hm] at q0 q1 q2 hx hz hy1 hy2 hsn hnx
      obtain ⟨y, hy⟩ : ∃ y, y = m.time - q.time := ⟨_, rfl⟩
      rw [← hy] at hy1 hy2
      have hemn : marksL mk0 (l.take (i + 1)) = marksL mk0 (l.take i) ++ (putL x ++ putL (fold y) ++ putL z) := by
        rw [hsn]; unfold markL; rw [hx, hz, ← hy, Int.toNat_natCast, Int.toNat_natCast]
      have HMN := Lib.hid hemn
      have HNX := Lib.hid hnx
      have w1 : IntKind.i64.wrap (m.off - q.off) = (x : Int) := by rw [hx, IntKind.wrap_i64]; omega
      have w2' : IntKind.i64.wrap (m.time - q.time) = y := by rw [← hy, IntKind.wrap_i64]; omega
      have w3' : IntKind.i64.wrap (m.pos - q.pos) = (z : Int) := by rw [hz, IntKind.wrap_i64]; omega
      have x10 := putL_len10 x (by omega)
      have y10 := putL_len10 (fold y) (fold_lt y (by omega) (by omega))
      have z10 := putL_len10 z (by omega)
      clear hx1 hm hx hz hy hsn hnx hemn HQ
      obtain ⟨mo, mt, mp⟩ := m
      obtain ⟨qo, qt, qp⟩ := q
      simp only at q0 q1 q2 row4 w1 w2' w3'
      have b6 := below_alloc wr (.cells #[.int .i64 mo, .int .i64 mt, .int .i64 mp] 34)
      have rowm := heap_alloc_new wr (.cells #[.int .i64 mo, .int .i64 mt, .int .i64 mp] 34)
      have p1 := put_calls _ _ em x _ ((Rd.of_owns ho).below b6) (by omega) (by unfold U64; omega)
      obtain ⟨a3, c3, rfl⟩ := owns_slice ho
      have row4a := heap_below b6 row4
      have c40 : (wr.alloc (.cells #[.int .i64 mo, .int .i64 mt, .int .i64 mp] 34)).cell? ⟨g4, 0, none⟩ = some (.int .i64 qo) := cell_of_row _ _ 0 _ _ _ row4a
      go_wp2_with fail
      refine p1.mono ?_
      rintro e w5 ⟨v5, rfl, o5, b5⟩
      have B5 := nxt hb (nxt b6 b5)
      have row5 := heap_below b5 row4a
      have rowm5 := heap_below b5 rowm
      have d1 : w5.cell? ⟨wr.heap.size, 1, none⟩ = some (.int .i64 mt) := cell_of_row _ _ 1 _ _ _ rowm5
      have d2 : w5.cell? ⟨g4, 1, none⟩ = some (.int .i64 qt) := cell_of_row _ _ 1 _ _ _ row5
      rw [← List.length_append] at o5
      have p2 := putInt_calls _ _ (em ++ putL x) y w5 (Rd.of_owns o5) (by rw [List.length_append]; omega) ⟨by omega, by omega⟩
      obtain ⟨a5, c5, rfl⟩ := owns_slice o5
      have hs5 := B5.size
      have no5 := o5.lt
      clear p1 b5 row4a rowm c40
      obtain ⟨n5, hn5⟩ : ∃ n, n = (em ++ putL x).length := ⟨_, rfl⟩
      have HN5 := Lib.hid hn5
      have hn5b : n5 ≤ em.length + 10 := by rw [hn5, List.length_append]; omega
      rw [← hn5] at p2 o5 no5 ⊢
      clear hn5
      go_wp2_with fail
      refine p2.mono ?_
      rintro e w6 ⟨v6, rfl, o6, b6'⟩
      have B6 := nxt B5 b6'
      have row6 := heap_below b6' row5
      have rowm6 := heap_below b6' rowm5
      have d3 : w6.cell? ⟨wr.heap.size, 2, none⟩ = some (.int .i64 mp) := cell_of_row _ _ 2 _ _ _ rowm6
      have d4 : w6.cell? ⟨g4, 2, none⟩ = some (.int .i64 qp) := cell_of_row _ _ 2 _ _ _ row6
      have o6' : w6.ownsRow w5.heap.size 5 1 v6 (em ++ putL x ++ putL (fold y)).length (bvs (em ++ putL x ++ putL (fold y))) := by
        rw [List.length_append, ← HN5.out]; exact o6
      obtain ⟨n6, hn6⟩ : ∃ n, n = (em ++ putL x ++ putL (fold y)).length := ⟨_, rfl⟩
      have hn6b : n6 ≤ em.length + 20 := by rw [hn6, List.length_append, ← HN5.out]; omega
      have hv6 : n5 + (putL (fold y)).length = n6 := by rw [hn6, List.length_append, ← HN5.out]
      rw [hv6] at o6
      have HN6 := Lib.hid hn6
      clear o6' hn6 hv6
      have p3 := put_calls _ _ (em ++ putL x ++ putL (fold y)) z w6 (Rd.of_owns o6) (by omega) (by unfold U64; omega)
      obtain ⟨a6, c6, rfl⟩ := owns_slice o6
      clear p2 b6' row5 rowm5 d1 d2
      go_wp2_with fail
      refine p3.mono ?_
      rintro e w7 ⟨v7, rfl, o7, b7⟩
      have B7 := nxt B6 b7
      have row7 := heap_below b7 row6
      have rowm7 := heap_below b7 rowm6
      have hg6 := (Array.getElem?_eq_some_iff.1 row6).1
      clear p3 row6 rowm6 d3 d4
      have m0 : w7.cell? ⟨wr.heap.size, 0, none⟩ = some (.int .i64 mo) := cell_of_row _ _ 0 _ _ _ rowm7
      have m1 : w7.cell? ⟨wr.heap.size, 1, none⟩ = some (.int .i64 mt) := cell_of_row _ _ 1 _ _ _ rowm7
      have m2 : w7.cell? ⟨wr.heap.size, 2, none⟩ = some (.int .i64 mp) := cell_of_row _ _ 2 _ _ _ rowm7
      clear rowm7
      go_wp2_with (refine wpList_store_row_g rfl 34 _ _ rfl g4 _ rfl rfl 34 _ row7 markSize rfl (by simp [Value.oneCell']) ?_)
      intro w8 row8 g8 s8
      have hgw : w.heap.size ≤ g4 := hg4
      have B8 : Below w.heap.size w w8 := B7.grown g8 B7.size (fun k e => by cases e; exact hgw)
      have o8 := Touch.owns_from (g := g4) g8 o7 hg6
      have hob8 : v7.ownBlock ≠ some g4 := fun e => by have := o7.lt _ e; omega
      have o9 := owns_base o8 B6.size
      have hlen9 : n6 + (putL z).length = (em ++ putL x ++ putL (fold y) ++ putL z).length := by
        rw [List.length_append (bs := putL z), ← HN6.out]
      rw [hlen9] at o9
      have hle9 : (em ++ putL x ++ putL (fold y) ++ putL z).length ≤ 20 + 30 * (i + 1) := by rw [← hlen9]; omega
      have HE9 := Lib.hid (show em ++ putL x ++ putL (fold y) ++ putL z = putL ev ++ putL l.length ++ marksL mk0 (l.take (i + 1)) by
        rw [HMN.out, HE.out]; simp)
      clear o7 o8 hlen9 g8 s8
      go_wp2_with fail
      exact ⟨⟨i + 1, by omega, by go_num, _, ⟨mo, mt, mp⟩, HE9, Lib.hid HNX.out.symm, hle9, row8, o9, hob8, B8⟩, by simp [intOf]; omega⟩
    · obtain rfl : i = l.length := by omega
      have hs := seal_calls _ em wr (Rd.of_owns ho) (by omega)
      obtain ⟨a3, c3, rfl⟩ := owns_slice ho
      go_wp2_with fail
      refine hs.mono ?_
      rintro e w5 ⟨v5, rfl, o5, b5⟩
      go_wp2_with fail
      go_ret
      have he : em = bodyL (ev : Int) l := by
        rw [HE.out, List.take_of_length_le (Nat.le_refl _)]; unfold bodyL; rw [Int.toNat_natCast]
      rw [← he]
      exact ⟨_, rfl, owns_base o5 hb.size, nxt hb b5⟩
end Go.Proofs.YtjhebnjajnjhhaaDoor
