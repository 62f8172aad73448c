/- mani.Bytes: a manifest as bytes, or an error. Merged of: ManBytes, ManBytesOk. -/
import Derived.Test.YtegiingcnhafbaaGreatDoorManVal
import Derived.Test.YtegiingcnhafbaaGreatDoorCrcSeal
import Derived.Test.YtegiingcnhafbaaGreatDoorVintPutInt
import Derived.Deep.RegionWith

/-! mani.Bytes: a manifest as bytes, or an error. -/
namespace Go.Proofs.YtegiingcnhafbaaGreatDoor
open Go Go.RowKit Man Vint Crc

/-- So many bytes more, behind a list. -/
def PutPost (em t : List UInt8) (w : World) (e : Ending) (w' : World) : Prop :=
  ∃ (v : Value) (em' : List UInt8), e = .returned v ∧ Hid (em' = em ++ t) ∧ em'.length ≤ em.length + 10 ∧ w'.ownsRow w.heap.size 5 1 v em'.length (bvs em') ∧ Below w.heap.size w w'
theorem put_em (v : Value) (em : List UInt8) (n : Nat) (w : World) (h : Rd w 1 v em.length (bvs em)) (hl : em.length ≤ 1000000) (hn : n < 18446744073709551616) :
    Calls Tryz.prog 28 #[v, .int .u64 (n : Int)] w (PutPost em (putL n) w) := by
  have h10 := putL_len10 n hn
  refine (put_calls v em.length em n w h (by omega) hn).mono ?_
  rintro e w' ⟨v', rfl, o, b⟩
  exact ⟨v', em ++ putL n, rfl, Lib.hid rfl, by simp; omega, by simpa using o, b⟩
theorem putInt_em (v : Value) (em : List UInt8) (n : Int) (w : World) (h : Rd w 1 v em.length (bvs em)) (hl : em.length ≤ 1000000) (hn : I64 n) :
    Calls Tryz.prog 29 #[v, .int .i64 n] w (PutPost em (putL (fold n)) w) := by
  have h10 := putL_len10 (fold n) (fold_lt n hn.1 hn.2)
  refine (putInt_calls v em.length em n w h (by omega) hn).mono ?_
  rintro e w' ⟨v', rfl, o, b⟩
  exact ⟨v', em ++ putL (fold n), rfl, Lib.hid rfl, by simp; omega, by simpa using o, b⟩

theorem mpairs_snoc (l : List Epo.Pr) (i : Nat) (hi : i < l.length) : (l.take (i + 1)).flatMap Man.pairL = (l.take i).flatMap Man.pairL ++ (putL (u64 l[i].ep) ++ putL (u64 l[i].st)) := by
  rw [List.take_succ_eq_append_getElem hi, List.flatMap_append]
  simp [Man.pairL]
theorem mobjs_snoc (l : List ObjD) (i : Nat) (hi : i < l.length) : (l.take (i + 1)).flatMap objL = (l.take i).flatMap objL ++ objL l[i] := by
  rw [List.take_succ_eq_append_getElem hi, List.flatMap_append]
  simp

def MBytesPost (m : ManD) (w : World) (e : Ending) (w' : World) : Prop :=
  ((∃ v, e = .returned (.tuple #[v, .nilIface]) ∧ w'.ownsRow w.heap.size 5 1 v (sealed (mbody m)).length (bvs (sealed (mbody m))) ∧ (mbody m).length ≤ 10000) ∨
   ∃ t u, e = .returned (.tuple #[.slice none 0 0, .iface t u])) ∧ Below w.heap.size w w'

set_option maxRecDepth 100000 in
set_option maxHeartbeats 4000000 in
theorem maniBytes_calls (S : List Nat) (A : Nat → Addr) {w : World} {m : ManD} {ve vo : Value} (hS : Sents S w A) (h2 : 2 ∈ S) (h3 : 3 ∈ S) (h4 : 4 ∈ S) (h5 : 5 ∈ S) (h : ManRd w m ve vo) (hs : Small m) (hk : Man.Ok m) :
    Calls Tryz.prog 9 #[manA m ve vo] w (MBytesPost m w) := by
  obtain ⟨i0, hi0, hz0, hz1, hz2⟩ := info_parts info_u8
  obtain ⟨re, ro⟩ := h
  obtain ⟨ae, ce, rfl⟩ := re.slice
  obtain ⟨ao, co, rfl⟩ := ro.slice
  have me := re.len_le
  have mo := ro.len_le
  have hs1 := hs.1
  have hs2 := hs.2.1
  have HN := Lib.hid hs.2.2
  have HOK := Lib.hid hk
  have b0 := below_alloc w (.cells #[.int .i64 m.id, .int .i64 m.base, .int .i64 m.fin, .int .i64 m.time, .slice ae m.eps.length ce, .slice ao m.objs.length co] 27)
  have row0 := heap_alloc_new w (.cells #[.int .i64 m.id, .int .i64 m.base, .int .i64 m.fin, .int .i64 m.time, .slice ae m.eps.length ce, .slice ao m.objs.length co] 27)
  have hv := maniValid_calls S A (hS.below b0) h2 h3 h4 h5 ⟨re.below b0, ro.below b0⟩ hs
  unfold manA at hv ⊢
  clear hs hk
  obtain ⟨id, ba, fi, ti, eps, objs⟩ := m
  simp only at re ro me mo hs1 hs2 HN HOK b0 row0 hv ⊢
  obtain ⟨M, hM⟩ : ∃ M : ManD, M = ⟨id, ba, fi, ti, eps, objs⟩ := ⟨_, rfl⟩
  rw [← hM] at HOK ⊢
  have HMB := Lib.hid (show mbody M = putL (u64 id) ++ (putL (u64 ba) ++ (putL (u64 fi) ++ (putL (fold ti) ++ (putL eps.length ++ (eps.flatMap Man.pairL ++ (putL objs.length ++ objs.flatMap objL)))))) by rw [hM]; rfl)
  have HE := Lib.hid (show ∀ p ∈ eps, I64 p.ep ∧ I64 p.st by have := HOK.out.eps; rw [hM] at this; exact this)
  have HO := Lib.hid (show ∀ o ∈ objs, I64 o.len ∧ o.sum < 4294967296 by have := HOK.out.objs; rw [hM] at this; exact this)
  have hti : I64 ti := by have := HOK.out.time; rw [hM] at this; exact this
  clear hM HOK
  have u1 := u64_wrap id
  have u2 := u64_wrap ba
  have u3 := u64_wrap fi
  have l1 := u64_lt id
  have l2 := u64_lt ba
  have l3 := u64_lt fi
  generalize u64 id = x1 at *
  generalize u64 ba = x2 at *
  generalize u64 fi = x3 at *
  go_enter Tryz.func9, Tryz.ntmps9
  go_wp2_with fail
  refine hv.mono ?_
  rintro e w1 ⟨hr, b1⟩
  have B1 := nxt b0 b1
  have row1 := heap_below b1 row0
  clear hv row0
  obtain ⟨g, hg⟩ : ∃ g, g = w.heap.size := ⟨_, rfl⟩
  rw [← hg] at row1 ⊢
  clear hg
  rcases hr with rfl | ⟨t, u, rfl⟩
  · have d0 : w1.cell? ⟨g, 0, none⟩ = some (.int .i64 id) := cell_of_row _ _ 0 _ _ _ row1
    have p1 := put_em (.slice none 0 0) [] x1 w1 (Rd.nil w1 1) (by simp) l1
    go_wp2_with fail
    with_reducible refine p1.mono ?_
    rintro e w2 ⟨v2, m2, rfl, E2, hl2, o2, b2⟩
    have B2 := nxt B1 b2
    have row2 := heap_below b2 row1
    have ln2 : m2.length ≤ 10 := by simp at hl2; omega
    have d1 : w2.cell? ⟨g, 1, none⟩ = some (.int .i64 ba) := cell_of_row _ _ 1 _ _ _ row2
    have p2 := put_em v2 m2 x2 w2 (Rd.of_owns o2) (by omega) l2
    obtain ⟨a2, c2, rfl⟩ := owns_slice o2
    clear p1 o2 d0 hl2
    go_wp2_with fail
    with_reducible refine p2.mono ?_
    rintro e w3 ⟨v3, m3, rfl, E3, hl3, o3, b3⟩
    have B3 := nxt B2 b3
    have row3 := heap_below b3 row2
    have ln3 : m3.length ≤ 20 := by omega
    have d2 : w3.cell? ⟨g, 2, none⟩ = some (.int .i64 fi) := cell_of_row _ _ 2 _ _ _ row3
    have p3 := put_em v3 m3 x3 w3 (Rd.of_owns o3) (by omega) l3
    obtain ⟨a3, c3, rfl⟩ := owns_slice o3
    clear p2 o3 d1 hl3
    go_wp2_with fail
    with_reducible refine p3.mono ?_
    rintro e w4 ⟨v4, m4, rfl, E4, hl4, o4, b4⟩
    have B4 := nxt B3 b4
    have row4 := heap_below b4 row3
    have ln4 : m4.length ≤ 30 := by omega
    have d3 : w4.cell? ⟨g, 3, none⟩ = some (.int .i64 ti) := cell_of_row _ _ 3 _ _ _ row4
    have p4 := putInt_em v4 m4 ti w4 (Rd.of_owns o4) (by omega) hti
    obtain ⟨a4, c4, rfl⟩ := owns_slice o4
    clear p3 o4 d2 hl4
    go_wp2_with fail
    with_reducible refine p4.mono ?_
    rintro e w5 ⟨v5, m5, rfl, E5, hl5, o5, b5⟩
    have B5 := nxt B4 b5
    have row5 := heap_below b5 row4
    have ln5 : m5.length ≤ 40 := by omega
    have d4 : w5.cell? ⟨g, 4, none⟩ = some (.slice ae eps.length ce) := cell_of_row _ _ 4 _ _ _ row5
    have p5 := put_em v5 m5 eps.length w5 (Rd.of_owns o5) (by omega) (by omega)
    obtain ⟨a5, c5, rfl⟩ := owns_slice o5
    clear p4 o5 d3 hl5
    go_wp2_with fail
    with_reducible refine p5.mono ?_
    rintro e w6 ⟨v6, m6, rfl, E6, hl6, o6, b6⟩
    have B6 := nxt B5 b6
    have row6 := heap_below b6 row5
    have ln6 : m6.length ≤ 50 := by omega
    have d5 : w6.cell? ⟨g, 4, none⟩ = some (.slice ae eps.length ce) := cell_of_row _ _ 4 _ _ _ row6
    have hb5 := B5.size
    have o6' := owns_base o6 hb5
    have Em6 := Lib.hid (show m6 = putL x1 ++ (putL x2 ++ (putL x3 ++ (putL (fold ti) ++ putL eps.length))) by rw [E6.out, E5.out, E4.out, E3.out, E2.out]; simp)
    clear p5 o6 d4 hl6 hb5 E2 E3 E4 E5 E6 row1 row2 row3 row4 row5 b2 b3 b4 b5 b6 B1 B2 B3 B4 B5
    go_wp2_with fail
    go_loopw [5, 42] (fun bv iv wr => ∃ i : Nat, i ≤ eps.length ∧ iv = .int .i64 i ∧ ∃ em : List UInt8, Hid (em = m6 ++ (eps.take i).flatMap Man.pairL) ∧ em.length ≤ 50 + 20 * i ∧ wr.ownsRow w.heap.size 5 1 bv em.length (bvs em) ∧ Below w6.heap.size w6 wr) (fun _ iv _ => eps.length - (intOf iv).toNat)
    case atStart => exact ⟨0, Nat.zero_le _, rfl, m6, Lib.hid (by simp), by omega, o6', Below.refl _ _⟩
    case round =>
      obtain ⟨i, hi, rfl, em, HEM, hel, ho, hb6⟩ := hrel
      have hb := nxt B6 hb6
      by_cases hlt : i < eps.length
      · obtain ⟨b, o, rfl, hx⟩ := pairs_at (re.below hb) i hlt
        obtain ⟨q0, q1⟩ := hx i hlt
        have HNX := Lib.hid (mpairs_snoc eps i hlt)
        obtain ⟨m, hm⟩ : ∃ m, m = eps[i] := ⟨_, rfl⟩
        rw [← hm] at q0 q1 HNX
        clear hx hm
        obtain ⟨ep, st⟩ := m
        simp only at q0 q1 HNX
        have y1 := u64_wrap ep
        have y2 := u64_wrap st
        have z1 := u64_lt ep
        have z2 := u64_lt st
        generalize u64 ep = e1 at *
        generalize u64 st = e2 at *
        have ba' := below_alloc wr (.cells #[.int .i64 ep, .int .i64 st] 52)
        have rowp := heap_alloc_new wr (.cells #[.int .i64 ep, .int .i64 st] 52)
        obtain ⟨a7, c7, rfl⟩ := owns_slice ho
        go_upto_region 12 with fail
        obtain ⟨W, hW⟩ : ∃ W, W = wr.alloc (.cells #[.int .i64 ep, .int .i64 st] 52) := ⟨_, rfl⟩
        obtain ⟨gp, hgp⟩ : ∃ gp, gp = wr.heap.size := ⟨_, rfl⟩
        rw [← hW] at ba' rowp ⊢
        rw [← hgp] at rowp ⊢
        clear hW hgp q0 q1
        have p1 := put_em _ em e1 W.drew ((Rd.of_owns ho).below ba'.drew) (by omega) z1
        have c00 : W.cell? ⟨gp, 0, none⟩ = some (.int .i64 ep) := cell_of_row _ _ 0 _ _ _ rowp
        have c01 : W.cell? ⟨gp, 1, none⟩ = some (.int .i64 st) := cell_of_row _ _ 1 _ _ _ rowp
        have c00' : W.drew.cell? ⟨gp, 0, none⟩ = some (.int .i64 ep) := c00
        have c01' : W.drew.cell? ⟨gp, 1, none⟩ = some (.int .i64 st) := c01
        go_region_with (first
          | (go_at_call 28; ((with_reducible refine p1.mono ?_); (rintro e w7 ⟨v7, m7, rfl, E7, hl7, o7, b7⟩); (obtain ⟨a8, c8, rfl⟩ := owns_slice o7); have c1 : w7.cell? ⟨gp, 1, none⟩ = some (.int .i64 st) := cell_of_row _ _ 1 _ _ _ (heap_below b7 (show W.drew.heap[gp]? = some _ from rowp))))
          | (go_at_call 28; ((with_reducible refine (put_em _ m7 e2 w7 (Rd.of_owns o7) (by omega) z2).mono ?_); (rintro e w8 ⟨v8, m8, rfl, E8, hl8, o8, b8⟩))))
        all_goals
          have B7 := nxt hb6 (nxt ba'.drew b7)
          have hsz := (nxt B6 B7).size
          have o8' := owns_base o8 hsz
          have E9 := Lib.hid (show m8 = m6 ++ (eps.take (i + 1)).flatMap Man.pairL by rw [HNX.out, E8.out, E7.out, HEM.out]; simp)
          clear o8 hsz E8 E7
          go_wp2_with fail
          exact ⟨⟨i + 1, by omega, by go_num, m8, E9, by omega, o8', nxt B7 b8⟩, by simp [intOf]; omega⟩
      · have row6b := heap_below hb6 row6
        have f5 : wr.cell? ⟨g, 5, none⟩ = some (.slice ao objs.length co) := cell_of_row _ _ 5 _ _ _ row6b
        have EP := Lib.hid (show em = m6 ++ eps.flatMap Man.pairL by rw [HEM.out, List.take_of_length_le (by omega)])
        have hel' : em.length ≤ 6050 := by omega
        have p1 := put_em _ em objs.length wr (Rd.of_owns ho) (by omega) (by omega)
        obtain ⟨a7, c7, rfl⟩ := owns_slice ho
        clear HEM ho hel
        go_wp2_with fail
        with_reducible refine p1.mono ?_
        rintro e w7 ⟨v7, m7, rfl, E7, hl7, o7, b7⟩
        have row7 := heap_below b7 row6b
        have f5' : w7.cell? ⟨g, 5, none⟩ = some (.slice ao objs.length co) := cell_of_row _ _ 5 _ _ _ row7
        have B7 := nxt hb b7
        have o7' := owns_base o7 hb.size
        have hl7' : m7.length ≤ 6060 := by omega
        clear p1 o7 f5 row6b row6 row7 hl7 hel' b7 hb hb6 o6' d5 ln6 B6
        go_wp2_with fail
        go_loopw [5, 65] (fun bv iv wr => ∃ i : Nat, i ≤ objs.length ∧ iv = .int .i64 i ∧ ∃ em : List UInt8, Hid (em = m7 ++ (objs.take i).flatMap objL) ∧ em.length ≤ 6060 + 130 * i ∧ wr.ownsRow w.heap.size 5 1 bv em.length (bvs em) ∧ Below w.heap.size w wr) (fun _ iv _ => objs.length - (intOf iv).toNat)
        case atStart => exact ⟨0, Nat.zero_le _, rfl, m7, Lib.hid (by simp), by omega, o7', B7⟩
        case round =>
          obtain ⟨j, hj, rfl, em', HEM, hel, ho, hb⟩ := hrel
          by_cases hjt : j < objs.length
          · obtain ⟨b, o, rfl, hx⟩ := objs_at (ro.below hb) j hjt
            obtain ⟨q0, q1, q2⟩ := hx j hjt
            have HNX := Lib.hid (mobjs_snoc objs j hjt)
            have hnm := HN.out objs[j] (List.getElem_mem hjt)
            have hsm := (HO.out objs[j] (List.getElem_mem hjt)).2
            obtain ⟨m, hm⟩ : ∃ m, m = objs[j] := ⟨_, rfl⟩
            rw [← hm] at q0 q1 q2 HNX hnm hsm
            clear hx hm
            obtain ⟨nm, ln, sm⟩ := m
            simp only at q0 q1 q2 HNX hnm hsm
            have y1 := u64_wrap ln
            have y2 : IntKind.u64.wrap (sm : Int) = (sm : Int) := by rw [IntKind.wrap_u64]; omega
            have z1 := u64_lt ln
            have HLN := Lib.hid (show objL ⟨nm, ln, sm⟩ = putL nm.size ++ (nm.data.toList ++ (putL (u64 ln) ++ putL sm)) from rfl)
            generalize u64 ln = e1 at *
            have ba' := below_alloc wr (.cells #[.string nm, .int .i64 ln, .int .u32 (sm : Int)] 44)
            have rowp := heap_alloc_new wr (.cells #[.string nm, .int .i64 ln, .int .u32 (sm : Int)] 44)
            obtain ⟨a8, c8, rfl⟩ := owns_slice ho
            go_upto_region 18 with fail
            obtain ⟨W, hW⟩ : ∃ W, W = wr.alloc (.cells #[.string nm, .int .i64 ln, .int .u32 (sm : Int)] 44) := ⟨_, rfl⟩
            obtain ⟨gp, hgp⟩ : ∃ gp, gp = wr.heap.size := ⟨_, rfl⟩
            rw [← hW] at ba' rowp ⊢
            rw [← hgp] at rowp ⊢
            clear hW hgp q0 q1 q2
            have c0 : W.cell? ⟨gp, 0, none⟩ = some (.string nm) := cell_of_row _ _ 0 _ _ _ rowp
            have p1 := put_em _ em' nm.size W ((Rd.of_owns ho).below ba') (by omega) (by omega)
            go_wp2_with fail
            with_reducible refine p1.mono ?_
            rintro e w9 ⟨v9, m9, rfl, E9, hl9, o9, b9⟩
            have hgl : gp < W.heap.size := (Array.getElem?_eq_some_iff.1 rowp).1
            have row9 := heap_below b9 rowp
            have c0' : w9.cell? ⟨gp, 0, none⟩ = some (.string nm) := cell_of_row _ _ 0 _ _ _ row9
            have hge := owns_ge o9
            have hsz9 := b9.size
            obtain ⟨a9, c9, rfl⟩ := owns_slice o9
            clear p1 c0
            go_wp2_with (at_builtin; (refine Lib.wpList_append_own_string _ rfl _ _ 23 9 rfl W.heap.size 5 i0 Tryz.underlying23 Tryz.underlying9 hi0 hz0 hz1 hz2 _ m9.length (bvs m9) rfl o9 nm rfl ?c2 ?c3 ?c4 ?_))
            case c2 => unfold maxLen; omega
            case c3 => omega
            case c4 => exact hsz9
            intro v' w10 own10 hgr _
            have b10 : Below W.heap.size W w10 := b9.grown hgr hsz9 (fun k e => hge k e)
            have hlm : (m9 ++ nm.data.toList).length = m9.length + nm.size := by simp
            obtain ⟨m10, hm10⟩ : ∃ m10, m10 = m9 ++ nm.data.toList := ⟨_, rfl⟩
            have o10 : w10.ownsRow W.heap.size 5 1 v' m10.length (bvs m10) := by
              rw [hm10, hlm, show bvs (m9 ++ nm.data.toList) = bvs m9 ++ Lib.strCells nm by rw [strCells_bvs]; simp [bvs]]; exact own10
            rw [← hm10] at hlm
            have E10 := Lib.hid hm10
            have row10 := heap_below b10 rowp
            have B10 := nxt hb (nxt ba' b10)
            have hl10 : m10.length ≤ em'.length + 110 := by omega
            clear own10 hgr row9 c0' hge hsz9 o9 b9 rowp hm10 hlm hl9
            obtain ⟨a10, c10, rfl⟩ := owns_slice o10
            have p1 := put_em _ m10 e1 w10.drew ((Rd.of_owns o10).below (Below.refl _ _).drew) (by omega) z1
            have c00 : w10.cell? ⟨gp, 1, none⟩ = some (.int .i64 ln) := cell_of_row _ _ 1 _ _ _ row10
            have c01 : w10.cell? ⟨gp, 2, none⟩ = some (.int .u32 (sm : Int)) := cell_of_row _ _ 2 _ _ _ row10
            have c00' : w10.drew.cell? ⟨gp, 1, none⟩ = some (.int .i64 ln) := c00
            have c01' : w10.drew.cell? ⟨gp, 2, none⟩ = some (.int .u32 (sm : Int)) := c01
            go_upto_region 20 with fail
            go_region_with (first
              | (go_at_call 28; ((with_reducible refine p1.mono ?_); (rintro e w11 ⟨v11, m11, rfl, E11, hl11, o11, b11⟩); (obtain ⟨a11, c11, rfl⟩ := owns_slice o11); have c1 : w11.cell? ⟨gp, 2, none⟩ = some (.int .u32 (sm : Int)) := cell_of_row _ _ 2 _ _ _ (heap_below b11 (show w10.drew.heap[gp]? = some _ from row10))))
              | (go_at_call 28; ((with_reducible refine (put_em _ m11 sm w11 (Rd.of_owns o11) (by omega) (by omega)).mono ?_); (rintro e w12 ⟨v12, m12, rfl, E12, hl12, o12, b12⟩))))
            all_goals
              have B11 := nxt B10.drew b11
              have o12' := owns_base o12 B11.size
              have E13 := Lib.hid (show m12 = m7 ++ (objs.take (j + 1)).flatMap objL by rw [HNX.out, HLN.out, E12.out, E11.out, E10.out, E9.out, HEM.out]; simp)
              clear o12 E11 E12
              go_wp2_with fail
              exact ⟨⟨j + 1, by omega, by go_num, m12, E13, by omega, o12', nxt B11 b12⟩, by simp [intOf]; omega⟩
          · have EM := Lib.hid (show em' = mbody M by rw [HEM.out, List.take_of_length_le (by omega), E7.out, EP.out, Em6.out, HMB.out]; simp)
            have hp := seal_calls _ em' wr (Rd.of_owns ho) (by omega)
            obtain ⟨a9, c9, rfl⟩ := owns_slice ho
            go_wp2_with fail
            with_reducible refine hp.mono ?_
            rintro e w9 ⟨v9, rfl, o9, b9⟩
            go_wp2_with fail
            go_ret2
            refine ⟨.inl ⟨v9, rfl, ?_, ?_⟩, nxt hb b9⟩
            · rw [← EM.out]; exact owns_base o9 hb.size
            · rw [← EM.out]; omega
  · go_wp2_with fail
    go_ret2
    exact ⟨.inr ⟨_, _, rfl⟩, B1⟩
end Go.Proofs.YtegiingcnhafbaaGreatDoor

/-! mani.Bytes: a manifest as bytes, or an error, exact. -/
namespace Go.Proofs.YtegiingcnhafbaaGreatDoor
open Go Go.RowKit Man Vint Crc

def MBytesIff (A : Nat → Addr) (m : ManD) (w : World) (e : Ending) (w' : World) : Prop :=
  ((manOk m ∧ ∃ v, e = .returned (.tuple #[v, .nilIface]) ∧ w'.ownsRow w.heap.size 5 1 v (sealed (mbody m)).length (bvs (sealed (mbody m))) ∧ (mbody m).length ≤ 10000) ∨
   ¬ manOk m ∧ ∃ t u er, e = .returned (.tuple #[.slice none 0 0, .iface t u]) ∧ MBad m er ∧ ErRow A w' (.iface t u) er) ∧ Below w.heap.size w w'

set_option maxRecDepth 100000 in
set_option maxHeartbeats 4000000 in
theorem maniBytes_is (S : List Nat) (A : Nat → Addr) {w : World} {m : ManD} {ve vo : Value} (hS : Sents S w A) (h2 : 2 ∈ S) (h3 : 3 ∈ S) (h4 : 4 ∈ S) (h5 : 5 ∈ S) (h : ManRd w m ve vo) (hs : Small m) (hk : Man.Ok m) :
    Calls Tryz.prog 9 #[manA m ve vo] w (MBytesIff A m w) := by
  obtain ⟨i0, hi0, hz0, hz1, hz2⟩ := info_parts info_u8
  obtain ⟨re, ro⟩ := h
  obtain ⟨ae, ce, rfl⟩ := re.slice
  obtain ⟨ao, co, rfl⟩ := ro.slice
  have me := re.len_le
  have mo := ro.len_le
  have hs1 := hs.1
  have hs2 := hs.2.1
  have HN := Lib.hid hs.2.2
  have HOK := Lib.hid hk
  have b0 := below_alloc w (.cells #[.int .i64 m.id, .int .i64 m.base, .int .i64 m.fin, .int .i64 m.time, .slice ae m.eps.length ce, .slice ao m.objs.length co] 27)
  have row0 := heap_alloc_new w (.cells #[.int .i64 m.id, .int .i64 m.base, .int .i64 m.fin, .int .i64 m.time, .slice ae m.eps.length ce, .slice ao m.objs.length co] 27)
  have hv := maniValid_is S A (hS.below b0) h2 h3 h4 h5 ⟨re.below b0, ro.below b0⟩ hs
  unfold manA at hv ⊢
  clear hs hk
  obtain ⟨id, ba, fi, ti, eps, objs⟩ := m
  simp only at re ro me mo hs1 hs2 HN HOK b0 row0 hv ⊢
  obtain ⟨M, hM⟩ : ∃ M : ManD, M = ⟨id, ba, fi, ti, eps, objs⟩ := ⟨_, rfl⟩
  rw [← hM] at HOK ⊢
  have HMB := Lib.hid (show mbody M = putL (u64 id) ++ (putL (u64 ba) ++ (putL (u64 fi) ++ (putL (fold ti) ++ (putL eps.length ++ (eps.flatMap Man.pairL ++ (putL objs.length ++ objs.flatMap objL)))))) by rw [hM]; rfl)
  have HE := Lib.hid (show ∀ p ∈ eps, I64 p.ep ∧ I64 p.st by have := HOK.out.eps; rw [hM] at this; exact this)
  have HO := Lib.hid (show ∀ o ∈ objs, I64 o.len ∧ o.sum < 4294967296 by have := HOK.out.objs; rw [hM] at this; exact this)
  have hti : I64 ti := by have := HOK.out.time; rw [hM] at this; exact this
  rw [← hM] at hv
  clear hM HOK
  have u1 := u64_wrap id
  have u2 := u64_wrap ba
  have u3 := u64_wrap fi
  have l1 := u64_lt id
  have l2 := u64_lt ba
  have l3 := u64_lt fi
  generalize u64 id = x1 at *
  generalize u64 ba = x2 at *
  generalize u64 fi = x3 at *
  go_enter Tryz.func9, Tryz.ntmps9
  go_wp2_with fail
  refine hv.mono ?_
  rintro e w1 ⟨v1, er, rfl, hmb, her, b1⟩
  have B1 := nxt b0 b1
  have row1 := heap_below b1 row0
  clear hv row0
  obtain ⟨g, hg⟩ : ∃ g, g = w.heap.size := ⟨_, rfl⟩
  rw [← hg] at row1 ⊢
  clear hg
  by_cases hef : er = .fine
  · subst hef
    have hv1 : v1 = .nilIface := her
    subst hv1
    have HQK := Lib.hid (hmb.fine_iff.1 rfl)
    clear her hmb
    have d0 : w1.cell? ⟨g, 0, none⟩ = some (.int .i64 id) := cell_of_row _ _ 0 _ _ _ row1
    have p1 := put_em (.slice none 0 0) [] x1 w1 (Rd.nil w1 1) (by simp) l1
    go_wp2_with fail
    with_reducible refine p1.mono ?_
    rintro e w2 ⟨v2, m2, rfl, E2, hl2, o2, b2⟩
    have B2 := nxt B1 b2
    have row2 := heap_below b2 row1
    have ln2 : m2.length ≤ 10 := by simp at hl2; omega
    have d1 : w2.cell? ⟨g, 1, none⟩ = some (.int .i64 ba) := cell_of_row _ _ 1 _ _ _ row2
    have p2 := put_em v2 m2 x2 w2 (Rd.of_owns o2) (by omega) l2
    obtain ⟨a2, c2, rfl⟩ := owns_slice o2
    clear p1 o2 d0 hl2
    go_wp2_with fail
    with_reducible refine p2.mono ?_
    rintro e w3 ⟨v3, m3, rfl, E3, hl3, o3, b3⟩
    have B3 := nxt B2 b3
    have row3 := heap_below b3 row2
    have ln3 : m3.length ≤ 20 := by omega
    have d2 : w3.cell? ⟨g, 2, none⟩ = some (.int .i64 fi) := cell_of_row _ _ 2 _ _ _ row3
    have p3 := put_em v3 m3 x3 w3 (Rd.of_owns o3) (by omega) l3
    obtain ⟨a3, c3, rfl⟩ := owns_slice o3
    clear p2 o3 d1 hl3
    go_wp2_with fail
    with_reducible refine p3.mono ?_
    rintro e w4 ⟨v4, m4, rfl, E4, hl4, o4, b4⟩
    have B4 := nxt B3 b4
    have row4 := heap_below b4 row3
    have ln4 : m4.length ≤ 30 := by omega
    have d3 : w4.cell? ⟨g, 3, none⟩ = some (.int .i64 ti) := cell_of_row _ _ 3 _ _ _ row4
    have p4 := putInt_em v4 m4 ti w4 (Rd.of_owns o4) (by omega) hti
    obtain ⟨a4, c4, rfl⟩ := owns_slice o4
    clear p3 o4 d2 hl4
    go_wp2_with fail
    with_reducible refine p4.mono ?_
    rintro e w5 ⟨v5, m5, rfl, E5, hl5, o5, b5⟩
    have B5 := nxt B4 b5
    have row5 := heap_below b5 row4
    have ln5 : m5.length ≤ 40 := by omega
    have d4 : w5.cell? ⟨g, 4, none⟩ = some (.slice ae eps.length ce) := cell_of_row _ _ 4 _ _ _ row5
    have p5 := put_em v5 m5 eps.length w5 (Rd.of_owns o5) (by omega) (by omega)
    obtain ⟨a5, c5, rfl⟩ := owns_slice o5
    clear p4 o5 d3 hl5
    go_wp2_with fail
    with_reducible refine p5.mono ?_
    rintro e w6 ⟨v6, m6, rfl, E6, hl6, o6, b6⟩
    have B6 := nxt B5 b6
    have row6 := heap_below b6 row5
    have ln6 : m6.length ≤ 50 := by omega
    have d5 : w6.cell? ⟨g, 4, none⟩ = some (.slice ae eps.length ce) := cell_of_row _ _ 4 _ _ _ row6
    have hb5 := B5.size
    have o6' := owns_base o6 hb5
    have Em6 := Lib.hid (show m6 = putL x1 ++ (putL x2 ++ (putL x3 ++ (putL (fold ti) ++ putL eps.length))) by rw [E6.out, E5.out, E4.out, E3.out, E2.out]; simp)
    clear p5 o6 d4 hl6 hb5 E2 E3 E4 E5 E6 row1 row2 row3 row4 row5 b2 b3 b4 b5 b6 B1 B2 B3 B4 B5
    go_wp2_with fail
    go_loopw [5, 42] (fun bv iv wr => ∃ i : Nat, i ≤ eps.length ∧ iv = .int .i64 i ∧ ∃ em : List UInt8, Hid (em = m6 ++ (eps.take i).flatMap Man.pairL) ∧ em.length ≤ 50 + 20 * i ∧ wr.ownsRow w.heap.size 5 1 bv em.length (bvs em) ∧ Below w6.heap.size w6 wr) (fun _ iv _ => eps.length - (intOf iv).toNat)
    case atStart => exact ⟨0, Nat.zero_le _, rfl, m6, Lib.hid (by simp), by omega, o6', Below.refl _ _⟩
    case round =>
      obtain ⟨i, hi, rfl, em, HEM, hel, ho, hb6⟩ := hrel
      have hb := nxt B6 hb6
      by_cases hlt : i < eps.length
      · obtain ⟨b, o, rfl, hx⟩ := pairs_at (re.below hb) i hlt
        obtain ⟨q0, q1⟩ := hx i hlt
        have HNX := Lib.hid (mpairs_snoc eps i hlt)
        obtain ⟨m, hm⟩ : ∃ m, m = eps[i] := ⟨_, rfl⟩
        rw [← hm] at q0 q1 HNX
        clear hx hm
        obtain ⟨ep, st⟩ := m
        simp only at q0 q1 HNX
        have y1 := u64_wrap ep
        have y2 := u64_wrap st
        have z1 := u64_lt ep
        have z2 := u64_lt st
        generalize u64 ep = e1 at *
        generalize u64 st = e2 at *
        have ba' := below_alloc wr (.cells #[.int .i64 ep, .int .i64 st] 52)
        have rowp := heap_alloc_new wr (.cells #[.int .i64 ep, .int .i64 st] 52)
        obtain ⟨a7, c7, rfl⟩ := owns_slice ho
        go_upto_region 12 with fail
        obtain ⟨W, hW⟩ : ∃ W, W = wr.alloc (.cells #[.int .i64 ep, .int .i64 st] 52) := ⟨_, rfl⟩
        obtain ⟨gp, hgp⟩ : ∃ gp, gp = wr.heap.size := ⟨_, rfl⟩
        rw [← hW] at ba' rowp ⊢
        rw [← hgp] at rowp ⊢
        clear hW hgp q0 q1
        have p1 := put_em _ em e1 W.drew ((Rd.of_owns ho).below ba'.drew) (by omega) z1
        have c00 : W.cell? ⟨gp, 0, none⟩ = some (.int .i64 ep) := cell_of_row _ _ 0 _ _ _ rowp
        have c01 : W.cell? ⟨gp, 1, none⟩ = some (.int .i64 st) := cell_of_row _ _ 1 _ _ _ rowp
        have c00' : W.drew.cell? ⟨gp, 0, none⟩ = some (.int .i64 ep) := c00
        have c01' : W.drew.cell? ⟨gp, 1, none⟩ = some (.int .i64 st) := c01
        go_region_with (first
          | (go_at_call 28; ((with_reducible refine p1.mono ?_); (rintro e w7 ⟨v7, m7, rfl, E7, hl7, o7, b7⟩); (obtain ⟨a8, c8, rfl⟩ := owns_slice o7); have c1 : w7.cell? ⟨gp, 1, none⟩ = some (.int .i64 st) := cell_of_row _ _ 1 _ _ _ (heap_below b7 (show W.drew.heap[gp]? = some _ from rowp))))
          | (go_at_call 28; ((with_reducible refine (put_em _ m7 e2 w7 (Rd.of_owns o7) (by omega) z2).mono ?_); (rintro e w8 ⟨v8, m8, rfl, E8, hl8, o8, b8⟩))))
        all_goals
          have B7 := nxt hb6 (nxt ba'.drew b7)
          have hsz := (nxt B6 B7).size
          have o8' := owns_base o8 hsz
          have E9 := Lib.hid (show m8 = m6 ++ (eps.take (i + 1)).flatMap Man.pairL by rw [HNX.out, E8.out, E7.out, HEM.out]; simp)
          clear o8 hsz E8 E7
          go_wp2_with fail
          exact ⟨⟨i + 1, by omega, by go_num, m8, E9, by omega, o8', nxt B7 b8⟩, by simp [intOf]; omega⟩
      · have row6b := heap_below hb6 row6
        have f5 : wr.cell? ⟨g, 5, none⟩ = some (.slice ao objs.length co) := cell_of_row _ _ 5 _ _ _ row6b
        have EP := Lib.hid (show em = m6 ++ eps.flatMap Man.pairL by rw [HEM.out, List.take_of_length_le (by omega)])
        have hel' : em.length ≤ 6050 := by omega
        have p1 := put_em _ em objs.length wr (Rd.of_owns ho) (by omega) (by omega)
        obtain ⟨a7, c7, rfl⟩ := owns_slice ho
        clear HEM ho hel
        go_wp2_with fail
        with_reducible refine p1.mono ?_
        rintro e w7 ⟨v7, m7, rfl, E7, hl7, o7, b7⟩
        have row7 := heap_below b7 row6b
        have f5' : w7.cell? ⟨g, 5, none⟩ = some (.slice ao objs.length co) := cell_of_row _ _ 5 _ _ _ row7
        have B7 := nxt hb b7
        have o7' := owns_base o7 hb.size
        have hl7' : m7.length ≤ 6060 := by omega
        clear p1 o7 f5 row6b row6 row7 hl7 hel' b7 hb hb6 o6' d5 ln6 B6
        go_wp2_with fail
        go_loopw [5, 65] (fun bv iv wr => ∃ i : Nat, i ≤ objs.length ∧ iv = .int .i64 i ∧ ∃ em : List UInt8, Hid (em = m7 ++ (objs.take i).flatMap objL) ∧ em.length ≤ 6060 + 130 * i ∧ wr.ownsRow w.heap.size 5 1 bv em.length (bvs em) ∧ Below w.heap.size w wr) (fun _ iv _ => objs.length - (intOf iv).toNat)
        case atStart => exact ⟨0, Nat.zero_le _, rfl, m7, Lib.hid (by simp), by omega, o7', B7⟩
        case round =>
          obtain ⟨j, hj, rfl, em', HEM, hel, ho, hb⟩ := hrel
          by_cases hjt : j < objs.length
          · obtain ⟨b, o, rfl, hx⟩ := objs_at (ro.below hb) j hjt
            obtain ⟨q0, q1, q2⟩ := hx j hjt
            have HNX := Lib.hid (mobjs_snoc objs j hjt)
            have hnm := HN.out objs[j] (List.getElem_mem hjt)
            have hsm := (HO.out objs[j] (List.getElem_mem hjt)).2
            obtain ⟨m, hm⟩ : ∃ m, m = objs[j] := ⟨_, rfl⟩
            rw [← hm] at q0 q1 q2 HNX hnm hsm
            clear hx hm
            obtain ⟨nm, ln, sm⟩ := m
            simp only at q0 q1 q2 HNX hnm hsm
            have y1 := u64_wrap ln
            have y2 : IntKind.u64.wrap (sm : Int) = (sm : Int) := by rw [IntKind.wrap_u64]; omega
            have z1 := u64_lt ln
            have HLN := Lib.hid (show objL ⟨nm, ln, sm⟩ = putL nm.size ++ (nm.data.toList ++ (putL (u64 ln) ++ putL sm)) from rfl)
            generalize u64 ln = e1 at *
            have ba' := below_alloc wr (.cells #[.string nm, .int .i64 ln, .int .u32 (sm : Int)] 44)
            have rowp := heap_alloc_new wr (.cells #[.string nm, .int .i64 ln, .int .u32 (sm : Int)] 44)
            obtain ⟨a8, c8, rfl⟩ := owns_slice ho
            go_upto_region 18 with fail
            obtain ⟨W, hW⟩ : ∃ W, W = wr.alloc (.cells #[.string nm, .int .i64 ln, .int .u32 (sm : Int)] 44) := ⟨_, rfl⟩
            obtain ⟨gp, hgp⟩ : ∃ gp, gp = wr.heap.size := ⟨_, rfl⟩
            rw [← hW] at ba' rowp ⊢
            rw [← hgp] at rowp ⊢
            clear hW hgp q0 q1 q2
            have c0 : W.cell? ⟨gp, 0, none⟩ = some (.string nm) := cell_of_row _ _ 0 _ _ _ rowp
            have p1 := put_em _ em' nm.size W ((Rd.of_owns ho).below ba') (by omega) (by omega)
            go_wp2_with fail
            with_reducible refine p1.mono ?_
            rintro e w9 ⟨v9, m9, rfl, E9, hl9, o9, b9⟩
            have hgl : gp < W.heap.size := (Array.getElem?_eq_some_iff.1 rowp).1
            have row9 := heap_below b9 rowp
            have c0' : w9.cell? ⟨gp, 0, none⟩ = some (.string nm) := cell_of_row _ _ 0 _ _ _ row9
            have hge := owns_ge o9
            have hsz9 := b9.size
            obtain ⟨a9, c9, rfl⟩ := owns_slice o9
            clear p1 c0
            go_wp2_with (at_builtin; (refine Lib.wpList_append_own_string _ rfl _ _ 23 9 rfl W.heap.size 5 i0 Tryz.underlying23 Tryz.underlying9 hi0 hz0 hz1 hz2 _ m9.length (bvs m9) rfl o9 nm rfl ?c2 ?c3 ?c4 ?_))
            case c2 => unfold maxLen; omega
            case c3 => omega
            case c4 => exact hsz9
            intro v' w10 own10 hgr _
            have b10 : Below W.heap.size W w10 := b9.grown hgr hsz9 (fun k e => hge k e)
            have hlm : (m9 ++ nm.data.toList).length = m9.length + nm.size := by simp
            obtain ⟨m10, hm10⟩ : ∃ m10, m10 = m9 ++ nm.data.toList := ⟨_, rfl⟩
            have o10 : w10.ownsRow W.heap.size 5 1 v' m10.length (bvs m10) := by
              rw [hm10, hlm, show bvs (m9 ++ nm.data.toList) = bvs m9 ++ Lib.strCells nm by rw [strCells_bvs]; simp [bvs]]; exact own10
            rw [← hm10] at hlm
            have E10 := Lib.hid hm10
            have row10 := heap_below b10 rowp
            have B10 := nxt hb (nxt ba' b10)
            have hl10 : m10.length ≤ em'.length + 110 := by omega
            clear own10 hgr row9 c0' hge hsz9 o9 b9 rowp hm10 hlm hl9
            obtain ⟨a10, c10, rfl⟩ := owns_slice o10
            have p1 := put_em _ m10 e1 w10.drew ((Rd.of_owns o10).below (Below.refl _ _).drew) (by omega) z1
            have c00 : w10.cell? ⟨gp, 1, none⟩ = some (.int .i64 ln) := cell_of_row _ _ 1 _ _ _ row10
            have c01 : w10.cell? ⟨gp, 2, none⟩ = some (.int .u32 (sm : Int)) := cell_of_row _ _ 2 _ _ _ row10
            have c00' : w10.drew.cell? ⟨gp, 1, none⟩ = some (.int .i64 ln) := c00
            have c01' : w10.drew.cell? ⟨gp, 2, none⟩ = some (.int .u32 (sm : Int)) := c01
            go_upto_region 20 with fail
            go_region_with (first
              | (go_at_call 28; ((with_reducible refine p1.mono ?_); (rintro e w11 ⟨v11, m11, rfl, E11, hl11, o11, b11⟩); (obtain ⟨a11, c11, rfl⟩ := owns_slice o11); have c1 : w11.cell? ⟨gp, 2, none⟩ = some (.int .u32 (sm : Int)) := cell_of_row _ _ 2 _ _ _ (heap_below b11 (show w10.drew.heap[gp]? = some _ from row10))))
              | (go_at_call 28; ((with_reducible refine (put_em _ m11 sm w11 (Rd.of_owns o11) (by omega) (by omega)).mono ?_); (rintro e w12 ⟨v12, m12, rfl, E12, hl12, o12, b12⟩))))
            all_goals
              have B11 := nxt B10.drew b11
              have o12' := owns_base o12 B11.size
              have E13 := Lib.hid (show m12 = m7 ++ (objs.take (j + 1)).flatMap objL by rw [HNX.out, HLN.out, E12.out, E11.out, E10.out, E9.out, HEM.out]; simp)
              clear o12 E11 E12
              go_wp2_with fail
              exact ⟨⟨j + 1, by omega, by go_num, m12, E13, by omega, o12', nxt B11 b12⟩, by simp [intOf]; omega⟩
          · have EM := Lib.hid (show em' = mbody M by rw [HEM.out, List.take_of_length_le (by omega), E7.out, EP.out, Em6.out, HMB.out]; simp)
            have hp := seal_calls _ em' wr (Rd.of_owns ho) (by omega)
            obtain ⟨a9, c9, rfl⟩ := owns_slice ho
            go_wp2_with fail
            with_reducible refine hp.mono ?_
            rintro e w9 ⟨v9, rfl, o9, b9⟩
            go_wp2_with fail
            go_ret2
            refine ⟨.inl ⟨HQK.out, v9, rfl, ?_, ?_⟩, nxt hb b9⟩
            · rw [← EM.out]; exact owns_base o9 hb.size
            · rw [← EM.out]; omega
  · obtain ⟨t, u, rfl⟩ := her.not_nil hef
    have HQN := Lib.hid (fun hh => hef (hmb.fine_iff.2 hh))
    have HER := Lib.hid her
    have HMB2 := Lib.hid hmb
    clear hef her hmb
    go_wp2_with fail
    go_ret2
    exact ⟨.inr ⟨HQN.out, _, _, er, rfl, HMB2.out, HER.out⟩, B1⟩
end Go.Proofs.YtegiingcnhafbaaGreatDoor
