/- EntryRows: entries one behind the other are read as they are, up to where they are cut; a byte turned ends them there. -/
import Derived.Test.YtldopocmmeidkaaDoorEntRowsMath
import Derived.Test.YtldopocmmeidkaaDoorRefSameEnts
import Derived.Test.YtldopocmmeidkaaDoorRefBytes
import Derived.Test.YtldopocmmeidkaaDoorNumber
import Derived.Deep.CutBlock
namespace Go.Proofs.YtldopocmmeidkaaDoor
open Go Go.RowKit Man Vint Crc

theorem sl_ent : Tryd.prog.underlying 67 = some (.slice (Tryd.prog.elem 67)) := by kernel_rfl
theorem sz_ent : (Tryd.prog.info? (Tryd.prog.elem 67)).map (·.size) = some 7 := by kernel_rfl
theorem info_int' : (Tryd.prog.info? 3).map (fun i => (i.zero, i.size, i.bytes)) = some (some (.int .i64 0), 1, 8) := by kernel_rfl

theorem ents_same {w : World} {b o c : Nat} {l : List EntR} (h : Rd w 7 (.slice (some ⟨b, o, none⟩) l.length c) l.length (l.flatMap entV)) {i : Nat} (hi : i < l.length) :
    w.cell? ⟨b, o + i * 7, none⟩ = some (.int .i64 l[i].k) ∧ w.cell? ⟨b, o + i * 7 + 1, none⟩ = some (.int .i64 l[i].m.id) ∧ w.cell? ⟨b, o + i * 7 + 2, none⟩ = some (.int .i64 l[i].m.base) ∧ w.cell? ⟨b, o + i * 7 + 3, none⟩ = some (.int .i64 l[i].m.fin) ∧ w.cell? ⟨b, o + i * 7 + 4, none⟩ = some (.int .i64 l[i].m.time) ∧ w.cell? ⟨b, o + i * 7 + 5, none⟩ = some l[i].ve ∧ w.cell? ⟨b, o + i * 7 + 6, none⟩ = some l[i].vo := by
  obtain ⟨b', o', he, hx⟩ := ents_at h i hi
  simp only [Option.some.injEq, Addr.mk.injEq, and_true] at he
  obtain ⟨rfl, rfl⟩ := he
  exact hx i hi

/-- Where entries end, as a row. -/
def endsV (gs : List EntG) : List Value := (List.range gs.length).map (fun j => .int .i64 (endB gs (j + 1) : Int))
theorem endsV_len (gs : List EntG) : (endsV gs).length = gs.length := by simp [endsV]
theorem endsV_at (gs : List EntG) (j : Nat) (h : j < gs.length) : (endsV gs)[j]? = some (.int .i64 (endB gs (j + 1) : Int)) := by
  unfold endsV
  rw [List.getElem?_map, List.getElem?_range h]
  rfl
theorem endB_snoc (gs : List EntG) (x : EntG) (j : Nat) (h : j ≤ gs.length) : endB (gs ++ [x]) j = endB gs j := by
  unfold endB
  rw [List.take_append_of_le_length h]
theorem endsV_snoc (gs : List EntG) (x : EntG) : endsV (gs ++ [x]) = endsV gs ++ [.int .i64 ((rowB (gs ++ [x])).length : Int)] := by
  unfold endsV
  rw [List.length_append, List.length_singleton, List.range_succ, List.map_append]
  congr 1
  · apply List.map_congr_left
    intro j hj
    rw [List.mem_range] at hj
    rw [endB_snoc gs x (j + 1) (by omega)]
  · rw [List.map_singleton, endB_all (gs ++ [x]) (gs.length + 1) (by simp)]

theorem run_upto (t : TypeId) (ht : Tryd.prog.underlying t = some (.slice (Tryd.prog.elem t))) (sz : Nat) (hsz : (Tryd.prog.info? (Tryd.prog.elem t)).map (·.size) = some sz) (ad : Option Addr) (n c m : Nat) (hm : m ≤ n) (hc : n ≤ c) :
    ∃ a' c', (∀ W, (Instr.sliceAt t (.slice ad n c) none (some (.int .i64 (m : Int))) none).run Tryd.prog W = .ok (.slice a' m c') W) ∧ ∀ W xs, Rd W sz (.slice ad n c) n xs → Rd W sz (.slice a' m c') m (xs.take (m * sz)) := by
  obtain ⟨a', c', e, r⟩ := part_all ad n c sz 0 m (Nat.zero_le _) hm
  rw [Nat.sub_zero] at e r
  refine ⟨a', c', fun W => by rw [run_cut_h t ht sz hsz ad n c m .i64 (by omega) W, e], fun W xs h => ?_⟩
  have := r W xs h
  rw [Nat.zero_mul, List.drop_zero] at this
  exact this

theorem Rd.upto {w : World} {sz n c : Nat} {a : Option Addr} {xs : List Value} (h : Rd w sz (.slice a n c) n xs) (m : Nat) (hm : m ≤ n) : Rd w sz (.slice a m c) m (xs.take (m * sz)) := by
  obtain ⟨a', c', e, r⟩ := part_all a n c sz 0 m (Nat.zero_le _) hm
  have e2 : sliced a 0 m c sz = .slice a m c := by
    unfold sliced
    cases a with
    | none => simp
    | some ad => simp [Addr.add]
  have := r w xs h
  rw [← e, e2, Nat.sub_zero, Nat.zero_mul, List.drop_zero] at this
  exact this

/-- What the first loop has laid. -/
structure ERows (w0 : World) (ls : List EntR) (gs : List EntG) (rs : List EntR) (bv ev gv : Value) (w : World) : Prop where
  ok : ∀ x ∈ gs, x.Ok
  data : rs.map (·.d) = gs.map EntG.d
  bo : w.ownsRow w0.heap.size 5 1 bv (rowB gs).length (bvs (rowB gs))
  eo : w.ownsRow w0.heap.size 3 1 ev gs.length (endsV gs)
  go : w.ownsRow w0.heap.size 27 7 gv rs.length (rs.flatMap entV)
  sub : ∀ x ∈ rs, x ∈ ls
  bel : Below w0.heap.size w0 w
  len : (rowB gs).length ≤ 10021 * gs.length
theorem ERows.below {w0 w w1 : World} {ls : List EntR} {gs : List EntG} {rs : List EntR} {bv ev gv : Value} (h : ERows w0 ls gs rs bv ev gv w) (b : Below w.heap.size w w1) : ERows w0 ls gs rs bv ev gv w1 :=
  ⟨h.ok, h.data, owns_below h.bo b, owns_below h.eo b, owns_below h.go b, h.sub, nxt h.bel b, h.len⟩

set_option maxRecDepth 100000 in
set_option maxHeartbeats 8000000 in
theorem entryRows_walk (S : List Nat) (A : Nat → Addr) (ls : List EntR) (v : Value) (cut at' : Int) (by' : UInt8) (w : World) (hS : Sents S w A) (hall : ∀ i, i ∈ [0, 1, 2, 3, 4, 5, 11] → i ∈ S) (h : Rd w 7 v ls.length (ls.flatMap entV)) (hm : ∀ x ∈ ls, ManRd w x.m x.ve x.vo ∧ Man.Ok x.m) :
    Calls Tryd.prog 7 #[v, .int .i64 cut, .int .i64 at', .int .u8 (by'.toNat : Int)] w (fun e w' => e = .returned (.bool true) ∧ Below w.heap.size w w') := by
  obtain ⟨i0, hi0, hz0, hz1, hz2⟩ := info_parts info_u8
  obtain ⟨i1, hi1, hy0, hy1, hy2⟩ := info_parts info_int'
  obtain ⟨i2, hi2, hx0, hx1, hx2⟩ := info_parts info_ent
  obtain ⟨av, cv, rfl⟩ := h.slice
  have hll := h.len_le
  have HM := Lib.hid hm
  clear hm
  have hf := entFirst_calls w
  go_enter Tryd.func7, Tryd.ntmps7
  go_wp2_with fail
  with_reducible refine hf.mono ?_
  rintro e w2 ⟨rfl, nq, hw2⟩
  have b2 : Below w.heap.size w w2 := by rw [hw2]; exact below_drewN (Below.refl _ _) nq
  clear hw2 hf
  by_cases t1 : 8 < ls.length
  case pos =>
    go_wp2_with fail
    go_ret
    exact ⟨rfl, b2⟩
  have t1' : decide ((8 : Int) < (ls.length : Int)) = false := decide_eq_false (by omega)
  have hl8 : ls.length ≤ 8 := by omega
  clear t1
  go_wp2_with fail
  go_loopw [10, 11, 12, 13] (fun bv ev gv iv wr => ∃ (i : Nat) (gs : List EntG) (rs : List EntR), iv = .int .i64 i ∧ i ≤ ls.length ∧ gs.length ≤ i ∧ rs.length ≤ i ∧ ERows w ls gs rs bv ev gv wr) (fun _ _ _ iv _ => ls.length - (intOf iv).toNat)
  case atStart => exact ⟨0, [], [], rfl, Nat.zero_le _, Nat.zero_le _, Nat.zero_le _, ⟨by simp, rfl, World.ownsRow_nil _ _ _ _, World.ownsRow_nil _ _ _ _, World.ownsRow_nil _ _ _ _, by simp, b2, by simp [rowB]⟩⟩
  case round =>
    obtain ⟨i, gs, rs, rfl, hi, hgl, hrl, I⟩ := hrel
    obtain ⟨ab, cb, rfl⟩ := owns_slice I.bo
    obtain ⟨ae, ce, rfl⟩ := owns_slice I.eo
    obtain ⟨ag, cg, rfl⟩ := owns_slice I.go
    by_cases hlt : i < ls.length
    · obtain ⟨b, o, rfl, hx⟩ := ents_at (h.below I.bel) i hlt
      obtain ⟨q0, q1, q2, q3, q4, q5, q6⟩ := hx i hlt
      obtain ⟨mr, mk⟩ := HM.out ls[i] (List.getElem_mem hlt)
      have HMEM := Lib.hid (List.getElem_mem hlt)
      have Q := fun W (hB : Below w.heap.size w W) => ents_same (h.below hB) (i := i) hlt
      obtain ⟨x, hxx⟩ : ∃ x, x = ls[i] := ⟨_, rfl⟩
      rw [← hxx] at q0 q1 q2 q3 q4 q5 q6 mr mk HMEM Q
      clear hx hxx
      obtain ⟨k, m, ve, vo⟩ := x
      simp only at q0 q1 q2 q3 q4 q5 q6 mr mk Q
      obtain ⟨aq, cq, rfl⟩ := mr.1.slice
      obtain ⟨ar, cr, rfl⟩ := mr.2.slice
      have hwm := worldManifest_calls (mr.below I.bel)
      have heb := fun W (hB : Below w.heap.size w W) hs => entBytes_is S A (seq := (i : Int)) (k := k) (hS.below hB) (hall 2 (by decide)) (hall 3 (by decide)) (hall 4 (by decide)) (hall 5 (by decide)) (hall 11 (by decide)) (mr.below hB) hs mk
      unfold manA at hwm
      unfold entA at heb
      have hmel := mr.1.len_le
      have HK := Lib.hid mk
      clear mr mk
      have hlt0 : (i : Int) < (ls.length : Int) := by omega
      go_wp2_with fail
      with_reducible refine hwm.mono ?_
      rintro e w3 ⟨t, rfl, b3, hsm⟩
      have J := I.below b3
      clear hwm q0 q1 q2 q3 q4 q5 q6
      cases t
      · go_wp2_with fail
        go_ret
        exact ⟨rfl, J.bel⟩
      have hs := hsm rfl
      clear hsm
      obtain ⟨q0, q1, q2, q3, q4, q5, q6⟩ := Q w3 J.bel
      by_cases t2 : 20 < m.eps.length
      · go_wp2_with fail
        go_ret
        exact ⟨rfl, J.bel⟩
      have t2' : decide ((20 : Int) < (m.eps.length : Int)) = false := decide_eq_false (by omega)
      have heb3 := heb w3 J.bel hs
      clear t2 heb
      go_wp2_with fail
      with_reducible refine heb3.mono ?_
      rintro e w4 ⟨hc4, b4⟩
      have J4 := J.below b4
      clear heb3 q0 q1 q2 q3 q4 q5 q6
      rcases hc4 with ⟨h0, -⟩ | ⟨-, -, rfl⟩ | ⟨-, k1, k4, ⟨-, T, u, er, rfl, -, -⟩ | ⟨hmk, v4, rfl, o4, hml⟩⟩
      · omega
      · unfold senV
        go_wp2_with fail
        exact ⟨⟨i + 1, gs, rs, by go_num, by omega, by omega, by omega, J4⟩, by simp [intOf]; omega⟩
      · go_wp2_with fail
        exact ⟨⟨i + 1, gs, rs, by go_num, by omega, by omega, by omega, J4⟩, by simp [intOf]; omega⟩
      obtain ⟨EB, hEB⟩ : ∃ x, x = entB (i : Int) k m := ⟨_, rfl⟩
      have hel : EB.length ≤ 10021 := by rw [hEB, entB_len]; omega
      rw [← hEB] at o4
      obtain ⟨a4, c4, rfl⟩ := owns_slice o4
      have r4 := Rd.of_owns o4
      have HEB := Lib.hid hEB
      have HG : Hid (EntG.Ok ⟨(i : Int), k, m⟩) := Lib.hid ⟨hmk, HK.out, by simp only; omega, by unfold I64; simp only; omega, k1, k4⟩
      have jl := J4.len
      have B4 := J4.bel
      have jb := J4.bo
      have je := J4.eo
      have jg := J4.go
      have HJ := Lib.hid J4
      obtain ⟨nb, hnb⟩ : ∃ n, n = (rowB gs).length + EB.length := ⟨_, rfl⟩
      have HNB := Lib.hid hnb
      have hnl : nb ≤ 10021 * (gs.length + 1) := by omega
      clear J J4 hEB hmk o4 hml I
      go_wp2_with (at_builtin; refine wpList_append_rdg rfl _ _ 30 rfl w.heap.size 5 i0 (.int .u8 0) 1 1 Tryd.underlying30 hi0 hz0 hz1 hz2 rfl (by decide) _ (rowB gs).length (bvs (rowB gs)) rfl jb _ _ (bvs EB) rfl r4 (bvs_one _) ?c3 ?c4 ?c5 ?_)
      case c3 => unfold maxLen; omega
      case c4 => omega
      case c5 => exact B4.size
      intro v5 w5 o5 g5 _
      rw [← hnb] at o5
      obtain ⟨a5, c5, rfl⟩ := owns_slice o5
      have ty5 := owns_rowIs3 jb
      have e5 := owns_grown g5 je ty5 (by decide)
      have f5 := owns_grown g5 jg ty5 (by decide)
      have B5 : Below w.heap.size w w5 := B4.grown g5 B4.size (owns_ge jb)
      clear g5 ty5 jb je jg r4 hnb jl b4 B4
      go_wp2_with (at_builtin; refine wpList_append_own _ rfl _ _ 68 rfl w.heap.size 3 i1 (.int .i64 0) 1 8 Tryd.underlying68 hi1 hy0 hy1 hy2 rfl (by decide) _ gs.length (endsV gs) rfl (e5.alloc _) ⟨w5.heap.size, 0, none⟩ 1 1 [.int .i64 (nb : Int)] rfl rfl ?c1 ?c2 ?c3 ?c4 ?c5 ?_)
      case c1 => exact cells_new w5 #[.int .i64 (nb : Int)] 3
      case c2 => intro u hu; simp at hu; subst hu; rfl
      case c3 => unfold maxLen; omega
      case c4 => omega
      case c5 => have := B5.size; simp; omega
      intro v6 w6 o6 g6 _
      obtain ⟨a6, c6, rfl⟩ := owns_slice o6
      have b6 := below_alloc w5 (.cells #[.int .i64 (nb : Int)] 3)
      have ty6 := owns_rowIs3 (owns_below e5 b6)
      have o56 := owns_grown g6 (owns_below o5 b6) ty6 (by decide)
      have f6 := owns_grown g6 (owns_below f5 b6) ty6 (by decide)
      have B6 : Below w.heap.size w w6 := (nxt B5 b6).grown g6 (nxt B5 b6).size (owns_ge e5)
      clear g6 ty6 o5 e5 f5 b6 B5
      obtain ⟨q0, q1, q2, q3, q4, q5, q6⟩ := Q w6 B6
      go_wp2_with (at_builtin; refine wpList_append_own _ rfl _ _ 67 rfl w.heap.size 27 i2 _ 7 88 Tryd.underlying67 hi2 hx0 hx1 hx2 rfl (by decide) _ rs.length (rs.flatMap entV) rfl (f6.alloc _) ⟨w6.heap.size, 0, none⟩ 1 1 [.int .i64 k, .int .i64 m.id, .int .i64 m.base, .int .i64 m.fin, .int .i64 m.time, .slice aq m.eps.length cq, .slice ar m.objs.length cr] rfl rfl ?c1 ?c2 ?c3 ?c4 ?c5 ?_)
      case c1 => exact cells_new w6 #[.int .i64 k, .int .i64 m.id, .int .i64 m.base, .int .i64 m.fin, .int .i64 m.time, .slice aq m.eps.length cq, .slice ar m.objs.length cr] 27
      case c2 => intro u hu; simp at hu; rcases hu with rfl | rfl | rfl | rfl | rfl | rfl | rfl <;> rfl
      case c3 => unfold maxLen; omega
      case c4 => omega
      case c5 => have := B6.size; simp; omega
      intro v7 w7 o7 g7 _
      obtain ⟨a7, c7, rfl⟩ := owns_slice o7
      have b7 := below_alloc w6 (.cells #[.int .i64 k, .int .i64 m.id, .int .i64 m.base, .int .i64 m.fin, .int .i64 m.time, .slice aq m.eps.length cq, .slice ar m.objs.length cr] 27)
      have ty7 := owns_rowIs3 (owns_below f6 b7)
      have o57 := owns_grown g7 (owns_below o56 b7) ty7 (by decide)
      have o67 := owns_grown g7 (owns_below o6 b7) ty7 (by decide)
      have B7 : Below w.heap.size w w7 := (nxt B6 b7).grown g7 (nxt B6 b7).size (owns_ge f6)
      clear g7 ty7 o56 o6 f6 b7 B6 q0 q1 q2 q3 q4 q5 q6
      go_wp2_with fail
      refine ⟨⟨i + 1, gs ++ [⟨(i : Int), k, m⟩], rs ++ [⟨k, m, .slice aq m.eps.length cq, .slice ar m.objs.length cr⟩], by go_num, by omega, by rw [List.length_append, List.length_singleton]; omega, by rw [List.length_append, List.length_singleton]; omega, ?_⟩, by simp [intOf]; omega⟩
      have hrb : rowB (gs ++ [⟨(i : Int), k, m⟩]) = rowB gs ++ EB := by rw [rowB_snoc, HEB.out]; rfl
      refine ⟨fun x hx => ?_, by rw [List.map_append, List.map_append, HJ.out.data]; rfl, ?_, ?_, ?_, fun x hx => ?_, B7, ?_⟩
      · rcases List.mem_append.1 hx with h1 | h1
        · exact HJ.out.ok x h1
        · rw [List.mem_singleton.1 h1]; exact HG.out
      · rw [hrb, List.length_append, bvs_append, ← HNB.out]; exact o57
      · rw [endsV_snoc, hrb, List.length_append, List.length_append, ← HNB.out]; exact o67
      · rw [List.length_append, List.flatMap_append]; exact o7
      · rcases List.mem_append.1 hx with h1 | h1
        · exact HJ.out.sub x h1
        · rw [List.mem_singleton.1 h1]; exact HMEM.out
      · rw [hrb, List.length_append, List.length_append, ← HNB.out]; exact hnl
    · have hgl8 : gs.length ≤ 8 := by omega
      have hrg : rs.length = gs.length := by have := congrArg List.length I.data; rw [List.length_map, List.length_map] at this; exact this
      obtain ⟨N, hN⟩ : ∃ N, N = (rowB gs).length := ⟨_, rfl⟩
      have jl := I.len
      rw [← hN] at jl
      have hNb : N ≤ 80168 := by omega
      have ob := I.bo
      have HI := Lib.hid I
      have HN := Lib.hid hN
      rw [← hN] at ob ⊢
      have hbc := (Rd.of_owns ob).cap
      have hgc := (Rd.of_owns I.go).cap
      have hnum := number_calls cut ((N : Int) + 1) wr (by omega) (by omega)
      clear hN jl I
      go_wp2_with fail
      with_reducible refine hnum.mono ?_
      rintro e wr' ⟨rfl, rfl⟩
      clear hnum
      obtain ⟨kk, hkk, hkl⟩ : ∃ kk : Nat, cut % ((N : Int) + 1) = (kk : Int) ∧ kk ≤ N := by
        have e1 := Int.emod_nonneg cut (show (N : Int) + 1 ≠ 0 by omega)
        have e2 := Int.emod_lt_of_pos cut (show (0 : Int) < (N : Int) + 1 by omega)
        exact ⟨(cut % ((N : Int) + 1)).toNat, by omega, by omega⟩
      rw [hkk]
      clear hkk
      obtain ⟨ak, ck, sk, rk⟩ := run_upto 30 sl_u8 1 sz_u8 ab N cb kk hkl hbc
      have rk1 := rk wr _ (Rd.of_owns ob)
      rw [Nat.mul_one, ← bvs_take] at rk1
      obtain ⟨BK, hBK⟩ : ∃ BK, BK = (rowB gs).take kk := ⟨_, rfl⟩
      rw [← hBK] at rk1
      have hBl : BK.length = kk := by rw [hBK, List.length_take, ← HN.out]; omega
      have HBK := Lib.hid hBK
      have hea := entAll_calls S A (hS.below HI.out.bel) (hall 0 (by decide)) (hall 1 (by decide)) (hall 2 (by decide)) (hall 3 (by decide)) (hall 4 (by decide)) (hall 5 (by decide)) (hall 11 (by decide)) (v := .slice ak kk ck) (bs := BK) (by rw [hBl]; exact rk1) (by omega)
      clear rk rk1 hBK
      go_wp2_with fail
      with_reducible refine hea.mono ?_
      rintro e w3 ⟨rs', sv, ov, ev, p', rfl, hal, hpl, oo3, par3, b3, hcase⟩
      clear hea sk
      have HST : Hid (Stops BK p') := Lib.hid (by
        rcases hcase with ⟨e1, -⟩ | ⟨-, -, e1⟩
        · rw [e1]; exact stops_end BK
        · exact e1)
      have HAL := Lib.hid hal
      have HPAR := Lib.hid par3
      have hev : (∃ T u, ev = .iface T u) ∨ ev = .nilIface := by
        rcases hcase with ⟨-, e1⟩ | ⟨-, e1, -⟩
        · exact .inr e1
        · exact .inl e1
      obtain ⟨a3, c3, rfl⟩ := owns_slice oo3
      have K3 := HI.out.below b3
      have HK3 := Lib.hid K3
      have B3 := K3.bel
      have oe3 := K3.eo
      clear hal par3 hcase ob K3
      go_upto_block 2 with fail
      go_cut [21] (fun jv wx => ∃ j : Nat, jv = .int .i64 (j : Int) ∧ j ≤ gs.length ∧ endB gs j ≤ kk ∧ (j < gs.length → kk < endB gs (j + 1)) ∧ Below w3.heap.size w3 wx)
      case first =>
        go_wp2_with fail
        go_loopw [21] (fun jv wx => ∃ j : Nat, jv = .int .i64 (j : Int) ∧ j ≤ gs.length ∧ endB gs j ≤ kk ∧ Below w3.heap.size w3 wx) (fun jv _ => gs.length - (intOf jv).toNat)
        case atStart => exact ⟨0, rfl, Nat.zero_le _, by simp [endB, rowB], Below.refl _ _⟩
        case round =>
          obtain ⟨j, rfl, hj, hjk, hb⟩ := hrel
          have oe4 := owns_below oe3 hb
          by_cases hlt : j < gs.length
          · obtain ⟨be, rfl, -⟩ := owns_at oe4 (by omega)
            have k1 := World.ownsRow.cellAt oe4 j (by omega)
            rw [endsV_at gs j hlt] at k1
            by_cases hc : endB gs (j + 1) ≤ kk
            · go_wp2_with fail
              exact ⟨⟨j + 1, by go_num, by omega, hc, hb⟩, by simp [intOf]; omega⟩
            · go_wp2_with fail
              go_meet
              exact ⟨j, rfl, hj, hjk, fun _ => by omega, hb⟩
          · go_wp2_with fail
            go_meet
            exact ⟨j, rfl, hj, hjk, fun h => absurd h hlt, hb⟩
      case rest =>
      obtain ⟨j, rfl, hj, hjk, hjn, bc⟩ := hcut
      obtain ⟨w24, hw24⟩ : ∃ x, x = wc := ⟨_, rfl⟩
      subst hw24
      have Bc := nxt B3 bc
      have hrc := rows_cut gs HI.out.ok kk j hj hjk hjn
      rw [← HBK.out] at hrc
      obtain ⟨hd, hp⟩ := HAL.out.end_uniq HST.out hrc.1 hrc.2
      subst hp
      have hl' : rs'.length = j := by have := congrArg List.length hd; rw [List.length_map, List.length_map, List.length_take] at this; omega
      rw [hrg] at hgc
      have og := owns_below HK3.out.go bc
      rw [hrg] at og
      have rg1 := (Rd.of_owns og).upto j hj
      have HL := Lib.hid hl'
      rw [flat_take_n' entV 7 rs (fun _ _ => rfl) j] at rg1
      have hse := sameEnts_calls (.slice a3 rs'.length c3) (.slice ag j cg) rs' (rs.take j) w24 (Rd.of_owns (owns_below oo3 bc)) (by rw [List.length_take, hrg, Nat.min_eq_left hj]; exact rg1) (fun x hx => ((HPAR.out x hx).below bc).rd) (fun x hx => ((HM.out x (HI.out.sub x (List.mem_of_mem_take hx))).1.below Bc))
      rw [decide_eq_true (show rs'.map (·.d) = (rs.take j).map (·.d) by rw [hd, List.map_take, List.map_take, HI.out.data])] at hse
      have oec := owns_below oe3 bc
      clear hrc hd rg1 hjn hl'
      go_upto_region 24 with fail
      go_cut [143] (fun x wx => x = .bool false ∧ Below w24.heap.size w24 wx)
      case first =>
        rcases j with _ | j
        · have e0 : endB gs 0 = 0 := by simp [endB, rowB]
          rw [e0] at hpl ⊢
          go_wp2_with fail
          with_reducible refine hse.mono ?_
          rintro e w4 ⟨rfl, b4⟩
          go_wp2_with fail
          go_meet
          exact ⟨rfl, b4⟩
        · obtain ⟨be, rfl, -⟩ := owns_at oec (by omega)
          have k0 := fun W (hB : Below w24.heap.size w24 W) => by
            have k1 := World.ownsRow.cellAt (owns_below oec hB) j (by omega)
            rw [endsV_at gs j (by omega)] at k1
            exact k1
          go_wp2_with fail
          with_reducible refine hse.mono ?_
          rintro e w4 ⟨rfl, b4⟩
          have k1 := k0 w4 b4
          have wj : IntKind.i64.wrap (((j + 1 : Nat) : Int) - 1) = (j : Int) := by rw [IntKind.wrap_i64]; omega
          go_wp2_with fail
          go_meet
          exact ⟨rfl, b4⟩
      case rest =>
      obtain ⟨rfl, b24⟩ := hcut
      have B24 := nxt Bc b24
      by_cases hN0 : N = 0
      · go_wp2_with fail
        go_ret
        exact ⟨rfl, B24⟩
      by_cases hby0 : by' = 0
      · subst hby0
        go_wp2_with fail
        go_ret
        exact ⟨rfl, B24⟩
      have hby2 : ¬ (by'.toNat = 0) := fun e => hby0 (UInt8.toNat_inj.1 (by rw [e]; rfl))
      have HBY := Lib.hid hby0
      have hN1 : 1 ≤ N := by omega
      have hNz : ¬ ((N : Int) = 0) := by omega
      have hNd : ((N : Int) == 0) = false := by rw [beq_eq_false_iff_ne]; exact hNz
      have hbz : ¬ ((by'.toNat : Int) = 0) := by omega
      have hbd : ((by'.toNat : Int) == 0) = false := by rw [beq_eq_false_iff_ne]; exact hbz
      have K24 := (HK3.out.below bc).below b24
      have HK24 := Lib.hid K24
      have hnum := number_calls at' (N : Int) wc (by omega) (by omega)
      have ob24 := K24.bo
      have rb24 : Rd wc 1 (.slice ab N cb) (rowB gs).length (bvs (rowB gs)) := by
        have := Rd.of_owns ob24
        rw [← HN.out] at this ⊢
        exact this
      have hrb := refBytes_calls _ _ wc rb24 (by rw [← HN.out]; omega)
      clear hby0 hj hjk hgc rb24 ob24 oo3 oec og hse K24
      go_wp2_with fail
      with_reducible refine hnum.mono ?_
      rintro e wc' ⟨rfl, rfl⟩
      clear hnum
      obtain ⟨ix, hix, hixl⟩ : ∃ ix : Nat, at' % (N : Int) = (ix : Int) ∧ ix < N := by
        have e1 := Int.emod_nonneg at' (show (N : Int) ≠ 0 by omega)
        have e2 := Int.emod_lt_of_pos at' (show (0 : Int) < (N : Int) by omega)
        exact ⟨(at' % (N : Int)).toNat, by omega, by omega⟩
      rw [hix]
      clear hix
      go_wp2_with fail
      with_reducible refine hrb.mono ?_
      rintro e w5 ⟨v5, rfl, o5, b5⟩
      obtain ⟨a5, c5, rfl⟩ := owns_slice o5
      clear hrb
      have B5 := nxt B24 b5
      have K5 := HK24.out.below b5
      have HK5 := Lib.hid K5
      rw [← HN.out] at o5 ⊢
      obtain ⟨gb, rfl, hgb⟩ := owns_at o5 (by omega)
      have hlB : ix < (rowB gs).length := by rw [← HN.out]; exact hixl
      have k1 := World.ownsRow.cellAt o5 ix (by omega)
      rw [bvs_at (rowB gs) ix hlB] at k1
      have hfr := World.ownsRow.frozenAt o5 ix
      have x1 := u8x (rowB gs)[ix] by'
      have st := World.ownsRow.stored o5 ix (.int .u8 ((((rowB gs)[ix] ^^^ by').toNat : Nat) : Int))
      have hst := st.1
      rw [bvs_set] at hst
      obtain ⟨z, hz⟩ : ∃ z, z = (rowB gs)[ix] ^^^ by' := ⟨_, rfl⟩
      have B6 : Below w.heap.size w (w5.setCell ⟨gb, ix, none⟩ (.int .u8 (((rowB gs)[ix] ^^^ by').toNat : Int))) := B5.setCell (p := ⟨gb, ix, none⟩) (Nat.le_trans B24.size hgb) _
      have b6 : Below wc.heap.size wc (w5.setCell ⟨gb, ix, none⟩ (.int .u8 (((rowB gs)[ix] ^^^ by').toNat : Int))) := b5.setCell (p := ⟨gb, ix, none⟩) hgb _
      rw [← hz] at x1 hst B6 b6
      have HZ := Lib.hid hz
      have HT := Lib.hid hst
      have HB := Lib.hid B6
      have HB2 := Lib.hid b6
      clear hst B6 hz st b6
      generalize (rowB gs)[ix] = x at k1 x1
      go_upto_region 31 with fail
      have B6 := HB.out
      have o6 := HT.out
      have K6 := HK24.out.below HB2.out
      have HK6 := Lib.hid K6
      clear HT HB HB2 k1 hfr x1 K6 o5 b5 B5 K5 HK5 hgb
      generalize World.setCell _ _ _ = w6 at *
      obtain ⟨C, hC⟩ : ∃ C, C = (rowB gs).set ix z := ⟨_, rfl⟩
      have hCl : C.length = N := by rw [hC, List.length_set, ← HN.out]
      have rc : Rd w6 1 (.slice (some ⟨gb, 0, none⟩) N c5) C.length (bvs C) := by rw [hCl, hC]; exact Rd.of_owns o6
      have hea := entAll_calls S A (hS.below B6) (hall 0 (by decide)) (hall 1 (by decide)) (hall 2 (by decide)) (hall 3 (by decide)) (hall 4 (by decide)) (hall 5 (by decide)) (hall 11 (by decide)) rc (by omega)
      have HC := Lib.hid hC
      have HCl := Lib.hid hCl
      clear rc o6 hC hCl
      go_wp2_with fail
      with_reducible refine hea.mono ?_
      rintro e w7 ⟨rs4, sv4, ov4, ev4, p4, rfl, hal4, hpl4, oo4, par4, b7, hcase4⟩
      clear hea
      have B7 := nxt B6 b7
      have HST4 : Hid (Stops C p4) := Lib.hid (by
        rcases hcase4 with ⟨e1, -⟩ | ⟨-, -, e1⟩
        · rw [e1]; exact stops_end C
        · exact e1)
      have HE4 : Hid (p4 < C.length → ∃ T u, ev4 = .iface T u) := Lib.hid (fun h => by
        rcases hcase4 with ⟨e1, -⟩ | ⟨-, e1, -⟩
        · omega
        · exact e1)
      have HAL4 := Lib.hid hal4
      have HPAR4 := Lib.hid par4
      obtain ⟨a7, c7, rfl⟩ := owns_slice oo4
      have K7 := HK6.out.below b7
      have HK7 := Lib.hid K7
      have oe7 := K7.eo
      have hg0 : 0 < gs.length := by
        rcases Nat.eq_zero_or_pos gs.length with e | e
        · have e1 : gs = [] := List.length_eq_zero_iff.1 e
          rw [e1] at hlB
          simp [rowB] at hlB
        · exact e
      obtain ⟨be, rfl, -⟩ := owns_at oe7 hg0
      have HLB := Lib.hid hlB
      clear hal4 hpl4 hcase4 par4 K7
      go_wp2_with fail
      go_loopw [28] (fun jv wx => ∃ jj : Nat, jv = .int .i64 (jj : Int) ∧ jj < gs.length ∧ endB gs jj ≤ ix ∧ Below w7.heap.size w7 wx) (fun jv _ => gs.length - (intOf jv).toNat)
      case atStart => exact ⟨0, rfl, hg0, by simp [endB, rowB], Below.refl _ _⟩
      case round =>
        obtain ⟨jj, rfl, hjj, hji, hb⟩ := hrel
        have oe8 := owns_below oe7 hb
        have k1 := World.ownsRow.cellAt oe8 jj (by omega)
        rw [endsV_at gs jj hjj] at k1
        clear oe8
        by_cases hc : endB gs (jj + 1) ≤ ix
        · have hjn : jj + 1 < gs.length := by
            rcases Nat.lt_or_ge (jj + 1) gs.length with h | h
            · exact h
            · have := endB_all gs (jj + 1) h
              have := HLB.out
              omega
          go_wp2_with fail
          exact ⟨⟨jj + 1, by go_num, hjn, hc, hb⟩, by simp [intOf]; omega⟩
        · have hrt := rows_turned gs HI.out.ok ix jj HLB.out by' HBY.out hjj hji (by omega)
          rw [← HZ.out, ← HC.out] at hrt
          obtain ⟨hd4, hp4⟩ := HAL4.out.end_uniq HST4.out hrt.1 hrt.2
          obtain ⟨T, u, rfl⟩ := HE4.out (by rw [hp4, HCl.out]; omega)
          have hl4 : rs4.length = jj := by have := congrArg List.length hd4; rw [List.length_map, List.length_map, List.length_take] at this; omega
          have og := owns_below HK7.out.go hb
          rw [hrg] at og
          have hgc8 := (Rd.of_owns og).cap
          have rg1 := (Rd.of_owns og).upto jj (by omega)
          rw [flat_take_n' entV 7 rs (fun _ _ => rfl) jj] at rg1
          have oo8 := owns_below oo4 hb
          have hcc8 := (Rd.of_owns oo8).cap
          have d8 : Below wr.heap.size wr wr.drew := (Below.refl _ _).drew
          have hse := sameEnts_calls (.slice a7 jj c7) (.slice ag jj cg) rs4 (rs.take jj) wr.drew (by rw [← hl4]; exact (Rd.of_owns oo8).below d8) (by rw [List.length_take, hrg, Nat.min_eq_left (by omega)]; exact rg1.below d8) (fun x hx => (((HPAR4.out x hx).below hb).below d8).rd) (fun x hx => ((HM.out x (HI.out.sub x (List.mem_of_mem_take hx))).1.below (nxt (nxt B7 hb) d8)))
          rw [decide_eq_true (show rs4.map (·.d) = (rs.take jj).map (·.d) by rw [hd4, List.map_take, List.map_take, HI.out.data])] at hse
          rw [hl4] at hcc8
          have hgn : jj ≤ gs.length := by omega
          have hgc9 : jj ≤ cg := by omega
          have Bz := nxt (nxt B7 hb) d8
          rw [hl4]
          clear hrt hd4 hl4 og rg1 oo8 hp4 hrg
          go_upto_region 35 with fail
          refine wp_region_ord (S := (fun _ => True)) [(0, true), (1, true), (2, true), (3, true), (4, true), (5, true), (6, true), (7, true), (8, true), (9, true), (10, true), (11, false), (12, true), (13, true), (14, true), (15, true), (16, true), (17, true), (18, true), (19, true), (20, true), (21, true), (22, true), (23, true), (24, true)] (by kernel_rfl) (by kernel_rfl) rfl (by kernel_rfl) (fun _ _ _ _ _ h => h) trivial ?_
          simp only [List.map_cons, List.map_nil, List.getElem?_toArray, List.getElem?_cons_succ, List.getElem?_cons_zero]
          iterate 11 (refine ord_take (v := ?_) (by kernel_rfl) (fun w hSw => ?_) ?_; rotate_left; (focus (go_simp; (first | done | with_reducible rfl))); simp only [Act.put, List.setIfInBounds_toArray, List.set_cons_zero, List.set_cons_succ])
          refine ord_do (by kernel_rfl) (fun K hK => ?_)
          go_simp
          go_at_call 33
          refine hse.mono ?_
          rintro e w9 ⟨rfl, b9⟩
          show K _ _
          refine hK.out _ _ trivial ?_
          clear hK
          try simp only [Act.put, List.setIfInBounds_toArray, List.set_cons_zero, List.set_cons_succ]
          iterate 5 (refine ord_take (v := ?_) (by kernel_rfl) (fun w hSw => ?_) ?_; rotate_left; (focus (go_simp; (first | done | with_reducible rfl))); simp only [Act.put, List.setIfInBounds_toArray, List.set_cons_zero, List.set_cons_succ])
          iterate 5 (refine ord_skip (by kernel_rfl) ?_; simp only [Act.put, List.setIfInBounds_toArray, List.set_cons_zero, List.set_cons_succ])
          iterate 3 (refine ord_take (v := ?_) (by kernel_rfl) (fun w hSw => ?_) ?_; rotate_left; (focus (go_simp; (first | done | with_reducible rfl))); simp only [Act.put, List.setIfInBounds_toArray, List.set_cons_zero, List.set_cons_succ])
          refine ord_nil ?_
          go_wp2_with fail
          go_ret
          exact ⟨rfl, nxt Bz b9⟩
end Go.Proofs.YtldopocmmeidkaaDoor
