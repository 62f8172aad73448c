/- ManiTurned: a manifest with one thing turned is another one, or may not be; its bytes with a byte turned are told. -/
import Derived.Test.YtldopocmmeidkaaDoorManFirst
import Derived.Test.YtldopocmmeidkaaDoorManClone
import Derived.Test.YtldopocmmeidkaaDoorManBytesOk
import Derived.Test.YtldopocmmeidkaaDoorManRead
import Derived.Test.YtldopocmmeidkaaDoorRefValidMan
import Derived.Test.YtldopocmmeidkaaDoorNumber
import Derived.Test.YtldopocmmeidkaaDoorSameBytes
import Derived.Deep.CutBlock
namespace Go.Proofs.YtldopocmmeidkaaDoor
open Go Go.RowKit Man Vint Crc

theorem ofInt_wrap64 (x : BitVec 64) : BitVec.ofInt 64 (IntKind.i64.wrap (x.toNat : Int)) = x := by
  apply BitVec.eq_of_toNat_eq
  rw [BitVec.toNat_ofInt, IntKind.wrap_i64]
  have := x.isLt
  omega
theorem xor1_ne (a : Int) : bits .xor .i64 a 1 ≠ a := by
  intro h
  have h1 : bits .xor .i64 a 1 = IntKind.i64.wrap ((BitVec.ofInt 64 a ^^^ BitVec.ofInt 64 1).toNat : Int) := rfl
  rw [h1] at h
  have h2 := congrArg (BitVec.ofInt 64) h
  rw [ofInt_wrap64] at h2
  have h3 : BitVec.ofInt 64 a ^^^ (BitVec.ofInt 64 a ^^^ BitVec.ofInt 64 1) = BitVec.ofInt 64 a ^^^ BitVec.ofInt 64 a := by rw [h2]
  rw [← BitVec.xor_assoc, BitVec.xor_self, BitVec.zero_xor] at h3
  exact absurd h3 (by decide)
theorem xor1_bd (a : Int) : I64 (bits .xor .i64 a 1) := ⟨(bits_within .xor .i64 a 1).1, (bits_within .xor .i64 a 1).2⟩
theorem ofInt_wrap32 (x : BitVec 32) : BitVec.ofInt 32 (IntKind.u32.wrap (x.toNat : Int)) = x := by
  apply BitVec.eq_of_toNat_eq
  rw [BitVec.toNat_ofInt, IntKind.wrap_u32]
  have := x.isLt
  omega
theorem xor1u_ne (a : Int) : bits .xor .u32 a 1 ≠ a := by
  intro h
  have h1 : bits .xor .u32 a 1 = IntKind.u32.wrap ((BitVec.ofInt 32 a ^^^ BitVec.ofInt 32 1).toNat : Int) := rfl
  rw [h1] at h
  have h2 := congrArg (BitVec.ofInt 32) h
  rw [ofInt_wrap32] at h2
  have h3 : BitVec.ofInt 32 a ^^^ (BitVec.ofInt 32 a ^^^ BitVec.ofInt 32 1) = BitVec.ofInt 32 a ^^^ BitVec.ofInt 32 a := by rw [h2]
  rw [← BitVec.xor_assoc, BitVec.xor_self, BitVec.zero_xor] at h3
  exact absurd h3 (by decide)
theorem xor1u_bd (a : Int) : 0 ≤ bits .xor .u32 a 1 ∧ bits .xor .u32 a 1 < 4294967296 := by
  have h1 : 0 ≤ bits .xor .u32 a 1 := (bits_within .xor .u32 a 1).1
  have h2 : bits .xor .u32 a 1 ≤ 4294967295 := (bits_within .xor .u32 a 1).2
  omega

theorem set_ob (l : List ObjD) (h : 0 < l.length) (x : ObjD) : ((x :: l.drop 1).flatMap obV).length = (l.flatMap obV).length := by
  cases l with
  | nil => simp at h
  | cons a l => simp [obV]
theorem set_len (l : List ObjD) (h : 0 < l.length) (n : Int) : (l.flatMap obV).set 1 (.int .i64 n) = ((⟨l[0].name, n, l[0].sum⟩ : ObjD) :: l.drop 1).flatMap obV := by
  cases l with
  | nil => simp at h
  | cons a l => simp [obV]
theorem set_sum (l : List ObjD) (h : 0 < l.length) (n : Nat) : (l.flatMap obV).set 2 (.int .u32 (n : Int)) = ((⟨l[0].name, l[0].len, n⟩ : ObjD) :: l.drop 1).flatMap obV := by
  cases l with
  | nil => simp at h
  | cons a l => simp [obV]
theorem set_ep (l : List Epo.Pr) (h : 0 < l.length) (n : Int) : (l.flatMap prV).set 0 (.int .i64 n) = ((⟨n, l[0].st⟩ : Epo.Pr) :: l.drop 1).flatMap prV := by
  cases l with
  | nil => simp at h
  | cons a l => simp [prV]
theorem cons_drop {α : Type} (l : List α) (h : 0 < l.length) : l = l[0] :: l.drop 1 := by
  cases l with
  | nil => simp at h
  | cons a l => rfl
theorem cons_len {α : Type} (l : List α) (h : 0 < l.length) (x : α) : (x :: l.drop 1).length = l.length := by
  rw [List.length_cons, List.length_drop]; omega

theorem fault_code (W : World) : (Instr.field 54 (.agg #[.int .i64 0, .bool false, .int .i64 0]) 0).run Tryd.prog W = .ok (.int .i64 0) W := by
  simp [Instr.field, asAgg, run_underlying Tryd.underlying54, go_sem, Result.andThen]

theorem putOk_of {m : ManD} (h : manOk m) (hk : Man.Ok m) : PutOk m := by
  unfold manOk rangeOk objsOk at h
  obtain ⟨⟨g1, g2, g3, g4, g5, g6, g7, g8, g9⟩, hev, -, ⟨-, h8, h9, -⟩⟩ := h
  obtain ⟨e1, e2, -⟩ := (Epo.valid_iff m.eps).1 hev
  refine ⟨by omega, by omega, by omega, by omega, e1, fun p hp => ?_, h8, fun o ho => ?_⟩
  · rw [List.all_eq_true] at e2
    have := e2 p hp
    unfold Epo.right at this
    rw [decide_eq_true_eq] at this
    omega
  · obtain ⟨i, hi, rfl⟩ := List.mem_iff_getElem.1 ho
    obtain ⟨q1, q2, q3⟩ := h9 i hi
    have := (hk.objs _ ho).2
    unfold nameOk at q1
    rw [decide_eq_true_eq] at q1
    exact ⟨q1.2.1, by omega, by omega⟩

/-- What is there behind the turning. -/
def TurnedRel (w0 : World) (m : ManD) (gc : Nat) (w' : World) : Prop := ∃ (c : ManD) (ue uo : Value), c ≠ m ∧ Man.Ok c ∧ Small c ∧ ManRd w' c ue uo ∧ w'.heap[gc]? = some (.cells #[.int .i64 c.id, .int .i64 c.base, .int .i64 c.fin, .int .i64 c.time, ue, uo] 25 (0, 0)) ∧ Below w0.heap.size w0 w'

theorem TurnedRel.ob {w1 w6 : World} {m : ManD} {gc qb pb kq kp b b' : Nat} (hB : Below w1.heap.size w1 w6) (hk : Man.Ok m) (hs : Small m)
    (row : w6.heap[gc]? = some (.cells #[.int .i64 m.id, .int .i64 m.base, .int .i64 m.fin, .int .i64 m.time, .slice (some ⟨pb, 0, none⟩) m.eps.length kp, .slice (some ⟨qb, 0, none⟩) m.objs.length kq] 25 (0, 0)))
    (Oe : w6.ownsRow b 48 2 (.slice (some ⟨pb, 0, none⟩) m.eps.length kp) m.eps.length (m.eps.flatMap prV)) (Oo : w6.ownsRow b' 46 3 (.slice (some ⟨qb, 0, none⟩) m.objs.length kq) m.objs.length (m.objs.flatMap obV))
    (hq1 : w1.heap.size ≤ qb) (h0 : 0 < m.objs.length) (j : Nat) (v : Value) (o : ObjD) (hset : (m.objs.flatMap obV).set j v = (o :: m.objs.drop 1).flatMap obV) (hne : o ≠ m.objs[0]) (ho : I64 o.len ∧ o.sum < 4294967296) (hn : o.name.size ≤ 100) :
    TurnedRel w1 m gc (w6.setCell ⟨qb, j, none⟩ v).drew := by
  have st := World.ownsRow.stored Oo j v
  obtain ⟨cc, ff, hqr⟩ := owns_rowIs3 Oo qb rfl
  have d : Below (w6.setCell ⟨qb, j, none⟩ v).heap.size (w6.setCell ⟨qb, j, none⟩ v) (w6.setCell ⟨qb, j, none⟩ v).drew := (Below.refl _ _).drew
  have Oe' := Rd.of_owns (Touch.owns st.2 Oe hqr (by decide))
  have Oo' := Rd.of_owns st.1
  have r' := Touch.row st.2 hqr row (by decide)
  rw [hset] at Oo'
  have hl := cons_len m.objs h0 o
  refine ⟨⟨m.id, m.base, m.fin, m.time, m.eps, o :: m.objs.drop 1⟩, _, _, fun e => ?_, ⟨hk.id, hk.base, hk.fin, hk.time, hk.eps, fun x hx => ?_⟩, ⟨hs.1, by simp only; rw [hl]; exact hs.2.1, fun x hx => ?_⟩, ⟨Oe'.below d, ?_⟩, heap_below d r', (hB.setCell (p := ⟨qb, j, none⟩) hq1 _).drew⟩
  · have e1 := congrArg ManD.objs e
    simp only at e1
    rw [cons_drop m.objs h0] at e1
    simp only [List.cons.injEq] at e1
    exact hne (by rw [e1.1]; try simp)
  · rcases List.mem_cons.1 hx with rfl | hx
    · exact ho
    · exact hk.objs x (List.mem_of_mem_drop hx)
  · rcases List.mem_cons.1 hx with rfl | hx
    · exact hn
    · exact hs.2.2 x (List.mem_of_mem_drop hx)
  · show Rd _ 3 (.slice (some ⟨qb, 0, none⟩) m.objs.length kq) (o :: m.objs.drop 1).length ((o :: m.objs.drop 1).flatMap obV)
    rw [hl]; exact Oo'.below d
theorem TurnedRel.ep {w1 w6 : World} {m : ManD} {gc qb pb kq kp b b' : Nat} (hB : Below w1.heap.size w1 w6) (hk : Man.Ok m) (hs : Small m)
    (row : w6.heap[gc]? = some (.cells #[.int .i64 m.id, .int .i64 m.base, .int .i64 m.fin, .int .i64 m.time, .slice (some ⟨pb, 0, none⟩) m.eps.length kp, .slice (some ⟨qb, 0, none⟩) m.objs.length kq] 25 (0, 0)))
    (Oe : w6.ownsRow b 48 2 (.slice (some ⟨pb, 0, none⟩) m.eps.length kp) m.eps.length (m.eps.flatMap prV)) (Oo : w6.ownsRow b' 46 3 (.slice (some ⟨qb, 0, none⟩) m.objs.length kq) m.objs.length (m.objs.flatMap obV))
    (hq1 : w1.heap.size ≤ pb) (h0 : 0 < m.eps.length) (j : Nat) (v : Value) (o : Epo.Pr) (hset : (m.eps.flatMap prV).set j v = (o :: m.eps.drop 1).flatMap prV) (hne : o ≠ m.eps[0]) (ho : I64 o.ep ∧ I64 o.st) :
    TurnedRel w1 m gc (w6.setCell ⟨pb, j, none⟩ v).drew := by
  have st := World.ownsRow.stored Oe j v
  obtain ⟨cc, ff, hqr⟩ := owns_rowIs3 Oe pb rfl
  have d : Below (w6.setCell ⟨pb, j, none⟩ v).heap.size (w6.setCell ⟨pb, j, none⟩ v) (w6.setCell ⟨pb, j, none⟩ v).drew := (Below.refl _ _).drew
  have Oo' := Rd.of_owns (Touch.owns st.2 Oo hqr (by decide))
  have Oe' := Rd.of_owns st.1
  have r' := Touch.row st.2 hqr row (by decide)
  rw [hset] at Oe'
  have hl := cons_len m.eps h0 o
  refine ⟨⟨m.id, m.base, m.fin, m.time, o :: m.eps.drop 1, m.objs⟩, _, _, fun e => ?_, ⟨hk.id, hk.base, hk.fin, hk.time, fun x hx => ?_, hk.objs⟩, ⟨by simp only; rw [hl]; exact hs.1, hs.2.1, hs.2.2⟩, ⟨?_, Oo'.below d⟩, heap_below d r', (hB.setCell (p := ⟨pb, j, none⟩) hq1 _).drew⟩
  · have e1 := congrArg ManD.eps e
    simp only at e1
    rw [cons_drop m.eps h0] at e1
    simp only [List.cons.injEq] at e1
    exact hne (by rw [e1.1]; try simp)
  · rcases List.mem_cons.1 hx with rfl | hx
    · exact ho
    · exact hk.eps x (List.mem_of_mem_drop hx)
  · show Rd _ 2 (.slice (some ⟨pb, 0, none⟩) m.eps.length kp) (o :: m.eps.drop 1).length ((o :: m.eps.drop 1).flatMap prV)
    rw [hl]; exact Oe'.below d

set_option maxRecDepth 100000 in
set_option maxHeartbeats 4000000 in
theorem maniTurned_walk (S : List Nat) (A : Nat → Addr) (m : ManD) (ve vo : Value) (what at' : Int) (by' : UInt8) (w : World) (hS : Sents S w A) (hall : All S) (h : ManRd w m ve vo) (hk : Man.Ok m) :
    Calls Tryd.prog 4 #[manA m ve vo, .int .i64 what, .int .i64 at', .int .u8 (by'.toNat : Int)] w (fun e w' => e = .returned (.bool true) ∧ Below w.heap.size w w') := by
  have hwm := fun W (hB : Below w.heap.size w W) => worldManifest_calls (h.below hB)
  have hva := fun W (hB : Below w.heap.size w W) hs => maniValid_is S A (hS.below hB) (hall 2 (by decide)) (hall 3 (by decide)) (hall 4 (by decide)) (hall 5 (by decide)) (h.below hB) hs
  have hcl := fun W (hB : Below w.heap.size w W) hs => maniClone_calls (h.below hB) hs
  have hby := fun W (hB : Below w.heap.size w W) hs => maniBytes_is S A (hS.below hB) (hall 2 (by decide)) (hall 3 (by decide)) (hall 4 (by decide)) (hall 5 (by decide)) (h.below hB) hs hk
  have hrv := fun W (hB : Below w.heap.size w W) hs => refValidMan_calls (h.below hB) hs
  have HR := Lib.hid h
  have HK := Lib.hid hk
  have hme := h.1.len_le
  have hmo := h.2.len_le
  obtain ⟨ae, ce, rfl⟩ := h.1.slice
  obtain ⟨ao, co, rfl⟩ := h.2.slice
  clear h hk
  have hMA : manA m (.slice ae m.eps.length ce) (.slice ao m.objs.length co) = .agg #[.int .i64 m.id, .int .i64 m.base, .int .i64 m.fin, .int .i64 m.time, .slice ae m.eps.length ce, .slice ao m.objs.length co] := rfl
  rw [hMA] at hwm hva hcl hby hrv ⊢
  clear hMA
  have b1 := below_alloc w (.cells #[.int .i64 m.id, .int .i64 m.base, .int .i64 m.fin, .int .i64 m.time, .slice ae m.eps.length ce, .slice ao m.objs.length co] 25)
  have row1 := heap_alloc_new w (.cells #[.int .i64 m.id, .int .i64 m.base, .int .i64 m.fin, .int .i64 m.time, .slice ae m.eps.length ce, .slice ao m.objs.length co] 25)
  go_enter Tryd.func4, Tryd.ntmps4
  go_upto_region 1 with fail
  obtain ⟨w1, hw1⟩ : ∃ w1, w1 = w.alloc (.cells #[.int .i64 m.id, .int .i64 m.base, .int .i64 m.fin, .int .i64 m.time, .slice ae m.eps.length ce, .slice ao m.objs.length co] 25) := ⟨_, rfl⟩
  obtain ⟨g, hg⟩ : ∃ g, g = w.heap.size := ⟨_, rfl⟩
  rw [← hw1] at b1 row1 ⊢
  rw [← hg] at row1 ⊢
  have hgw : g < w1.heap.size := by rw [hw1, hg]; simp
  clear hw1 hg
  have D : ∀ W, Below w1.heap.size w1 W → W.cell? ⟨g, 0, none⟩ = some (.int .i64 m.id) ∧ W.cell? ⟨g, 1, none⟩ = some (.int .i64 m.base) ∧ W.cell? ⟨g, 2, none⟩ = some (.int .i64 m.fin) ∧ W.cell? ⟨g, 3, none⟩ = some (.int .i64 m.time) ∧ W.cell? ⟨g, 4, none⟩ = some (.slice ae m.eps.length ce) ∧ W.cell? ⟨g, 5, none⟩ = some (.slice ao m.objs.length co) := fun W hB => by
    have r := heap_below hB row1
    exact ⟨cell_of_row _ _ 0 _ _ _ r, cell_of_row _ _ 1 _ _ _ r, cell_of_row _ _ 2 _ _ _ r, cell_of_row _ _ 3 _ _ _ r, cell_of_row _ _ 4 _ _ _ r, cell_of_row _ _ 5 _ _ _ r⟩
  clear row1
  have hf := manFirst_calls S A (hS.below b1) hall
  go_wp2_with fail
  with_reducible refine hf.mono ?_
  rintro e w2 ⟨rfl, b2⟩
  clear hf
  obtain ⟨d0, d1, d2, d3, d4, d5⟩ := D w2 b2
  have hwm2 := hwm w2 (nxt b1 b2)
  go_wp2_with fail
  with_reducible refine hwm2.mono ?_
  rintro e w3 ⟨t, rfl, b3, hsm⟩
  have B3 := nxt b2 b3
  clear d0 d1 d2 d3 d4 d5 hwm hwm2
  obtain ⟨d0, d1, d2, d3, d4, d5⟩ := D w3 B3
  cases t
  · go_wp2_with fail
    go_ret
    exact ⟨rfl, nxt b1 B3⟩
  have hs := hsm rfl
  have HS := Lib.hid hs
  clear hsm
  by_cases t1 : 30 < m.eps.length
  · clear hva hcl hby hrv
    go_wp2_with fail
    go_ret
    exact ⟨rfl, nxt b1 B3⟩
  have t1' : decide ((30 : Int) < (m.eps.length : Int)) = false := decide_eq_false (by omega)
  have hva3 := hva w3 (nxt b1 B3) hs
  clear hva
  go_wp2_with fail
  with_reducible refine hva3.mono ?_
  rintro e w4 ⟨v4, er, rfl, hmb, her, b4⟩
  have B4 := nxt B3 b4
  clear d0 d1 d2 d3 d4 d5 hva3
  obtain ⟨d0, d1, d2, d3, d4, d5⟩ := D w4 B4
  by_cases hef : er = .fine
  case neg =>
    obtain ⟨T4, u4, rfl⟩ := her.not_nil hef
    clear hcl hby hrv
    go_wp2_with fail
    go_ret
    exact ⟨rfl, nxt b1 B4⟩
  subst hef
  have hv4 : v4 = .nilIface := her
  subst hv4
  have HOK := Lib.hid (hmb.fine_iff.1 rfl)
  clear her hmb t1 t1'
  by_cases hby0 : by' = 0
  · subst hby0
    clear hcl hby hrv
    go_wp2_with fail
    go_ret
    exact ⟨rfl, nxt b1 B4⟩
  have hby2 : ¬ (by'.toNat = 0) := fun e => hby0 (UInt8.toNat_inj.1 (by rw [e]; rfl))
  have HBY := Lib.hid hby0
  have hcl4 := hcl w4 (nxt b1 B4) hs
  clear hby0 hcl
  go_wp2_with fail
  with_reducible refine hcl4.mono ?_
  unfold ClonePost
  rintro e w5 ⟨qe, qo, rfl, oe, oo, b5⟩
  have B5 := nxt B4 b5
  clear hcl4
  obtain ⟨pe, ke, rfl⟩ := owns_slice oe
  obtain ⟨po, ko, rfl⟩ := owns_slice oo
  unfold manA
  go_upto_region 7 with fail
  have b6 := below_alloc w5 (.cells #[.int .i64 m.id, .int .i64 m.base, .int .i64 m.fin, .int .i64 m.time, .slice pe m.eps.length ke, .slice po m.objs.length ko] 25)
  have row6 := heap_alloc_new w5 (.cells #[.int .i64 m.id, .int .i64 m.base, .int .i64 m.fin, .int .i64 m.time, .slice pe m.eps.length ke, .slice po m.objs.length ko] 25)
  obtain ⟨w6, hw6⟩ : ∃ w6, w6 = w5.alloc (.cells #[.int .i64 m.id, .int .i64 m.base, .int .i64 m.fin, .int .i64 m.time, .slice pe m.eps.length ke, .slice po m.objs.length ko] 25) := ⟨_, rfl⟩
  obtain ⟨gc, hgc⟩ : ∃ gc, gc = w5.heap.size := ⟨_, rfl⟩
  rw [← hw6] at b6 row6 ⊢
  rw [← hgc] at row6 ⊢
  have hgcw : w4.heap.size ≤ gc := by rw [hgc]; exact b5.size
  have B6 := nxt B5 b6
  have Oe := owns_below oe b6
  have Oo := owns_below oo b6
  clear hw6 hgc oe oo d0 d1 d2 d3 d4 d5
  obtain ⟨d0, d1, d2, d3, d4, d5⟩ := D w6 B6
  have f0 : w6.cell? ⟨gc, 0, none⟩ = some (.int .i64 m.id) := cell_of_row _ _ 0 _ _ _ row6
  have f1 : w6.cell? ⟨gc, 1, none⟩ = some (.int .i64 m.base) := cell_of_row _ _ 1 _ _ _ row6
  have f2 : w6.cell? ⟨gc, 2, none⟩ = some (.int .i64 m.fin) := cell_of_row _ _ 2 _ _ _ row6
  have f3 : w6.cell? ⟨gc, 3, none⟩ = some (.int .i64 m.time) := cell_of_row _ _ 3 _ _ _ row6
  have f4 : w6.cell? ⟨gc, 4, none⟩ = some (.slice pe m.eps.length ke) := cell_of_row _ _ 4 _ _ _ row6
  have f5 : w6.cell? ⟨gc, 5, none⟩ = some (.slice po m.objs.length ko) := cell_of_row _ _ 5 _ _ _ row6
  have hnum := number_calls what 6 w6 (by omega) (by omega)
  go_wp2_with fail
  with_reducible refine hnum.mono ?_
  rintro e w7 ⟨rfl, rfl⟩
  have hk6 : what % 6 = 0 ∨ what % 6 = 1 ∨ what % 6 = 2 ∨ what % 6 = 3 ∨ what % 6 = 4 ∨ what % 6 = 5 := by omega
  clear hnum
  generalize what % 6 = k at *
  have hc1 : w1.heap.size ≤ gc := Nat.le_trans B4.size hgcw
  have hke := HK.out
  have hok := HOK.out
  unfold manOk rangeOk objsOk shapeOk at hok
  obtain ⟨⟨g1, g2, g3, g4, g5, g6, g7, g8, g9⟩, hev, ⟨hel, -, -⟩, ⟨hol, -, -, -⟩⟩ := hok
  obtain ⟨pb, rfl, hpb⟩ := owns_at Oe hel
  obtain ⟨qb, rfl, hqb⟩ := owns_at Oo (by omega)
  have hpb1 : w1.heap.size ≤ pb := Nat.le_trans B4.size hpb
  have hqb1 : w1.heap.size ≤ qb := Nat.le_trans B4.size hqb
  have HOe := Lib.hid Oe
  have HOo := Lib.hid Oo
  have HR6 := Lib.hid row6
  have HB6 := Lib.hid B6
  have hqo : 0 < m.objs.length := by omega
  go_upto_block 0 with fail
  go_cut [73] (fun _ wx => TurnedRel w1 m gc wx)
  case first =>
    rcases hk6 with rfl | rfl | rfl | rfl | rfl | rfl
    · have z0 : w6.frozen? ⟨gc, 0, none⟩ = false := frozen_of_row _ _ 0 _ _ row6
      go_wp2_with fail
      go_meet
      have t := Touch.setCell (g := gc) w6 0 (.int .i64 (bits .xor .i64 m.id 1))
      exact ⟨⟨bits .xor .i64 m.id 1, m.base, m.fin, m.time, m.eps, m.objs⟩, _, _, fun e => xor1_ne m.id (congrArg ManD.id e), ⟨xor1_bd _, hke.base, hke.fin, hke.time, hke.eps, hke.objs⟩, HS.out,
        ⟨Rd.of_owns (t.owns HOe.out HR6.out (by decide)), Rd.of_owns (t.owns HOo.out HR6.out (by decide))⟩, heap_setCell_same w6 gc 0 _ _ _ HR6.out, HB6.out.setCell (p := ⟨gc, 0, none⟩) hc1 _⟩
    · have z2 : w6.frozen? ⟨gc, 2, none⟩ = false := frozen_of_row _ _ 2 _ _ row6
      have x1 : IntKind.i64.wrap (m.fin + 1) = m.fin + 1 := by rw [IntKind.wrap_i64]; omega
      go_wp2_with fail
      go_meet
      have t := Touch.setCell (g := gc) w6 2 (.int .i64 (m.fin + 1))
      exact ⟨⟨m.id, m.base, m.fin + 1, m.time, m.eps, m.objs⟩, _, _, fun e => by have := congrArg ManD.fin e; simp only at this; omega, ⟨hke.id, hke.base, by unfold I64; simp only; omega, hke.time, hke.eps, hke.objs⟩, HS.out,
        ⟨Rd.of_owns (t.owns HOe.out HR6.out (by decide)), Rd.of_owns (t.owns HOo.out HR6.out (by decide))⟩, heap_setCell_same w6 gc 2 _ _ _ HR6.out, HB6.out.setCell (p := ⟨gc, 2, none⟩) hc1 _⟩
    · have z3 : w6.frozen? ⟨gc, 3, none⟩ = false := frozen_of_row _ _ 3 _ _ row6
      go_wp2_with fail
      go_meet
      have t := Touch.setCell (g := gc) w6 3 (.int .i64 (bits .xor .i64 m.time 1))
      exact ⟨⟨m.id, m.base, m.fin, bits .xor .i64 m.time 1, m.eps, m.objs⟩, _, _, fun e => xor1_ne m.time (congrArg ManD.time e), ⟨hke.id, hke.base, hke.fin, xor1_bd _, hke.eps, hke.objs⟩, HS.out,
        ⟨Rd.of_owns (t.owns HOe.out HR6.out (by decide)), Rd.of_owns (t.owns HOo.out HR6.out (by decide))⟩, heap_setCell_same w6 gc 3 _ _ _ HR6.out, HB6.out.setCell (p := ⟨gc, 3, none⟩) hc1 _⟩
    · obtain ⟨ln, hln⟩ : ∃ ln, ln = m.objs[0].len := ⟨_, rfl⟩
      have q1 : w6.cell? ⟨qb, 1, none⟩ = some (.int .i64 ln) := by rw [World.ownsRow.cellAt Oo 1 (by omega)]; rw [cons_drop m.objs hqo, hln]; simp [obV]
      have z1 := World.ownsRow.frozenAt Oo 1
      have hdr := hke.objs m.objs[0] (List.getElem_mem hqo)
      have HT := Lib.hid (TurnedRel.ob HB6.out hke HS.out HR6.out HOe.out HOo.out hqb1 hqo 1 (.int .i64 (bits .xor .i64 ln 1)) ⟨m.objs[0].name, bits .xor .i64 ln 1, m.objs[0].sum⟩ (set_len m.objs hqo _) (fun e => xor1_ne ln (by rw [hln]; rw [hln] at e; exact congrArg ObjD.len e)) ⟨xor1_bd _, hdr.2⟩ (HS.out.2.2 m.objs[0] (List.getElem_mem hqo)))
      clear hln hdr
      go_wp2_with fail
      go_region
      all_goals
        go_wp2_with fail
        go_meet
        exact HT.out
    · obtain ⟨sm, hsm⟩ : ∃ sm, sm = m.objs[0].sum := ⟨_, rfl⟩
      have q2 : w6.cell? ⟨qb, 2, none⟩ = some (.int .u32 (sm : Int)) := by rw [World.ownsRow.cellAt Oo 2 (by omega)]; rw [cons_drop m.objs hqo, hsm]; simp [obV]
      have z2 := World.ownsRow.frozenAt Oo 2
      have hdr := hke.objs m.objs[0] (List.getElem_mem hqo)
      obtain ⟨y, hy, hyl⟩ : ∃ y : Nat, bits .xor .u32 (sm : Int) 1 = (y : Int) ∧ y < 4294967296 := ⟨(bits .xor .u32 (sm : Int) 1).toNat, by have := xor1u_bd (sm : Int); omega, by have := xor1u_bd (sm : Int); omega⟩
      have HT := Lib.hid (TurnedRel.ob HB6.out hke HS.out HR6.out HOe.out HOo.out hqb1 hqo 2 (.int .u32 (y : Int)) ⟨m.objs[0].name, m.objs[0].len, y⟩ (set_sum m.objs hqo _) (fun e => xor1u_ne (sm : Int) (by rw [hy, hsm]; exact congrArg (fun o : ObjD => (o.sum : Int)) e)) ⟨hdr.1, hyl⟩ (HS.out.2.2 m.objs[0] (List.getElem_mem hqo)))
      clear hsm hdr
      go_wp2_with fail
      go_region
      all_goals
        go_wp2_with fail
        go_meet
        exact HT.out
    · obtain ⟨ep, hep⟩ : ∃ ep, ep = m.eps[0].ep := ⟨_, rfl⟩
      have q0 : w6.cell? ⟨pb, 0, none⟩ = some (.int .i64 ep) := by rw [World.ownsRow.cellAt Oe 0 (by omega)]; rw [cons_drop m.eps hel, hep]; simp [prV]
      have z0 := World.ownsRow.frozenAt Oe 0
      have hdr := hke.eps m.eps[0] (List.getElem_mem hel)
      have hrt : 0 ≤ ep ∧ ep ≤ 1073741824 := by
        have h1 := ((Epo.valid_iff m.eps).1 hev).2.1
        rw [List.all_eq_true] at h1
        have h2 := h1 m.eps[0] (List.getElem_mem hel)
        unfold Epo.right at h2
        rw [decide_eq_true_eq] at h2
        rw [hep]; omega
      have x1 : IntKind.i64.wrap (ep + 1048576) = ep + 1048576 := by rw [IntKind.wrap_i64]; omega
      have HT := Lib.hid (TurnedRel.ep HB6.out hke HS.out HR6.out HOe.out HOo.out hpb1 hel 0 (.int .i64 (ep + 1048576)) ⟨ep + 1048576, m.eps[0].st⟩ (set_ep m.eps hel _) (fun e => by have h1 : ep + 1048576 = m.eps[0].ep := congrArg Epo.Pr.ep e; omega) ⟨by unfold I64; simp only; omega, hdr.2⟩)
      clear hep hdr hrt
      go_wp2_with fail
      go_region
      all_goals
        go_wp2_with fail
        go_meet
        exact HT.out
  obtain ⟨c, ue, uo, hne, hco, hcs, hcr, rowc, Bc⟩ := hcut
  have HNE := Lib.hid hne
  have HCO := Lib.hid hco
  have HCS := Lib.hid hcs
  have hcb := fun W (hB : Below wc.heap.size wc W) => maniBytes_is S A (hS.below (nxt b1 (nxt Bc hB))) (hall 2 (by decide)) (hall 3 (by decide)) (hall 4 (by decide)) (hall 5 (by decide)) (hcr.below hB) hcs hco
  have hsm1 := maniSame_calls (HR.out.below (nxt b1 Bc)) hcr
  have hsm2 := fun W (hB : Below wc.heap.size wc W) => maniSame_calls (hcr.below hB) (HR.out.below (nxt b1 (nxt Bc hB)))
  rw [decide_eq_false (fun e => hne e.symm)] at hsm1
  rw [decide_eq_false hne] at hsm2
  obtain ⟨au, cu, rfl⟩ := hcr.1.slice
  obtain ⟨av, cv, rfl⟩ := hcr.2.slice
  rw [show manA m (.slice ae m.eps.length ce) (.slice ao m.objs.length co) = .agg #[.int .i64 m.id, .int .i64 m.base, .int .i64 m.fin, .int .i64 m.time, .slice ae m.eps.length ce, .slice ao m.objs.length co] from rfl, show manA c (.slice au c.eps.length cu) (.slice av c.objs.length cv) = .agg #[.int .i64 c.id, .int .i64 c.base, .int .i64 c.fin, .int .i64 c.time, .slice au c.eps.length cu, .slice av c.objs.length cv] from rfl] at hsm1 hsm2
  rw [show manA c (.slice au c.eps.length cu) (.slice av c.objs.length cv) = .agg #[.int .i64 c.id, .int .i64 c.base, .int .i64 c.fin, .int .i64 c.time, .slice au c.eps.length cu, .slice av c.objs.length cv] from rfl] at hcb
  have E : ∀ W, Below wc.heap.size wc W → W.cell? ⟨gc, 0, none⟩ = some (.int .i64 c.id) ∧ W.cell? ⟨gc, 1, none⟩ = some (.int .i64 c.base) ∧ W.cell? ⟨gc, 2, none⟩ = some (.int .i64 c.fin) ∧ W.cell? ⟨gc, 3, none⟩ = some (.int .i64 c.time) ∧ W.cell? ⟨gc, 4, none⟩ = some (.slice au c.eps.length cu) ∧ W.cell? ⟨gc, 5, none⟩ = some (.slice av c.objs.length cv) := fun W hB => by
    have r := heap_below hB rowc
    exact ⟨cell_of_row _ _ 0 _ _ _ r, cell_of_row _ _ 1 _ _ _ r, cell_of_row _ _ 2 _ _ _ r, cell_of_row _ _ 3 _ _ _ r, cell_of_row _ _ 4 _ _ _ r, cell_of_row _ _ 5 _ _ _ r⟩
  clear d0 d1 d2 d3 d4 d5 f0 f1 f2 f3 f4 f5 row6 Oe Oo b6 B6 B5 b5 hne hco hcs hcr hke hol hel hqo g1 g2 g3 g4 g5 g6 g7 g8 g9 hev HOe HOo HR6 HB6 hpb hqb hpb1 hqb1 hc1 hk6 rowc
  obtain ⟨d0, d1, d2, d3, d4, d5⟩ := D wc Bc
  obtain ⟨f0, f1, f2, f3, f4, f5⟩ := E wc (Below.refl _ _)
  go_wp2_with fail
  with_reducible refine hsm1.mono ?_
  rintro e w8 ⟨rfl, b8⟩
  have B8 := nxt Bc b8
  have hsm2' := hsm2 w8 b8
  clear d0 d1 d2 d3 d4 d5 f0 f1 f2 f3 f4 f5 hsm1 hsm2
  obtain ⟨d0, d1, d2, d3, d4, d5⟩ := D w8 B8
  obtain ⟨f0, f1, f2, f3, f4, f5⟩ := E w8 b8
  go_wp2_with fail
  with_reducible refine hsm2'.mono ?_
  rintro e w9 ⟨rfl, b9⟩
  have b9' := nxt b8 b9
  have B9 := nxt Bc b9'
  have hby9 := hby w9 (nxt b1 B9) HS.out
  clear d0 d1 d2 d3 d4 d5 f0 f1 f2 f3 f4 f5 hsm2' hby B8
  obtain ⟨d0, d1, d2, d3, d4, d5⟩ := D w9 B9
  go_wp2_with fail
  with_reducible refine hby9.mono ?_
  rintro e w10 ⟨hc10, b10⟩
  clear hby9
  rcases hc10 with ⟨-, vb, rfl, ob, hbl⟩ | ⟨hno, -⟩
  case inr => exact absurd HOK.out hno
  have b10' := nxt b9' b10
  have B10 := nxt Bc b10'
  have hcb10 := hcb w10 b10'
  obtain ⟨EB, hEB⟩ : ∃ EB, EB = sealed (mbody m) := ⟨_, rfl⟩
  rw [← hEB] at ob
  have HEl := Lib.hid (show EB.length = (mbody m).length + 4 by rw [hEB, sealed_len])
  have HEB := Lib.hid hEB
  obtain ⟨N, hN⟩ : ∃ N, N = EB.length := ⟨_, rfl⟩
  have hNb : N ≤ 10010 := by rw [hN, HEl.out]; omega
  have hN4 : 4 ≤ N := by rw [hN, HEl.out]; omega
  rw [← hN] at ob
  have HN := Lib.hid hN
  clear d0 d1 d2 d3 d4 d5 hcb hEB hN hbl
  obtain ⟨f0, f1, f2, f3, f4, f5⟩ := E w10 b10'
  obtain ⟨ab, cb, rfl⟩ := owns_slice ob
  go_wp2_with fail
  with_reducible refine hcb10.mono ?_
  rintro e w11 ⟨hc11, b11⟩
  have b11' := nxt b10' b11
  have B11 := nxt Bc b11'
  have ob11 := owns_below ob b11
  clear hcb10 f0 f1 f2 f3 f4 f5 ob
  -- neither is an error, or the two are not the same
  have hd : (∃ vd, e = .returned (.tuple #[vd, .nilIface]) ∧ ∃ L, Rd w11 1 vd L.length (bvs L) ∧ (EB == L) = false) ∨ ∃ t u, e = .returned (.tuple #[.slice none 0 0, .iface t u]) := by
    rcases hc11 with ⟨hok2, vd, rfl, od, -⟩ | ⟨-, t, u, er, rfl, -⟩
    · refine .inl ⟨vd, rfl, _, Rd.of_owns od, ?_⟩
      rw [beq_eq_false_iff_ne, HEB.out]
      intro e1
      have e2 : mbody m = mbody c := by
        have e3 := congrArg List.length e1
        rw [sealed_len, sealed_len] at e3
        unfold sealed at e1
        exact List.append_inj_left e1 (by omega)
      exact HNE.out (mbody_inj c m (putOk_of hok2 HCO.out) (putOk_of HOK.out HK.out) e2.symm)
    · exact .inr ⟨t, u, rfl⟩
  clear hc11
  have rb11 : Rd w11 1 (.slice ab N cb) EB.length (bvs EB) := by rw [← HN.out]; exact Rd.of_owns ob11
  obtain ⟨gb, rfl, hgb⟩ := owns_at ob11 (by omega)
  have hgb1 : w1.heap.size ≤ gb := Nat.le_trans B9.size hgb
  rcases hd with ⟨vd, rfl, L, rd, hbl⟩ | ⟨t, u, rfl⟩
  case' inl =>
    obtain ⟨ad, cd, rfl⟩ := rd.slice
    have hsb := sameBytes_calls _ _ _ _ w11 rb11 rd
    rw [hbl] at hsb
    clear rd hbl
    go_wp2_with fail
    with_reducible refine hsb.mono ?_
    rintro e w12' ⟨rfl, nq, rfl⟩
    have b12 : Below w11.heap.size w11 (w11.drewN nq) := below_drewN (Below.refl _ _) nq
    have ob12 := owns_below ob11 b12
    clear hsb
    generalize w11.drewN nq = w12 at *
    go_wp2_with fail
  case' inr =>
    have b12' : ∀ x, x = w11 → Below w11.heap.size w11 x := by rintro x rfl; exact Below.refl _ _
    obtain ⟨w12, hw12⟩ : ∃ x, x = w11 := ⟨_, rfl⟩
    have b12 := b12' w12 hw12
    have ob12 := owns_below ob11 b12
    rw [← hw12]
    clear hw12 b12'
    go_wp2_with fail
  all_goals
    have B12 := nxt B11 b12
    have hnum := number_calls at' (N : Int) w12 (by omega) (by omega)
    with_reducible refine hnum.mono ?_
    rintro e w12' ⟨rfl, rfl⟩
    obtain ⟨j, hj, hjl⟩ : ∃ j : Nat, at' % (N : Int) = (j : Int) ∧ j < N := by
      have e1 := Int.emod_nonneg at' (show (N : Int) ≠ 0 by omega)
      have e2 := Int.emod_lt_of_pos at' (show (0 : Int) < (N : Int) by omega)
      exact ⟨(at' % (N : Int)).toNat, by omega, by omega⟩
    rw [hj]
    clear hj hnum
    have hjE : j < EB.length := by rw [← HN.out]; exact hjl
    have k1 := World.ownsRow.cellAt ob12 j (by omega)
    rw [bvs_at EB j hjE] at k1
    have hfr := World.ownsRow.frozenAt ob12 j
    have x1 := u8x EB[j] by'
    have hst := (World.ownsRow.stored ob12 j (.int .u8 (((EB[j] ^^^ by').toNat : Nat) : Int))).1
    rw [bvs_set] at hst
    have hb13 : Below w1.heap.size w1 (w12.setCell ⟨gb, j, none⟩ (.int .u8 (((EB[j] ^^^ by').toNat : Nat) : Int))) := B12.setCell (p := ⟨gb, j, none⟩) hgb1 _
    have hop : openL (EB.set j (EB[j] ^^^ by')) = .sum := by
      refine openL_sum _ (by rw [List.length_set, ← HN.out]; omega) ?_
      have := run_turned_ne HBY.out EB j hjE (~~~ 0#32)
      have e2 := run_sealed (mbody m)
      rw [← HEB.out] at e2
      rw [e2] at this
      exact this
    obtain ⟨z, hz⟩ : ∃ z, z = EB[j] ^^^ by' := ⟨_, rfl⟩
    rw [← hz] at x1 hst hb13 hop
    have hlen : (EB.set j z).length = N := by rw [List.length_set, ← HN.out]
    have HT := Lib.hid hst
    have HB := Lib.hid hb13
    have HOP := Lib.hid hop
    clear hst hb13 hz hop ob12 ob11 rb11
    generalize EB[j] = x at *
    go_upto_region 28 with fail
    have B13 := HB.out
    have o13 := HT.out
    clear HT HB k1 hfr x1
    generalize World.setCell _ _ _ = w13 at *
    have rc : Rd w13 1 (.slice (some ⟨gb, 0, none⟩) N cb) (EB.set j z).length (bvs (EB.set j z)) := by rw [hlen]; exact Rd.of_owns o13
    have hrd := maniRead_calls S A (hS.below (nxt b1 B13)) (hall 0 (by decide)) (hall 1 (by decide)) (hall 2 (by decide)) (hall 3 (by decide)) (hall 4 (by decide)) (hall 5 (by decide)) rc (by omega)
    clear o13 rc
    go_wp2_with fail
    with_reducible refine hrd.mono ?_
    rintro e w14 ⟨b14, hc14⟩
    rcases hc14 with ⟨b', m', ve', vo', ho, -⟩ | ⟨T, u, rfl, hsu, -⟩
    · rw [HOP.out] at ho; cases ho
    have HSU := Lib.hid (hsu HOP.out)
    have B14 := nxt B13 b14
    unfold manZ
    clear hrd hsu
    go_upto_region 29 with fail
    have b15 := bAlloc B14 (.cells #[.int .i64 0, .int .i64 0, .int .i64 0, .int .i64 0, .slice none 0 0, .slice none 0 0] 25)
    generalize w14.alloc (.cells #[.int .i64 0, .int .i64 0, .int .i64 0, .int .i64 0, .slice none 0 0, .slice none 0 0] 25) = w15 at *
    have his := is_calls (hS.below (nxt b1 b15)) hall (.iface T u) (.bare 1) (by rw [HSU.out]; exact ⟨by omega, rfl⟩) 102
    rw [show decide ((Er.bare 1).code = 102 ∧ (Er.bare 1).has = false ∧ (Er.bare 1).pos = 0) = true from by decide] at his
    go_wp2_with fail
    with_reducible refine his.mono ?_
    rintro e w16 ⟨rfl, b16⟩
    have B16 := nxt b15 b16
    have hrv16 := hrv w16 (nxt b1 B16) HS.out
    clear his
    obtain ⟨d0, d1, d2, d3, d4, d5⟩ := D w16 B16
    go_wp2_with fail
    with_reducible refine hrv16.mono ?_
    rintro e w17 ⟨er, rfl, hmb, b17⟩
    have her : er = .fine := hmb.fine_iff.2 HOK.out
    subst her
    rw [show Er.fault .fine = fv 0 false 0 from rfl]
    unfold fv
    have hfc := fault_code
    go_wp2_with fail
    go_ret
    exact ⟨rfl, nxt b1 (nxt B16 b17)⟩
end Go.Proofs.YtldopocmmeidkaaDoor
