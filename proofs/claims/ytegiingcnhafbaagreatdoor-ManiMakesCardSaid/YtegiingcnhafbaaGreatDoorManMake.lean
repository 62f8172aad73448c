/- mani.Make, mani.Names: a segment's manifest, and its objects' names. -/
import Derived.Test.YtegiingcnhafbaaGreatDoorNameObj
import Derived.Test.YtegiingcnhafbaaGreatDoorManCheck
import Derived.Test.YtegiingcnhafbaaGreatDoorManVal
import Derived.Deep.RegionLaw
namespace Go.Proofs.YtegiingcnhafbaaGreatDoor
open Go Go.RowKit Man Crc

theorem objSize : (Tryz.prog.info? 44).map (·.size) = some 3 := by kernel_rfl
/-- The name that an object has; none where it may have none. -/
def objectName (id : Int) (kind : ByteArray) (base : Int) : ByteArray := if objectOk id kind base = true then ⟨(objectL id.toNat kind base.toNat).toArray⟩ else ⟨#[]⟩
/-- An object out of its bytes. -/
def objectOf (id : Int) (kind : ByteArray) (base : Int) (l : List UInt8) : ObjD := ⟨objectName id kind base, l.length, (sum l).toNat⟩

set_option maxRecDepth 100000 in
set_option maxHeartbeats 1000000 in
theorem maniObject_calls {w : World} (id : Int) (kind : ByteArray) (base : Int) {a : Option Addr} {c : Nat} {l : List UInt8} (hm : kind.size ≤ 1000000) (ht : Tens w) (h : Rd w 1 (.slice a l.length c) l.length (bvs l)) :
    Calls Tryz.prog 18 #[.int .i64 id, .string kind, .int .i64 base, .slice a l.length c] w (fun e w' => e = .returned (.agg #[.string (objectName id kind base), .int .i64 (l.length : Int), .int .u32 ((sum l).toNat : Int)]) ∧ Below w.heap.size w w') := by
  have hlen := h.len_le
  obtain ⟨nm, hnm⟩ : ∃ nm, nm = objectName id kind base := ⟨_, rfl⟩
  obtain ⟨x, hx⟩ : ∃ x, x = (sum l).toNat := ⟨_, rfl⟩
  rw [← hnm, ← hx]
  have HX := Lib.hid hx
  have HNM := Lib.hid hnm
  clear hx hnm
  have b1 := below_alloc w (.cells #[.string ⟨#[]⟩, .int .i64 0, .int .u32 0] 44)
  have row1 := heap_alloc_new w (.cells #[.string ⟨#[]⟩, .int .i64 0, .int .u32 0] 44)
  go_enter Tryz.func18, Tryz.ntmps18
  go_upto_region 1 with fail
  obtain ⟨w1, hw1⟩ : ∃ w1, w1 = w.alloc (.cells #[.string ⟨#[]⟩, .int .i64 0, .int .u32 0] 44) := ⟨_, rfl⟩
  obtain ⟨g, hg⟩ : ∃ g, g = w.heap.size := ⟨_, rfl⟩
  rw [← hw1] at b1 row1 ⊢
  rw [← hg] at row1 ⊢
  have hob := object_calls id kind base w1 (by omega) (ht.below b1)
  rw [show (if objectOk id kind base = true then (⟨(objectL id.toNat kind base.toNat).toArray⟩ : ByteArray) else ⟨#[]⟩) = nm from HNM.out.symm] at hob
  have hgw : w.heap.size ≤ g := by omega
  clear hw1 hg
  go_wp2_with fail
  with_reducible refine hob.mono ?_
  rintro e w2 ⟨rfl, b2⟩
  clear hob
  have bb := below_alloc w2 (.cells #[.slice a l.length c] 23)
  have hof := of_at w2 (w2.alloc (.cells #[.slice a l.length c] 23)) bb w2.heap.size (.slice a l.length c) (heap_alloc_new w2 _) l.length l (h.below (nxt b1 b2))
  rw [← HX.out] at hof
  go_wp2_with fail
  with_reducible refine hof.mono ?_
  rintro e w3 ⟨rfl, b3⟩
  have B3 := nxt b1 (nxt b2 (nxt bb b3))
  have row3 := heap_below (nxt b2 (nxt bb b3)) row1
  clear hof
  go_wp2_with (refine wpList_store_row_g rfl 44 _ _ rfl g _ rfl rfl 44 _ row3 objSize rfl (by simp [Value.oneCell']) ?_)
  intro wz hT hg2 hs2
  have hb2 : Below w.heap.size w wz := B3.grown hg2 B3.size (fun k hk => by simp only [Option.some.injEq] at hk; omega)
  clear hg2 hs2
  go_wp2_with fail
  refine ret_row rfl g rfl hT Tryz.underlying44 rfl objSize rfl ?_
  exact ⟨rfl, hb2⟩

theorem objectName_ok {i a : Nat} {k : ByteArray} (hk : kindOk k = true) (hi : i ≤ 2147483647) (ha : a ≤ 1099511627776) : objectName (i : Int) k (a : Int) = ⟨(objectL i k a).toArray⟩ := by
  unfold objectName
  rw [if_pos (by
    unfold objectOk offOk
    rw [hk, decide_eq_true (by omega), decide_eq_true (by omega)]
    rfl)]
  rw [Int.toNat_natCast, Int.toNat_natCast]
theorem rd_row {w : World} {g : Nat} {xs : Array Value} {T : TypeId} {f : Nat × Nat} (h : w.heap[g]? = some (.cells xs T f)) (sz n : Nat) (hs : xs.size = n * sz) (hm : n ≤ maxLen) : Rd w sz (.slice (some ⟨g, 0, none⟩) n n) n xs.toList :=
  ⟨by simpa using hs, .inr ⟨⟨g, 0, none⟩, n, rfl, Nat.le_refl _, hm, fun j u hu => by
    rw [add_none, cell_of_row w g _ _ _ _ h]
    simpa using hu⟩⟩
theorem objectName_size (id : Int) (kind : ByteArray) (base : Int) : (objectName id kind base).size ≤ 60 := by
  unfold objectName
  split
  · next h =>
    unfold objectOk at h
    rw [Bool.and_eq_true, Bool.and_eq_true, decide_eq_true_eq] at h
    obtain ⟨⟨h1, h2⟩, h3⟩ := h
    unfold kindOk at h2
    unfold offOk at h3
    rw [decide_eq_true_eq] at h2 h3
    have l1 := wideL_len id.toNat 9 (by omega)
    have l2 := wideL_len base.toNat 12 (by omega)
    have hk : kind.data.toList.length = kind.size := by rw [Array.length_toList]; rfl
    show (objectL id.toNat kind base.toNat).toArray.size ≤ 60
    rw [List.size_toArray]
    unfold objectL
    simp only [List.length_append, l1, l2, hk, List.length_cons, List.length_nil]
    omega
  · exact Nat.zero_le _

theorem ErRow.grown {A : Nat → Addr} {w w' : World} {v : Value} {er : Er} {gz : Nat} {c : Array Value} {f : Nat × Nat} (h : ErRow A w v er) (g : w.grownBy w' (some gz)) (hr : w.heap[gz]? = some (.cells c 27 f)) : ErRow A w' v er := by
  cases er with
  | fine => exact h
  | bare i => exact h
  | placed i pos =>
    obtain ⟨h1, k, h2, h3⟩ := h
    refine ⟨h1, k, h2, (g.block k (Array.getElem?_eq_some_iff.1 h3).1 (fun e => ?_)).trans h3⟩
    simp only [Option.some.injEq] at e
    subst e
    rw [hr] at h3
    simp only [Option.some.injEq, Obj.cells.injEq] at h3
    exact absurd h3.2.1 (by decide)

/-- What is made. -/
def makeM (id base fin time : Int) (eps : List Epo.Pr) (ld lm : List UInt8) : ManD := ⟨id, base, fin, time, eps, [objectOf id ⟨#[100, 97, 116, 97]⟩ base ld, objectOf id ⟨#[109, 97, 114, 107, 115]⟩ base lm]⟩
def MakePost (A : Nat → Addr) (m : ManD) (w : World) (e : Ending) (w' : World) : Prop :=
  Below w.heap.size w w' ∧ ((manOk m ∧ ∃ ve vo, e = .returned (.tuple #[manA m ve vo, .nilIface]) ∧ ManRd w' m ve vo) ∨ (¬ manOk m ∧ ∃ er t u, e = .returned (.tuple #[.agg #[.int .i64 0, .int .i64 0, .int .i64 0, .int .i64 0, .slice none 0 0, .slice none 0 0], .iface t u]) ∧ MBad m er ∧ ErRow A w' (.iface t u) er))

set_option maxRecDepth 100000 in
set_option maxHeartbeats 2000000 in
theorem maniMake_calls (S : List Nat) (A : Nat → Addr) {w : World} (id base fin time : Int) {eps : List Epo.Pr} {ap ad am : Option Addr} {cp cd cm : Nat} {ld lm : List UInt8} (hS : Sents S w A) (s2 : 2 ∈ S) (s3 : 3 ∈ S) (s4 : 4 ∈ S) (s5 : 5 ∈ S) (ht : Tens w) (he : eps.length ≤ 300)
    (hp : Rd w 2 (.slice ap eps.length cp) eps.length (eps.flatMap prV)) (hd : Rd w 1 (.slice ad ld.length cd) ld.length (bvs ld)) (hm : Rd w 1 (.slice am lm.length cm) lm.length (bvs lm)) :
    Calls Tryz.prog 5 #[.int .i64 id, .int .i64 base, .int .i64 fin, .int .i64 time, .slice ap eps.length cp, .slice ad ld.length cd, .slice am lm.length cm] w (MakePost A (makeM id base fin time eps ld lm) w) := by
  obtain ⟨M, hM⟩ : ∃ M, M = makeM id base fin time eps ld lm := ⟨_, rfl⟩
  rw [← hM]
  have HM := Lib.hid hM
  clear hM
  have hdl := hd.len_le
  have hml := hm.len_le
  obtain ⟨n1, hn1⟩ : ∃ n, n = objectName id ⟨#[100, 97, 116, 97]⟩ base := ⟨_, rfl⟩
  obtain ⟨n2, hn2⟩ : ∃ n, n = objectName id ⟨#[109, 97, 114, 107, 115]⟩ base := ⟨_, rfl⟩
  obtain ⟨x1, hx1⟩ : ∃ n, n = (sum ld).toNat := ⟨_, rfl⟩
  obtain ⟨x2, hx2⟩ : ∃ n, n = (sum lm).toNat := ⟨_, rfl⟩
  have HN1 := Lib.hid hn1
  have HN2 := Lib.hid hn2
  have HX1 := Lib.hid hx1
  have HX2 := Lib.hid hx2
  have b1 := below_alloc w (.cells #[.int .i64 0, .int .i64 0, .int .i64 0, .int .i64 0, .slice none 0 0, .slice none 0 0] 27)
  have rowz := heap_alloc_new w (.cells #[.int .i64 0, .int .i64 0, .int .i64 0, .int .i64 0, .slice none 0 0, .slice none 0 0] 27)
  go_enter Tryz.func5, Tryz.ntmps5
  go_upto_region 1 with fail
  obtain ⟨w1, hw1⟩ : ∃ w1, w1 = w.alloc (.cells #[.int .i64 0, .int .i64 0, .int .i64 0, .int .i64 0, .slice none 0 0, .slice none 0 0] 27) := ⟨_, rfl⟩
  obtain ⟨gz, hgz⟩ : ∃ g, g = w.heap.size := ⟨_, rfl⟩
  rw [← hw1] at b1 rowz ⊢
  rw [← hgz] at rowz ⊢
  have hgzw : w.heap.size ≤ gz := by omega
  have hgz1 : gz < w1.heap.size := by rw [hw1, hgz]; simp
  clear hw1 hgz
  have hcl := clone_pairs _ _ _ w1 (hp.below b1) (pr_one eps) (by omega)
  go_wp2_with fail
  with_reducible refine hcl.mono ?_
  rintro e w2 ⟨v2, rfl, o2, b2⟩
  obtain ⟨a2, c2, rfl⟩ := owns_slice o2
  have B2 := nxt b1 b2
  have hob1 := maniObject_calls id ⟨#[100, 97, 116, 97]⟩ base (by decide) (ht.below B2) (hd.below B2)
  rw [← hn1, ← hx1] at hob1
  clear hcl hn1 hx1
  go_wp2_with fail
  with_reducible refine hob1.mono ?_
  rintro e w3 ⟨rfl, b3⟩
  have B3 := nxt B2 b3
  have hob2 := maniObject_calls id ⟨#[109, 97, 114, 107, 115]⟩ base (by decide) (ht.below B3) (hm.below B3)
  rw [← hn2, ← hx2] at hob2
  clear hob1 hn2 hx2
  go_wp2_with fail
  with_reducible refine hob2.mono ?_
  rintro e w4 ⟨rfl, b4⟩
  have B4 := nxt B3 b4
  clear hob2
  have b5 := below_alloc w4 (.cells #[.string n1, .int .i64 (ld.length : Int), .int .u32 (x1 : Int), .string n2, .int .i64 (lm.length : Int), .int .u32 (x2 : Int)] 44)
  have rowo := heap_alloc_new w4 (.cells #[.string n1, .int .i64 (ld.length : Int), .int .u32 (x1 : Int), .string n2, .int .i64 (lm.length : Int), .int .u32 (x2 : Int)] 44)
  have b6 := below_alloc (w4.alloc (.cells #[.string n1, .int .i64 (ld.length : Int), .int .u32 (x1 : Int), .string n2, .int .i64 (lm.length : Int), .int .u32 (x2 : Int)] 44)) (.cells #[.int .i64 0, .int .i64 0, .int .i64 0, .int .i64 0, .slice none 0 0, .slice none 0 0] 27)
  have row6 : ((w4.alloc (.cells #[.string n1, .int .i64 (ld.length : Int), .int .u32 (x1 : Int), .string n2, .int .i64 (lm.length : Int), .int .u32 (x2 : Int)] 44)).alloc (.cells #[.int .i64 0, .int .i64 0, .int .i64 0, .int .i64 0, .slice none 0 0, .slice none 0 0] 27)).heap[w4.heap.size + 1]? = some (.cells #[.int .i64 0, .int .i64 0, .int .i64 0, .int .i64 0, .slice none 0 0, .slice none 0 0] 27 (0, 0)) := by
    rw [← show (w4.alloc (.cells #[.string n1, .int .i64 (ld.length : Int), .int .u32 (x1 : Int), .string n2, .int .i64 (lm.length : Int), .int .u32 (x2 : Int)] 44)).heap.size = w4.heap.size + 1 by simp]; exact heap_alloc_new _ _
  have B6 := nxt B4 (nxt b5 b6)
  have rowo6 := heap_below b6 rowo
  have o6 := owns_below o2 (nxt b3 (nxt b4 (nxt b5 b6)))
  have rowz6 := heap_below (nxt b2 (nxt b3 (nxt b4 (nxt b5 b6)))) rowz
  have hw4 : w1.heap.size ≤ w4.heap.size := (nxt b2 (nxt b3 b4)).size
  have ROW := Lib.hid row6
  have ROWO := Lib.hid rowo6
  have ROWZ := Lib.hid rowz6
  have BB6 := Lib.hid B6
  have OO6 := Lib.hid o6
  clear row6 rowo6 rowz6 B6 o6 rowo b5 b6 rowz
  go_wp2_with (refine wpList_store_row_g rfl 27 _ _ rfl (w4.heap.size + 1) _ rfl rfl 27 _ ROW.out manSize rfl (by simp [Value.oneCell']) ?_)
  intro w7 row7 gr7 hs7
  have B7 : Below w.heap.size w w7 := BB6.out.grown gr7 BB6.out.size (fun k hk => by have := b1.size; simp only [Option.some.injEq] at hk; omega)
  have hsz6 : ((w4.alloc (.cells #[.string n1, .int .i64 (ld.length : Int), .int .u32 (x1 : Int), .string n2, .int .i64 (lm.length : Int), .int .u32 (x2 : Int)] 44)).alloc (.cells #[.int .i64 0, .int .i64 0, .int .i64 0, .int .i64 0, .slice none 0 0, .slice none 0 0] 27)).heap.size = w4.heap.size + 2 := by simp
  have rowo7 : w7.heap[w4.heap.size]? = some _ := (gr7.block w4.heap.size (by rw [hsz6]; omega) (by simp)).trans ROWO.out
  have rowz7 : w7.heap[gz]? = some _ := (gr7.block gz (by rw [hsz6]; omega) (by simp; omega)).trans ROWZ.out
  have o7 := owns_grown gr7 OO6.out (t := 27) (fun k hk => by simp only [Option.some.injEq] at hk; subst hk; exact ⟨_, _, ROW.out⟩) (by decide)
  clear ROW ROWO ROWZ BB6 OO6 gr7 hs7 hsz6
  have hgz4 : gz < w4.heap.size := by omega
  obtain ⟨go, hgo⟩ : ∃ g, g = w4.heap.size := ⟨_, rfl⟩
  rw [← hgo] at row7 rowo7 ⊢
  rw [← hgo] at hgz4 hw4
  obtain ⟨g6, hg6⟩ : ∃ g, g = go + 1 := ⟨_, rfl⟩
  rw [← hg6] at row7 ⊢
  have hgo7 : w.heap.size ≤ go ∧ go ≠ g6 ∧ gz ≠ g6 := by have := b1.size; omega
  clear hgo
  have hMA : ∀ ve vo, manA M ve vo = .agg #[.int .i64 id, .int .i64 base, .int .i64 fin, .int .i64 time, ve, vo] := fun _ _ => by rw [HM.out]; rfl
  have hre : M.eps = eps := by rw [HM.out]; rfl
  have hro : M.objs.length = 2 ∧ M.objs.flatMap obV = [.string n1, .int .i64 (ld.length : Int), .int .u32 (x1 : Int), .string n2, .int .i64 (lm.length : Int), .int .u32 (x2 : Int)] := by
    rw [HM.out, HN1.out, HN2.out, HX1.out, HX2.out]; exact ⟨rfl, rfl⟩
  have mkRd : ∀ W : World, W.ownsRow w1.heap.size 52 2 (.slice a2 eps.length c2) eps.length (eps.flatMap prV) → W.heap[go]? = some (.cells #[.string n1, .int .i64 (ld.length : Int), .int .u32 (x1 : Int), .string n2, .int .i64 (lm.length : Int), .int .u32 (x2 : Int)] 44 (0, 0)) → ManRd W M (.slice a2 eps.length c2) (.slice (some ⟨go, 0, none⟩) 2 2) := fun W hO hr => by
    unfold ManRd
    rw [hre, hro.1, hro.2]
    exact ⟨Rd.of_owns hO, rd_row hr 3 2 rfl (by decide)⟩
  have hsm : Small M := by
    unfold Small
    rw [hre, hro.1]
    refine ⟨he, by omega, ?_⟩
    rw [HM.out]
    intro o ho
    unfold makeM at ho
    simp only [List.mem_cons, List.not_mem_nil, or_false] at ho
    rcases ho with rfl | rfl
    · unfold objectOf; have := objectName_size id ⟨#[100, 97, 116, 97]⟩ base; simp only; omega
    · unfold objectOf; have := objectName_size id ⟨#[109, 97, 114, 107, 115]⟩ base; simp only; omega
  have hva := maniValid_is S A (hS.below B7) s2 s3 s4 s5 (mkRd w7 o7 rowo7) hsm
  rw [hMA] at hva
  have HMA := Lib.hid hMA
  have D : ∀ W : World, W.heap[g6]? = some (.cells #[.int .i64 id, .int .i64 base, .int .i64 fin, .int .i64 time, .slice a2 eps.length c2, .slice (some ⟨go, 0, none⟩) 2 2] 27 (0, 0)) → W.cell? ⟨g6, 0, none⟩ = some (.int .i64 id) ∧ W.cell? ⟨g6, 1, none⟩ = some (.int .i64 base) ∧ W.cell? ⟨g6, 2, none⟩ = some (.int .i64 fin) ∧ W.cell? ⟨g6, 3, none⟩ = some (.int .i64 time) ∧ W.cell? ⟨g6, 4, none⟩ = some (.slice a2 eps.length c2) ∧ W.cell? ⟨g6, 5, none⟩ = some (.slice (some ⟨go, 0, none⟩) 2 2) := fun W r =>
    ⟨cell_of_row _ _ 0 _ _ _ r, cell_of_row _ _ 1 _ _ _ r, cell_of_row _ _ 2 _ _ _ r, cell_of_row _ _ 3 _ _ _ r, cell_of_row _ _ 4 _ _ _ r, cell_of_row _ _ 5 _ _ _ r⟩
  obtain ⟨d0, d1, d2, d3, d4, d5⟩ := D w7 row7
  clear hMA hre hro hsm hw4 hg6
  go_wp2_with fail
  with_reducible refine hva.mono ?_
  rintro e w8 ⟨v8, er, rfl, hmb, her, b8⟩
  clear d0 d1 d2 d3 d4 d5 hva
  have B8 := nxt B7 b8
  have row8 := heap_below b8 row7
  have rowz8 := heap_below b8 rowz7
  obtain ⟨d0, d1, d2, d3, d4, d5⟩ := D w8 row8
  by_cases hef : er = .fine
  · subst hef
    have hv8 : v8 = .nilIface := her
    subst hv8
    have HOK := Lib.hid (hmb.fine_iff.1 rfl)
    clear her hmb
    go_wp2_with (refine wpList_store_row_g rfl 27 _ _ rfl gz _ rfl rfl 27 _ rowz8 manSize rfl (by simp [Value.oneCell']) ?_)
    intro w9 row9 gr9 hs9
    have B9 : Below w.heap.size w w9 := B8.grown gr9 B8.size (fun k hk => by simp only [Option.some.injEq] at hk; omega)
    have hgo8 : go < w8.heap.size := (Array.getElem?_eq_some_iff.1 (heap_below b8 rowo7)).1
    have rd9 : ManRd w9 M (.slice a2 eps.length c2) (.slice (some ⟨go, 0, none⟩) 2 2) := mkRd w9 (owns_grown gr9 (owns_below o7 b8) (t := 27) (fun k hk => by simp only [Option.some.injEq] at hk; subst hk; exact ⟨_, _, rowz8⟩) (by decide)) ((gr9.block go hgo8 (by simp; omega)).trans (heap_below b8 rowo7))
    clear gr9 hs9 d0 d1 d2 d3 d4 d5
    have q0 : w9.cell? ⟨gz, 0, none⟩ = some (.int .i64 id) := cell_of_row _ _ 0 _ _ _ row9
    have q1 : w9.cell? ⟨gz, 1, none⟩ = some (.int .i64 base) := cell_of_row _ _ 1 _ _ _ row9
    have q2 : w9.cell? ⟨gz, 2, none⟩ = some (.int .i64 fin) := cell_of_row _ _ 2 _ _ _ row9
    have q3 : w9.cell? ⟨gz, 3, none⟩ = some (.int .i64 time) := cell_of_row _ _ 3 _ _ _ row9
    have q4 : w9.cell? ⟨gz, 4, none⟩ = some (.slice a2 eps.length c2) := cell_of_row _ _ 4 _ _ _ row9
    have q5 : w9.cell? ⟨gz, 5, none⟩ = some (.slice (some ⟨go, 0, none⟩) 2 2) := cell_of_row _ _ 5 _ _ _ row9
    go_wp2_with fail
    refine bodyPost_ret (v := .tuple #[.agg #[.int .i64 id, .int .i64 base, .int .i64 fin, .int .i64 time, .slice a2 eps.length c2, .slice (some ⟨go, 0, none⟩) 2 2], .nilIface]) (by simp [results, go_sem, q0, q1, q2, q3, q4, q5]) rfl ?_
    exact ⟨B9, .inl ⟨HOK.out, _, _, by rw [HMA.out], rd9⟩⟩
  · obtain ⟨T, u, rfl⟩ := her.not_nil hef
    have HNO := Lib.hid (fun h => hef (hmb.fine_iff.2 h))
    have HMB := Lib.hid hmb
    clear hmb hef
    go_wp2_with (refine wpList_store_row_g rfl 27 _ _ rfl gz _ rfl rfl 27 _ rowz8 manSize rfl (by simp [Value.oneCell']) ?_)
    intro w9 row9 gr9 hs9
    have B9 : Below w.heap.size w w9 := B8.grown gr9 B8.size (fun k hk => by simp only [Option.some.injEq] at hk; omega)
    have her9 := her.grown gr9 rowz8
    have HER := Lib.hid her9
    clear gr9 hs9 d0 d1 d2 d3 d4 d5 her her9
    have q0 : w9.cell? ⟨gz, 0, none⟩ = some (.int .i64 0) := cell_of_row _ _ 0 _ _ _ row9
    have q1 : w9.cell? ⟨gz, 1, none⟩ = some (.int .i64 0) := cell_of_row _ _ 1 _ _ _ row9
    have q2 : w9.cell? ⟨gz, 2, none⟩ = some (.int .i64 0) := cell_of_row _ _ 2 _ _ _ row9
    have q3 : w9.cell? ⟨gz, 3, none⟩ = some (.int .i64 0) := cell_of_row _ _ 3 _ _ _ row9
    have q4 : w9.cell? ⟨gz, 4, none⟩ = some (.slice none 0 0) := cell_of_row _ _ 4 _ _ _ row9
    have q5 : w9.cell? ⟨gz, 5, none⟩ = some (.slice none 0 0) := cell_of_row _ _ 5 _ _ _ row9
    go_wp2_with fail
    refine bodyPost_ret (v := .tuple #[.agg #[.int .i64 0, .int .i64 0, .int .i64 0, .int .i64 0, .slice none 0 0, .slice none 0 0], .iface T u]) (by simp [results, go_sem, q0, q1, q2, q3, q4, q5]) rfl ?_
    exact ⟨B9, .inr ⟨HNO.out, er, T, u, rfl, HMB.out, HER.out⟩⟩

end Go.Proofs.YtegiingcnhafbaaGreatDoor
