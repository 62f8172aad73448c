/- RecRows returns true at every input. -/
import Derived.Test.YtlfbdcgojbfcaaaDoorWorldRow
import Derived.Test.YtlfbdcgojbfcaaaDoorRefSameBat
import Derived.Test.YtlfbdcgojbfcaaaDoorRecTime
import Derived.Test.YtlfbdcgojbfcaaaDoorSee
import Derived.Deep.DeepCutAuto
import Derived.StillTailTactics
namespace Go.Proofs.YtlfbdcgojbfcaaaDoor.Rec
open Vint

theorem lens_pos (b : BatD) (bs : List BatD) : 8 ≤ lens (b :: bs) := by rw [lens_cons, bytes_len]; omega
theorem wantN_iff : ∀ (bs : List BatD) (k j : Nat), j < bs.length → (lens (bs.take (j + 1)) ≤ k ↔ j < wantN k bs) := by
  intro bs
  induction bs with
  | nil => intro k j h; simp at h
  | cons b bs ih =>
    intro k j hj
    unfold wantN
    rw [List.take_succ_cons, lens_cons]
    by_cases hle : (bytesL b).length ≤ k
    · rw [if_pos hle]
      cases j with
      | zero =>
        have h0 : lens (bs.take 0) = 0 := by simp [lens]
        rw [h0]
        omega
      | succ j =>
        have := ih (k - (bytesL b).length) j (by simpa using hj)
        omega
    · rw [if_neg hle]; omega
theorem wantN_le : ∀ (bs : List BatD) (k : Nat), wantN k bs ≤ bs.length := by
  intro bs
  induction bs with
  | nil => intro k; simp [wantN]
  | cons b bs ih =>
    intro k
    unfold wantN
    split
    · rw [List.length_cons]; have := ih (k - (bytesL b).length); omega
    · omega
theorem lens_take_succ (bs : List BatD) (i : Nat) (hi : i < bs.length) : lens (bs.take (i + 1)) = lens (bs.take i) + (bytesL bs[i]).length := by
  rw [List.take_succ_eq_append_getElem hi]; unfold lens; rw [List.flatMap_append, List.length_append, List.flatMap_cons, List.flatMap_nil, List.append_nil]
theorem flat_take_succ (bs : List BatD) (i : Nat) (hi : i < bs.length) : (bs.take (i + 1)).flatMap bytesL = (bs.take i).flatMap bytesL ++ bytesL bs[i] := by
  rw [List.take_succ_eq_append_getElem hi, List.flatMap_append, List.flatMap_cons, List.flatMap_nil, List.append_nil]
theorem lens_bd (bs : List BatD) (h : ∀ b ∈ bs, valid b = 0) : lens bs ≤ 50000 * bs.length := by
  induction bs with
  | nil => simp [lens]
  | cons b bs ih =>
    have h1 := ih (fun x hx => h x (List.mem_cons_of_mem _ hx))
    have h2 := body_len (h b List.mem_cons_self)
    rw [lens_cons, bytes_len, List.length_cons]
    omega
end Go.Proofs.YtlfbdcgojbfcaaaDoor.Rec
namespace Go.Proofs.YtlfbdcgojbfcaaaDoor
open Go Go.RowKit Rec Vint

theorem heapcell {w w' : World} {p : Addr} {v : Value} (b : Below w.heap.size w w') (h : w.cell? p = some v) : w'.cell? p = some v := by
  rw [b.cell (World.block_lt_of_cell? _ _ h)]; exact h
theorem flat_take_n {α : Type} (f : α → List Value) (C : Nat) : ∀ (l : List α), (∀ x ∈ l, (f x).length = C) → ∀ m, (l.flatMap f).take (m * C) = (l.take m).flatMap f := by
  intro l
  induction l with
  | nil => intro _ m; simp
  | cons x l ih =>
    intro h m
    cases m with
    | zero => simp
    | succ m =>
      have h1 := h x List.mem_cons_self
      rw [List.flatMap_cons, List.take_succ_cons, List.flatMap_cons, List.take_append, h1, List.take_of_length_le (by rw [h1, Nat.succ_mul]; omega), show (m + 1) * C - C = m * C by rw [Nat.succ_mul]; omega, ih (fun y hy => h y (List.mem_cons_of_mem _ hy)) m]
theorem BatsRd.take {w : World} {a : Option Addr} {c : Nat} {l : List BatD} (h : BatsRd w (.slice a l.length c) l) (m : Nat) (hm : m ≤ l.length) :
    ∃ a' c', sliced a 0 m c 3 = .slice a' m c' ∧ l.length ≤ c ∧ ∀ W, Below w.heap.size w W → BatsRd W (.slice a' m c') (l.take m) := by
  obtain ⟨rs, rfl, h2, h3⟩ := h
  rw [List.length_map] at hm h2 ⊢
  obtain ⟨a', c', e, hr⟩ := part_all a rs.length c 3 0 m (Nat.zero_le _) hm
  refine ⟨a', c', e, h2.cap, fun W hW => ⟨rs.take m, by rw [List.map_take], ?_, fun x hx => (h3 x (List.mem_of_mem_take hx)).below hW⟩⟩
  have := hr W _ (h2.below hW)
  rw [Nat.zero_mul, List.drop_zero, Nat.sub_zero, flat_take_n batV 3 rs (batV_len rs)] at this
  rw [List.length_take, Nat.min_eq_left hm]
  exact this
theorem info_int : (Tryd.prog.info? 3).map (fun i => (i.zero, i.size, i.bytes)) = some (some (.int .i64 0), 1, 8) := by kernel_rfl
def nvs (l : List Nat) : List Value := l.map (fun (n : Nat) => Value.int .i64 (n : Int))
theorem nvs_at (l : List Nat) (k : Nat) (h : k < l.length) : (nvs l)[k]? = some (.int .i64 (l[k] : Int)) := by simp [nvs, h]
def endsL (L : List BatD) (i : Nat) : List Nat := (List.range i).map (fun j => lens (L.take (j + 1)))
theorem endsL_len (L : List BatD) (i : Nat) : (endsL L i).length = i := by simp [endsL]
theorem endsL_at (L : List BatD) (i k : Nat) (h : k < (endsL L i).length) : (endsL L i)[k] = lens (L.take (k + 1)) := by simp [endsL]
theorem endsL_snoc (L : List BatD) (i : Nat) : nvs (endsL L (i + 1)) = nvs (endsL L i) ++ [.int .i64 ((lens (L.take (i + 1)) : Nat) : Int)] := by simp [endsL, nvs, List.range_succ]

set_option maxRecDepth 100000 in
set_option maxHeartbeats 4000000 in
theorem recRows_walk (S : List Nat) (A : Nat → Addr) (zs : List Int) (vt : Value) (cut : Int) (w : World) (hS : Sents S w A) (hall : All S) (hE0 : 0 ∈ S) (hE1 : 1 ∈ S) (hE2 : 2 ∈ S) (hE3 : 3 ∈ S) (hE4 : 4 ∈ S) (ht : Rd w 1 vt zs.length (zvs zs)) :
    Calls Tryd.prog 12 #[vt, .int .i64 cut] w (fun e w' => e = .returned (.bool true) ∧ Below w.heap.size w w') := by
  obtain ⟨i0, hi, hz0, hz1, hz2⟩ := info_parts info_u8
  obtain ⟨i1, hj, hy0, hy1, hy2⟩ := info_parts info_int
  have hfst := recFirst_calls S A hS hE3 hE4
  have hrow := fun W (hW : Below w.heap.size w W) (hm : zs.length ≤ 100) => row_calls zs vt 5 3 W (by omega) (by omega) hm (ht.below hW)
  rw [show ((3 : Nat) : Int) = 3 from rfl] at hrow
  obtain ⟨a1, c1, rfl⟩ := ht.slice
  have m1 := ht.len_le
  by_cases t1 : 12 < zs.length
  · go_enter Tryd.func12, Tryd.ntmps12
    go_wp2_with fail
    refine hfst.mono ?_
    rintro e w1 ⟨rfl, b1⟩
    go_wp2_with fail
    go_ret
    exact ⟨rfl, b1⟩
  have t2 : zs.length ≤ 12 := by omega
  have t2' : decide ((12 : Int) < (zs.length : Int)) = false := decide_eq_false (by omega)
  obtain ⟨L, hL⟩ : ∃ L, L = rowL 5 3 zs zs.length := ⟨_, rfl⟩
  have hLl : L.length = zs.length := by rw [hL, rowL_len]
  have hLv : ∀ b ∈ L, valid b = 0 := by rw [hL]; exact rowL_valid 5 3 zs _ (by omega) (by omega)
  rw [← hL] at hrow
  have hbd := lens_bd L hLv
  have HLV := Lib.hid hLv
  clear hL t1 hLv
  go_enter Tryd.func12, Tryd.ntmps12
  go_wp2_with fail
  refine hfst.mono ?_
  rintro e w1 ⟨rfl, b1⟩
  have hrow1 := hrow w1 b1 (by omega)
  clear hfst hrow
  go_wp2_with fail
  with_reducible refine hrow1.mono ?_
  rintro e w2 ⟨vl, rfl, rowA, b2⟩
  have B2 := nxt b1 b2
  have rowR := rowA.rd
  obtain ⟨al, cl, rfl⟩ := rowR.slice
  obtain ⟨m, hm⟩ : ∃ m, m = L.length := ⟨_, rfl⟩
  rw [← hm] at rowR hLl hbd
  have HM := Lib.hid hm
  rw [← hm]
  have hmz : m ≤ 12 := by omega
  clear hrow1 rowA b1 b2 hm hLl
  go_wp2_with fail
  go_loopw [7, 8, 9] (fun bv ev iv wr => ∃ i : Nat, iv = .int .i64 i ∧ i ≤ m ∧ wr.ownsRow w2.heap.size 5 1 bv (lens (L.take i)) (bvs ((L.take i).flatMap bytesL)) ∧ wr.ownsRow w2.heap.size 3 1 ev i (nvs (endsL L i)) ∧ Below w2.heap.size w2 wr) (fun _ _ iv _ => m - (intOf iv).toNat)
  case atStart => exact ⟨0, rfl, Nat.zero_le _, World.ownsRow_nil _ _ _ _, World.ownsRow_nil _ _ _ _, Below.refl _ _⟩
  case round =>
    obtain ⟨i, rfl, hi2, ownb, owne, hb⟩ := hrel
    obtain ⟨ab, cb, rfl⟩ := owns_slice ownb
    obtain ⟨ae, ce, rfl⟩ := owns_slice owne
    by_cases hlt : i < m
    · have hlt' : i < L.length := by rw [← HM.out]; exact hlt
      obtain ⟨bb, bo, rfl, hcs⟩ := (rowR.below hb).cells i hlt'
      obtain ⟨v, p0, p1, p2, rr⟩ := hcs i hlt'
      have HLT := Lib.hid (lens_take_succ L i hlt')
      have HFT := Lib.hid (flat_take_succ L i hlt')
      have hv := HLV.out L[i] (List.getElem_mem hlt')
      have hbl := body_len hv
      have hbyl := bytes_len L[i]
      have hlb : lens (L.take i) ≤ 50000 * 12 := by
        have := lens_bd (L.take i) (fun b hb => HLV.out b (List.mem_of_mem_take hb))
        rw [List.length_take] at this
        omega
      obtain ⟨b, hb'⟩ : ∃ b, b = L[i] := ⟨_, rfl⟩
      rw [← hb'] at p0 p1 rr HLT HFT hv hbl hbyl
      have hby := fun W (hW : Below wr.heap.size wr W) => recBytes_calls S A (hS.below (nxt (nxt B2 hb) hW)) hE3 hE4 (rr.below hW)
      have hsz := fun W (hW : Below wr.heap.size wr W) => recSize_calls S A (hS.below (nxt (nxt B2 hb) hW)) hE3 hE4 (rr.below hW)
      unfold BytesB at hby
      unfold sizeB at hsz
      simp only [hv, if_true] at hby hsz
      unfold batA at hby hsz
      obtain ⟨ar, cr, rfl⟩ := rr.slice
      obtain ⟨BY, hBY⟩ : ∃ BY, BY = bytesL b := ⟨_, rfl⟩
      rw [← hBY] at hby hsz hbyl HLT HFT
      have hByl : BY.length ≤ 50000 := by omega
      clear hcs hbyl hbl hb' hBY hv rr
      go_wp2_with fail
      with_reducible refine (hby _ (Below.refl _ _)).mono ?_
      rintro e w4 ⟨(⟨_, v4, rfl, o4⟩ | ⟨h, _⟩), b4⟩
      rotate_left
      · exact absurd rfl h
      obtain ⟨a4, c4, rfl⟩ := owns_slice o4
      have q0 := (heapcell b4 p0)
      have q1 := (heapcell b4 p1)
      have q2 := (heapcell b4 p2)
      clear hby p0 p1 p2
      have hne : ((BY.length : Int) != (BY.length : Int)) = false := by simp
      go_wp2_with fail
      with_reducible refine (hsz _ b4).mono ?_
      rintro e w5 ⟨rfl, b5⟩
      have b45 := nxt b4 b5
      have rx := Rd.of_owns (owns_below o4 b5)
      have ob := owns_below ownb b45
      have oe := owns_below owne b45
      have B5 := nxt hb b45
      clear q0 q1 q2 hsz ownb owne o4
      go_wp2_with (at_builtin; (refine wpList_append_rdg rfl _ _ 42 rfl w2.heap.size 5 i0 (.int .u8 0) 1 1 Tryd.underlying42 hi hz0 hz1 hz2 rfl (by decide) _ _ _ rfl ob _ _ (bvs BY) rfl rx (bvs_one _) ?c3 ?c4 ?c5 ?_))
      case c3 => unfold maxLen; omega
      case c4 => omega
      case c5 => exact B5.size
      intro v6 w6 o6 g6 Tr
      have B6 := Tr w2 B5 (Nat.le_refl _)
      have oe6 := owns_grown g6 oe (owns_rowIs ob) (by decide)
      rw [← bvs_append, ← HFT.out, ← HLT.out] at o6
      obtain ⟨NN, hNN⟩ : ∃ NN, NN = lens (L.take (i + 1)) := ⟨_, rfl⟩
      have hnb : NN ≤ 50000 * 13 := by have := HLT.out; omega
      have HNN := Lib.hid hNN
      rw [← hNN] at o6
      obtain ⟨a6, c6, rfl⟩ := owns_slice o6
      clear Tr g6 ob oe rx hNN
      go_wp2_with (at_builtin; refine wpList_append_own _ rfl _ _ 22 rfl w2.heap.size 3 i1 _ 1 8 Tryd.underlying22 hj hy0 hy1 hy2 rfl (by decide) _ _ _ rfl (oe6.alloc _) ⟨w6.heap.size, 0, none⟩ 1 1 [.int .i64 (NN : Int)] rfl rfl ?c1 ?c2 ?c3 ?c4 ?c5 ?_)
      case c1 => exact cells_new w6 #[.int .i64 (NN : Int)] 3
      case c2 => intro u hu; simp at hu; subst hu; rfl
      case c3 => unfold maxLen; omega
      case c4 => omega
      case c5 => have := B6.size; simp; omega
      intro v9 w9 o9 g9 _
      have bA := below_alloc w6 (.cells #[.int .i64 (NN : Int)] 3)
      have hge : ∀ k', (Value.slice ae i ce).ownBlock = some k' → w2.heap.size ≤ k' := owns_ge oe6
      have B9 : Below w2.heap.size w2 w9 := (nxt B6 bA).grown g9 (nxt B6 bA).size hge
      have ob9 := owns_grown g9 (owns_below o6 bA) (owns_rowIs (owns_below oe6 bA)) (by decide)
      clear g9 hge bA oe6 o6
      go_wp2_with fail
      refine ⟨⟨i + 1, by go_num, by omega, ?_, ?_, B9⟩, by simp [intOf]; omega⟩
      · rw [← HNN.out]; exact ob9
      · rw [endsL_snoc, ← HNN.out]; exact o9
    · obtain rfl : i = m := by omega
      have htk : L.take i = L := by rw [HM.out]; exact List.take_length
      rw [htk] at ownb ⊢
      obtain ⟨N, hN⟩ : ∃ N, N = lens L := ⟨_, rfl⟩
      rw [← hN] at ownb hbd ⊢
      have HN := Lib.hid hN
      have hNl : (L.flatMap bytesL).length = N := by rw [hN]; rfl
      have hk0 := Int.emod_nonneg cut (show ((N : Int) + 1) ≠ 0 by omega)
      have hk1 := Int.emod_lt_of_pos cut (show 0 < (N : Int) + 1 by omega)
      obtain ⟨k, hk, hkN⟩ : ∃ k : Nat, cut % ((N : Int) + 1) = (k : Int) ∧ k ≤ N := ⟨(cut % ((N : Int) + 1)).toNat, by omega, by omega⟩
      have HK := Lib.hid hk
      clear hk0 hk1
      have hw1 : IntKind.i64.wrap ((N : Int) + 1) = (N : Int) + 1 := by rw [IntKind.wrap_i64]; omega
      have hnum := number_calls cut ((N : Int) + 1) wr (by omega) (by omega)
      rw [hk] at hnum
      obtain ⟨a8, c8, s8, r8⟩ := part_all ab N cb 1 0 k (Nat.zero_le _) hkN
      rw [Nat.sub_zero] at s8
      have rb := Rd.of_owns ownb
      have u8' : ∀ W, (Instr.sliceAt 42 (.slice ab N cb) none (some (.int .i64 (k : Int))) none).run Tryd.prog W = .ok (.slice a8 k c8) W := fun W => by
        have := run_cut_h 42 sl_u8 1 sz_u8 ab N cb k .i64 (by have := rb.cap; omega) W
        rw [s8] at this
        exact this
      have r8' := r8 wr _ rb
      rw [Nat.sub_zero, Nat.zero_mul, Nat.mul_one, List.drop_zero, ← bvs_take] at r8'
      obtain ⟨X, hX⟩ : ∃ X, X = (L.flatMap bytesL).take k := ⟨_, rfl⟩
      have hXl : X.length = k := by rw [hX, List.length_take, hNl]; omega
      rw [← hX] at r8'
      have rx : Rd wr 1 (.slice a8 k c8) X.length (bvs X) := by rw [hXl]; exact r8'
      have hAB : allB X.length X = (L.take (wantN k L), lens (L.take (wantN k L)), if lens (L.take (wantN k L)) = k then 0 else 101) := by
        rw [allB_fuel X.length X (Nat.le_refl _) (X.length + L.length + 1) (by omega), hX]
        exact allB_cut L k _ HLV.out (by rw [← HN.out]; exact hkN) (by omega)
      have hall' := recAll_calls S A (hS.below (nxt B2 hb)) hE0 hE1 hE2 hE3 hE4 rx (by omega)
      unfold AllPost at hall'
      rw [hAB] at hall'
      simp only at hall'
      obtain ⟨Wn, hWn⟩ : ∃ Wn, Wn = wantN k L := ⟨_, rfl⟩
      have hWi := fun j (hj : j < i) => wantN_iff L k j (by rw [← HM.out]; exact hj)
      have hWl := wantN_le L k
      rw [← HM.out] at hWl
      rw [← hWn] at hall' hWi hWl
      obtain ⟨et, het⟩ : ∃ et, et = lens (L.take Wn) := ⟨_, rfl⟩
      rw [← het] at hall'
      obtain ⟨ve, hve⟩ : ∃ ve, ve = (if (if et = k then 0 else 101) = 0 then Value.nilIface else senV A ((if et = k then 0 else 101) - 101)) := ⟨_, rfl⟩
      rw [← hve] at hall'
      have HVE := Lib.hid hve
      have HET := Lib.hid het
      have HWI := Lib.hid hWi
      obtain ⟨a25, c25, s25, hc25, r25⟩ := (show BatsRd w2 (.slice al L.length cl) L by rw [← HM.out]; exact rowR).take Wn (by rw [← HM.out]; exact hWl)
      rw [← HM.out] at hc25
      have u25 : ∀ W, (Instr.sliceAt 25 (.slice al i cl) none (some (.int .i64 (Wn : Int))) none).run Tryd.prog W = .ok (.slice a25 Wn c25) W := fun W => by
        have := run_cut_h (P := Tryd.prog) 25 Tryd.underlying25 3 (by kernel_rfl) al i cl Wn .i64 (by omega) W
        rw [s25] at this
        exact this
      clear hve het hWi hAB r8 s8 s25 hX hXl r8' hWn hk hN htk
      go_wp2_with fail
      with_reducible refine hnum.mono ?_
      rintro e w4 ⟨rfl, rfl⟩
      clear hnum
      go_wp2_with fail
      with_reducible refine hall'.mono ?_
      rintro e w5 ⟨vp, rfl, bo5, b5⟩
      have rp := bo5.rd
      obtain ⟨ap, cp, rfl⟩ := rp.slice
      have oe5 := owns_below owne b5
      have B5 := nxt hb b5
      have BB5 := nxt B2 B5
      have hpl : (L.take Wn).length = Wn := by rw [List.length_take, Nat.min_eq_left (by rw [← HM.out]; exact hWl)]
      have R25 := r25 _ B5
      have hsame := sameBatches_calls _ _ (L.take Wn) w5 rp R25 (by omega)
      rw [hpl] at hsame ⊢
      clear hall' u8' rx rb r25 bo5 rp R25
      go_wp2_with fail
      go_loopw [16] (fun jv wr => ∃ j : Nat, jv = .int .i64 j ∧ j ≤ Wn ∧ wr = w5) (fun jv _ => i - (intOf jv).toNat)
      case atStart => exact ⟨0, rfl, Nat.zero_le _, rfl⟩
      case round =>
        obtain ⟨j, rfl, hj, rfl⟩ := hrel
        obtain ⟨ae', ce', e0⟩ : ∃ a' c', Value.slice ae i ce = .slice a' i c' := ⟨_, _, rfl⟩
        by_cases hjw : j < Wn
        · obtain ⟨eb, eo, rfl, _, _, hx⟩ := (Rd.of_owns oe5).at (show 0 < i by omega)
          have f1 := hx j _ (nvs_at (endsL L i) j (by rw [endsL_len]; omega))
          rw [endsL_at] at f1
          have hle := (HWI.out j (by omega)).2 hjw
          obtain ⟨q, hq⟩ : ∃ q, q = lens (L.take (j + 1)) := ⟨_, rfl⟩
          rw [← hq] at f1 hle
          have k2 : decide ((q : Int) ≤ (k : Int)) = true := decide_eq_true (by omega)
          clear hx hq
          go_wp2_with fail
          exact ⟨⟨j + 1, by go_num, by omega, trivial⟩, by simp [intOf]; omega⟩
        · obtain rfl : j = Wn := by omega
          have hAE : (¬ j < i ∧ ¬ 0 < j ∧ ((et : Int) == 0) = true) ∨ ∃ eb eo, ae = some ⟨eb, eo, none⟩ ∧
              ((¬ j < i) ∨ (j < i ∧ ∃ q : Nat, wr.cell? ⟨eb, eo + j, none⟩ = some (.int .i64 (q : Int)) ∧ ¬ q ≤ k)) ∧
              ((¬ 0 < j ∧ ((et : Int) == 0) = true) ∨ (0 < j ∧ IntKind.i64.wrap ((j : Int) - 1) = ((j - 1 : Nat) : Int) ∧ j - 1 < i ∧ wr.cell? ⟨eb, eo + (j - 1), none⟩ = some (.int .i64 (et : Int)))) := by
            by_cases h0 : i = 0
            · have hj0 : j = 0 := by omega
              exact .inl ⟨by omega, by omega, by rw [HET.out, hj0]; simp [lens]⟩
            · obtain ⟨eb, eo, rfl, _, _, hx'⟩ := (Rd.of_owns oe5).at (show 0 < i by omega)
              have hx : ∀ q, q < i → wr.cell? ⟨eb, eo + q, none⟩ = some (.int .i64 ((lens (L.take (q + 1)) : Nat) : Int)) := fun q hq => by
                have f1 := hx' q _ (nvs_at (endsL L i) q (by rw [endsL_len]; omega))
                rw [endsL_at] at f1
                exact f1
              refine .inr ⟨eb, eo, rfl, ?_, ?_⟩
              · by_cases hji : j < i
                · have hle := (not_congr (HWI.out j hji)).2 (Nat.lt_irrefl j)
                  exact .inr ⟨hji, _, hx j hji, hle⟩
                · exact .inl hji
              · by_cases h1 : j = 0
                · exact .inl ⟨by omega, by rw [HET.out, h1]; simp [lens]⟩
                · have f1 := hx (j - 1) (by omega)
                  rw [show j - 1 + 1 = j by omega, ← HET.out] at f1
                  exact .inr ⟨by omega, by rw [IntKind.wrap_i64]; omega, by omega, f1⟩
          have hee : ((et : Int) == (et : Int)) = true := by simp
          have hfin : ∀ W (hW : Below wr.heap.size wr W), Calls Tryd.prog 32 #[senV A 0, .int .i64 101] W (fun e w' => e = .returned (.bool true) ∧ Below W.heap.size W w') := fun W hW => by
            have := is_calls (hS.below (nxt BB5 hW)) hall _ (.bare 0) ⟨by omega, rfl⟩ 101
            rw [show decide ((Er.bare 0).code = 101 ∧ (Er.bare 0).has = false ∧ (Er.bare 0).pos = 0) = true by decide] at this
            exact this
          unfold senV at hfin
          clear oe5 owne
          have hK : (ve = .nilIface ∧ ((et : Int) == (k : Int)) = true) ∨ (ve = senV A 0 ∧ ((et : Int) == (k : Int)) = false) := by
            have hve := HVE.out
            by_cases hek : et = k
            · rw [if_pos hek, if_pos rfl] at hve
              exact .inl ⟨hve, by rw [beq_iff_eq]; omega⟩
            · rw [if_neg hek, if_neg (by decide)] at hve
              exact .inr ⟨hve, by rw [beq_eq_false_iff_ne]; omega⟩
          clear HVE
          unfold senV at hK
          rcases hK with ⟨rfl, hek2⟩ | ⟨rfl, hek2⟩
          all_goals
            rcases hAE with ⟨x1, y1, y2⟩ | ⟨eb, eo, rfl, (x1 | ⟨x1, q, x2, x3⟩), (⟨y1, y2⟩ | ⟨y1, y2, y3, y4⟩)⟩
            all_goals
              go_wp2_with fail
              with_reducible refine hsame.mono ?_
              rintro e w6 ⟨rfl, b6⟩
              go_wp2_with fail
              first
              | (go_ret
                 exact ⟨rfl, nxt BB5 b6⟩)
              | (with_reducible refine (hfin _ b6).mono ?_
                 rintro e w7 ⟨rfl, b7⟩
                 go_wp2_with fail
                 go_ret
                 exact ⟨rfl, nxt BB5 (nxt b6 b7)⟩)
end Go.Proofs.YtlfbdcgojbfcaaaDoor
