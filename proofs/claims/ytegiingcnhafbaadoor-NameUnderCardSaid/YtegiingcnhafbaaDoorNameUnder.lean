/- NameUnder: those that begin so, rising, each once, whatever the order; of nothing all. -/
import Derived.Test.YtegiingcnhafbaaDoorUnder
import Derived.Test.YtegiingcnhafbaaDoorRising
import Derived.Test.YtegiingcnhafbaaDoorStrIn
import Derived.Test.YtegiingcnhafbaaDoorNameFirst
import Derived.Test.YtegiingcnhafbaaDoorNumber
import Derived.Deep.CutBlock
import Derived.Laws.Cover1
import Derived.Deep.DeepCutAuto
namespace Go.Proofs.YtegiingcnhafbaaDoor
open Go Go.RowKit

def bT (t : List UInt8) : ByteArray := ⟨t.toArray⟩
theorem bT_data (t : List UInt8) : (bT t).data.toList = t := List.toList_toArray
theorem bT_size (t : List UInt8) : (bT t).size = t.length := List.size_toArray
theorem bT_inj {t u : List UInt8} (h : bT t = bT u) : t = u := by rw [← bT_data t, h, bT_data]
theorem map_bT (ts : List (List UInt8)) : (ts.map bT).map Value.string = ts.map encStr := by rw [List.map_map]; rfl
theorem mem_bT {ts : List (List UInt8)} {t : List UInt8} : bT t ∈ ts.map bT ↔ t ∈ ts := by
  rw [List.mem_map]
  exact ⟨fun ⟨x, hx, h⟩ => by rw [← bT_inj h]; exact hx, fun h => ⟨t, h, rfl⟩⟩
theorem in_texts {v : Value} {ts : List (List UInt8)} {w : World} (h : Rd w 1 v ts.length (ts.map encStr)) (t : List UInt8) :
    Calls Tryd.prog 20 #[v, .string (bT t)] w (fun e w' => e = .returned (.bool (inT (ts.map bT) (bT t))) ∧ w' = w) :=
  in_calls v (ts.map bT) (bT t) w (by rw [List.length_map, map_bT]; exact h)
theorem pre_cut {z p : ByteArray} : Lib.hasPrefix z.data.toList p.data.toList = true ↔ p.size ≤ z.size ∧ (z.extract 0 p.size).toList = p.toList := by
  unfold Lib.hasPrefix
  rw [List.isPrefixOf_iff_prefix, ByteArray.toList_eq, ByteArray.toList_eq, Lib.extract_from_zero]
  constructor
  · intro h
    have hl := h.length_le
    rw [kind_len, kind_len] at hl
    refine ⟨hl, ?_⟩
    have := List.prefix_iff_eq_take.1 h
    rw [kind_len] at this
    exact this.symm
  · rintro ⟨h1, h2⟩
    rw [List.prefix_iff_eq_take, kind_len]
    exact h2.symm

set_option maxRecDepth 100000 in
set_option maxHeartbeats 4000000 in
theorem nameUnder_walk (v : Value) (ts : List (List UInt8)) (n : Int) (w : World) (ht : Tens w) (h : Rd w 1 v ts.length (ts.map encStr)) (hsz : ∀ t ∈ ts, t.length ≤ 9223372036854775807) (hn0 : -9223372036854775808 ≤ n) (hn1 : n ≤ 9223372036854775807) :
    Calls Tryd.prog 5 #[v, .int .i64 n] w (fun e w' => e = .returned (.bool true) ∧ Below w.heap.size w w') := by
  obtain ⟨a, c, rfl⟩ := h.slice
  have hf := nameFirst_calls w ht
  have HSZ := Lib.hid hsz
  clear hsz
  by_cases t1 : 20 < ts.length
  case pos =>
    have t1' : decide (20 < (ts.length : Int)) = true := decide_eq_true (by omega)
    clear t1 h
    go_enter Tryd.func5, Tryd.ntmps5
    go_wp2_with fail
    with_reducible refine hf.mono ?_
    rintro e w2 ⟨rfl, b2⟩
    go_wp2_with fail
    go_ret
    exact ⟨rfl, b2⟩
  have t1' : decide (20 < (ts.length : Int)) = false := decide_eq_false (by omega)
  have hl20 : ts.length ≤ 20 := by omega
  clear t1
  have dl : ∀ i (hi : i < ts.length) W, Below w.heap.size w W → ∃ b o, a = some ⟨b, o, none⟩ ∧ W.cell? ⟨b, o + i, none⟩ = some (.string (bT ts[i])) := fun i hi W hB => by
    obtain ⟨b, o, e, -, -, hx⟩ := (h.below hB).at (by omega)
    exact ⟨b, o, e, hx i _ (by simp [hi, bT])⟩
  go_enter Tryd.func5, Tryd.ntmps5
  go_wp2_with fail
  with_reducible refine hf.mono ?_
  rintro e w2 ⟨rfl, b2⟩
  clear hf
  go_wp2_with fail
  go_loopw [6] (fun iv wr => ∃ i : Nat, i ≤ ts.length ∧ iv = .int .i64 i ∧ wr = w2 ∧ ∀ j (hj : j < ts.length), j < i → (ts[j]).length ≤ 40) (fun iv _ => ts.length - (intOf iv).toNat)
  case atStart => exact ⟨0, Nat.zero_le _, rfl, rfl, fun j _ h => by omega⟩
  case round =>
    obtain ⟨i, hi, rfl, rfl, hj⟩ := hrel
    have HJ := Lib.hid hj
    clear hj
    by_cases hlt : i < ts.length
    case pos =>
      obtain ⟨b, o, rfl, d0⟩ := dl i hlt wr b2
      have HJ2 : Hid ((ts[i]).length ≤ 40 → ∀ j (hj : j < ts.length), j < i + 1 → (ts[j]).length ≤ 40) := Lib.hid (fun hq j h hji => by
        rcases Nat.lt_or_ge j i with h1 | h1
        · exact HJ.out j h h1
        · obtain rfl : j = i := by omega
          exact hq)
      have hbs := bT_size ts[i]
      have hmx := HSZ.out _ (List.getElem_mem hlt)
      generalize ts[i] = x at d0 HJ2 hbs hmx
      obtain ⟨xb, hxb⟩ : ∃ xb, xb = bT x := ⟨_, rfl⟩
      rw [← hxb] at d0 hbs
      clear hxb
      by_cases hq : 40 < xb.size
      · have hq' : decide (40 < (xb.size : Int)) = true := decide_eq_true (by omega)
        clear hq hbs
        go_wp2_with fail
        go_ret
        exact ⟨rfl, b2⟩
      · have hq' : decide (40 < (xb.size : Int)) = false := decide_eq_false (by omega)
        have HH := Lib.hid (HJ2.out (by omega))
        clear hq hbs HJ2
        go_wp2_with fail
        exact ⟨⟨i + 1, by omega, by go_num, by first | rfl | trivial, HH.out⟩, by simp [intOf]; omega⟩
    have H40 : Hid (∀ t ∈ ts, t.length ≤ 40) := Lib.hid (fun t ht => by
      obtain ⟨j, hj, rfl⟩ := List.mem_iff_getElem.1 ht
      exact HJ.out j hj (by omega))
    clear HJ HSZ
    go_upto_if 37 with fail
    go_cut [7] (fun pv wx => ∃ p : ByteArray, pv = .string p ∧ p.size ≤ 40 ∧ Below wr.heap.size wr wx)
    case first =>
      by_cases h0 : 0 < ts.length
      case neg =>
        have h0' : decide (0 < (ts.length : Int)) = false := decide_eq_false (by omega)
        have h0'' : decide (0 < ts.length) = false := decide_eq_false h0
        go_wp2_with fail
        go_meet
        exact ⟨⟨#[]⟩, rfl, by decide, Below.refl _ _⟩
      have h0' : decide (0 < (ts.length : Int)) = true := decide_eq_true (by omega)
      have h0'' : decide (0 < ts.length) = true := decide_eq_true h0
      have hnum := number_calls n (ts.length : Int) wr (by omega) (by omega)
      obtain ⟨j, hj, hjl⟩ : ∃ j : Nat, n % (ts.length : Int) = (j : Int) ∧ j < ts.length := by
        have e1 := Int.emod_nonneg n (show (ts.length : Int) ≠ 0 by omega)
        have e2 := Int.emod_lt_of_pos n (show (0 : Int) < (ts.length : Int) by omega)
        exact ⟨(n % (ts.length : Int)).toNat, by omega, by omega⟩
      rw [hj] at hnum
      obtain ⟨b, o, rfl, d0⟩ := dl j hjl wr b2
      have hbs := bT_size ts[j]
      have hmx := H40.out _ (List.getElem_mem hjl)
      generalize ts[j] = x at d0 hbs hmx
      obtain ⟨xb, hxb⟩ : ∃ xb, xb = bT x := ⟨_, rfl⟩
      rw [← hxb] at d0 hbs
      have hx40 : xb.size ≤ 40 := by omega
      clear hxb hbs hmx hj h0
      go_wp2_with fail
      with_reducible refine hnum.mono ?_
      rintro e wy ⟨rfl, rfl⟩
      clear hnum
      have hnum := number_calls (n.tdiv 7) ((xb.size : Int) + 1) wr (by omega) (by omega)
      obtain ⟨m, hm, hml⟩ : ∃ m : Nat, (n.tdiv 7) % ((xb.size : Int) + 1) = (m : Int) ∧ m ≤ xb.size := by
        have e1 := Int.emod_nonneg (n.tdiv 7) (show ((xb.size : Int) + 1) ≠ 0 by omega)
        have e2 := Int.emod_lt_of_pos (n.tdiv 7) (show (0 : Int) < ((xb.size : Int) + 1) by omega)
        exact ⟨((n.tdiv 7) % ((xb.size : Int) + 1)).toNat, by omega, by omega⟩
      rw [hm] at hnum
      clear hm
      go_wp2_with fail
      with_reducible refine hnum.mono ?_
      rintro e wy ⟨rfl, rfl⟩
      clear hnum
      go_wp2_with fail
      go_meet
      exact ⟨xb.extract 0 m, rfl, by rw [ByteArray.size_extract]; omega, Below.refl _ _⟩
    obtain ⟨p, rfl, hp40, bc⟩ := hcut
    have B3 := nxt b2 bc
    have hun := under_calls p (.slice a ts.length c) ts wc (h.below B3) (by omega)
    obtain ⟨us, hus⟩ : ∃ us, us = onceL (ts.filter fun t => Lib.hasPrefix t p.data.toList) := ⟨_, rfl⟩
    rw [← hus] at hun
    have US : Hid (Rise us ∧ ∀ x, x ∈ us ↔ x ∈ ts ∧ Lib.hasPrefix x p.data.toList = true) := Lib.hid (by
      have := once_is (ts.filter fun t => Lib.hasPrefix t p.data.toList)
      rw [← hus] at this
      exact ⟨this.1, fun x => by rw [this.2 x, List.mem_filter]⟩)
    clear hus
    go_wp2_with fail
    with_reducible refine hun.mono ?_
    rintro e w4 ⟨uv, rfl, ur, b4⟩
    clear hun
    have B4 := nxt B3 b4
    obtain ⟨ua, uc, rfl⟩ := ur.slice
    have hul := ur.len_le
    have du : ∀ i (hi : i < us.length) W, Below w4.heap.size w4 W → ∃ b o, ua = some ⟨b, o, none⟩ ∧ W.cell? ⟨b, o + i, none⟩ = some (.string (bT us[i])) := fun i hi W hB => by
      obtain ⟨b, o, e, -, -, hx⟩ := (ur.below hB).at (by omega)
      exact ⟨b, o, e, hx i _ (by simp [hi, bT])⟩
    have HIL := fun W (hB : Below w.heap.size w W) t => in_texts (h.below hB) t
    have HIU := fun W (hB : Below w4.heap.size w4 W) t => in_texts (ur.below hB) t
    go_wp2_with fail
    go_loopw [10] (fun iv wr => ∃ i : Nat, i ≤ us.length ∧ iv = .int .i64 i ∧ Below w4.heap.size w4 wr) (fun iv _ => us.length - (intOf iv).toNat)
    case atStart => exact ⟨0, Nat.zero_le _, rfl, Below.refl _ _⟩
    case round =>
      rename World => w5
      obtain ⟨j, hj, rfl, b5⟩ := hrel
      have B5 := nxt B4 b5
      by_cases hlt : j < us.length
      case neg =>
        go_wp2_with fail
        go_loopw [11] (fun iv wr => ∃ i : Nat, i ≤ ts.length ∧ iv = .int .i64 i ∧ Below w4.heap.size w4 wr) (fun iv _ => ts.length - (intOf iv).toNat)
        case atStart => exact ⟨0, Nat.zero_le _, rfl, b5⟩
        case round =>
          rename World => w6
          obtain ⟨i, hi, rfl, b6⟩ := hrel
          have B6 := nxt B4 b6
          by_cases hlt2 : i < ts.length
          case neg =>
            have hun0 := under_calls ⟨#[]⟩ (.slice a ts.length c) ts w6 (h.below B6) (by omega)
            have hall : (ts.filter fun t => Lib.hasPrefix t (⟨#[]⟩ : ByteArray).data.toList) = ts := List.filter_eq_self.2 (fun t _ => by
              show Lib.hasPrefix t [] = true
              unfold Lib.hasPrefix; simp)
            rw [hall] at hun0
            have hri := fun W (hB : Below w.heap.size w W) => rising_calls (.slice a ts.length c) ts W (h.below hB) (by omega) (fun t ht => by have := H40.out t ht; omega)
            generalize onceL ts = os at hun0 hri
            clear hall
            go_wp2_with fail
            with_reducible refine hun0.mono ?_
            rintro e w7 ⟨v7, rfl, r7, b7⟩
            clear hun0
            have B7 := nxt B6 b7
            obtain ⟨a7, c7, rfl⟩ := r7.slice
            go_wp2_with fail
            with_reducible refine (hri _ B7).mono ?_
            rintro e w8 ⟨v8, rfl, r8, b8⟩
            clear hri
            obtain ⟨a8, c8, rfl⟩ := r8.slice
            go_wp2_with fail
            go_ret
            exact ⟨by first | rfl | simp, nxt B7 b8⟩
          obtain ⟨tb0, tf0, rfl, -, -, hx⟩ := h.at (show 0 < ts.length by omega)
          have hxi := hx i (encStr ts[i]) (by simp [hlt2])
          have dz : ∀ W, Below w.heap.size w W → W.cell? ⟨tb0, tf0 + i, none⟩ = some (.string (bT ts[i])) := fun W hB => (hB.cell (World.block_lt_of_cell? _ _ hxi)).trans hxi
          have hz40 := H40.out _ (List.getElem_mem hlt2)
          obtain ⟨B, hB⟩ : ∃ B, B = Lib.hasPrefix ts[i] p.data.toList := ⟨_, rfl⟩
          have hiB : inT (us.map bT) (bT ts[i]) = B := by
            rw [Bool.eq_iff_iff, inT_iff, mem_bT, US.out.2, hB]
            exact ⟨fun h => h.2, fun h => ⟨List.getElem_mem hlt2, h⟩⟩
          have hin := fun W (hB : Below w4.heap.size w4 W) => HIU W hB ts[i]
          rw [hiB] at hin
          have hpc := pre_cut (z := bT ts[i]) (p := p)
          rw [bT_data, ← hB] at hpc
          have hsz1 := bT_size ts[i]
          obtain ⟨xb, hxb⟩ : ∃ xb, xb = bT ts[i] := ⟨_, rfl⟩
          rw [← hxb] at hin dz hsz1 hpc
          have hzs : xb.size ≤ 40 := by omega
          have HPC := Lib.hid hpc
          clear hxb hz40 hx hxi hsz1 hB hiB hpc
          by_cases hps : p.size ≤ xb.size
          case pos =>
            have A2 : decide ((p.size : Int) ≤ (xb.size : Int)) = true := decide_eq_true (by omega)
            have A2' : decide (p.size ≤ xb.size) = true := decide_eq_true hps
            have A3 : ((xb.extract 0 p.size).toList == p.toList) = B := by
              cases B with
              | true => exact beq_iff_eq.2 (HPC.out.1 rfl).2
              | false => exact beq_eq_false_iff_ne.2 (fun h => absurd (HPC.out.2 ⟨hps, h⟩) (by decide))
            cases B
            case false =>
              go_wp2_with fail
              refine wp_region_ord (S := (fun W => W.cell? ⟨tb0, tf0 + i, none⟩ = some (.string xb) ∧ True)) [(0, true), (1, true), (2, true), (3, true), (4, true), (5, true), (6, true), (7, true), (8, true), (9, true), (10, true), (11, true), (12, true), (13, true), (14, true), (15, true), (16, true), (17, true), (18, true), (19, true), (20, true), (21, true), (22, true), (23, true), (24, false), (25, true)] (by kernel_rfl) (by kernel_rfl) rfl (by kernel_rfl) (fun _ _ _ _ _ h => h) ⟨dz w6 B6, trivial⟩ ?_
              simp only [List.map_cons, List.map_nil, List.getElem?_toArray, List.getElem?_cons_succ, List.getElem?_cons_zero]
              iterate 9 (refine ord_take (v := ?_) (by kernel_rfl) (fun w hSw => ?_) ?_; rotate_left; (focus ((try (obtain ⟨s0, s1⟩ := hSw)); (try dsimp only at s0 s1); go_simp; (first | done | with_reducible rfl))); simp only [Act.put, List.setIfInBounds_toArray, List.set_cons_zero, List.set_cons_succ])
              iterate 9 (refine ord_take (v := ?_) (by kernel_rfl) (fun w hSw => ?_) ?_; rotate_left; (focus ((try (obtain ⟨s0, s1⟩ := hSw)); (try dsimp only at s0 s1); go_simp; (first | done | with_reducible rfl))); simp only [Act.put, List.setIfInBounds_toArray, List.set_cons_zero, List.set_cons_succ])
              iterate 6 (refine ord_take (v := ?_) (by kernel_rfl) (fun w hSw => ?_) ?_; rotate_left; (focus ((try (obtain ⟨s0, s1⟩ := hSw)); (try dsimp only at s0 s1); go_simp; (first | done | with_reducible rfl))); simp only [Act.put, List.setIfInBounds_toArray, List.set_cons_zero, List.set_cons_succ])
              refine ord_do (by kernel_rfl) (fun K hK => ?_)
              go_simp
              go_at_call 20
              have bD : Below w6.heap.size w6 w6.drew := (Below.refl _ _).drew
              with_reducible refine (hin _ (nxt b6 bD)).mono ?_
              rintro e wx ⟨rfl, rfl⟩
              show K _ _
              refine hK.out _ _ ⟨dz _ (nxt B6 bD), trivial⟩ ?_
              clear hK
              try simp only [Act.put, List.setIfInBounds_toArray, List.set_cons_zero, List.set_cons_succ]
              iterate 1 (refine ord_take (v := ?_) (by kernel_rfl) (fun w hSw => ?_) ?_; rotate_left; (focus ((try (obtain ⟨s0, s1⟩ := hSw)); (try dsimp only at s0 s1); go_simp; (first | done | with_reducible rfl))); simp only [Act.put, List.setIfInBounds_toArray, List.set_cons_zero, List.set_cons_succ])
              refine ord_nil ?_
              go_wp2_with fail
              exact ⟨⟨i + 1, by omega, by go_num, nxt b6 bD⟩, by simp [intOf]; omega⟩
            case true =>
              go_wp2_with fail
              refine wp_region_ord (S := (fun W => W.cell? ⟨tb0, tf0 + i, none⟩ = some (.string xb) ∧ True)) [(0, true), (1, true), (2, true), (3, true), (4, true), (5, true), (6, true), (7, true), (8, true), (9, true), (10, true), (11, true), (12, true), (13, true), (14, true), (15, true), (16, true), (17, true), (18, true), (19, true), (20, true), (21, true), (22, true), (23, true), (24, false), (25, true)] (by kernel_rfl) (by kernel_rfl) rfl (by kernel_rfl) (fun _ _ _ _ _ h => h) ⟨dz w6 B6, trivial⟩ ?_
              simp only [List.map_cons, List.map_nil, List.getElem?_toArray, List.getElem?_cons_succ, List.getElem?_cons_zero]
              iterate 9 (refine ord_take (v := ?_) (by kernel_rfl) (fun w hSw => ?_) ?_; rotate_left; (focus ((try (obtain ⟨s0, s1⟩ := hSw)); (try dsimp only at s0 s1); go_simp; (first | done | with_reducible rfl))); simp only [Act.put, List.setIfInBounds_toArray, List.set_cons_zero, List.set_cons_succ])
              iterate 9 (refine ord_take (v := ?_) (by kernel_rfl) (fun w hSw => ?_) ?_; rotate_left; (focus ((try (obtain ⟨s0, s1⟩ := hSw)); (try dsimp only at s0 s1); go_simp; (first | done | with_reducible rfl))); simp only [Act.put, List.setIfInBounds_toArray, List.set_cons_zero, List.set_cons_succ])
              iterate 6 (refine ord_take (v := ?_) (by kernel_rfl) (fun w hSw => ?_) ?_; rotate_left; (focus ((try (obtain ⟨s0, s1⟩ := hSw)); (try dsimp only at s0 s1); go_simp; (first | done | with_reducible rfl))); simp only [Act.put, List.setIfInBounds_toArray, List.set_cons_zero, List.set_cons_succ])
              refine ord_do (by kernel_rfl) (fun K hK => ?_)
              go_simp
              go_at_call 20
              have bD : Below w6.heap.size w6 w6.drew := (Below.refl _ _).drew
              with_reducible refine (hin _ (nxt b6 bD)).mono ?_
              rintro e wx ⟨rfl, rfl⟩
              show K _ _
              refine hK.out _ _ ⟨dz _ (nxt B6 bD), trivial⟩ ?_
              clear hK
              try simp only [Act.put, List.setIfInBounds_toArray, List.set_cons_zero, List.set_cons_succ]
              iterate 1 (refine ord_take (v := ?_) (by kernel_rfl) (fun w hSw => ?_) ?_; rotate_left; (focus ((try (obtain ⟨s0, s1⟩ := hSw)); (try dsimp only at s0 s1); go_simp; (first | done | with_reducible rfl))); simp only [Act.put, List.setIfInBounds_toArray, List.set_cons_zero, List.set_cons_succ])
              refine ord_nil ?_
              go_wp2_with fail
              exact ⟨⟨i + 1, by omega, by go_num, nxt b6 bD⟩, by simp [intOf]; omega⟩
          case neg =>
            have A2 : decide ((p.size : Int) ≤ (xb.size : Int)) = false := decide_eq_false (by omega)
            have A2' : decide (p.size ≤ xb.size) = false := decide_eq_false hps
            have hBf : B = false := by
              cases B with
              | true => exact absurd (HPC.out.1 rfl).1 hps
              | false => rfl
            subst hBf
            go_wp2_with fail
            refine wp_region_ord (S := (fun W => W.cell? ⟨tb0, tf0 + i, none⟩ = some (.string xb) ∧ True)) [(0, true), (1, true), (2, true), (3, true), (4, true), (5, true), (6, true), (7, true), (8, true), (9, true), (10, true), (11, true), (12, true), (13, true), (14, true), (15, true), (16, true), (17, true), (18, true), (19, true), (20, true), (21, true), (22, true), (23, true), (24, false), (25, true)] (by kernel_rfl) (by kernel_rfl) rfl (by kernel_rfl) (fun _ _ _ _ _ h => h) ⟨dz w6 B6, trivial⟩ ?_
            simp only [List.map_cons, List.map_nil, List.getElem?_toArray, List.getElem?_cons_succ, List.getElem?_cons_zero]
            iterate 9 (refine ord_take (v := ?_) (by kernel_rfl) (fun w hSw => ?_) ?_; rotate_left; (focus ((try (obtain ⟨s0, s1⟩ := hSw)); (try dsimp only at s0 s1); go_simp; (first | done | with_reducible rfl))); simp only [Act.put, List.setIfInBounds_toArray, List.set_cons_zero, List.set_cons_succ])
            iterate 9 (refine ord_skip (by kernel_rfl) ?_; simp only [Act.put, List.setIfInBounds_toArray, List.set_cons_zero, List.set_cons_succ])
            iterate 6 (refine ord_take (v := ?_) (by kernel_rfl) (fun w hSw => ?_) ?_; rotate_left; (focus ((try (obtain ⟨s0, s1⟩ := hSw)); (try dsimp only at s0 s1); go_simp; (first | done | with_reducible rfl))); simp only [Act.put, List.setIfInBounds_toArray, List.set_cons_zero, List.set_cons_succ])
            refine ord_do (by kernel_rfl) (fun K hK => ?_)
            go_simp
            go_at_call 20
            have bD : Below w6.heap.size w6 w6.drew := (Below.refl _ _).drew
            with_reducible refine (hin _ (nxt b6 bD)).mono ?_
            rintro e wx ⟨rfl, rfl⟩
            show K _ _
            refine hK.out _ _ ⟨dz _ (nxt B6 bD), trivial⟩ ?_
            clear hK
            try simp only [Act.put, List.setIfInBounds_toArray, List.set_cons_zero, List.set_cons_succ]
            iterate 1 (refine ord_take (v := ?_) (by kernel_rfl) (fun w hSw => ?_) ?_; rotate_left; (focus ((try (obtain ⟨s0, s1⟩ := hSw)); (try dsimp only at s0 s1); go_simp; (first | done | with_reducible rfl))); simp only [Act.put, List.setIfInBounds_toArray, List.set_cons_zero, List.set_cons_succ])
            refine ord_nil ?_
            go_wp2_with fail
            exact ⟨⟨i + 1, by omega, by go_num, nxt b6 bD⟩, by simp [intOf]; omega⟩
      obtain ⟨ub, uo, rfl, -, -, hx⟩ := ur.at (show 0 < us.length by omega)
      have du' : ∀ i (hi : i < us.length) W, Below w4.heap.size w4 W → W.cell? ⟨ub, uo + i, none⟩ = some (.string (bT us[i])) := fun i hi W hB => by
        have hxi := hx i (encStr us[i]) (by simp [hi])
        exact (hB.cell (World.block_lt_of_cell? _ _ hxi)).trans hxi
      have hzm := (US.out.2 us[j]).1 (List.getElem_mem hlt)
      have hz40 := H40.out _ hzm.1
      have hzi : inT (ts.map bT) (bT us[j]) = true := inT_iff.2 (mem_bT.2 hzm.1)
      have hzp := pre_cut.1 (show Lib.hasPrefix (bT us[j]).data.toList p.data.toList = true by rw [bT_data]; exact hzm.2)
      have hin := fun W (hB : Below w.heap.size w W) => HIL W hB us[j]
      rw [hzi] at hin
      have dz := du' j hlt
      have hsz1 := bT_size us[j]
      have HLT : Hid (∀ i (hi : i < us.length), i < j → Op.bytesLess (bT us[i]).toList (bT us[j]).toList = true) := Lib.hid (fun i hi hij => by
        rw [ByteArray.toList_eq, ByteArray.toList_eq, bT_data, bT_data, Go.Proofs.bytesLess_eq]
        exact decide_eq_true (List.pairwise_iff_getElem.1 US.out.1 i j hi hlt hij))
      obtain ⟨zb, hzb⟩ : ∃ zb, zb = bT us[j] := ⟨_, rfl⟩
      rw [← hzb] at hzp hin dz hsz1 HLT
      have hzs : zb.size ≤ 40 := by omega
      have A2 : decide ((zb.size : Int) < (p.size : Int)) = false := decide_eq_false (by omega)
      have A2' : decide (zb.size < p.size) = false := decide_eq_false (by omega)
      have A3 : ((zb.extract 0 p.size).toList == p.toList) = true := beq_iff_eq.2 hzp.2
      have A3' : (!((zb.extract 0 p.size).toList == p.toList)) = false := by rw [A3]; rfl
      have hpz : p.size ≤ zb.size := hzp.1
      clear hzb hzm hz40 hzi hzp hx hsz1
      by_cases j0 : 0 < j
      case pos =>
        obtain ⟨j1, hj1⟩ : ∃ j1, j1 = j - 1 := ⟨_, rfl⟩
        have hj1l : j1 < us.length := by omega
        have dy := du' j1 hj1l
        have A1 := HLT.out j1 hj1l (by omega)
        obtain ⟨yb, hyb⟩ : ∃ yb, yb = bT us[j1] := ⟨_, rfl⟩
        rw [← hyb] at dy A1
        have hw1 : IntKind.i64.wrap ((j : Int) - 1) = (j1 : Int) := by rw [IntKind.wrap_i64]; omega
        have hw2 : (j : Int) - 1 = (j1 : Int) := by omega
        have hw3 : IntKind.i64.wrap (j1 : Int) = (j1 : Int) := by rw [IntKind.wrap_i64]; omega
        have hj1i : (j1 : Int) < (us.length : Int) := by omega
        have j0' : decide (0 < (j : Int)) = true := decide_eq_true (by omega)
        have j0'' : decide (0 < j) = true := decide_eq_true j0
        have A1' : (!(Op.bytesLess yb.toList zb.toList)) = false := by rw [A1]; rfl
        clear hj1 hyb HLT
        go_wp2_with fail
        refine wp_region_ord (S := (fun W => W.cell? ⟨ub, uo + j, none⟩ = some (.string zb) ∧ W.cell? ⟨ub, uo + j1, none⟩ = some (.string yb))) [(0, true), (1, true), (2, true), (3, true), (4, true), (5, true), (6, true), (7, true), (8, true), (9, true), (10, true), (11, true), (12, true), (13, true), (14, true), (15, true), (16, true), (17, true), (18, true), (19, true), (20, true), (21, true), (22, true), (23, true), (24, true), (25, true), (26, true), (27, true), (28, true), (29, true), (30, true), (31, true), (32, true), (33, true), (34, true), (35, true), (36, true), (37, true), (38, true), (39, true), (40, true), (41, false), (42, true), (43, true)] (by kernel_rfl) (by kernel_rfl) rfl (by kernel_rfl) (fun _ _ _ _ _ h => h) ⟨dz w5 b5, dy w5 b5⟩ ?_
        simp only [List.map_cons, List.map_nil, List.getElem?_toArray, List.getElem?_cons_succ, List.getElem?_cons_zero]
        iterate 41 (refine ord_take (v := ?_) (by kernel_rfl) (fun w hSw => ?_) ?_; rotate_left; (focus ((try (obtain ⟨s0, s1⟩ := hSw)); (try dsimp only at s0 s1); go_simp; (first | done | with_reducible rfl))); simp only [Act.put, List.setIfInBounds_toArray, List.set_cons_zero, List.set_cons_succ])
        refine ord_do (by kernel_rfl) (fun K hK => ?_)
        go_simp
        go_at_call 20
        have bD : Below w5.heap.size w5 w5.drew := (Below.refl _ _).drew
        with_reducible refine (hin _ (nxt B5 bD)).mono ?_
        rintro e wx ⟨rfl, rfl⟩
        show K _ _
        refine hK.out _ _ ⟨dz _ (nxt b5 bD), dy _ (nxt b5 bD)⟩ ?_
        clear hK
        try simp only [Act.put, List.setIfInBounds_toArray, List.set_cons_zero, List.set_cons_succ]
        iterate 2 (refine ord_take (v := ?_) (by kernel_rfl) (fun w hSw => ?_) ?_; rotate_left; (focus ((try (obtain ⟨s0, s1⟩ := hSw)); (try dsimp only at s0 s1); go_simp; (first | done | with_reducible rfl))); simp only [Act.put, List.setIfInBounds_toArray, List.set_cons_zero, List.set_cons_succ])
        refine ord_nil ?_
        go_wp2_with fail
        exact ⟨⟨j + 1, by omega, by go_num, nxt b5 bD⟩, by simp [intOf]; omega⟩
      case neg =>
        have j0' : decide (0 < (j : Int)) = false := decide_eq_false (by omega)
        have j0'' : decide (0 < j) = false := decide_eq_false j0
        clear HLT
        go_wp2_with fail
        refine wp_region_ord (S := (fun W => W.cell? ⟨ub, uo + j, none⟩ = some (.string zb) ∧ True)) [(0, true), (1, true), (2, true), (3, true), (4, true), (5, true), (6, true), (7, true), (8, true), (9, true), (10, true), (11, true), (12, true), (13, true), (14, true), (15, true), (16, true), (17, true), (18, true), (19, true), (20, true), (21, true), (22, true), (23, true), (24, true), (25, true), (26, true), (27, true), (28, true), (29, true), (30, true), (31, true), (32, true), (33, true), (34, true), (35, true), (36, true), (37, true), (38, true), (39, true), (40, true), (41, false), (42, true), (43, true)] (by kernel_rfl) (by kernel_rfl) rfl (by kernel_rfl) (fun _ _ _ _ _ h => h) ⟨dz w5 b5, trivial⟩ ?_
        simp only [List.map_cons, List.map_nil, List.getElem?_toArray, List.getElem?_cons_succ, List.getElem?_cons_zero]
        iterate 3 (refine ord_take (v := ?_) (by kernel_rfl) (fun w hSw => ?_) ?_; rotate_left; (focus ((try (obtain ⟨s0, s1⟩ := hSw)); (try dsimp only at s0 s1); go_simp; (first | done | with_reducible rfl))); simp only [Act.put, List.setIfInBounds_toArray, List.set_cons_zero, List.set_cons_succ])
        iterate 10 (refine ord_skip (by kernel_rfl) ?_; simp only [Act.put, List.setIfInBounds_toArray, List.set_cons_zero, List.set_cons_succ])
        iterate 28 (refine ord_take (v := ?_) (by kernel_rfl) (fun w hSw => ?_) ?_; rotate_left; (focus ((try (obtain ⟨s0, s1⟩ := hSw)); (try dsimp only at s0 s1); go_simp; (first | done | with_reducible rfl))); simp only [Act.put, List.setIfInBounds_toArray, List.set_cons_zero, List.set_cons_succ])
        refine ord_do (by kernel_rfl) (fun K hK => ?_)
        go_simp
        go_at_call 20
        have bD : Below w5.heap.size w5 w5.drew := (Below.refl _ _).drew
        with_reducible refine (hin _ (nxt B5 bD)).mono ?_
        rintro e wx ⟨rfl, rfl⟩
        show K _ _
        refine hK.out _ _ ⟨dz _ (nxt b5 bD), trivial⟩ ?_
        clear hK
        try simp only [Act.put, List.setIfInBounds_toArray, List.set_cons_zero, List.set_cons_succ]
        iterate 2 (refine ord_take (v := ?_) (by kernel_rfl) (fun w hSw => ?_) ?_; rotate_left; (focus ((try (obtain ⟨s0, s1⟩ := hSw)); (try dsimp only at s0 s1); go_simp; (first | done | with_reducible rfl))); simp only [Act.put, List.setIfInBounds_toArray, List.set_cons_zero, List.set_cons_succ])
        refine ord_nil ?_
        go_wp2_with fail
        exact ⟨⟨j + 1, by omega, by go_num, nxt b5 bD⟩, by simp [intOf]; omega⟩
end Go.Proofs.YtegiingcnhafbaaDoor
